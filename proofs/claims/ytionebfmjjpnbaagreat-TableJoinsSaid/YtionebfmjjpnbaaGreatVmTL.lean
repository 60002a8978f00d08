/- What the table laws' own helpers compute: light, awake. -/
import Derived.Test.YtionebfmjjpnbaaGreatVmTA
import Derived.Test.YtionebfmjjpnbaaGreatVmG5
set_option linter.unusedVariables false
set_option linter.unusedSimpArgs false
namespace Go.Proofs.YtionebfmjjpnbaaGreat.V
open Go.Vm

def lightE (l : List Ent) : Bool := decide (l.length ≤ 60) && l.all fun e => decide (e.sib.vals.length ≤ 20)
theorem light10_eq (l : List Ent) (hl : l.length ≤ 140737488355328) (h : Heap) : callL E F.tattlerlaw10_light [.sl (l.map Ent.v)] h = some (.bool (lightE l), h, .no) := by
  refine callL_of rfl fn_tattlerlaw10_light ?_
  unfold lightE
  by_cases h60 : l.length ≤ 60
  · have e0 : ¬ (60 : Int) < (l.length : Int) := by omega
    rw [decide_eq_true h60, Bool.true_and]
    have key := loop_scan (C := callL E) (fb := h.length) (live := [8, 9, 10]) (c := c_tattlerlaw10_light_l0)
      (fun j => ⟨[(8, .sl (l.map Ent.v)), (9, .int .i64 l.length), (10, .int .i64 j)], h, .no⟩) l.length (getB l fun e => decide (e.sib.vals.length ≤ 20))
      (.exit 0, ⟨[(8, .sl (l.map Ent.v)), (9, .int .i64 l.length), (10, .int .i64 l.length), (11, .bool false)], h, .no⟩)
      (fun j => (.ret, ⟨[(2, .bool false)], h ++ [.cells (match l[j]? with | some e => e.c | none => []) []], .no⟩)) ?_ ?_ (fun _ => rfl) ?_ rfl
    · rw [show ((0 : Nat) : Int) = 0 from rfl] at key
      rcases key with ⟨h1, h2⟩ | ⟨j, h1, h2, h3, h4⟩
      · have : (l.all fun e => decide (e.sib.vals.length ≤ 20)) = true := all_getB h1
        simp [-getElem?_pos, c_tattlerlaw10_light, h2, this, e0]
      · have : (l.all fun e => decide (e.sib.vals.length ≤ 20)) = false := not_all_getB h1 h2
        simp [-getElem?_pos, c_tattlerlaw10_light, h4, this, e0]
    · intro j hj hp
      obtain ⟨e, hx, _, _⟩ := get_of_lt (l := l) (i := j) hj
      have hlt : (j : Int) < (l.length : Int) := by omega
      have h1 := i64_add1 (n := j) (by omega)
      rw [getB_at hx] at hp
      have e1 : ¬ (20 : Int) < (e.sib.vals.length : Int) := by have := of_decide_eq_true hp; omega
      rw [s_round]
      simp [-getElem?_pos, c_tattlerlaw10_light_l0, hlt, hj, hx, h1, e1]
    · intro j hj hp
      obtain ⟨e, hx, _, _⟩ := get_of_lt (l := l) (i := j) hj
      have hlt : (j : Int) < (l.length : Int) := by omega
      rw [getB_at hx] at hp
      have e1 : (20 : Int) < (e.sib.vals.length : Int) := by have := of_decide_eq_false hp; omega
      rw [s_round]
      simp [-getElem?_pos, c_tattlerlaw10_light_l0, hlt, hj, hx, e1]
    · rw [s_round]
      simp [c_tattlerlaw10_light_l0]
  · have e0 : (60 : Int) < (l.length : Int) := by omega
    rw [decide_eq_false h60]
    simp [-getElem?_pos, c_tattlerlaw10_light, e0]
def awA : Ent := ⟨[107], ⟨⟨[1, 0, 0, 0, 0, 0, 0, 0], rfl⟩, [⟨⟨0, 1⟩, [120], false⟩]⟩⟩
def awB : Ent := ⟨[107], ⟨⟨[0, 1, 0, 0, 0, 0, 0, 0], rfl⟩, [⟨⟨1, 1⟩, [121], false⟩]⟩⟩
def awC : Sib := ⟨⟨[1, 1, 0, 0, 0, 0, 0, 0], rfl⟩, [⟨⟨0, 1⟩, [120], false⟩, ⟨⟨1, 1⟩, [121], false⟩]⟩
theorem awA_may : awA.may = true := by
  unfold Ent.may
  have : awA.sib.may = true := by
    rw [may_iff]
    exact ⟨by decide, by decide, by simp [awA, Srt], by decide⟩
  rw [this]
  decide
theorem awB_may : awB.may = true := by
  unfold Ent.may
  have : awB.sib.may = true := by
    rw [may_iff]
    exact ⟨by decide, by decide, by simp [awB, Srt], by decide⟩
  rw [this]
  decide
theorem ent_sib_may {e : Ent} (h : e.may = true) : e.sib.may = true := by
  unfold Ent.may at h
  simp only [Bool.and_eq_true] at h
  exact h.2
theorem awA_now : nowT [] awA = awA.sib := zero_join (ent_sib_may awA_may)
theorem awC_eq : awA.sib.join awB.sib = awC := by
  unfold Sib.join
  rw [ent_sib_may awA_may, ent_sib_may awB_may]
  decide
theorem awB_now : nowT [awA] awB = awC := awC_eq
theorem awC_may : awC.may = true := by rw [← awC_eq]; exact join_may (ent_sib_may awA_may) (ent_sib_may awB_may)
theorem awake10_eq (h : Heap) : callL E F.tattlerlaw10_awake [] h = some (.bool true, h, .no) := by
  refine callL_of rfl fn_tattlerlaw10_awake ?_
  have t0 : TabAt (h ++ [.map (mapE []), .cells [.map (some h.length)] []]) (h.length + 1) h.length [] := ⟨by simp, by simp⟩
  have t1 : TabAt (h ++ [.map (mapE [awA]), .cells [.map (some h.length)] []]) (h.length + 1) h.length [awA] := ⟨by simp, by simp⟩
  have t2 : TabAt (h ++ [.map (mapE [⟨[107], awC⟩]), .cells [.map (some h.length)] []]) (h.length + 1) h.length [⟨[107], awC⟩] := ⟨by simp, by simp⟩
  have a0 : AllMay [] := fun e he => by cases he
  have a1 : AllMay [awA] := fun e he => by simp at he; subst he; exact ent_sib_may awA_may
  have a2 : AllMay [⟨[107], awC⟩] := fun e he => by simp at he; subst he; exact awC_may
  have n0 := tabNew_eq h
  have j1 := tblJoin_eq t0 a0 awA_may (.inr (by simp)) (by simp)
  have j2 := tblJoin_eq t1 a1 awB_may (.inl (by decide)) (by simp)
  rw [awA_now] at j1
  rw [awB_now] at j2
  have p1 : putT [] awA.key awA.sib = [awA] := rfl
  have p2 : putT [awA] awB.key awC = [⟨[107], awC⟩] := by decide
  rw [p1] at j1
  rw [p2] at j2
  have s1 : hset (h ++ [.map (mapE []), .cells [.map (some h.length)] []]) h.length (.map (mapE [awA])) = h ++ [.map (mapE [awA]), .cells [.map (some h.length)] []] := by simp
  have s2 : hset (h ++ [.map (mapE [awA]), .cells [.map (some h.length)] []]) h.length (.map (mapE [⟨[107], awC⟩])) = h ++ [.map (mapE [⟨[107], awC⟩]), .cells [.map (some h.length)] []] := by simp
  rw [s1] at j1
  rw [s2] at j2
  have g1 := tblGet_eq t2 a2 [107]
  have g2 : findT [⟨[107], awC⟩] [107] = some awC := rfl
  rw [g2] at g1
  have l1 := fun y => tabLen_eq (h := h ++ [.map (mapE [⟨[107], awC⟩]), .cells [.map (some h.length)] [], y]) (i := h.length + 1) (k := h.length) (l := [⟨[107], awC⟩]) ⟨by simp, by simp⟩
  have cl : awC.vals.length = 2 := rfl
  have va : awA.v = .agg [.str [107], .int .i64 1, .int .i64 0, .int .i64 0, .int .i64 0, .int .i64 0, .int .i64 0, .int .i64 0, .int .i64 0, .sl [.agg [.int .i64 0, .int .i64 1, .sl [.int .u8 120], .bool false]]] := rfl
  have vb : awB.v = .agg [.str [107], .int .i64 0, .int .i64 1, .int .i64 0, .int .i64 0, .int .i64 0, .int .i64 0, .int .i64 0, .int .i64 0, .sl [.agg [.int .i64 1, .int .i64 1, .sl [.int .u8 121], .bool false]]] := rfl
  have m0 : mapE [] = [] := rfl
  rw [va] at j1
  rw [vb] at j2
  rw [m0] at j1
  simp only [Option.getD_some, Option.isSome_some, Sib.v] at g1 j1 j2
  generalize awC = C at *
  generalize awA = A at *
  simp [-getElem?_pos, c_tattlerlaw10_awake, n0, j1, j2, g1, l1, cl]
  done
end Go.Proofs.YtionebfmjjpnbaaGreat.V
