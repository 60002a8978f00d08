/- Calls on hints as plain data; what 'light' computes; putting many. -/
import Derived.Test.YthkfjefoblmbhaaVmHG
set_option linter.unusedVariables false
set_option linter.unusedSimpArgs false
namespace Go.Proofs.Ythkfjefoblmbhaa.V
open Go.Vm

structure Cll where
  doo : Int
  h : Hnt
  seen : Sib
def Cll.c (x : Cll) : List V := .int .i64 x.doo :: (x.h.c ++ x.seen.c)
abbrev Cll.v (x : Cll) : V := .agg x.c
namespace Cll
variable (x : Cll)
@[simp] theorem k_len : x.c.length = 21 := by simp [Cll.c]
@[simp] theorem k_cell : x.c.all V.isCell = true := by rw [Cll.c, List.all_cons, List.all_append, Hnt.k_cell, Sib.c_cell]; rfl
@[simp] theorem k_pure : x.c.all V.pureCell = true := by rw [Cll.c, List.all_cons, List.all_append, Hnt.k_pure, Sib.c_pure]; rfl
@[simp] theorem k_lt (n : Nat) : V.ltL n x.c = true := by simp [Cll.c, Sib.ltL_append]
@[simp] theorem k_take : x.c.take 21 = x.c := List.take_of_length_le (by simp)
@[simp] theorem k_drop : x.c.drop 21 = [] := List.drop_of_length_le (by simp)
@[simp] theorem k0 : x.c[0]? = some (.int .i64 x.doo) := rfl
@[simp] theorem k1 : x.c[1]? = some (.int .i64 x.h.node) := rfl
@[simp] theorem k2 : x.c[2]? = some (.str x.h.ent.key) := rfl
@[simp] theorem k_h : (x.c.drop 1).take 11 = x.h.c := by
  show (x.h.c ++ x.seen.c).take 11 = _
  exact List.take_left' (by simp)
@[simp] theorem k_h' : x.c.tail.take 11 = x.h.c := k_h x
@[simp] theorem k_seen : x.c.drop 12 = x.seen.c := by
  show (x.h.c ++ x.seen.c).drop 11 = _
  exact List.drop_left' (by simp)
@[simp] theorem k_hv : x.c[11]? = some (.sl (x.h.ent.sib.vals.map Val.v)) := by
  show (x.h.c ++ x.seen.c)[10]? = _
  rw [List.getElem?_append_left (by simp)]
  exact Ent.c9 _
@[simp] theorem k_sv : x.c[20]? = some (.sl (x.seen.vals.map Val.v)) := by
  show (x.h.c ++ x.seen.c)[19]? = _
  rw [List.getElem?_append_right (by simp), Hnt.k_len]
  exact Sib.c8 _
@[simp] theorem v_flat : x.v.flat = x.c := rfl
@[simp] theorem v_lt (n : Nat) : x.v.lt n = true := by simp [Cll.v]
@[simp] theorem v_pure : x.v.pure = true := by simp [Cll.v]
end Cll

def lightC (j : Nat) (x : Cll) : Bool := decide (j < 120) && (decide (x.h.ent.sib.vals.length ≤ 20) && decide (x.seen.vals.length ≤ 20))
theorem light11_eq (l : List Cll) (hl : l.length ≤ 140737488355328) (h : Heap) : ∃ b, callL E F.tattlerlaw11_light [.sl (l.map Cll.v)] h = some (.bool b, h, .no) ∧ (b = true → l.length ≤ 120 ∧ ∀ c ∈ l, c.seen.vals.length ≤ 20) := by
  have key := loop_scan (C := callL E) (fb := h.length) (live := [5, 6, 7]) (c := c_tattlerlaw11_light_l0)
    (fun j => ⟨[(5, .sl (l.map Cll.v)), (6, .int .i64 l.length), (7, .int .i64 j)], h, .no⟩) l.length (fun j => match l[j]? with | some x => lightC j x | none => true)
    (.exit 0, ⟨[(5, .sl (l.map Cll.v)), (6, .int .i64 l.length), (7, .int .i64 l.length), (8, .bool false)], h, .no⟩)
    (fun j => (.ret, ⟨[(2, .bool false)], h ++ [.cells (match l[j]? with | some x => x.c | none => []) []], .no⟩))
    (fun j hj hp => ?_) (fun j hj hp => ?_) (fun _ => rfl) ?_ rfl
  · rcases key with ⟨hall, key⟩ | ⟨j, hj, _, _, key⟩
    · refine ⟨true, callL_of rfl fn_tattlerlaw11_light ?_, fun _ => ⟨?_, fun c hc => ?_⟩⟩
      · rw [show ((0 : Nat) : Int) = 0 from rfl] at key
        simp [-getElem?_pos, c_tattlerlaw11_light, key]
      rotate_left
      · obtain ⟨j, hj, rfl⟩ := List.mem_iff_getElem.1 hc
        have := hall j hj
        rw [List.getElem?_eq_getElem hj] at this
        simp only [lightC, Bool.and_eq_true, decide_eq_true_eq] at this
        exact this.2.2
      · by_cases h0 : l.length ≤ 120
        · exact h0
        · have := hall 120 (by omega)
          obtain ⟨x, hx, _, _⟩ := get_of_lt (l := l) (i := 120) (by omega)
          rw [hx] at this
          simp [lightC] at this
    · refine ⟨false, callL_of rfl fn_tattlerlaw11_light ?_, fun e => by cases e⟩
      rw [show ((0 : Nat) : Int) = 0 from rfl] at key
      simp [-getElem?_pos, c_tattlerlaw11_light, key]
  · obtain ⟨x, hx, _, _⟩ := get_of_lt (l := l) (i := j) hj
    rw [hx] at hp
    simp only [lightC, Bool.and_eq_true, decide_eq_true_eq] at hp
    obtain ⟨h1, h2, h3⟩ := hp
    have hlt : (j : Int) < (l.length : Int) := by omega
    have ha := i64_add1 (n := j) (by omega)
    have e1 : ¬ (120 : Int) ≤ (j : Int) := by omega
    have e2 : ¬ (20 : Int) < (x.h.ent.sib.vals.length : Int) := by omega
    have e3 : ¬ (20 : Int) < (x.seen.vals.length : Int) := by omega
    rw [s_round]
    simp [-getElem?_pos, c_tattlerlaw11_light_l0, hlt, hj, hx, ha, e1, e2, e3]
  · obtain ⟨x, hx, _, _⟩ := get_of_lt (l := l) (i := j) hj
    rw [hx] at hp ⊢
    simp only [lightC, Bool.and_eq_false_iff, decide_eq_false_iff_not] at hp
    have hlt : (j : Int) < (l.length : Int) := by omega
    rw [s_round]
    by_cases h1 : j < 120
    · have e1 : ¬ (120 : Int) ≤ (j : Int) := by omega
      by_cases h2 : x.h.ent.sib.vals.length ≤ 20
      · have e2 : ¬ (20 : Int) < (x.h.ent.sib.vals.length : Int) := by omega
        have e3 : (20 : Int) < (x.seen.vals.length : Int) := by
          rcases hp with h | h | h
          · exact absurd h1 h
          · exact absurd h2 h
          · omega
        simp [-getElem?_pos, c_tattlerlaw11_light_l0, hlt, hj, hx, e1, e2, e3]
      · have e2 : (20 : Int) < (x.h.ent.sib.vals.length : Int) := by omega
        simp [-getElem?_pos, c_tattlerlaw11_light_l0, hlt, hj, hx, e1, e2]
    · have e1 : (120 : Int) ≤ (j : Int) := by omega
      simp [-getElem?_pos, c_tattlerlaw11_light_l0, hlt, hj, hx, e1]
  · rw [s_round]
    simp [c_tattlerlaw11_light_l0]

noncomputable def putAll (l : List Hnt) (cs : List Cll) : List Hnt := cs.foldl (fun l c => putL l c.h) l
theorem HInv.putAll {l : List Hnt} (h : HInv l) : ∀ cs : List Cll, HInv (putAll l cs)
  | [] => h
  | c :: cs => HInv.putAll (h.putL c.h) cs
noncomputable def putM (cs : List Cll) : Bool := cs.any fun c => mayH c.h
theorem Clls.dec {cs : List V} (h : (Ty.sl (.st (.cons (.int .i64) (.cons hntT (.cons sibT .nil))))).Has cs) : ∃ l : List Cll, l.length ≤ reachLen ∧ (∀ c ∈ l, c.h.Wf ∧ c.seen.Wf) ∧ cs = [.sl (l.map Cll.v)] := by
  obtain ⟨l, h1, rfl, h2⟩ := slice_of (f := Cll.v) (Q := fun c => c.h.Wf ∧ c.seen.Wf) (fun ys hy => by
    obtain ⟨_, _, rfl, ⟨x, hx, rfl⟩, _, _, rfl, hb, _, _, rfl, hs, rfl⟩ := hy
    obtain ⟨e, we, rfl⟩ := Hnt.dec hb
    obtain ⟨s, ws, rfl⟩ := Sib.dec hs
    exact ⟨⟨x, e, s⟩, ⟨we, ws⟩, by simp [Ty.el, Cll.c]; rfl⟩) h
  exact ⟨l, h1, h2, rfl⟩
end Go.Proofs.Ythkfjefoblmbhaa.V
