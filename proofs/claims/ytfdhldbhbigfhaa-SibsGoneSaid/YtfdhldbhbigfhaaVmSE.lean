/- What the laws' own helpers compute: light, few, awake. -/
import Derived.Test.YtfdhldbhbigfhaaVmSD
set_option linter.unusedVariables false
set_option linter.unusedSimpArgs false
namespace Go.Proofs.Ytfdhldbhbigfhaa.V
open Go.Vm

def lightL (l : List Sib) : Bool := l.all fun s => decide (s.vals.length ≤ 40)
def lens (l : List Sib) : Nat := (l.map fun s => s.vals.length).sum
noncomputable def fewL (l : List Sib) : Bool := l.all Sib.may && decide (lens l ≤ 16)
theorem lens_le : ∀ {l : List Sib}, (∀ s ∈ l, s.vals.length ≤ 140737488351232) → lens l ≤ 140737488351232 * l.length
  | [], _ => by simp [lens]
  | s :: l, h => by
    have h1 := lens_le (l := l) fun x hx => h x (by simp [hx])
    have h2 := h s (by simp)
    have h3 : lens (s :: l) = s.vals.length + lens l := by simp [lens]
    rw [h3, List.length_cons]
    omega
theorem few_eq (l : List Sib) (hl : l.length ≤ 1000) (hw : ∀ s ∈ l, s.vals.length ≤ 140737488351232) (h : Heap) : callL E F.tattlerlaw5_few [.sl (l.map Sib.v)] h = some (.bool (fewL l), h, .no) := by
  refine callL_of rfl fn_tattlerlaw5_few ?_
  have key := loop_scan (C := callL E) (fb := h.length) (live := [3, 6, 7, 8]) (c := c_tattlerlaw5_few_l0)
    (fun j => ⟨[(3, .int .i64 (lens (l.take j))), (6, .sl (l.map Sib.v)), (7, .int .i64 l.length), (8, .int .i64 j)], h, .no⟩) l.length (getB l Sib.may)
    (.exit 0, ⟨[(3, .int .i64 (lens l)), (6, .sl (l.map Sib.v)), (7, .int .i64 l.length), (8, .int .i64 l.length), (9, .bool false)], h, .no⟩)
    (fun j => (.ret, ⟨[(2, .bool false)], h ++ [.cells (match l[j]? with | some s => s.c | none => []) []], .no⟩)) ?_ ?_ (fun _ => rfl) ?_ rfl
  · rw [show ((0 : Nat) : Int) = 0 from rfl, List.take_zero, show lens [] = 0 from rfl, show ((0 : Nat) : Int) = 0 from rfl] at key
    rcases key with ⟨h1, h2⟩ | ⟨j, h1, h2, h3, h4⟩
    · have ha : l.all Sib.may = true := all_getB h1
      by_cases h16 : lens l ≤ 16
      · have e1 : (lens l : Int) ≤ 16 := by omega
        have : fewL l = true := by unfold fewL; rw [ha, decide_eq_true h16]; rfl
        simp [-getElem?_pos, c_tattlerlaw5_few, h2, this, e1]
      · have e1 : ¬ (lens l : Int) ≤ 16 := by omega
        have : fewL l = false := by unfold fewL; rw [decide_eq_false h16]; simp
        simp [-getElem?_pos, c_tattlerlaw5_few, h2, this, e1]
    · have ha : l.all Sib.may = false := not_all_getB h1 h2
      have : fewL l = false := by unfold fewL; rw [ha]; rfl
      simp [-getElem?_pos, c_tattlerlaw5_few, h4, this]
  · intro j hj hp
    obtain ⟨s, hx, _, hm⟩ := get_of_lt (l := l) (i := j) hj
    have hlt : (j : Int) < (l.length : Int) := by omega
    have h1 := i64_add1 (n := j) (by omega)
    rw [getB_at hx] at hp
    have g1 := fun q => r5May_eq s (h ++ q)
    rw [hp] at g1
    simp only [Sib.v] at g1
    have h4 : lens (l.take (j + 1)) = lens (l.take j) + s.vals.length := by unfold lens; rw [List.take_add_one, hx]; simp
    have h5 := lens_le (l := l.take j) fun x hx => hw x (List.mem_of_mem_take hx)
    have h6 := hw s hm
    have h7 : (l.take j).length ≤ 1000 := by simp; omega
    have hw : IntKind.wrap .i64 ((lens (l.take j) : Int) + (s.vals.length : Int)) = ((lens (l.take (j + 1)) : Nat) : Int) := by rw [h4, wrap_i64] <;> omega
    generalize lens (l.take (j + 1)) = B at *
    generalize lens (l.take j) = A at *
    rw [s_round]
    simp [-getElem?_pos, c_tattlerlaw5_few_l0, hlt, hj, hx, h1, g1, hw]
  · intro j hj hp
    obtain ⟨s, hx, _, _⟩ := get_of_lt (l := l) (i := j) hj
    have hlt : (j : Int) < (l.length : Int) := by omega
    rw [getB_at hx] at hp
    have g1 := fun q => r5May_eq s (h ++ q)
    rw [hp] at g1
    simp only [Sib.v] at g1
    rw [s_round]
    simp [-getElem?_pos, c_tattlerlaw5_few_l0, hlt, hj, hx, g1]
  · rw [s_round, List.take_length]
    simp [c_tattlerlaw5_few_l0]
def awS : Sib := ⟨⟨[0, 1, 0, 0, 0, 0, 0, 0], rfl⟩, [⟨⟨1, 1⟩, [120], false⟩]⟩
def awT : Sib := ⟨⟨[0, 0, 1, 0, 0, 0, 0, 0], rfl⟩, [⟨⟨2, 1⟩, [121], false⟩]⟩
def awJ : Sib := ⟨⟨[0, 1, 1, 0, 0, 0, 0, 0], rfl⟩, [⟨⟨1, 1⟩, [120], false⟩, ⟨⟨2, 1⟩, [121], false⟩]⟩
theorem zeroVec_may : zeroVec.may = true := by decide
theorem putS_awS : putS zeroSib zeroVec 1 [120] false = (awS, 0) := by decide
theorem putS_awT : putS zeroSib zeroVec 2 [121] false = (awT, 0) := by decide
theorem awS_may : awS.may = true := by
  rw [may_iff]
  exact ⟨by decide, by decide, by simp [awS, Srt], by decide⟩
theorem awT_may : awT.may = true := by
  rw [may_iff]
  exact ⟨by decide, by decide, by simp [awT, Srt], by decide⟩
theorem awJ_eq : awS.join awT = awJ := by
  unfold Sib.join
  rw [awS_may, awT_may]
  decide
theorem awJ_may : awJ.may = true := by rw [← awJ_eq]; exact join_may awS_may awT_may
theorem awake5_eq (h : Heap) : callL E F.tattlerlaw5_awake [] h = some (.bool true, h, .no) := by
  refine callL_of rfl fn_tattlerlaw5_awake ?_
  have p1 := fun hh => sibsPut_eq zeroSib zeroSib_may zeroVec zeroVec_may (n := 1) (by omega) [120] false (by decide) hh
  have p2 := fun hh => sibsPut_eq zeroSib zeroSib_may zeroVec zeroVec_may (n := 2) (by omega) [121] false (by decide) hh
  rw [putS_awS] at p1
  rw [putS_awT] at p2
  have j1 := fun hh => sibsJoin_eq awS awT hh
  rw [awJ_eq] at j1
  have l1 := fun hh => live_eq awJ hh
  have hl : (liveS awJ).map bytesV = [bytesV [120], bytesV [121]] := by unfold liveS; rw [awJ_may]; rfl
  rw [hl] at l1
  have e0 : zeroSib.v = .agg [.int .i64 0, .int .i64 0, .int .i64 0, .int .i64 0, .int .i64 0, .int .i64 0, .int .i64 0, .int .i64 0, .sl []] := rfl
  have e1 : zeroVec.v = .agg [.int .i64 0, .int .i64 0, .int .i64 0, .int .i64 0, .int .i64 0, .int .i64 0, .int .i64 0, .int .i64 0] := rfl
  have e2 : awS.v = .agg [.int .i64 0, .int .i64 1, .int .i64 0, .int .i64 0, .int .i64 0, .int .i64 0, .int .i64 0, .int .i64 0, .sl [.agg [.int .i64 1, .int .i64 1, .sl [.int .u8 120], .bool false]]] := rfl
  have e3 : awT.v = .agg [.int .i64 0, .int .i64 0, .int .i64 1, .int .i64 0, .int .i64 0, .int .i64 0, .int .i64 0, .int .i64 0, .sl [.agg [.int .i64 2, .int .i64 1, .sl [.int .u8 121], .bool false]]] := rfl
  have e4 : awJ.v = .agg [.int .i64 0, .int .i64 1, .int .i64 1, .int .i64 0, .int .i64 0, .int .i64 0, .int .i64 0, .int .i64 0, .sl [.agg [.int .i64 1, .int .i64 1, .sl [.int .u8 120], .bool false], .agg [.int .i64 2, .int .i64 1, .sl [.int .u8 121], .bool false]]] := rfl
  have e5 : bytesV [120] = .sl [.int .u8 120] := rfl
  have e6 : bytesV [121] = .sl [.int .u8 121] := rfl
  have n1 : ((1 : Nat) : Int) = 1 := rfl
  have n2 : ((2 : Nat) : Int) = 2 := rfl
  rw [e0, e1, e2, e5, n1] at p1
  rw [e0, e1, e3, e6, n2] at p2
  rw [e2, e3, e4] at j1
  rw [e4, e5, e6] at l1
  simp [-getElem?_pos, c_tattlerlaw5_awake, p1, p2, j1, l1]
end Go.Proofs.Ytfdhldbhbigfhaa.V
