/- HintsStay: the law. -/
import Derived.Test.YthkfjefoblmbhaaVmHJ
set_option linter.unusedVariables false
set_option linter.unusedSimpArgs false
namespace Go.Proofs.Ythkfjefoblmbhaa.V
open Go.Vm

theorem filt_len {α : Type} (p : α → Bool) : ∀ l : List α, (l.filter p).length + (l.filter fun x => !p x).length = l.length
  | [] => rfl
  | a :: l => by
    have ih := filt_len p l
    cases h : p a
    · rw [List.filter_cons_of_neg (by simp [h]), List.filter_cons_of_pos (by simp [h])]
      simp
      omega
    · rw [List.filter_cons_of_pos (by simp [h]), List.filter_cons_of_neg (by simp [h])]
      simp
      omega
theorem HintsStay_eq (cs : List Cll) (hcs : cs.length ≤ 140737488355328) (seen : Sib) (h : Heap) : ∃ fl, callL E F.tattlerlaw11_HintsStay [.sl (cs.map Cll.v), seen.v] h = some (.bool true, h, fl) := by
  obtain ⟨b, g1, _⟩ := light11_eq cs hcs (h ++ [.cells seen.c []])
  have g2 := fun L => awake11_eq (h ++ L)
  cases hb : b && decide (seen.vals.length ≤ 20) with
  | false =>
    refine ⟨⟨[], [], true⟩, callL_of rfl fn_tattlerlaw11_HintsStay ?_⟩
    cases b with
    | false => simp [-getElem?_pos, c_tattlerlaw11_HintsStay, g1, g2]
    | true =>
      have e1 : (20 : Int) < (seen.vals.length : Int) := by
        rw [Bool.true_and, decide_eq_false_iff_not] at hb
        omega
      simp [-getElem?_pos, c_tattlerlaw11_HintsStay, g1, g2, e1]
  | true =>
    simp only [Bool.and_eq_true, decide_eq_true_eq] at hb
    obtain ⟨rfl, hs20⟩ := hb
    have e1 : ¬ (20 : Int) < (seen.vals.length : Int) := by omega
    have inv := HInv.nil.putAll cs
    have g3 := hintsNew_eq (h ++ [.cells seen.c []])
    have k0 := stay_l0 cs hcs (.cells seen.c []) h
    have ga := all_at (.cells seen.c []) inv h []
    obtain ⟨a1, k1⟩ := stay_l1 (putAll [] cs) inv (.cells seen.c []) h true
    obtain ⟨a2, k2⟩ := stay_l2 (putAll [] cs) inv seen (by omega) h a1
    have inv2 : HInv ((putAll [] cs).filter fun x => !x.sib.leq seen) := by
      have := cut1_inv inv (fun x => x.sib.leq seen) (putAll [] cs).length
      simpa [cut1] using this
    have gb := all_at (.cells seen.c []) inv2 h []
    have hle : ((putAll [] cs).filter fun x => x.sib.leq seen).length ≤ 64 := Nat.le_trans (List.length_filter_le _ _) inv.len
    obtain ⟨a3, k3⟩ := stay_l3 ((putAll [] cs).filter fun x => !x.sib.leq seen) inv2 ((putAll [] cs).filter fun x => x.sib.leq seen).length hle (.sl ((putAll [] cs).map Hnt.v)) (.cells seen.c []) h true (fun n => by simp)
    have gl := len_at (.cells seen.c []) HInv.nil h []
    have hsum : ((putAll [] cs).filter fun x => x.sib.leq seen).length + ((putAll [] cs).filter fun x => !x.sib.leq seen).length = (putAll [] cs).length := by
      exact filt_len (fun x : Hnt => x.sib.leq seen) _
    rw [hsum] at k3
    have ho := hs_lt []
    refine ⟨⟨[], [], true⟩, callL_of rfl fn_tattlerlaw11_HintsStay ?_⟩
    generalize (putAll [] cs).filter (fun x => !x.sib.leq seen) = T at *
    generalize (putAll [] cs).filter (fun x => x.sib.leq seen) = U at *
    generalize putAll [] cs = S at *
    generalize hsO T = OT at *
    generalize hsO S = OS at *
    generalize hsO [] = O0 at *
    simp [-getElem?_pos, c_tattlerlaw11_HintsStay, g1, g2, g3, e1, k0, ga, k1, k2, gb, k3, gl]
theorem tattlerlaw11_HintsStay_top {c0 c1 : List V} (h0 : Ty.Has (.sl (.st (.cons (.int .i64) (.cons hntT (.cons sibT .nil))))) c0) (h1 : Ty.Has sibT c1) : ∃ h fl, callL E F.tattlerlaw11_HintsStay [Ty.el (.sl (.st (.cons (.int .i64) (.cons hntT (.cons sibT .nil))))) c0, Ty.el sibT c1] [] = some (.bool true, h, fl) := by
  obtain ⟨l, wl, _, rfl⟩ := Clls.dec h0
  obtain ⟨s, ws, rfl⟩ := Sib.dec h1
  obtain ⟨fl, hf⟩ := HintsStay_eq l (by unfold reachLen at wl; omega) s []
  exact ⟨_, fl, hf⟩
end Go.Proofs.Ythkfjefoblmbhaa.V
