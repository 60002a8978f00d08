/- Lists of hints, of entries, compared with themselves. -/
import Derived.Test.YthkfjefoblmbhaaVmHI
import Derived.Test.YthkfjefoblmbhaaVmKQ
set_option linter.unusedVariables false
set_option linter.unusedSimpArgs false
namespace Go.Proofs.Ythkfjefoblmbhaa.V
open Go.Vm

theorem sameHints_self (l : List Hnt) (hl : l.length ≤ 1000000) (hv : ∀ x ∈ l, x.ent.sib.vals.length ≤ 1099511627776) (h : Heap) : callL E F.tattlerref5_SameHints [.sl (l.map Hnt.v), .sl (l.map Hnt.v)] h = some (.bool true, h, .no) := by
  refine callL_of rfl fn_tattlerref5_SameHints ?_
  have key := loop_to (C := callL E) (fb := h.length) (live := [0, 1, 12, 13]) (c := c_tattlerref5_SameHints_l0)
    (fun j => ⟨[(0, .sl (l.map Hnt.v)), (1, .sl (l.map Hnt.v)), (12, .int .i64 l.length), (13, .int .i64 j)], h, .no⟩) l.length
    (r := (.exit 0, ⟨[(0, .sl (l.map Hnt.v)), (1, .sl (l.map Hnt.v)), (12, .int .i64 l.length), (13, .int .i64 l.length), (14, .bool false)], h, .no⟩)) (fun j hj => ?_) ?_ rfl
  · rw [show ((0 : Nat) : Int) = 0 from rfl] at key
    simp [-getElem?_pos, c_tattlerref5_SameHints, key]
  · obtain ⟨x, hx, _, hm⟩ := get_of_lt (l := l) (i := j) hj
    have hlt : (j : Int) < (l.length : Int) := by omega
    have h1 := i64_add1 (n := j) (by omega)
    have g := fun H => same_eq x.ent.sib x.ent.sib (hv x hm) H
    rw [s_round]
    simp [-getElem?_pos, c_tattlerref5_SameHints_l0, hlt, hj, hx, h1, g]
  · rw [s_round]
    simp [c_tattlerref5_SameHints_l0]
theorem HInv.vals {l : List Hnt} (inv : HInv l) : ∀ x ∈ l, x.ent.sib.vals.length ≤ 1099511627776 := fun x hx => by
  have := may_len (mayH_sib (inv.may x hx))
  have h2 : x.sib.vals.length = x.ent.sib.vals.length := rfl
  omega
/-! ### of one node and key there is one hint -/
theorem cnt1 {n : Int} {k : List UInt8} : ∀ {l : List Hnt}, HSrt l → (l.filter fun x => heq x n k).length = cnd (getH l n k).isSome 1 0
  | [], _ => rfl
  | a :: t, hs => by
    rw [HSrt, List.pairwise_cons] at hs
    obtain ⟨ha, hs⟩ := hs
    have ih := cnt1 (n := n) (k := k) hs
    unfold getH at ih ⊢
    cases h : heq a n k with
    | true =>
      rw [List.filter_cons_of_pos (by simpa using h), List.find?_cons_of_pos (by simpa using h)]
      have : t.filter (fun x => heq x n k) = [] := by
        rw [List.filter_eq_nil_iff]
        intro x hx hq
        obtain ⟨e1, e2⟩ := heq_iff.1 h
        obtain ⟨e3, e4⟩ := heq_iff.1 hq
        have := ha x hx
        rw [e1, e2, e3, e4, ltK_irrefl] at this; cases this
      rw [this]; rfl
    | false =>
      rw [List.filter_cons_of_neg (by simp [h]), List.find?_cons_of_neg (by simp [h])]
      exact ih
end Go.Proofs.Ythkfjefoblmbhaa.V
