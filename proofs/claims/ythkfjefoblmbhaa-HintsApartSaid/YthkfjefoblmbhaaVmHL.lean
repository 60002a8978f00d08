/- Lists of hints, of entries, compared with themselves. -/
import Derived.Test.YthkfjefoblmbhaaVmHI
import Derived.Test.YthkfjefoblmbhaaVmKQ
set_option linter.unusedVariables false
set_option linter.unusedSimpArgs false
namespace Go.Proofs.Ythkfjefoblmbhaa.V
open Go.Vm

theorem sameEnts_self (l : List Ent) (hl : l.length ≤ 1000000) (hv : ∀ x ∈ l, x.sib.vals.length ≤ 1099511627776) (h : Heap) : callL E F.tattlerref5_SameEntries [.sl (l.map Ent.v), .sl (l.map Ent.v)] h = some (.bool true, h, .no) := by
  refine callL_of rfl fn_tattlerref5_SameEntries ?_
  have key := loop_to (C := callL E) (fb := h.length) (live := [0, 1, 12, 13]) (c := c_tattlerref5_SameEntries_l0)
    (fun j => ⟨[(0, .sl (l.map Ent.v)), (1, .sl (l.map Ent.v)), (12, .int .i64 l.length), (13, .int .i64 j)], h, .no⟩) l.length
    (r := (.exit 0, ⟨[(0, .sl (l.map Ent.v)), (1, .sl (l.map Ent.v)), (12, .int .i64 l.length), (13, .int .i64 l.length), (14, .bool false)], h, .no⟩)) (fun j hj => ?_) ?_ rfl
  · rw [show ((0 : Nat) : Int) = 0 from rfl] at key
    simp [-getElem?_pos, c_tattlerref5_SameEntries, key]
  · obtain ⟨x, hx, _, hm⟩ := get_of_lt (l := l) (i := j) hj
    have hlt : (j : Int) < (l.length : Int) := by omega
    have h1 := i64_add1 (n := j) (by omega)
    have g := fun H => same_eq x.sib x.sib (hv x hm) H
    rw [s_round]
    simp [-getElem?_pos, c_tattlerref5_SameEntries_l0, hlt, hj, hx, h1, g]
  · rw [s_round]
    simp [c_tattlerref5_SameEntries_l0]
theorem HInv.vals {l : List Hnt} (inv : HInv l) : ∀ x ∈ l, x.ent.sib.vals.length ≤ 1099511627776 := fun x hx => by
  have := may_len (mayH_sib (inv.may x hx))
  have h2 : x.sib.vals.length = x.ent.sib.vals.length := rfl
  omega
/-! ### of one node and key there is one hint -/
end Go.Proofs.Ythkfjefoblmbhaa.V
