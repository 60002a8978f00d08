/- Lists of hints, of entries, compared with themselves. -/
import Derived.Test.YthkfjefoblmbhaaVmHI
import Derived.Test.YthkfjefoblmbhaaVmKQ
set_option linter.unusedVariables false
set_option linter.unusedSimpArgs false
namespace Go.Proofs.Ythkfjefoblmbhaa.V
open Go.Vm

theorem sameHints_self (l : List Hnt) (hl : l.length ≤ 1000000) (hv : ∀ x ∈ l, x.ent.sib.vals.length ≤ 1099511627776) (h : Heap) : callL E F.tattlerref5_SameHints [.sl (l.map Hnt.v), .sl (l.map Hnt.v)] h = some (.bool true, h, .no) := by
  refine callL_of rfl fn_tattlerref5_SameHints ?_
  have key := loop_to (C := callL E) (fb := h.length) (live := [0, 1, 12, 13]) (c := c_tattlerref5_SameHints_l0)
    (fun j => ⟨[(0, .sl (l.map Hnt.v)), (1, .sl (l.map Hnt.v)), (12, .int .i64 l.length), (13, .int .i64 j)], h, .no⟩) l.length
    (r := (.exit 0, ⟨[(0, .sl (l.map Hnt.v)), (1, .sl (l.map Hnt.v)), (12, .int .i64 l.length), (13, .int .i64 l.length), (14, .bool false)], h, .no⟩)) (fun j hj => ?_) ?_ rfl
  · rw [show ((0 : Nat) : Int) = 0 from rfl] at key
    simp [-getElem?_pos, c_tattlerref5_SameHints, key]
  · obtain ⟨x, hx, _, hm⟩ := get_of_lt (l := l) (i := j) hj
    have hlt : (j : Int) < (l.length : Int) := by omega
    have h1 := i64_add1 (n := j) (by omega)
    have g := fun H => same_eq x.ent.sib x.ent.sib (hv x hm) H
    rw [s_round]
    simp [-getElem?_pos, c_tattlerref5_SameHints_l0, hlt, hj, hx, h1, g]
  · rw [s_round]
    simp [c_tattlerref5_SameHints_l0]
theorem sameEnts_self (l : List Ent) (hl : l.length ≤ 1000000) (hv : ∀ x ∈ l, x.sib.vals.length ≤ 1099511627776) (h : Heap) : callL E F.tattlerref5_SameEntries [.sl (l.map Ent.v), .sl (l.map Ent.v)] h = some (.bool true, h, .no) := by
  refine callL_of rfl fn_tattlerref5_SameEntries ?_
  have key := loop_to (C := callL E) (fb := h.length) (live := [0, 1, 12, 13]) (c := c_tattlerref5_SameEntries_l0)
    (fun j => ⟨[(0, .sl (l.map Ent.v)), (1, .sl (l.map Ent.v)), (12, .int .i64 l.length), (13, .int .i64 j)], h, .no⟩) l.length
    (r := (.exit 0, ⟨[(0, .sl (l.map Ent.v)), (1, .sl (l.map Ent.v)), (12, .int .i64 l.length), (13, .int .i64 l.length), (14, .bool false)], h, .no⟩)) (fun j hj => ?_) ?_ rfl
  · rw [show ((0 : Nat) : Int) = 0 from rfl] at key
    simp [-getElem?_pos, c_tattlerref5_SameEntries, key]
  · obtain ⟨x, hx, _, hm⟩ := get_of_lt (l := l) (i := j) hj
    have hlt : (j : Int) < (l.length : Int) := by omega
    have h1 := i64_add1 (n := j) (by omega)
    have g := fun H => same_eq x.sib x.sib (hv x hm) H
    rw [s_round]
    simp [-getElem?_pos, c_tattlerref5_SameEntries_l0, hlt, hj, hx, h1, g]
  · rw [s_round]
    simp [c_tattlerref5_SameEntries_l0]
theorem HInv.vals {l : List Hnt} (inv : HInv l) : ∀ x ∈ l, x.ent.sib.vals.length ≤ 1099511627776 := fun x hx => by
  have := may_len (mayH_sib (inv.may x hx))
  have h2 : x.sib.vals.length = x.ent.sib.vals.length := rfl
  omega
theorem forH_vals {l : List Hnt} (inv : HInv l) (n : Int) : ∀ x ∈ forH l n, x.sib.vals.length ≤ 1099511627776 := fun x hx => by
  unfold forH at hx
  obtain ⟨y, hy, rfl⟩ := List.mem_map.1 hx
  exact inv.vals y (List.mem_filter.1 hy).1
theorem put_at0 {l : List Hnt} (inv : HInv l) (x : Hnt) (h L : Heap) : ∃ b, callL E F.hints_Set_Put [.ptr (some (h.length, 0)), x.v] (h ++ hsO l :: L) =
    some (.tup [.bool (putB l x), .int .i64 (putE l x)], h ++ hsO (putL l x) :: L, ⟨cnd b [h.length] [], [], mayH x⟩) := by
  have hi : hget (h ++ hsO l :: L) h.length = some (hsO l) := by rw [hget_local0]; rfl
  have h1 := hintsPut_eq hi inv x
  rw [hset_local0] at h1
  exact ⟨_, h1⟩
end Go.Proofs.Ythkfjefoblmbhaa.V
