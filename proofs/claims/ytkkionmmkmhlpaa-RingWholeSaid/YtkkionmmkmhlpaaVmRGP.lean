/- What 'ring.Ring.Order', 'Owners' and 'Owns' compute, on a new ring and on a full one. -/
import Derived.Test.YtkkionmmkmhlpaaVmRGO
import Derived.Test.YtkkionmmkmhlpaaVRO
set_option linter.unusedVariables false
set_option linter.unusedSimpArgs false
namespace Go.Proofs.Ytkkionmmkmhlpaa.W2
open Go.Vm Go.Proofs.Ytkkionmmkmhlpaa.V
open Go.Proofs.Ytkkionmmkmhlpaa.W1 (hget_hset_ne hget_hset)

theorem order_out0 {H : Heap} {i : Nat} (hi : hget H i = some (rgO 0 1 0 1 .nsl)) (fr : Int) (wl el : List Nat) (fb : Nat) :
    loopRun (callL E) loopL fb [0, 5, 6, 21, 22, 23] c_ring_Ring_Order_l1 ⟨[(0, .ptr (some (i, 0))), (5, .int .u32 fr), (6, .sl []), (21, .sl [.bool true, .bool false]), (22, .int .i64 2), (23, .int .i64 0)], H, ⟨wl, el, false⟩⟩ =
      some (.exit 0, ⟨[(0, .ptr (some (i, 0))), (5, .int .u32 fr), (6, .sl []), (21, .sl [.bool true, .bool false]), (22, .int .i64 2), (23, .int .i64 2), (24, .bool false)], H, ⟨wl, el, false⟩⟩) := by
  have hiH := hget_lt hi
  have g0 := order_in0 hiH fr wl fb true 0
  have g1 := order_in0 hiH fr wl fb false 1
  have w1 : IntKind.wrap .i64 1 = 1 := by rw [wrap_i64] <;> omega
  have w2 : IntKind.wrap .i64 2 = 2 := by rw [wrap_i64] <;> omega
  rw [show ((0 : Nat) : Int) = 0 from rfl] at g0
  rw [show ((1 : Nat) : Int) = 1 from rfl] at g1
  refine loop_next (s' := ⟨[(0, .ptr (some (i, 0))), (5, .int .u32 fr), (6, .sl []), (21, .sl [.bool true, .bool false]), (22, .int .i64 2), (23, .int .i64 1)], H, ⟨wl, el, false⟩⟩) ?_ (loop_next (s' := ⟨[(0, .ptr (some (i, 0))), (5, .int .u32 fr), (6, .sl []), (21, .sl [.bool true, .bool false]), (22, .int .i64 2), (23, .int .i64 2)], H, ⟨wl, el, false⟩⟩) ?_ (loop_exit ?_))
  · rw [s_round]
    simp [-getElem?_pos, c_ring_Ring_Order_l1, hi, g0, w1, hiH]
  · rw [s_round]
    simp [-getElem?_pos, c_ring_Ring_Order_l1, hi, g1, w2, hiH]
  · rw [s_round]
    simp [c_ring_Ring_Order_l1]
theorem order_full {h : Heap} {i n : Nat} (hR : Rung h i n) (s : List UInt8) (hs : s.length < 4611686018427387904) :
    callL E F.ring_Ring_Order [.ptr (some (i, 0)), .str s] h = some (.sl ((orderN n s).map iV), h, .no) := by
  refine callL_of rfl fn_ring_Ring_Order ?_
  have gp := place_up s hs h
  rcases hR with ⟨rfl, hi⟩ | ⟨k, hF⟩
  · have gd := do_done (x := .fn F.ring_Ring_fill [.ptr (some (i, 0))] []) hi
    have key := order_out0 hi (place s) [] [] h.length
    rw [orderN_zero]
    have hiH := hget_lt hi
    simp [-getElem?_pos, c_ring_Ring_Order, gp, gd, key, hiH]
  · have gd := do_done (x := .fn F.ring_Ring_fill [.ptr (some (i, 0))] []) hF.ring
    have key := order_outer hF (place s) [] [] h.length (Nat.le_refl _)
    have hiH := hget_lt hF.ring
    unfold orderN
    generalize orderL (sort3 (ptsN (4 * n))) (place s) = O at *
    simp [-getElem?_pos, c_ring_Ring_Order, gp, gd, key, hiH]
theorem order_new {h : Heap} {i n : Nat} (hi : hget h i = some (rgO n 0 0 0 .nsl)) (hn : n ≤ 8) (s : List UInt8) (hs : s.length < 4611686018427387904) :
    ∃ h' e, (e = [] ∨ e = [i]) ∧ callL E F.ring_Ring_Order [.ptr (some (i, 0)), .str s] h = some (.sl ((orderN n s).map iV), h', ⟨[i], e, false⟩) ∧ h.length ≤ h'.length ∧ (∀ j, j < h.length → j ≠ i → h'[j]? = h[j]?) ∧ Rung h' i n := by
  have hiH := hget_lt hi
  by_cases h0 : n = 0
  · subst h0
    have hi2 : hget (hset h i (rgO 0 1 0 1 .nsl)) i = some (rgO 0 1 0 1 .nsl) := hget_hset hiH
    refine ⟨hset h i (rgO 0 1 0 1 .nsl), [], .inl rfl, ?_, by simp [hset], fun j hj hji => hset_ne hji, .inl ⟨rfl, hi2⟩⟩
    refine callL_of rfl fn_ring_Ring_Order ?_
    have gp := fun H => place_up s hs H
    have gd := do_fill0 hi
    have key := order_out0 hi2 (place s) [i] [] h.length
    rw [orderN_zero]
    simp [-getElem?_pos, c_ring_Ring_Order, gp, gd, key, hiH]
  · obtain ⟨h', gd, hlen, hfr, k, hk, hF⟩ := do_fill hi (by omega) hn
    refine ⟨h', [i], .inr rfl, ?_, by omega, hfr, .inr ⟨k, hF⟩⟩
    refine callL_of rfl fn_ring_Ring_Order ?_
    have gp := fun H => place_up s hs H
    have key := order_outer hF (place s) [i] [i] h.length (by omega)
    have hring := hF.ring
    have hkn : ¬ k < h.length := by omega
    have hiN : ¬ h.length ≤ i := by omega
    unfold orderN
    generalize orderL (sort3 (ptsN (4 * n))) (place s) = O at *
    simp [-getElem?_pos, c_ring_Ring_Order, gp, gd, key, hiH, hring, hkn, hiN]
theorem owners_full {h : Heap} {i n : Nat} (hR : Rung h i n) (s : List UInt8) (hs : s.length < 4611686018427387904) (c : Int) :
    callL E F.ring_Ring_Owners [.ptr (some (i, 0)), .str s, .int .i64 c] h = some (.sl ((firstN (orderN n s) c).map iV), h, .no) := by
  refine callL_of rfl fn_ring_Ring_Owners ?_
  have g := order_full hR s hs
  obtain ⟨m, hm, e1, e2⟩ := firstN_eq (orderN n s) c
  rw [e1]
  have e3 : ((m : Int)).toNat = m := by omega
  generalize orderN n s = O at *
  simp [-getElem?_pos, c_ring_Ring_Owners, g, e2, hm]
theorem Rung.le {h : Heap} {i n : Nat} (hR : Rung h i n) : n ≤ 8 := by
  rcases hR with ⟨rfl, _⟩ | ⟨k, hF⟩
  · omega
  · exact hF.le
end Go.Proofs.Ytkkionmmkmhlpaa.W2
