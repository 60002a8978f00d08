/- RingPlaces. -/
import Derived.Test.YtkkionmmkmhlpaaVmRGV
import Derived.Test.YtkkionmmkmhlpaaVRO
set_option linter.unusedVariables false
set_option linter.unusedSimpArgs false
namespace Go.Proofs.Ytkkionmmkmhlpaa.W2
open Go.Vm Go.Proofs.Ytkkionmmkmhlpaa.V

noncomputable def farN (pl x : Int) : Nat → Int
  | 0 => 4294967295
  | k + 1 => mn2 (farN pl x k) (gap pl x k)
theorem farN_four (pl x : Int) : farN pl x 4 = far pl x := rfl
theorem far_step (pl x : Int) (B : Nat) (h : Heap) (fb : Nat) (hB : hget h B = some (.cells [.int .u32 pl] [])) (k : Nat) (hk : k < 4) :
    roundV (callL V.E) loopL fb [0, 1, 4, 6] V.c_tattlerlaw14_RingPlaces_c1_l0 ⟨[(0, .int .i64 x), (1, .ptr (some (B, 0))), (4, .int .u32 (farN pl x k)), (6, .int .i64 k)], h, .no⟩ =
      some (.normal, ⟨[(0, .int .i64 x), (1, .ptr (some (B, 0))), (4, .int .u32 (farN pl x (k + 1))), (6, .int .i64 (k + 1 : Nat))], h, .no⟩) := by
  have gp := fun H => r5Point_eq x k H
  have h1 := rg_add1 (n := k) (by omega)
  have hk' : (k : Int) < 4 := by omega
  have hBl := hget_lt hB
  have e : (if IntKind.wrap .u32 (point x k - pl) < farN pl x k then IntKind.wrap .u32 (point x k - pl) else farN pl x k) = farN pl x (k + 1) := rfl
  generalize farN pl x (k + 1) = b1 at *
  generalize farN pl x k = b0 at *
  generalize point x k = q at *
  rw [s_round]
  simp [-getElem?_pos, V.c_tattlerlaw14_RingPlaces_c1_l0, hk', gp, h1, hB, hBl]
  exact e
theorem far_eq (pl x : Int) (B : Nat) (h : Heap) (hB : hget h B = some (.cells [.int .u32 pl] [])) : callL V.E F.tattlerlaw14_RingPlaces_c1 [.int .i64 x, .ptr (some (B, 0))] h = some (.int .u32 (far pl x), h, .no) := by
  refine callL_of rfl V.fn_tattlerlaw14_RingPlaces_c1 ?_
  have key : loopRun (callL V.E) loopL h.length [0, 1, 4, 6] V.c_tattlerlaw14_RingPlaces_c1_l0 ⟨[(0, .int .i64 x), (1, .ptr (some (B, 0))), (4, .int .u32 4294967295), (6, .int .i64 0)], h, .no⟩ =
      some (.exit 0, ⟨[(0, .int .i64 x), (1, .ptr (some (B, 0))), (4, .int .u32 (far pl x)), (6, .int .i64 4), (7, .bool false)], h, .no⟩) := by
    have k2 := loop_to (C := callL V.E) (fb := h.length) (live := [0, 1, 4, 6]) (c := V.c_tattlerlaw14_RingPlaces_c1_l0)
      (fun k => ⟨[(0, .int .i64 x), (1, .ptr (some (B, 0))), (4, .int .u32 (farN pl x k)), (6, .int .i64 k)], h, .no⟩) 4
      (r := (.exit 0, ⟨[(0, .int .i64 x), (1, .ptr (some (B, 0))), (4, .int .u32 (far pl x)), (6, .int .i64 4), (7, .bool false)], h, .no⟩)) (fun k hk => far_step pl x B h h.length hB k hk) ?_ rfl
    · exact k2
    · rw [farN_four]
      generalize far pl x = b
      rw [s_round]
      simp [V.c_tattlerlaw14_RingPlaces_c1_l0]
  generalize far pl x = b at *
  simp [-getElem?_pos, V.c_tattlerlaw14_RingPlaces_c1, key]
theorem far_up (pl x : Int) (B : Nat) (h : Heap) (hB : hget h B = some (.cells [.int .u32 pl] [])) : callL E F.tattlerlaw14_RingPlaces_c1 [.int .i64 x, .ptr (some (B, 0))] h = some (.int .u32 (far pl x), h, .no) := up_tattlerlaw14_RingPlaces_c1 (far_eq pl x B h hB)
theorem places_loop (O : List Int) (hO : O.length ≤ 8) (h0 : 0 < O.length) (pl : Int) (hp : O.Pairwise fun x y => far pl x ≤ far pl y) (B : Nat) (h : Heap) (hB : hget h B = some (.cells [.int .u32 pl] [])) (el : List Nat) :
    loopRun (callL E) loopL 0 [0, 5, 7, 8] c_tattlerlaw14_RingPlaces_l0 ⟨[(0, .int .i64 O.length), (5, .sl (O.map iV)), (7, .fn F.tattlerlaw14_RingPlaces_c1 [] [.ptr (some (B, 0))]), (8, .int .i64 1)], h, ⟨[], el, false⟩⟩ =
      some (.exit 0, ⟨[(0, .int .i64 O.length), (5, .sl (O.map iV)), (7, .fn F.tattlerlaw14_RingPlaces_c1 [] [.ptr (some (B, 0))]), (8, .int .i64 O.length), (28, .bool false)], h, ⟨[], el, false⟩⟩) := by
  have hBl := hget_lt hB
  have k2 := loop_to (C := callL E) (fb := 0) (live := [0, 5, 7, 8]) (c := c_tattlerlaw14_RingPlaces_l0)
    (fun j => ⟨[(0, .int .i64 O.length), (5, .sl (O.map iV)), (7, .fn F.tattlerlaw14_RingPlaces_c1 [] [.ptr (some (B, 0))]), (8, .int .i64 (j + 1 : Nat))], h, ⟨[], el, false⟩⟩) (O.length - 1)
    (r := (.exit 0, ⟨[(0, .int .i64 O.length), (5, .sl (O.map iV)), (7, .fn F.tattlerlaw14_RingPlaces_c1 [] [.ptr (some (B, 0))]), (8, .int .i64 O.length), (28, .bool false)], h, ⟨[], el, false⟩⟩)) (fun j hj => ?_) ?_ rfl
  · exact k2
  · obtain ⟨x, hx, _⟩ := get_of_lt (l := O) (i := j) (by omega)
    obtain ⟨y, hy, _⟩ := get_of_lt (l := O) (i := j + 1) (by omega)
    have hj1 : j + 1 < O.length := by omega
    have hj0 : j < O.length := by omega
    have hlt : ((j : Int) + 1) < (O.length : Int) := by omega
    have hj2 : (0 : Int) ≤ (j : Int) + 1 := by omega
    have h1 : IntKind.wrap .i64 ((j : Int) + 1 + 1) = (j : Int) + 1 + 1 := by rw [wrap_i64] <;> omega
    have h2 : IntKind.wrap .i64 (j : Int) = (j : Int) := by rw [wrap_i64] <;> omega
    have hxy : far pl x ≤ far pl y := by
      rw [List.pairwise_iff_getElem] at hp
      have := hp j (j + 1) hj0 hj1 (by omega)
      rw [List.getElem?_eq_getElem hj0] at hx
      rw [List.getElem?_eq_getElem hj1] at hy
      cases hx
      cases hy
      exact this
    have hng : ¬ far pl y < far pl x := by omega
    have gx := far_up pl x B h hB
    have gy := far_up pl y B h hB
    generalize far pl x = fx at *
    generalize far pl y = fy at *
    rw [s_round]
    simp [-getElem?_pos, c_tattlerlaw14_RingPlaces_l0, hlt, hj0, hj1, hx, hy, h1, h2, gx, gy, hng, hBl, hj2]
  · rw [show O.length - 1 + 1 = O.length by omega, s_round]
    simp [c_tattlerlaw14_RingPlaces_l0, hBl]
theorem u64' (n : Int) : IntKind.wrap .u64 n = n % 18446744073709551616 := by simp [IntKind.wrap, IntKind.bits, IntKind.signed]
theorem nodes_drawn (n : Int) (c : Int) (hc : 1 ≤ c ∧ c ≤ 16) : ∃ N : Nat, (N : Int) < c ∧ IntKind.wrap .i64 ((IntKind.wrap .u64 n).tmod c) = (N : Int) := by
  have h0 : 0 ≤ IntKind.wrap .u64 n := by rw [u64']; omega
  have h1 := Int.emod_nonneg (IntKind.wrap .u64 n) (show c ≠ 0 by omega)
  have h2 := Int.emod_lt_of_pos (IntKind.wrap .u64 n) (show 0 < c by omega)
  refine ⟨((IntKind.wrap .u64 n) % c).toNat, by omega, ?_⟩
  rw [Int.tmod_eq_emod_of_nonneg h0, wrap_i64 (by omega) (by omega)]
  omega
theorem RingPlaces_eq (n : Int) (s : List UInt8) (hs : s.length < 4611686018427387904) : callL E F.tattlerlaw14_RingPlaces [.int .i64 n, .str s] [] = some (.bool true, [], .no) := by
  refine callL_of rfl fn_tattlerlaw14_RingPlaces ?_
  obtain ⟨M, hM, eM⟩ := nodes_drawn n 8 (by omega)
  have w1 : IntKind.wrap .i64 ((M : Int) + 1) = ((M + 1 : Nat) : Int) := by rw [wrap_i64] <;> omega
  have hN : nodesOf ((M + 1 : Nat) : Int) = M + 1 := by unfold nodesOf; omega
  have gn := new_up ((M + 1 : Nat) : Int) []
  rw [hN] at gn
  simp only [List.length_nil, List.nil_append] at gn
  obtain ⟨h1, e1, he1, g1, hl1, hf1, hR1⟩ := order_new (h := [rgO (M + 1) 0 0 0 .nsl]) (i := 0) (n := M + 1) rfl (by omega) s hs
  have gm : ∀ H, callL E F.tattlerref1_Mix [.sl (s.map byteV)] H = some (.int .u32 (place s), H, .no) := fun H => by
    have g := r1mix_eq (bytesI s) (by simpa [bytesI] using hs) H
    rw [bytesI_map] at g
    exact up_tattlerref1_Mix g
  have hol := orderN_length (M + 1) s
  have key := places_loop (orderN (M + 1) s) (by omega) (by omega) (place s) (orderN_far (M + 1) s) h1.length (h1 ++ [.cells [.int .u32 (place s)] []]) (by simp [hget])
  rw [hol] at key
  have ga := awake14_eq (h1 ++ [.cells [.int .u32 (place s)] []])
  have hlm : ((orderN (M + 1) s).map iV).length = M + 1 := by rw [List.length_map]; exact hol
  generalize (orderN (M + 1) s).map iV = O at *
  generalize M + 1 = m at *
  rcases he1 with rfl | rfl <;> simp [-getElem?_pos, c_tattlerlaw14_RingPlaces, eM, w1, gn, g1, hlm, gm, key, ga]
theorem tattlerlaw14_RingPlaces_top {c0 c1 : List V} (h0 : Ty.Has (.int .i64) c0) (h1 : Ty.Has .str c1) : ∃ h fl, callL E F.tattlerlaw14_RingPlaces [Ty.el (.int .i64) c0, Ty.el .str c1] [] = some (.bool true, h, fl) := by
  obtain ⟨n, hn, rfl⟩ := h0
  obtain ⟨s, hs, rfl⟩ := h1
  exact ⟨_, _, RingPlaces_eq n s (by unfold reachLen at hs; omega)⟩
end Go.Proofs.Ytkkionmmkmhlpaa.W2
