/- RingOrders. -/
import Derived.Test.YtkkionmmkmhlpaaVmRGN
import Derived.Test.YtkkionmmkmhlpaaVmRGR
import Derived.Test.YtkkionmmkmhlpaaVRO
set_option linter.unusedVariables false
set_option linter.unusedSimpArgs false
namespace Go.Proofs.Ytkkionmmkmhlpaa.W2
open Go.Vm Go.Proofs.Ytkkionmmkmhlpaa.V

theorem RingOrders_eq (n : Int) (s : List UInt8) (hs : s.length < 4611686018427387904) (c x : Int) : callL E F.tattlerlaw14_RingOrders [.int .i64 n, .str s, .int .i64 c, .int .i64 x] [] = some (.bool true, [], .no) := by
  refine callL_of rfl fn_tattlerlaw14_RingOrders ?_
  have gn := new_up n []
  have hn := nodesOf_le n
  obtain ⟨h1, e1, he1, g1, hl1, hf1, hR1⟩ := order_new (h := [rgO (nodesOf n) 0 0 0 .nsl]) (i := 0) (n := nodesOf n) rfl hn s hs
  have gl : ∀ H, callL E F.tattlerref14_Owners [.int .i64 n, .str s, .int .i64 c] H = some (.sl ((firstN (orderN (nodesOf n) s) c).map iV), H, .no) := fun H => up_tattlerref14_Owners (r14Owners_eq n s hs c H)
  have go : ∀ H, callL E F.tattlerref14_Order [.int .i64 n, .str s] H = some (.sl ((orderN (nodesOf n) s).map iV), H, .no) := fun H => up_tattlerref14_Order (r14Order_eq n s hs H)
  have gw := owners_full hR1 s hs c
  have gx := owns_full hR1 s hs c x
  have hol := orderN_len hn s
  have hfl := firstN_len (orderN (nodesOf n) s) c
  have s1 : ∀ H, callL E F.tattlerref5_SameInts [.sl ((orderN (nodesOf n) s).map iV), .sl ((orderN (nodesOf n) s).map iV)] H = some (.bool true, H, .no) := fun H => up_tattlerref5_SameInts (sameInts_self _ (by omega) H)
  have s2 : ∀ H, callL E F.tattlerref5_SameInts [.sl ((firstN (orderN (nodesOf n) s) c).map iV), .sl ((firstN (orderN (nodesOf n) s) c).map iV)] H = some (.bool true, H, .no) := fun H => up_tattlerref5_SameInts (sameInts_self _ (by omega) H)
  have gi : ∀ H, callL E F.tattlerref14_In [.sl ((firstN (orderN (nodesOf n) s) c).map iV), iV x] H = some (.bool ((firstN (orderN (nodesOf n) s) c).contains x), H, .no) := fun H => up_tattlerref14_In (in_eq _ (by omega) x H)
  have gd : callL E F.ring_Ring_Nodes [.ptr (some (0, 0))] [rgO (nodesOf n) 0 0 0 .nsl] = some (.int .i64 (nodesOf n), [rgO (nodesOf n) 0 0 0 .nsl], .no) := up_ring_Ring_Nodes (nodes_eq rfl)
  have ga := awake14_eq h1
  have e : (if 0 < (if 8 < n then 8 else n) then (if 8 < n then 8 else n) else 0) = ((nodesOf n : Nat) : Int) := by
    unfold nodesOf
    (repeat' split) <;> omega
  simp only [List.length_nil, List.nil_append] at gn
  generalize (firstN (orderN (nodesOf n) s) c).contains x = b at *
  generalize firstN (orderN (nodesOf n) s) c = A at *
  generalize orderN (nodesOf n) s = O at *
  generalize nodesOf n = m at *
  rcases he1 with rfl | rfl <;> simp [-getElem?_pos, c_tattlerlaw14_RingOrders, gn, gl, gd, e, g1, go, s1, gw, s2, gx, gi, ga]
theorem tattlerlaw14_RingOrders_top {c0 c1 c2 c3 : List V} (h0 : Ty.Has (.int .i64) c0) (h1 : Ty.Has .str c1) (h2 : Ty.Has (.int .i64) c2) (h3 : Ty.Has (.int .i64) c3) : ∃ h fl, callL E F.tattlerlaw14_RingOrders [Ty.el (.int .i64) c0, Ty.el .str c1, Ty.el (.int .i64) c2, Ty.el (.int .i64) c3] [] = some (.bool true, h, fl) := by
  obtain ⟨n, hn, rfl⟩ := h0
  obtain ⟨s, hs, rfl⟩ := h1
  obtain ⟨c, hc, rfl⟩ := h2
  obtain ⟨x, hx, rfl⟩ := h3
  exact ⟨_, _, RingOrders_eq n s (by unfold reachLen at hs; omega) c x⟩
end Go.Proofs.Ytkkionmmkmhlpaa.W2
