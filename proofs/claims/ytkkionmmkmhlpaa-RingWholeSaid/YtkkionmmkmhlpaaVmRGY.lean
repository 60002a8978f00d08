/- RingWhole. -/
import Derived.Test.YtkkionmmkmhlpaaVmRGX
import Derived.Test.YtkkionmmkmhlpaaVRO
set_option linter.unusedVariables false
set_option linter.unusedSimpArgs false
namespace Go.Proofs.Ytkkionmmkmhlpaa.W2
open Go.Vm Go.Proofs.Ytkkionmmkmhlpaa.V
open Go.Proofs.Ytkkionmmkmhlpaa.W1 (hget_hset_ne hget_hset)

section
variable (O : List Int) (N : Nat) (hO : O.length = N) (hN : N ≤ 8) (hd : O.Nodup) (hm : ∀ x ∈ O, ∃ m : Nat, m < N ∧ x = (m : Int)) (K : Nat) (H : Heap) (hK : K < H.length) (s : List UInt8) (c d : Int) (i1 i2 : Nat) (hi1 : i1 < H.length) (hi2 : i2 < H.length) (el : List Nat)
include hO hN hd hm hK hi1 hi2
set_option maxHeartbeats 1000000 in
theorem seen_loop :
    loopRun (callL E) loopL 0 [0, 1, 2, 3, 9, 10, 11, 12, 39, 40, 41] c_tattlerlaw14_RingWhole_l0 ⟨[(0, .int .i64 N), (1, .str s), (2, .int .i64 c), (3, .int .i64 d), (9, .ptr (some (i1, 0))), (10, .ptr (some (i2, 0))), (11, .sl (O.map iV)), (12, .msl K 0 N 1), (39, .sl (O.map iV)), (40, .int .i64 N), (41, .int .i64 0)], hset H K (.cells (marks N []) []), ⟨[], el, false⟩⟩ =
      some (.exit 0, ⟨[(0, .int .i64 N), (1, .str s), (2, .int .i64 c), (3, .int .i64 d), (9, .ptr (some (i1, 0))), (10, .ptr (some (i2, 0))), (11, .sl (O.map iV)), (12, .msl K 0 N 1), (39, .sl (O.map iV)), (40, .int .i64 N), (41, .int .i64 N), (42, .bool false)], hset H K (.cells (marks N O) []), ⟨[], el, false⟩⟩) := by
  have k2 := loop_to (C := callL E) (fb := 0) (live := [0, 1, 2, 3, 9, 10, 11, 12, 39, 40, 41]) (c := c_tattlerlaw14_RingWhole_l0)
    (fun j => ⟨[(0, .int .i64 N), (1, .str s), (2, .int .i64 c), (3, .int .i64 d), (9, .ptr (some (i1, 0))), (10, .ptr (some (i2, 0))), (11, .sl (O.map iV)), (12, .msl K 0 N 1), (39, .sl (O.map iV)), (40, .int .i64 N), (41, .int .i64 j)], hset H K (.cells (marks N (O.take j)) []), ⟨[], el, false⟩⟩) N
    (r := (.exit 0, ⟨[(0, .int .i64 N), (1, .str s), (2, .int .i64 c), (3, .int .i64 d), (9, .ptr (some (i1, 0))), (10, .ptr (some (i2, 0))), (11, .sl (O.map iV)), (12, .msl K 0 N 1), (39, .sl (O.map iV)), (40, .int .i64 N), (41, .int .i64 N), (42, .bool false)], hset H K (.cells (marks N O) []), ⟨[], el, false⟩⟩)) (fun j hj => ?_) ?_ rfl
  · exact k2
  · have hjO : j < O.length := by omega
    obtain ⟨x, hx, _⟩ := get_of_lt hjO
    have hxO : x ∈ O := by
      rw [List.getElem?_eq_getElem hjO] at hx
      cases hx
      exact List.getElem_mem _
    obtain ⟨m, hmN, rfl⟩ := hm x hxO
    have h1 := rg_add1 (n := j) (by omega)
    have hlt : (j : Int) < (N : Int) := by omega
    have hnew : (O.take j).contains (m : Int) = false := by
      rw [← Bool.not_eq_true, List.contains_iff_mem, List.mem_take_iff_getElem]
      rintro ⟨i, hi, e⟩
      rw [List.getElem?_eq_getElem hjO] at hx
      have := (List.getElem_inj hd (i := i) (j := j) (h₀ := by omega) (h₁ := hjO)).1 (e.trans (Option.some.inj hx).symm)
      omega
    have hat := marks_at hmN (O.take j)
    have hset' := marks_set hmN (O.take j)
    have hml := marks_len N (O.take j)
    rw [hnew] at hat
    have hnx : O.take (j + 1) = O.take j ++ [(m : Int)] := by rw [List.take_add_one, hx]; rfl
    rw [hnx, ← hset']
    have hg : hget (hset H K (.cells (marks N (O.take j)) [])) K = some (.cells (marks N (O.take j)) []) := hget_hset hK
    have hl : (hset H K (.cells (marks N (O.take j)) [])).length = H.length := by simp [hset]
    have hh : ∀ (x y : Vm.Obj), hset (hset H K x) K y = hset H K y := fun x y => by simp [hset]
    have q0 : ¬ (m : Int) < 0 := by omega
    have q1 : ¬ (N : Int) ≤ (m : Int) := by omega
    have q2 : (0 : Int) ≤ (m : Int) := by omega
    have q3 : (m : Int) < (N : Int) := by omega
    rw [s_round]
    generalize marks N (O.take j) = C at *
    simp [-getElem?_pos, c_tattlerlaw14_RingWhole_l0, hlt, hjO, hx, h1, q0, q1, q2, q3, hmN, hK, hi1, hi2, hat, hml]
    rw [List.set_eq_take_append_cons_drop, if_pos (by rw [hml]; exact hmN)]
  · rw [s_round, ← hO, List.take_length]
    simp [c_tattlerlaw14_RingWhole_l0]
end
theorem rest_loop (N : Nat) (L l : List Int) (hL : L.length ≤ 9) (H : Heap) (el : List Nat) :
    loopRun (callL E) loopL 0 [0, 11, 17, 108, 109, 110] c_tattlerlaw14_RingWhole_l1 ⟨[(0, .int .i64 N), (11, .sl (l.map iV)), (17, .sl []), (108, .sl (L.map iV)), (109, .int .i64 L.length), (110, .int .i64 0)], H, ⟨[], el, false⟩⟩ =
      some (.exit 2, ⟨[(0, .int .i64 N), (11, .sl (l.map iV)), (17, .sl ((L.filter fun x => x != (N : Int)).map iV)), (108, .sl (L.map iV)), (109, .int .i64 L.length), (110, .int .i64 L.length), (111, .bool false)], H, ⟨[], el, false⟩⟩) := by
  have k2 := loop_to (C := callL E) (fb := 0) (live := [0, 11, 17, 108, 109, 110]) (c := c_tattlerlaw14_RingWhole_l1)
    (fun j => ⟨[(0, .int .i64 N), (11, .sl (l.map iV)), (17, .sl (((L.take j).filter fun x => x != (N : Int)).map iV)), (108, .sl (L.map iV)), (109, .int .i64 L.length), (110, .int .i64 j)], H, ⟨[], el, false⟩⟩) L.length
    (r := (.exit 2, ⟨[(0, .int .i64 N), (11, .sl (l.map iV)), (17, .sl ((L.filter fun x => x != (N : Int)).map iV)), (108, .sl (L.map iV)), (109, .int .i64 L.length), (110, .int .i64 L.length), (111, .bool false)], H, ⟨[], el, false⟩⟩)) (fun j hj => ?_) ?_ rfl
  · exact k2
  · obtain ⟨x, hx, _⟩ := get_of_lt hj
    have h1 := rg_add1 (n := j) (by omega)
    have hlt : (j : Int) < (L.length : Int) := by omega
    have hnx : (L.take (j + 1)).filter (fun x => x != (N : Int)) = (L.take j).filter (fun x => x != (N : Int)) ++ cnd (x != (N : Int)) [x] [] := by
      rw [List.take_add_one, hx, List.filter_append]
      congr 1
    have hle : ((L.take j).filter fun x => x != (N : Int)).length ≤ 9 := by
      have h2 := List.length_filter_le (fun x => x != (N : Int)) (L.take j)
      have h3 := List.length_take_le j L
      omega
    rw [hnx]
    generalize (L.take j).filter (fun x => x != (N : Int)) = A at *
    have hz := sizeOk_iV A
    have hcap : (A.length + 1) * 8 ≤ 140737488355328 := by omega
    rw [s_round]
    cases hc : (x == (N : Int))
    · simp [-getElem?_pos, c_tattlerlaw14_RingWhole_l1, hlt, hj, hx, h1, hc, hz, hcap, bne]
    · simp [-getElem?_pos, c_tattlerlaw14_RingWhole_l1, hlt, hj, hx, h1, hc, bne]
  · rw [s_round, List.take_length]
    simp [c_tattlerlaw14_RingWhole_l1]
theorem firstN_nat (l : List Int) (N : Nat) (hl : l.length = N) (c : Nat) : firstN l (c : Int) = l.take (min c N) := by
  unfold firstN
  congr 1
  omega
set_option maxHeartbeats 8000000 in
theorem RingWhole_eq (n : Int) (s : List UInt8) (hs : s.length < 4611686018427387904) (c0 d0 : Int) : ∃ h fl, callL E F.tattlerlaw14_RingWhole [.int .i64 n, .str s, .int .i64 c0, .int .i64 d0] [] = some (.bool true, h, fl) := by
  obtain ⟨M, hM, eM⟩ := nodes_drawn n 7 (by omega)
  obtain ⟨c, hc, ec⟩ := nodes_drawn c0 9 (by omega)
  obtain ⟨d, hd, ed⟩ := nodes_drawn d0 9 (by omega)
  have w1 : IntKind.wrap .i64 ((M : Int) + 1) = ((M + 1 : Nat) : Int) := by rw [wrap_i64] <;> omega
  have w2 : IntKind.wrap .i64 (((M + 1 : Nat) : Int) + 1) = ((M + 2 : Nat) : Int) := by rw [wrap_i64] <;> omega
  have hN1 : nodesOf ((M + 1 : Nat) : Int) = M + 1 := by unfold nodesOf; omega
  have hN2 : nodesOf ((M + 2 : Nat) : Int) = M + 2 := by unfold nodesOf; omega
  have gn1 := new_up ((M + 1 : Nat) : Int) []
  rw [hN1] at gn1
  simp only [List.length_nil, List.nil_append] at gn1
  have gn2 := new_up ((M + 2 : Nat) : Int) [rgO (M + 1) 0 0 0 .nsl]
  rw [hN2] at gn2
  simp only [List.length_cons, List.length_nil, Nat.zero_add, List.cons_append, List.nil_append] at gn2
  obtain ⟨h1, e1, he1, g1, hl1, hf1, hR1⟩ := order_new (h := [rgO (M + 1) 0 0 0 .nsl, rgO (M + 2) 0 0 0 .nsl]) (i := 0) (n := M + 1) rfl (by omega) s hs
  simp only [List.length_cons, List.length_nil] at hl1
  have hol1 := orderN_length (M + 1) s
  have seen := seen_loop (orderN (M + 1) s) (M + 1) hol1 (by omega) (orderN_nodup _ _) (fun x hx => orderN_mem.1 hx) h1.length (h1 ++ [.dead]) (by simp) s c0 d0 0 1 (by simp) (by simp; omega)
  have ehs : ∀ o : Vm.Obj, hset (h1 ++ [.dead]) h1.length o = h1 ++ [o] := fun o => by simp [hset]
  simp only [ehs] at seen
  -- the full ring stays
  have hR1' : Rung (h1 ++ [.cells (marks (M + 1) (orderN (M + 1) s)) []]) 0 (M + 1) := by
    rcases hR1 with ⟨h0, _⟩ | ⟨k, hF⟩
    · omega
    · refine .inr ⟨k, hF.pos, hF.le, ?_, ?_⟩
      · rw [W1.hget_app (hget_lt hF.ring)]; exact hF.ring
      · rw [W1.hget_app (hget_lt hF.lst)]; exact hF.lst
  have gw := fun c => owners_full hR1' s hs c
  -- the other ring
  have hs1 : hget (h1 ++ [.cells (marks (M + 1) (orderN (M + 1) s)) []]) 1 = some (rgO (M + 2) 0 0 0 .nsl) := by
    rw [W1.hget_app (by omega)]
    have := hf1 1 (by simp) (by omega)
    unfold hget
    rw [this]
    rfl
  obtain ⟨h2, e2, he2, g2, hl2, hf2, hR2⟩ := order_new hs1 (by omega) s hs
  have hol2 := orderN_length (M + 2) s
  have rest := rest_loop (M + 1) (orderN (M + 2) s) (orderN (M + 1) s) (by omega) h2
  rw [hol2] at rest
  rw [order_more (M + 1) s] at rest
  have ga := awake14_eq h2
  have s1 : callL E F.tattlerref5_SameInts [.sl ((orderN (M + 1) s).map iV), .sl ((orderN (M + 1) s).map iV)] h2 = some (.bool true, h2, .no) := up_tattlerref5_SameInts (sameInts_self _ (by omega) h2)
  have hlm : ((orderN (M + 1) s).map iV).length = M + 1 := by rw [List.length_map]; exact hol1
  have hlm2 : ((orderN (M + 2) s).map iV).length = M + 2 := by rw [List.length_map]; exact hol2
  have gmk : mkmV 1 [.bool false] h1 (.int .i64 ((M + 1 : Nat) : Int)) = some (.msl h1.length 0 (M + 1) 1, h1 ++ [.cells (marks (M + 1) []) []], .no) := by
    have hM1 : (1 : Int) ≤ ((M + 1 : Nat) : Int) ∧ ((M + 1 : Nat) : Int) ≤ 1000 := by omega
    have ht : (((M + 1 : Nat) : Int)).toNat = M + 1 := by omega
    unfold mkmV
    simp only [ht, marks_nil]
    simp only [List.all_cons, List.all_nil, V.pureCell, Bool.and_true, List.length_cons, List.length_nil]
    rw [decide_eq_true ⟨hM1, by omega, by omega⟩]
    rfl
  -- owners
  have own : ∀ lo hi : Nat, lo ≤ hi → ∃ A B : List V, callL E F.ring_Ring_Owners [.ptr (some (0, 0)), .str s, .int .i64 lo] (h1 ++ [.cells (marks (M + 1) (orderN (M + 1) s)) []]) = some (.sl A, h1 ++ [.cells (marks (M + 1) (orderN (M + 1) s)) []], .no) ∧
      callL E F.ring_Ring_Owners [.ptr (some (0, 0)), .str s, .int .i64 hi] (h1 ++ [.cells (marks (M + 1) (orderN (M + 1) s)) []]) = some (.sl B, h1 ++ [.cells (marks (M + 1) (orderN (M + 1) s)) []], .no) ∧
      A.length = min lo (M + 1) ∧ B.length = min hi (M + 1) ∧ B.take (min lo (M + 1)) = A ∧ sizeOk 1 B = true ∧
      callL E F.tattlerref5_SameInts [.sl A, .sl A] (h1 ++ [.cells (marks (M + 1) (orderN (M + 1) s)) []]) = some (.bool true, h1 ++ [.cells (marks (M + 1) (orderN (M + 1) s)) []], .no) := fun lo hi hlh => by
    have g1 := gw lo
    have g2 := gw hi
    rw [firstN_nat _ _ hol1] at g1 g2
    refine ⟨_, _, g1, g2, ?_, ?_, ?_, sizeOk_iV _, up_tattlerref5_SameInts (sameInts_self _ ?_ _)⟩
    · rw [List.length_map, List.length_take]; omega
    · rw [List.length_map, List.length_take]; omega
    · rw [← List.map_take, List.take_take]
      congr 2
      omega
    · rw [List.length_take]; omega
  have hm1 : ∀ lo : Nat, (if M + 1 < lo then ((M + 1 : Nat) : Int) else (lo : Int)) = ((min lo (M + 1) : Nat) : Int) := fun lo => by
    split <;> omega
  by_cases hcd : d < c
  · obtain ⟨A, B, o1, o2, lA, lB, tB, zB, sA⟩ := own d c (by omega)
    have m1 := hm1 d
    have m2 := hm1 c
    have hmm : min d (M + 1) ≤ min c (M + 1) := by omega
    generalize min c (M + 1) = mc at *
    generalize min d (M + 1) = md at *
    generalize (orderN (M + 1) s).map iV = O1 at *
    generalize (orderN (M + 2) s).map iV = O2 at *
    generalize marks (M + 1) (orderN (M + 1) s) = K1 at *
    generalize M + 2 = m2' at *
    generalize M + 1 = m1' at *
    refine ⟨[], .no, callL_of rfl fn_tattlerlaw14_RingWhole ?_⟩
    rcases he1 with rfl | rfl <;> rcases he2 with rfl | rfl <;> simp [-getElem?_pos, c_tattlerlaw14_RingWhole, eM, w1, w2, gn1, gn2, g1, hlm, gmk, seen, ec, ed, hcd, o1, o2, lA, lB, m1, m2, tB, zB, sA, hmm, g2, hlm2, rest, s1, ga]
  · obtain ⟨A, B, o1, o2, lA, lB, tB, zB, sA⟩ := own c d (by omega)
    have m1 := hm1 c
    have m2 := hm1 d
    have hmm : min c (M + 1) ≤ min d (M + 1) := by omega
    generalize min c (M + 1) = mc at *
    generalize min d (M + 1) = md at *
    generalize (orderN (M + 1) s).map iV = O1 at *
    generalize (orderN (M + 2) s).map iV = O2 at *
    generalize marks (M + 1) (orderN (M + 1) s) = K1 at *
    generalize M + 2 = m2' at *
    generalize M + 1 = m1' at *
    refine ⟨[], .no, callL_of rfl fn_tattlerlaw14_RingWhole ?_⟩
    rcases he1 with rfl | rfl <;> rcases he2 with rfl | rfl <;> simp [-getElem?_pos, c_tattlerlaw14_RingWhole, eM, w1, w2, gn1, gn2, g1, hlm, gmk, seen, ec, ed, hcd, o1, o2, lA, lB, m1, m2, tB, zB, sA, hmm, g2, hlm2, rest, s1, ga]
theorem tattlerlaw14_RingWhole_top {c0 c1 c2 c3 : List V} (h0 : Ty.Has (.int .i64) c0) (h1 : Ty.Has .str c1) (h2 : Ty.Has (.int .i64) c2) (h3 : Ty.Has (.int .i64) c3) : ∃ h fl, callL E F.tattlerlaw14_RingWhole [Ty.el (.int .i64) c0, Ty.el .str c1, Ty.el (.int .i64) c2, Ty.el (.int .i64) c3] [] = some (.bool true, h, fl) := by
  obtain ⟨n, hn, rfl⟩ := h0
  obtain ⟨s, hs, rfl⟩ := h1
  obtain ⟨c, hc, rfl⟩ := h2
  obtain ⟨x, hx, rfl⟩ := h3
  exact RingWhole_eq n s (by unfold reachLen at hs; omega) c x
end Go.Proofs.Ytkkionmmkmhlpaa.W2
