/- What the reference's 'Order' and 'Owners' compute. -/
import Derived.Test.YtkkionmmkmhlpaaVmRGE
set_option linter.unusedVariables false
set_option linter.unusedSimpArgs false
namespace Go.Proofs.Ytkkionmmkmhlpaa.V
open Go.Vm

theorem ins3_at (p : Pt) : ∀ (l : List Pt) (a : Nat), a ≤ l.length → (∀ (j : Nat) (q : Pt), j < a → l[j]? = some q → lt3 q p = true) → (∀ q, l[a]? = some q → lt3 q p = false) → ins3 p l = l.take a ++ p :: l.drop a
  | [], a, h, _, _ => by
    have : a = 0 := by simpa using h
    subst this; rfl
  | q :: l, 0, _, _, h2 => by
    have := h2 q rfl
    simp [ins3, this]
  | q :: l, a + 1, h, h1, h2 => by
    have h0 := h1 0 q (by omega) rfl
    simp only [ins3, h0, if_true, List.take_succ_cons, List.drop_succ_cons, List.cons_append]
    rw [ins3_at p l a (by simpa using h) (fun j r hj hr => h1 (j + 1) r (by omega) (by simpa using hr)) (fun r hr => h2 r (by simpa using hr))]
theorem sizeOk_pts (l : List Pt) : sizeOk 3 (l.map Pt.v) = true := by cases l <;> simp
section
variable (L : List Pt) (hL : L.length ≤ 32) (p : Pt) (h : Heap) (fb B : Nat) (hB : hget h B = some (.cells p.c [])) (s : List UInt8) (nn a b : Int)
include hL hB
set_option maxHeartbeats 1000000 in
theorem at_loop : ∃ m, m ≤ L.length ∧ ins3 p L = L.take m ++ p :: L.drop m ∧ ∃ rr,
    loopRun (callL E) loopL fb [1, 5, 6, 7, 8, 9, 18, 19, 22] c_tattlerref14_Order_l0 ⟨[(1, .str s), (5, .sl (L.map Pt.v)), (6, .int .i64 p.node), (7, .int .i64 p.k), (8, .ptr (some (B, 0))), (9, .int .i64 0), (18, .int .i64 nn), (19, .int .i64 a), (22, .int .i64 b)], h, .no⟩ =
      some (.exit 4, ⟨[(1, .str s), (5, .sl (L.map Pt.v)), (6, .int .i64 p.node), (7, .int .i64 p.k), (8, .ptr (some (B, 0))), (9, .int .i64 m), (18, .int .i64 nn), (19, .int .i64 a), (22, .int .i64 b), (81, rr)], h, .no⟩) := by
  have hBl := hget_lt hB
  have key := loop_scan (C := callL E) (fb := fb) (live := [1, 5, 6, 7, 8, 9, 18, 19, 22]) (c := c_tattlerref14_Order_l0) (fun j => ⟨[(1, .str s), (5, .sl (L.map Pt.v)), (6, .int .i64 p.node), (7, .int .i64 p.k), (8, .ptr (some (B, 0))), (9, .int .i64 j), (18, .int .i64 nn), (19, .int .i64 a), (22, .int .i64 b)], h, .no⟩) L.length (getB L fun q => lt3 q p)
    (.exit 4, ⟨[(1, .str s), (5, .sl (L.map Pt.v)), (6, .int .i64 p.node), (7, .int .i64 p.k), (8, .ptr (some (B, 0))), (9, .int .i64 L.length), (18, .int .i64 nn), (19, .int .i64 a), (22, .int .i64 b), (81, .bool false)], h, .no⟩)
    (fun j => (.exit 4, ⟨[(1, .str s), (5, .sl (L.map Pt.v)), (6, .int .i64 p.node), (7, .int .i64 p.k), (8, .ptr (some (B, 0))), (9, .int .i64 j), (18, .int .i64 nn), (19, .int .i64 a), (22, .int .i64 b), (81, .bool false)], h, .no⟩)) ?_ ?_ (fun _ => rfl) ?_ rfl
  · rw [show ((0 : Nat) : Int) = 0 from rfl] at key
    rcases key with ⟨h1, h2⟩ | ⟨j, h1, h2, h3, h4⟩
    · refine ⟨L.length, Nat.le_refl _, ins3_at p L _ (Nat.le_refl _) (fun j q hj hq => ?_) (fun q hq => ?_), _, h2⟩
      · have := h1 j hj
        rwa [getB_at hq] at this
      · rw [List.getElem?_eq_none (Nat.le_refl _)] at hq; cases hq
    · refine ⟨j, by omega, ins3_at p L _ (by omega) (fun i q hi hq => ?_) (fun q hq => ?_), _, h4⟩
      · have := h3 i hi
        rwa [getB_at hq] at this
      · rwa [getB_at hq] at h2
  · intro j hj hp
    obtain ⟨q, hq, _⟩ := get_of_lt hj
    have h1 := rg_add1 (n := j) (by omega)
    have hlt : (j : Int) < (L.length : Int) := by omega
    rw [getB_at hq] at hp
    rw [lt3_iff] at hp
    rw [s_round]
    rcases hp with e | ⟨e, e2 | ⟨e2, e3⟩⟩
    · simp [-getElem?_pos, c_tattlerref14_Order_l0, hlt, hj, hq, hB, h1, e, hBl]
    · have n1 : ¬ q.at' < p.at' := by omega
      simp [-getElem?_pos, c_tattlerref14_Order_l0, hlt, hj, hq, hB, h1, n1, e, e2, hBl]
    · have n1 : ¬ q.at' < p.at' := by omega
      have n2 : ¬ q.node < p.node := by omega
      simp [-getElem?_pos, c_tattlerref14_Order_l0, hlt, hj, hq, hB, h1, n1, n2, e, e2, e3, hBl]
  · intro j hj hp
    obtain ⟨q, hq, _⟩ := get_of_lt hj
    have h1 := rg_add1 (n := j) (by omega)
    have hlt : (j : Int) < (L.length : Int) := by omega
    rw [getB_at hq] at hp
    rw [lt3_no] at hp
    rw [s_round]
    have n1 : ¬ q.at' < p.at' := by omega
    by_cases e : q.at' = p.at'
    · have n2 : ¬ q.node < p.node := by omega
      by_cases e2 : q.node = p.node
      · have n3 : ¬ q.k < p.k := by omega
        simp [-getElem?_pos, c_tattlerref14_Order_l0, hlt, hj, hq, hB, h1, n1, n2, n3, e, e2, hBl]
      · have e2 : (q.node == p.node) = false := by simpa using e2
        simp [-getElem?_pos, c_tattlerref14_Order_l0, hlt, hj, hq, hB, h1, n1, n2, e, e2, hBl]
    · have e : (q.at' == p.at') = false := by simpa using e
      simp [-getElem?_pos, c_tattlerref14_Order_l0, hlt, hj, hq, hB, h1, n1, e, hBl]
  · rw [s_round]
    simp [c_tattlerref14_Order_l0, hBl]
end
theorem r5P (n k : Nat) (h : Heap) : callL E F.tattlerref5_Point [.int .i64 n, .int .i64 k] h = some (.int .u32 (point n k), h, .no) := r5Point_eq n k h
set_option maxHeartbeats 1000000 in
theorem rk_step (node k nn : Nat) (hn : node < 8) (hk : k < 4) (s : List UInt8) (h : Heap) (fb : Nat) (hfb : fb ≤ h.length) :
    roundV (callL E) loopL fb [1, 5, 6, 18, 19, 22] c_tattlerref14_Order_l1 ⟨[(1, .str s), (5, .sl ((sort3 (ptsN (4 * node + k))).map Pt.v)), (6, .int .i64 node), (18, .int .i64 nn), (19, .int .i64 node), (22, .int .i64 k)], h, .no⟩ =
      some (.normal, ⟨[(1, .str s), (5, .sl ((sort3 (ptsN (4 * node + k + 1))).map Pt.v)), (6, .int .i64 node), (18, .int .i64 nn), (19, .int .i64 node), (22, .int .i64 (k + 1 : Nat))], h, .no⟩) := by
  have e4 : (4 * node + k) / 4 = node := by omega
  have e5 : (4 * node + k) % 4 = k := by omega
  have hp : ptN (4 * node + k) = ⟨point node k, node, k⟩ := by unfold ptN; rw [e4, e5]
  have hlen : (sort3 (ptsN (4 * node + k))).length = 4 * node + k := by rw [sort3_len, ptsN_len]
  rw [sort_succ, hp]
  have gp := fun H => r5P node k H
  have h1 := rg_add1 (n := k) (by omega)
  have hk' : (k : Int) < 4 := by omega
  have hlen2 : (sort3 (ptsN (4 * node + k))).length ≤ 32 := by omega
  generalize sort3 (ptsN (4 * node + k)) = L at *
  obtain ⟨m, hm, hins, rr, key⟩ := at_loop L hlen2 ⟨point node k, node, k⟩ (h ++ [.cells [.int .u32 (point node k), .int .i64 node, .int .i64 k] []]) fb h.length (by simp [hget]) s nn node k
  rw [hins]
  have zL := sizeOk_pts L
  have z1 := sizeOk_pts (L.take m)
  have z2 := sizeOk_pts (L.drop m)
  have z3 : sizeOk 3 ((L.map Pt.v).take m ++ [V.agg [.int .u32 (point node k), .int .i64 node, .int .i64 k]]) = true := by
    have := sizeOk_pts (L.take m ++ [⟨point node k, node, k⟩])
    rw [List.map_append, List.map_take] at this
    exact this
  have et : (L.map Pt.v).take L.length = L.map Pt.v := List.take_of_length_le (by simp)
  rw [List.map_take] at z1
  rw [List.map_drop] at z2
  have t1 : ((L.map Pt.v).take m).length = m := by rw [List.length_take, List.length_map]; omega
  have t2 : ((L.map Pt.v).drop m).length = L.length - m := by rw [List.length_drop, List.length_map]
  have c0 : m * 24 ≤ 140737488355328 := by omega
  have c1 : (m + 1) * 24 ≤ 140737488355328 := by omega
  have c2 : (m + 1 + (L.length - m)) * 24 ≤ 140737488355328 := by omega
  have hm' : (m : Int) ≤ (L.length : Int) := by omega
  have hnf : ¬ h.length < fb := by omega
  dsimp only at key
  rw [s_round]
  simp [-getElem?_pos, c_tattlerref14_Order_l1, hk', gp, hnf, key, h1, hm, zL, z1, z2, z3, t1, t2, c0, c1, c2, hm', et]
theorem rk_loop (node nn : Nat) (hn : node < 8) (s : List UInt8) (h : Heap) (fb : Nat) (hfb : fb ≤ h.length) :
    loopRun (callL E) loopL fb [1, 5, 6, 18, 19, 22] c_tattlerref14_Order_l1 ⟨[(1, .str s), (5, .sl ((sort3 (ptsN (4 * node))).map Pt.v)), (6, .int .i64 node), (18, .int .i64 nn), (19, .int .i64 node), (22, .int .i64 0)], h, .no⟩ =
      some (.exit 2, ⟨[(1, .str s), (5, .sl ((sort3 (ptsN (4 * node + 4))).map Pt.v)), (6, .int .i64 node), (18, .int .i64 nn), (19, .int .i64 node), (22, .int .i64 4), (23, .bool false)], h, .no⟩) := by
  have k2 := loop_to (C := callL E) (fb := fb) (live := [1, 5, 6, 18, 19, 22]) (c := c_tattlerref14_Order_l1)
    (fun k => ⟨[(1, .str s), (5, .sl ((sort3 (ptsN (4 * node + k))).map Pt.v)), (6, .int .i64 node), (18, .int .i64 nn), (19, .int .i64 node), (22, .int .i64 k)], h, .no⟩) 4
    (r := (.exit 2, ⟨[(1, .str s), (5, .sl ((sort3 (ptsN (4 * node + 4))).map Pt.v)), (6, .int .i64 node), (18, .int .i64 nn), (19, .int .i64 node), (22, .int .i64 4), (23, .bool false)], h, .no⟩)) (fun k hk => rk_step node k nn hn hk s h fb hfb) ?_ rfl
  · exact k2
  · rw [s_round]
    simp [c_tattlerref14_Order_l1]
theorem rn_loop (nn : Nat) (hn : nn ≤ 8) (s : List UInt8) (h : Heap) (fb : Nat) (hfb : fb ≤ h.length) :
    loopRun (callL E) loopL fb [1, 5, 18, 19] c_tattlerref14_Order_l2 ⟨[(1, .str s), (5, .sl []), (18, .int .i64 nn), (19, .int .i64 0)], h, .no⟩ =
      some (.exit 0, ⟨[(1, .str s), (5, .sl ((sort3 (ptsN (4 * nn))).map Pt.v)), (18, .int .i64 nn), (19, .int .i64 nn), (20, .bool false)], h, .no⟩) := by
  have k2 := loop_to (C := callL E) (fb := fb) (live := [1, 5, 18, 19]) (c := c_tattlerref14_Order_l2)
    (fun k => ⟨[(1, .str s), (5, .sl ((sort3 (ptsN (4 * k))).map Pt.v)), (18, .int .i64 nn), (19, .int .i64 k)], h, .no⟩) nn
    (r := (.exit 0, ⟨[(1, .str s), (5, .sl ((sort3 (ptsN (4 * nn))).map Pt.v)), (18, .int .i64 nn), (19, .int .i64 nn), (20, .bool false)], h, .no⟩)) (fun k hk => ?_) ?_ rfl
  · exact k2
  · have hlt : (k : Int) < (nn : Int) := by omega
    have h1 := rg_add1 (n := k) (by omega)
    have key := rk_loop k nn (by omega) s h fb hfb
    rw [show 4 * (k + 1) = 4 * k + 4 by omega]
    generalize (sort3 (ptsN (4 * k))).map Pt.v = A at *
    generalize (sort3 (ptsN (4 * k + 4))).map Pt.v = B at *
    rw [s_round]
    simp [-getElem?_pos, c_tattlerref14_Order_l2, hlt, key, h1]
  · rw [s_round]
    simp [c_tattlerref14_Order_l2]
section
variable (ps : List Pt) (hps : ps.length ≤ 32) (fr : Int) (h : Heap) (fb : Nat) (hfb : fb ≤ h.length)
include hps hfb
set_option maxHeartbeats 1000000 in
theorem rp_loop (turn : Bool) (t : Nat) (out : List Int) (ho : out.length ≤ 64) (tv : V) (htv : tv.lt h.length = true) :
    loopRun (callL E) loopL fb [5, 10, 11, 13, 100, 101, 104, 105, 106] c_tattlerref14_Order_l3 ⟨[(5, .sl (ps.map Pt.v)), (10, .int .u32 fr), (11, .sl (out.map iV)), (13, .bool turn), (100, tv), (101, .int .i64 t), (104, .sl (ps.map Pt.v)), (105, .int .i64 ps.length), (106, .int .i64 0)], h, .no⟩ =
      some (.exit 8, ⟨[(5, .sl (ps.map Pt.v)), (10, .int .u32 fr), (11, .sl ((pass fr turn out ps).map iV)), (13, .bool turn), (100, tv), (101, .int .i64 t), (104, .sl (ps.map Pt.v)), (105, .int .i64 ps.length), (106, .int .i64 ps.length), (107, .bool false)], h, .no⟩) := by
  have k2 := loop_to (C := callL E) (fb := fb) (live := [5, 10, 11, 13, 100, 101, 104, 105, 106]) (c := c_tattlerref14_Order_l3)
    (fun j => ⟨[(5, .sl (ps.map Pt.v)), (10, .int .u32 fr), (11, .sl ((pass fr turn out (ps.take j)).map iV)), (13, .bool turn), (100, tv), (101, .int .i64 t), (104, .sl (ps.map Pt.v)), (105, .int .i64 ps.length), (106, .int .i64 j)], h, .no⟩) ps.length
    (r := (.exit 8, ⟨[(5, .sl (ps.map Pt.v)), (10, .int .u32 fr), (11, .sl ((pass fr turn out ps).map iV)), (13, .bool turn), (100, tv), (101, .int .i64 t), (104, .sl (ps.map Pt.v)), (105, .int .i64 ps.length), (106, .int .i64 ps.length), (107, .bool false)], h, .no⟩)) (fun j hj => ?_) ?_ rfl
  · exact k2
  · obtain ⟨p, hp, _⟩ := get_of_lt hj
    have h1 := rg_add1 (n := j) (by omega)
    have hlt : (j : Int) < (ps.length : Int) := by omega
    rw [pass_take hp]
    have hol := pass_len fr turn (ps.take j) out
    have htl := List.length_take_le j ps
    generalize pass fr turn out (ps.take j) = o at *
    have hz := sizeOk_iV o
    have gc := fun h => in_eq o (by omega) p.node h
    have hcap : (o.length + 1) * 8 ≤ 140737488355328 := by omega
    have hnf : ¬ h.length < fb := by omega
    rw [s_round]
    unfold take1
    generalize hb0 : decide (fr ≤ p.at') = b0
    cases hb1 : (b0 == turn)
    · simp [-getElem?_pos, c_tattlerref14_Order_l3, hlt, hj, hp, h1, hb1, hb0, hnf, htv]
    · cases hb2 : o.contains p.node
      · have hm : ¬ p.node ∈ o := by simpa using hb2
        simp [-getElem?_pos, c_tattlerref14_Order_l3, hlt, hj, hp, h1, hb1, hb0, gc, hm, hcap, hz, hnf, htv]
      · have hm : p.node ∈ o := by simpa using hb2
        simp [-getElem?_pos, c_tattlerref14_Order_l3, hlt, hj, hp, h1, hb1, hb0, gc, hm, hnf, htv]
  · rw [s_round, List.take_length]
    simp [c_tattlerref14_Order_l3, htv]
end
theorem rt_loop (ps : List Pt) (hps : ps.length ≤ 32) (fr : Int) (h : Heap) (fb : Nat) (hfb : fb ≤ h.length) :
    loopRun (callL E) loopL fb [5, 10, 11, 100, 101] c_tattlerref14_Order_l4 ⟨[(5, .sl (ps.map Pt.v)), (10, .int .u32 fr), (11, .sl []), (100, .agg [.bool true, .bool false]), (101, .int .i64 0)], h, .no⟩ =
      some (.exit 6, ⟨[(5, .sl (ps.map Pt.v)), (10, .int .u32 fr), (11, .sl ((orderL ps fr).map iV)), (100, .agg [.bool true, .bool false]), (101, .int .i64 2), (102, .bool false)], h, .no⟩) := by
  have inner := fun turn (t : Nat) out ho => rp_loop ps hps fr h fb hfb turn t out ho (.agg [.bool true, .bool false]) (by simp)
  have l1 := pass_len fr true ps []
  unfold orderL
  have k2 := loop_to (C := callL E) (fb := fb) (live := [5, 10, 11, 100, 101]) (c := c_tattlerref14_Order_l4)
    (fun j => ⟨[(5, .sl (ps.map Pt.v)), (10, .int .u32 fr), (11, .sl ((match j with | 0 => [] | 1 => pass fr true [] ps | _ => pass fr false (pass fr true [] ps) ps).map iV)), (100, .agg [.bool true, .bool false]), (101, .int .i64 j)], h, .no⟩) 2
    (r := (.exit 6, ⟨[(5, .sl (ps.map Pt.v)), (10, .int .u32 fr), (11, .sl ((pass fr false (pass fr true [] ps) ps).map iV)), (100, .agg [.bool true, .bool false]), (101, .int .i64 2), (102, .bool false)], h, .no⟩)) (fun j hj => ?_) ?_ rfl
  · exact k2
  · have : j = 0 ∨ j = 1 := by omega
    have hl : (ps.map Pt.v).length = ps.length := by simp
    rw [s_round]
    rcases this with rfl | rfl
    · have g := inner true 0 [] (by simp)
      have w1 : IntKind.wrap .i64 1 = 1 := by rw [wrap_i64] <;> omega
      rw [show ((0 : Nat) : Int) = 0 from rfl] at g
      simp only [List.map_nil] at g
      generalize pass fr true [] ps = A at *
      simp [-getElem?_pos, c_tattlerref14_Order_l4, g, w1]
    · have g := inner false 1 (pass fr true [] ps) (by simp only [List.length_nil] at l1; omega)
      have w1 : IntKind.wrap .i64 2 = 2 := by rw [wrap_i64] <;> omega
      rw [show ((1 : Nat) : Int) = 1 from rfl] at g
      generalize pass fr true [] ps = A at *
      generalize pass fr false A ps = B at *
      simp [-getElem?_pos, c_tattlerref14_Order_l4, g, w1]
  · rw [s_round]
    simp [c_tattlerref14_Order_l4]
theorem r14Order_eq (n : Int) (s : List UInt8) (hs : s.length < 4611686018427387904) (h : Heap) : callL E F.tattlerref14_Order [.int .i64 n, .str s] h = some (.sl ((orderN (nodesOf n) s).map iV), h, .no) := by
  refine callL_of rfl fn_tattlerref14_Order ?_
  have hn := nodesOf_le n
  have e : (if 0 < (if 8 < n then 8 else n) then (if 8 < n then 8 else n) else 0) = ((nodesOf n : Nat) : Int) := by
    unfold nodesOf
    (repeat' split) <;> omega
  have k1 := rn_loop (nodesOf n) hn s h h.length (Nat.le_refl _)
  have hps : (sort3 (ptsN (4 * nodesOf n))).length ≤ 32 := by rw [sort3_len, ptsN_len]; omega
  have k2 := rt_loop (sort3 (ptsN (4 * nodesOf n))) hps (place s) h h.length (Nat.le_refl _)
  have g := r1mix_eq (bytesI s) (by simpa [bytesI] using hs) h
  rw [bytesI_map] at g
  unfold orderN
  unfold place at k2 ⊢
  generalize orderL (sort3 (ptsN (4 * nodesOf n))) (mix (bytesI s)) = O at *
  generalize (sort3 (ptsN (4 * nodesOf n))).map Pt.v = A at *
  generalize nodesOf n = m at *
  simp [-getElem?_pos, c_tattlerref14_Order, e, k1, k2, g]
theorem r14Owners_eq (n : Int) (s : List UInt8) (hs : s.length < 4611686018427387904) (c : Int) (h : Heap) : callL E F.tattlerref14_Owners [.int .i64 n, .str s, .int .i64 c] h = some (.sl ((firstN (orderN (nodesOf n) s) c).map iV), h, .no) := by
  refine callL_of rfl fn_tattlerref14_Owners ?_
  have g := r14Order_eq n s hs h
  obtain ⟨m, hm, e1, e2⟩ := firstN_eq (orderN (nodesOf n) s) c
  rw [e1]
  generalize orderN (nodesOf n) s = O at *
  simp [-getElem?_pos, c_tattlerref14_Owners, g, e2, hm]
end Go.Proofs.Ytkkionmmkmhlpaa.V
