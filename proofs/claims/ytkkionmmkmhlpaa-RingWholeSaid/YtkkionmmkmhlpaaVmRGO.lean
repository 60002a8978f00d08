/- What 'sync.Once.Do' of fill, 'ring.Ring.Order', 'Owners' and 'Owns' compute. -/
import Derived.Test.YtkkionmmkmhlpaaVmRGF
import Derived.Test.YtkkionmmkmhlpaaVRO
set_option linter.unusedVariables false
set_option linter.unusedSimpArgs false
namespace Go.Proofs.Ytkkionmmkmhlpaa.W2
open Go.Vm Go.Proofs.Ytkkionmmkmhlpaa.V
open Go.Proofs.Ytkkionmmkmhlpaa.W1 (hget_hset_ne hget_hset)

structure Full (h : Heap) (i n k : Nat) : Prop where
  pos : 0 < n
  le : n ≤ 8
  ring : hget h i = some (rgO n 1 0 1 (.msl k 0 (4 * n) 3))
  lst : hget h k = some (.cells ((sort3 (ptsN (4 * n))).flatMap Pt.c) [])
theorem slow_fill {h : Heap} {i n : Nat} (hi : hget h i = some (rgO n 0 0 0 .nsl)) (h0 : 0 < n) (hn : n ≤ 8) :
    ∃ h', callL E F.sync_Once_doSlow [.ptr (some (i, 1)), .fn F.ring_Ring_fill [.ptr (some (i, 0))] []] h = some (.tup [], h', ⟨[i], [i], false⟩) ∧ h.length < h'.length ∧ (∀ j, j < h.length → j ≠ i → h'[j]? = h[j]?) ∧
      ∃ k, h.length ≤ k ∧ Full h' i n k := by
  have hilt := hget_lt hi
  have hi1 : hget (hset h i (rgO n 0 1 0 .nsl)) i = some (rgO n 0 1 0 .nsl) := hget_hset hilt
  obtain ⟨h1, g, hlen, hfr, k, hk, hring, hcel⟩ := W1.fill_eq hi1 h0 hn
  have hl1 : (hset h i (rgO n 0 1 0 .nsl)).length = h.length := by simp [hset]
  rw [hl1] at hlen hk hfr
  have hil1 : i < h1.length := by omega
  refine ⟨hset h1 i (rgO n 1 0 1 (.msl k 0 (4 * n) 3)), ?_, by simpa [hset] using hlen, fun j hj hji => ?_, k, hk, ⟨h0, hn, hget_hset hil1, ?_⟩⟩
  · refine callL_prim rfl ?_
    have e1 : cellsAt h i = some (rgC n 0 0 0 .nsl, []) := by unfold cellsAt; rw [hi]
    have e2 : cellsAt h1 i = some (rgC n 0 1 1 (.msl k 0 (4 * n) 3), []) := by unfold cellsAt; rw [hring]
    have e3 : W1.E.prim F.ring_Ring_fill = none := rfl
    have e4 : (W1.E.fn F.ring_Ring_fill).isSome = true := rfl
    have g' : callL W1.E F.ring_Ring_fill ([V.ptr (some (i, 0))] ++ []) (hset h i (.cells ((rgC n 0 0 0 .nsl).set 2 (.int .i32 1)) [])) = some (.tup [], h1, ⟨[i], [i], false⟩) := g
    have hw : wrOne h i = ⟨[i], [], false⟩ := by unfold wrOne; rw [decide_eq_true hilt]; rfl
    have hh : ∀ (x y : Vm.Obj), hset (hset h1 i x) i y = hset h1 i y := fun x y => by simp [hset]
    unfold slowP
    simp only [e1, bnd_some, e3, e4, Nat.reduceAdd, isNum, List.getElem?_cons_zero, List.getElem?_cons_succ, decide_true, Bool.and_true, Bool.true_and, List.isEmpty_nil, Option.isNone_none, cnd_true]
    rw [g', bnd_some]
    simp only [e2, Nat.reduceAdd, bnd_some, isNum, List.getElem?_cons_zero, List.getElem?_cons_succ, decide_true, Bool.and_true, Bool.true_and, List.isEmpty_nil, cnd_true, hw, hh]
    simp [Fl.or]
    rfl
  · rw [hset_ne hji, hfr j hj hji, hset_ne hji]
  · rw [hget_hset_ne (by omega)]
    exact hcel
theorem slow_fill0 {h : Heap} {i : Nat} (hi : hget h i = some (rgO 0 0 0 0 .nsl)) :
    callL E F.sync_Once_doSlow [.ptr (some (i, 1)), .fn F.ring_Ring_fill [.ptr (some (i, 0))] []] h = some (.tup [], hset h i (rgO 0 1 0 1 .nsl), ⟨[i], [], false⟩) := by
  have hilt := hget_lt hi
  have hi1 : hget (hset h i (rgO 0 0 1 0 .nsl)) i = some (rgO 0 0 1 0 .nsl) := hget_hset hilt
  have g := W1.fill0_eq hi1
  refine callL_prim rfl ?_
  have hh : ∀ (x y : Vm.Obj), hset (hset h i x) i y = hset h i y := fun x y => by simp [hset]
  rw [hh] at g
  have e1 : cellsAt h i = some (rgC 0 0 0 0 .nsl, []) := by unfold cellsAt; rw [hi]
  have e2 : cellsAt (hset h i (rgO 0 0 1 1 .nsl)) i = some (rgC 0 0 1 1 .nsl, []) := by unfold cellsAt; rw [hget_hset hilt]
  have e4 : (W1.E.fn F.ring_Ring_fill).isSome = true := rfl
  have g' : callL W1.E F.ring_Ring_fill ([V.ptr (some (i, 0))] ++ []) (hset h i (.cells ((rgC 0 0 0 0 .nsl).set 2 (.int .i32 1)) [])) = some (.tup [], hset h i (rgO 0 0 1 1 .nsl), ⟨[i], [], false⟩) := g
  have hw : wrOne h i = ⟨[i], [], false⟩ := by unfold wrOne; rw [decide_eq_true hilt]; rfl
  unfold slowP
  simp only [e1, bnd_some, e4, Nat.reduceAdd, isNum, List.getElem?_cons_zero, List.getElem?_cons_succ, decide_true, Bool.and_true, Bool.true_and, List.isEmpty_nil, Option.isNone_none, cnd_true]
  rw [g', bnd_some]
  simp only [e2, Nat.reduceAdd, bnd_some, isNum, List.getElem?_cons_zero, List.getElem?_cons_succ, decide_true, Bool.and_true, Bool.true_and, List.isEmpty_nil, cnd_true, hw, hh]
  simp [Fl.or]
  rfl
theorem bload_up {h : Heap} {i n : Nat} {d m k : Int} {L : V} (hi : hget h i = some (rgO n d m k L)) : callL E F.sync_atomic_Bool_Load [.ptr (some (i, 1))] h = some (.bool (!(d == 0)), h, .no) := up_sync_atomic_Bool_Load (bload_eq hi)
theorem do_done {h : Heap} {i n : Nat} {m k : Int} {L x : V} (hi : hget h i = some (rgO n 1 m k L)) : callL E F.sync_Once_Do [.ptr (some (i, 1)), x] h = some (.tup [], h, .no) := by
  refine callL_of rfl fn_sync_Once_Do ?_
  have g := bload_up hi
  simp at g
  simp [-getElem?_pos, c_sync_Once_Do, g]
theorem do_fill0 {h : Heap} {i : Nat} (hi : hget h i = some (rgO 0 0 0 0 .nsl)) : callL E F.sync_Once_Do [.ptr (some (i, 1)), .fn F.ring_Ring_fill [.ptr (some (i, 0))] []] h = some (.tup [], hset h i (rgO 0 1 0 1 .nsl), ⟨[i], [], false⟩) := by
  refine callL_of rfl fn_sync_Once_Do ?_
  have g := bload_up hi
  have g2 := slow_fill0 hi
  have hilt := hget_lt hi
  simp at g
  simp [-getElem?_pos, c_sync_Once_Do, g, g2, hilt]
theorem do_fill {h : Heap} {i n : Nat} (hi : hget h i = some (rgO n 0 0 0 .nsl)) (h0 : 0 < n) (hn : n ≤ 8) :
    ∃ h', callL E F.sync_Once_Do [.ptr (some (i, 1)), .fn F.ring_Ring_fill [.ptr (some (i, 0))] []] h = some (.tup [], h', ⟨[i], [i], false⟩) ∧ h.length < h'.length ∧ (∀ j, j < h.length → j ≠ i → h'[j]? = h[j]?) ∧
      ∃ k, h.length ≤ k ∧ Full h' i n k := by
  obtain ⟨h', g2, hlen, hfr, k, hk, hfull⟩ := slow_fill hi h0 hn
  refine ⟨h', callL_of rfl fn_sync_Once_Do ?_, hlen, hfr, k, hk, hfull⟩
  have g := bload_up hi
  have hilt := hget_lt hi
  have hring := hfull.ring
  have hkn : ¬ k < h.length := by omega
  have hiN : ¬ h.length ≤ i := by omega
  simp at g
  simp [-getElem?_pos, c_sync_Once_Do, g, g2, hilt, hring, hkn, hiN]
theorem place_up (s : List UInt8) (hs : s.length < 4611686018427387904) (h : Heap) : callL E F.keys_Place [.str s] h = some (.int .u32 (place s), h, .no) := up_keys_Place (place_eq s hs h)
theorem contains_up (l : List Int) (hl : l.length ≤ 4611686018427387904) (x : Int) (h : Heap) : callL E F.slices_Contains_int_int [.sl (l.map iV), iV x] h = some (.bool (l.contains x), h, .no) := up_slices_Contains_int_int (contains_eq l hl x h)

section
variable {H : Heap} {i k : Nat} {ps : List Pt} (hk : hget H k = some (.cells (ps.flatMap Pt.c) [])) (hps : ps.length ≤ 32) (fr : Int) (wl el : List Nat) (fb : Nat) (hfb : fb ≤ H.length) (hiH : i < H.length)
include hk hps hfb hiH
set_option maxHeartbeats 1000000 in
theorem order_inner (turn : Bool) (t : Nat) (out : List Int) (ho : out.length ≤ 64) :
    loopRun (callL E) loopL fb [0, 5, 6, 8, 21, 22, 23, 30, 31, 32] c_ring_Ring_Order_l0 ⟨[(0, .ptr (some (i, 0))), (5, .int .u32 fr), (6, .sl (out.map iV)), (8, .bool turn), (21, .sl [.bool true, .bool false]), (22, .int .i64 2), (23, .int .i64 t), (30, .msl k 0 ps.length 3), (31, .int .i64 ps.length), (32, .int .i64 0)], H, ⟨wl, el, false⟩⟩ =
      some (.exit 2, ⟨[(0, .ptr (some (i, 0))), (5, .int .u32 fr), (6, .sl ((pass fr turn out ps).map iV)), (8, .bool turn), (21, .sl [.bool true, .bool false]), (22, .int .i64 2), (23, .int .i64 t), (30, .msl k 0 ps.length 3), (31, .int .i64 ps.length), (32, .int .i64 ps.length), (33, .bool false)], H, ⟨wl, el, false⟩⟩) := by
  have k2 := loop_to (C := callL E) (fb := fb) (live := [0, 5, 6, 8, 21, 22, 23, 30, 31, 32]) (c := c_ring_Ring_Order_l0)
    (fun j => ⟨[(0, .ptr (some (i, 0))), (5, .int .u32 fr), (6, .sl ((pass fr turn out (ps.take j)).map iV)), (8, .bool turn), (21, .sl [.bool true, .bool false]), (22, .int .i64 2), (23, .int .i64 t), (30, .msl k 0 ps.length 3), (31, .int .i64 ps.length), (32, .int .i64 j)], H, ⟨wl, el, false⟩⟩) ps.length
    (r := (.exit 2, ⟨[(0, .ptr (some (i, 0))), (5, .int .u32 fr), (6, .sl ((pass fr turn out ps).map iV)), (8, .bool turn), (21, .sl [.bool true, .bool false]), (22, .int .i64 2), (23, .int .i64 t), (30, .msl k 0 ps.length 3), (31, .int .i64 ps.length), (32, .int .i64 ps.length), (33, .bool false)], H, ⟨wl, el, false⟩⟩)) (fun j hj => ?_) ?_ rfl
  · exact k2
  · obtain ⟨p, hp, _⟩ := get_of_lt hj
    have h1 := rg_add1 (n := j) (by omega)
    have hlt : (j : Int) < (ps.length : Int) := by omega
    have hld := load_pt hk hp
    have hcl := ptc_len ps
    have hkl := hget_lt hk
    rw [pass_take hp]
    have hol := pass_len fr turn (ps.take j) out
    have htl := List.length_take_le j ps
    generalize pass fr turn out (ps.take j) = o at *
    have hz := sizeOk_iV o
    have gc := fun h => contains_up o (by omega) p.node h
    have hcap : (o.length + 1) * 8 ≤ 140737488355328 := by omega
    have hkH : hget (H ++ [.cells p.c []]) k = some (.cells (ps.flatMap Pt.c) []) := by rw [W1.hget_app hkl]; exact hk
    have hidx : j * 3 + 3 ≤ (ps.flatMap Pt.c).length := by rw [hcl]; omega
    rw [s_round]
    unfold take1
    generalize ps.flatMap Pt.c = C at *
    generalize hb0 : decide (fr ≤ p.at') = b0
    have hnf : ¬ H.length < fb := by omega
    cases hb1 : (b0 == turn)
    · simp [-getElem?_pos, c_ring_Ring_Order_l0, hlt, hj, h1, hk, hld, hb1, hb0, hidx, hkl, hiH, hnf]
    · cases hb2 : o.contains p.node
      · have hm : ¬ p.node ∈ o := by simpa using hb2
        simp [-getElem?_pos, c_ring_Ring_Order_l0, hlt, hj, h1, hk, hld, hb1, hb0, gc, hm, hcap, hz, hidx, hkl, hiH, hnf]
      · have hm : p.node ∈ o := by simpa using hb2
        simp [-getElem?_pos, c_ring_Ring_Order_l0, hlt, hj, h1, hk, hld, hb1, hb0, gc, hm, hidx, hkl, hiH, hnf]
  · rw [s_round, List.take_length]
    simp [c_ring_Ring_Order_l0]
end
section
variable {H : Heap} {i k n : Nat} (hF : Full H i n k) (fr : Int) (wl el : List Nat) (fb : Nat) (hfb : fb ≤ H.length)
include hF hfb
theorem order_outer :
    loopRun (callL E) loopL fb [0, 5, 6, 21, 22, 23] c_ring_Ring_Order_l1 ⟨[(0, .ptr (some (i, 0))), (5, .int .u32 fr), (6, .sl []), (21, .sl [.bool true, .bool false]), (22, .int .i64 2), (23, .int .i64 0)], H, ⟨wl, el, false⟩⟩ =
      some (.exit 0, ⟨[(0, .ptr (some (i, 0))), (5, .int .u32 fr), (6, .sl ((orderL (sort3 (ptsN (4 * n))) fr).map iV)), (21, .sl [.bool true, .bool false]), (22, .int .i64 2), (23, .int .i64 2), (24, .bool false)], H, ⟨wl, el, false⟩⟩) := by
  have hiH := hget_lt hF.ring
  have hkl := hget_lt hF.lst
  have hring := hF.ring
  have hlen : (sort3 (ptsN (4 * n))).length = 4 * n := by rw [sort3_len, ptsN_len]
  have hle := hF.le
  have hlst := hF.lst
  have hm : 4 * n ≤ 32 := by omega
  unfold orderL
  clear hF
  generalize sort3 (ptsN (4 * n)) = ps at *
  generalize 4 * n = m at *
  have inner := fun turn (t : Nat) out ho => order_inner (i := i) hlst (by omega) fr wl [] fb hfb hiH turn t out ho
  have l1 := pass_len fr true ps []
  have l2 := pass_len fr false ps (pass fr true [] ps)
  have k2 := loop_to (C := callL E) (fb := fb) (live := [0, 5, 6, 21, 22, 23]) (c := c_ring_Ring_Order_l1)
    (fun j => ⟨[(0, .ptr (some (i, 0))), (5, .int .u32 fr), (6, .sl ((match j with | 0 => [] | 1 => pass fr true [] ps | _ => pass fr false (pass fr true [] ps) ps).map iV)), (21, .sl [.bool true, .bool false]), (22, .int .i64 2), (23, .int .i64 j)], H, ⟨wl, el, false⟩⟩) 2
    (r := (.exit 0, ⟨[(0, .ptr (some (i, 0))), (5, .int .u32 fr), (6, .sl ((pass fr false (pass fr true [] ps) ps).map iV)), (21, .sl [.bool true, .bool false]), (22, .int .i64 2), (23, .int .i64 2), (24, .bool false)], H, ⟨wl, el, false⟩⟩)) (fun j hj => ?_) ?_ rfl
  · exact k2
  · have : j = 0 ∨ j = 1 := by omega
    rw [s_round]
    rcases this with rfl | rfl
    · have g := inner true 0 [] (by simp)
      have w1 : IntKind.wrap .i64 1 = 1 := by rw [wrap_i64] <;> omega
      rw [hlen, show ((0 : Nat) : Int) = 0 from rfl] at g
      simp only [List.map_nil] at g
      generalize pass fr true [] ps = A at *
      simp [-getElem?_pos, c_ring_Ring_Order_l1, hring, g, w1, hiH, hkl]
    · have g := inner false 1 (pass fr true [] ps) (by simp only [List.length_nil] at l1; omega)
      have w1 : IntKind.wrap .i64 2 = 2 := by rw [wrap_i64] <;> omega
      rw [hlen, show ((1 : Nat) : Int) = 1 from rfl] at g
      generalize pass fr true [] ps = A at *
      generalize pass fr false A ps = B at *
      simp [-getElem?_pos, c_ring_Ring_Order_l1, hring, g, w1, hiH, hkl]
  · rw [s_round]
    simp [c_ring_Ring_Order_l1]
end
def Rung (h : Heap) (i n : Nat) : Prop := (n = 0 ∧ hget h i = some (rgO 0 1 0 1 .nsl)) ∨ ∃ k, Full h i n k
theorem order_in0 {H : Heap} {i : Nat} (hiH : i < H.length) (fr : Int) (wl : List Nat) (fb : Nat) (turn : Bool) (t : Nat) :
    loopRun (callL E) loopL fb [0, 5, 6, 8, 21, 22, 23, 30, 31, 32] c_ring_Ring_Order_l0 ⟨[(0, .ptr (some (i, 0))), (5, .int .u32 fr), (6, .sl []), (8, .bool turn), (21, .sl [.bool true, .bool false]), (22, .int .i64 2), (23, .int .i64 t), (30, .nsl), (31, .int .i64 0), (32, .int .i64 0)], H, ⟨wl, [], false⟩⟩ =
      some (.exit 2, ⟨[(0, .ptr (some (i, 0))), (5, .int .u32 fr), (6, .sl []), (8, .bool turn), (21, .sl [.bool true, .bool false]), (22, .int .i64 2), (23, .int .i64 t), (30, .nsl), (31, .int .i64 0), (32, .int .i64 0), (33, .bool false)], H, ⟨wl, [], false⟩⟩) := by
  refine loop_exit ?_
  rw [s_round]
  simp [c_ring_Ring_Order_l0]
end Go.Proofs.Ytkkionmmkmhlpaa.W2
