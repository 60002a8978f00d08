/- What 'ring.Ring.fill' computes. -/
import Derived.Test.YtkkionmmkmhlpaaVmRGE
import Derived.Test.YtkkionmmkmhlpaaVRF
set_option linter.unusedVariables false
set_option linter.unusedSimpArgs false
namespace Go.Proofs.Ytkkionmmkmhlpaa.W1
open Go.Vm Go.Proofs.Ytkkionmmkmhlpaa.V

theorem hget_lt {H : Heap} {k : Nat} {o : Vm.Obj} (hk : hget H k = some o) : k < H.length := by
  unfold hget at hk
  exact (List.getElem?_eq_some_iff.1 hk).1
theorem hget_app {H H' : Heap} {k : Nat} (hk : k < H.length) : hget (H ++ H') k = hget H k := by
  unfold hget
  rw [List.getElem?_append_left hk]
theorem hget_hset_ne {H : Heap} {i k : Nat} {o : Vm.Obj} (h : k ≠ i) : hget (hset H i o) k = hget H k := by
  unfold hget
  exact hset_ne h
theorem hget_hset {H : Heap} {i : Nat} {o : Vm.Obj} (h : i < H.length) : hget (hset H i o) i = some o := by
  unfold hget
  exact hset_at h
section
variable (h : Heap) (i n : Nat)
noncomputable def fH : Nat → Heap × V
  | 0 => (h, .nsl)
  | t + 1 => (hset (mkill (fH t).1 (fH t).2 ++ [.cells ((ptsN (t + 1)).flatMap Pt.c) []]) i (rgO n 0 1 0 (.msl (fH t).1.length 0 (t + 1) 3)), .msl (fH t).1.length 0 (t + 1) 3)
structure FAt (t : Nat) : Prop where
  len : (fH h i n t).1.length = h.length + t
  ring : hget (fH h i n t).1 i = some (rgO n 0 1 0 (fH h i n t).2)
  lst : (t = 0 ∧ (fH h i n t).2 = .nsl) ∨ (0 < t ∧ (fH h i n t).2 = .msl (h.length + t - 1) 0 t 3 ∧ hget (fH h i n t).1 (h.length + t - 1) = some (.cells ((ptsN t).flatMap Pt.c) []))
  fr : ∀ j, j < h.length → j ≠ i → (fH h i n t).1[j]? = h[j]?
theorem fat (hi : hget h i = some (rgO n 0 1 0 .nsl)) : ∀ t, FAt h i n t
  | 0 => ⟨rfl, hi, .inl ⟨rfl, rfl⟩, fun _ _ _ => rfl⟩
  | t + 1 => by
    have ih := fat hi t
    have hilt := hget_lt hi
    have hkl : (mkill (fH h i n t).1 (fH h i n t).2).length = h.length + t := by
      rcases ih.lst with ⟨_, e⟩ | ⟨_, e, _⟩ <;> rw [e] <;> simp [mkill, hset, ih.len]
    have hmk : ∀ j, j < h.length → (mkill (fH h i n t).1 (fH h i n t).2)[j]? = (fH h i n t).1[j]? := fun j hj => by
      rcases ih.lst with ⟨_, e⟩ | ⟨_, e, _⟩ <;> rw [e]
      · rfl
      · exact hset_ne (by omega)
    have hl2 : (mkill (fH h i n t).1 (fH h i n t).2 ++ [Vm.Obj.cells ((ptsN (t + 1)).flatMap Pt.c) []]).length = h.length + t + 1 := by simp [hkl]
    refine ⟨?_, ?_, .inr ⟨by omega, ?_, ?_⟩, fun j hj hji => ?_⟩
    · simp only [fH, hset, List.length_set]; rw [hl2]; omega
    · exact hget_hset (by rw [hl2]; omega)
    · simp only [fH, ih.len]; congr 1
    · simp only [fH]
      rw [hget_hset_ne (by omega)]
      unfold hget
      rw [List.getElem?_append_right (by omega)]
      simp [hkl]
    · simp only [fH]
      rw [hset_ne hji, List.getElem?_append_left (by omega), hmk j hj]
      exact ih.fr j hj hji
end
theorem ptsC_len (t : Nat) : ((ptsN t).flatMap Pt.c).length = t * 3 := by rw [ptc_len, ptsN_len]
theorem fH_ms {h : Heap} {i n t : Nat} (f : FAt h i n t) : msize 3 (fH h i n t).2 = true := by
  rcases f.lst with ⟨_, e⟩ | ⟨_, e, _⟩ <;> rw [e] <;> simp [msize]
theorem fH_mc {h : Heap} {i n t : Nat} (f : FAt h i n t) : mcells (fH h i n t).1 (fH h i n t).2 = some ((ptsN t).flatMap Pt.c, t) := by
  rcases f.lst with ⟨rfl, e⟩ | ⟨_, e, hk⟩
  · rw [e]; rfl
  · rw [e]
    have hl := ptsC_len t
    simp only [mcells, hk]
    rw [decide_eq_true (by rw [hl]; omega), cnd_true, List.drop_zero, List.take_of_length_le (by rw [hl]; exact Nat.le_refl _)]
theorem fH_al {h : Heap} {i n t : Nat} (f : FAt h i n t) : (!misnil (fH h i n t).2 && decide (mobj (fH h i n t).2 < h.length)) = false := by
  rcases f.lst with ⟨_, e⟩ | ⟨_, e, _⟩ <;> rw [e]
  · rfl
  · have : ¬ h.length + t - 1 < h.length := by omega
    simp [misnil, mobj, this]
structure RFl (i : Nat) (f : Fl) : Prop where
  wr : addE f.wr [i] = [i]
  esc : addE f.esc [i] = [i]
  all : f.all = false
theorem RFl.no {i : Nat} : RFl i .no := ⟨by simp, by simp, rfl⟩
theorem RFl.all' {i : Nat} : RFl i ⟨[i], [i], false⟩ := ⟨by simp, by simp, rfl⟩
theorem RFl.cut {i : Nat} {f : Fl} (h : RFl i f) : RFl i ⟨f.wr, [], f.all⟩ := ⟨h.wr, by simp, h.all⟩
def fF (i t : Nat) : Fl := ⟨cnd (decide (0 < t)) [i] [], cnd (decide (0 < t)) [i] [], false⟩
theorem fF_ok (i t : Nat) : RFl i (fF i t) := by unfold fF; cases decide (0 < t) <;> exact ⟨by simp, by simp, rfl⟩
theorem point_up (a b : Nat) (h : Heap) : callL E F.keys_Point [.int .i64 a, .int .i64 b] h = some (.int .u32 (point a b), h, .no) := up_keys_Point (kPoint_eq a b h)
set_option maxHeartbeats 1000000 in
theorem fill_step {h : Heap} {i n : Nat} (hi : hget h i = some (rgO n 0 1 0 .nsl)) (node k lb : Nat) (hk : k < 4) (hlb : lb ≤ h.length) (hn : node < 8) {f0 : Fl} (hf0 : RFl i f0) :
    roundV (callL E) loopL h.length [0, 2, 7, 8, 11] c_ring_Ring_fill_l0 ⟨[(0, .ptr (some (i, 0))), (2, .int .i64 node), (7, .int .i64 n), (8, .int .i64 node), (11, .int .i64 k)], (fH h i n (4 * node + k)).1, f0⟩ =
      some (.normal, ⟨[(0, .ptr (some (i, 0))), (2, .int .i64 node), (7, .int .i64 n), (8, .int .i64 node), (11, .int .i64 (k + 1 : Nat))], (fH h i n (4 * node + k + 1)).1, ⟨[i], [i], false⟩⟩) := by
  have f := fat h i n hi (4 * node + k)
  have hilt := hget_lt hi
  have hms := fH_ms f
  have hmc := fH_mc f
  have hal := fH_al f
  have hring := f.ring
  have hlen := f.len
  have e4 : (4 * node + k) / 4 = node := by omega
  have e5 : (4 * node + k) % 4 = k := by omega
  have hH : (fH h i n (4 * node + k + 1)).1 = hset (mkill (fH h i n (4 * node + k)).1 (fH h i n (4 * node + k)).2 ++ [.cells ((ptsN (4 * node + k)).flatMap Pt.c ++ [.int .u32 (point node k), .int .i64 node, .int .i64 k]) []]) i (rgO n 0 1 0 (.msl (fH h i n (4 * node + k)).1.length 0 (4 * node + k + 1) 3)) := by
    have e : (ptsN (4 * node + k + 1)).flatMap Pt.c = (ptsN (4 * node + k)).flatMap Pt.c ++ [.int .u32 (point node k), .int .i64 node, .int .i64 k] := by
      rw [ptsN_succ, List.flatMap_append]
      simp [ptN, e4, e5]
    simp only [fH]
    rw [e]
  have hmki : hget (mkill (fH h i n (4 * node + k)).1 (fH h i n (4 * node + k)).2 ++ [.cells ((ptsN (4 * node + k)).flatMap Pt.c ++ [.int .u32 (point node k), .int .i64 node, .int .i64 k]) []]) i = some (rgO n 0 1 0 (fH h i n (4 * node + k)).2) := by
    rcases f.lst with ⟨_, e⟩ | ⟨h0, e, _⟩
    · have e2 : mkill (fH h i n (4 * node + k)).1 (fH h i n (4 * node + k)).2 = (fH h i n (4 * node + k)).1 := by rw [e]; rfl
      rw [e2, hget_app (by omega)]
      exact hring
    · have e2 : mkill (fH h i n (4 * node + k)).1 (fH h i n (4 * node + k)).2 = hset (fH h i n (4 * node + k)).1 (h.length + (4 * node + k) - 1) .dead := by rw [e]; rfl
      rw [e2, hget_app (by simp only [hset, List.length_set]; omega), hget_hset_ne (by omega)]
      exact hring
  rw [hH]
  generalize ht : 4 * node + k = t at *
  have h1 := rg_add1 (n := k) (by omega)
  have gp := fun H => point_up node k H
  have hk' : (k : Int) < 4 := by omega
  have hcap : (t + 1) * 24 ≤ 140737488355328 := by omega
  generalize (fH h i n t).2 = lst at *
  generalize (fH h i n t).1 = H at *
  generalize (ptsN t).flatMap Pt.c = C at *
  have hsi : ∀ o : Vm.Obj, hget (hset (mkill H lst ++ [.cells (C ++ [.int .u32 (point node k), .int .i64 node, .int .i64 k]) []]) i o) i = some o := fun o => hget_hset (hget_lt hmki)
  have ha1 := hf0.wr
  have ha2 := hf0.esc
  have ha3 := hf0.all
  have hiH : i < H.length := by omega
  have hiN : ¬ H.length ≤ i := by omega
  rw [s_round]
  simp [-getElem?_pos, c_ring_Ring_fill_l0, hk', hring, gp, hms, hmc, hmki, h1, hcap, hal, hsi, ha1, ha2, ha3, hiH, hilt, hiN]
theorem fill_inner {h : Heap} {i n : Nat} (hi : hget h i = some (rgO n 0 1 0 .nsl)) (node : Nat) (hn : node < 8) {f0 : Fl} (hf0 : RFl i f0) :
    loopRun (callL E) loopL h.length [0, 2, 7, 8, 11] c_ring_Ring_fill_l0 ⟨[(0, .ptr (some (i, 0))), (2, .int .i64 node), (7, .int .i64 n), (8, .int .i64 node), (11, .int .i64 0)], (fH h i n (4 * node)).1, f0⟩ =
      some (.exit 2, ⟨[(0, .ptr (some (i, 0))), (2, .int .i64 node), (7, .int .i64 n), (8, .int .i64 node), (11, .int .i64 4), (12, .bool false)], (fH h i n (4 * node + 4)).1, ⟨[i], [i], false⟩⟩) := by
  have k2 := loop_to (C := callL E) (fb := h.length) (live := [0, 2, 7, 8, 11]) (c := c_ring_Ring_fill_l0)
    (fun k => ⟨[(0, .ptr (some (i, 0))), (2, .int .i64 node), (7, .int .i64 n), (8, .int .i64 node), (11, .int .i64 k)], (fH h i n (4 * node + k)).1, cnd (decide (k = 0)) f0 ⟨[i], [i], false⟩⟩) 4
    (r := (.exit 2, ⟨[(0, .ptr (some (i, 0))), (2, .int .i64 node), (7, .int .i64 n), (8, .int .i64 node), (11, .int .i64 4), (12, .bool false)], (fH h i n (4 * node + 4)).1, ⟨[i], [i], false⟩⟩)) (fun k hk => ?_) ?_ rfl
  · exact k2
  · refine fill_step hi node k h.length hk (Nat.le_refl _) hn ?_
    cases decide (k = 0)
    · exact .all'
    · exact hf0
  · rw [s_round]
    simp [c_ring_Ring_fill_l0]
theorem fill_outer {h : Heap} {i n : Nat} (hi : hget h i = some (rgO n 0 1 0 .nsl)) (hn : n ≤ 8) :
    loopRun (callL E) loopL h.length [0, 7, 8] c_ring_Ring_fill_l1 ⟨[(0, .ptr (some (i, 0))), (7, .int .i64 n), (8, .int .i64 0)], h, .no⟩ =
      some (.exit 0, ⟨[(0, .ptr (some (i, 0))), (7, .int .i64 n), (8, .int .i64 n), (9, .bool false)], (fH h i n (4 * n)).1, fF i (4 * n)⟩) := by
  have k2 := loop_to (C := callL E) (fb := h.length) (live := [0, 7, 8]) (c := c_ring_Ring_fill_l1)
    (fun k => ⟨[(0, .ptr (some (i, 0))), (7, .int .i64 n), (8, .int .i64 k)], (fH h i n (4 * k)).1, fF i (4 * k)⟩) n
    (r := (.exit 0, ⟨[(0, .ptr (some (i, 0))), (7, .int .i64 n), (8, .int .i64 n), (9, .bool false)], (fH h i n (4 * n)).1, fF i (4 * n)⟩)) (fun k hk => ?_) ?_ rfl
  · exact k2
  · have hlt : (k : Int) < (n : Int) := by omega
    have h1 := rg_add1 (n := k) (by omega)
    have key := fill_inner hi k (by omega) (fF_ok i (4 * k)).cut
    have f := fat h i n hi (4 * k + 4)
    have f0 := fat h i n hi (4 * k)
    have hring := f.ring
    have hl0 := f0.len
    have hl4 := f.len
    have hilt := hget_lt hi
    rw [show 4 * (k + 1) = 4 * k + 4 by omega]
    have hesc : fF i (4 * k + 4) = ⟨[i], [i], false⟩ := by simp [fF]
    have hlst : (fH h i n (4 * k + 4)).2 = .msl (h.length + (4 * k + 4) - 1) 0 (4 * k + 4) 3 := by
      rcases f.lst with ⟨e, _⟩ | ⟨_, e, _⟩
      · omega
      · exact e
    rw [hlst] at hring
    have ha1 := (fF_ok i (4 * k)).wr
    have ha2 := (fF_ok i (4 * k)).esc
    have ha3 := (fF_ok i (4 * k)).all
    rw [ha3] at key
    have hiH : i < (fH h i n (4 * k)).1.length := by omega
    have hiN : ¬ (fH h i n (4 * k)).1.length ≤ i := by omega
    have hkH : ¬ h.length + (4 * k + 3) < (fH h i n (4 * k)).1.length := by omega
    have hle : (fH h i n (4 * k)).1.length ≤ (fH h i n (4 * k + 4)).1.length := by omega
    rw [hesc]
    generalize (fH h i n (4 * k)).1 = H at *
    generalize (fH h i n (4 * k + 4)).1 = H4 at *
    rw [s_round]
    simp [-getElem?_pos, c_ring_Ring_fill_l1, hlt, ha3, key, h1, hring, ha1, ha2, hiH, hiN, hilt, hkH]
  · rw [s_round]
    simp [c_ring_Ring_fill_l1]
theorem sortF_eq {H : Heap} {k t : Nat} {ps : List Pt} (hk : hget H k = some (.cells (ps.flatMap Pt.c) [])) (ht : ps.length = t) (h1 : t ≤ 1000) :
    callL E F.slices_SortFunc_ring_point_ring_point [.msl k 0 t 3, .fn F.ring_Ring_fill_c1 [] []] H = some (.tup [], hset H k (.cells ((sort3 ps).flatMap Pt.c) []), wrOne H k) := by
  refine callL_prim rfl ?_
  subst ht
  have hl := ptc_len ps
  have ho := ptsOf_flat ps
  have hc : cellsAt H k = some (ps.flatMap Pt.c, []) := by unfold cellsAt; rw [hk]
  unfold sort3P
  simp only [hc, bnd_some, ho, hl, List.isEmpty_nil, decide_true, Bool.and_true, Bool.true_and, cnd_true, h1]
theorem sortF_nil (H : Heap) : callL E F.slices_SortFunc_ring_point_ring_point [.nsl, .fn F.ring_Ring_fill_c1 [] []] H = some (.tup [], H, .no) := callL_prim rfl rfl
theorem add_up {H : Heap} {i n : Nat} {L : V} (hi : hget H i = some (rgO n 0 1 0 L)) : callL E F.sync_atomic_Int32_Add [.ptr (some (i, 4)), .int .i32 1] H = some (.int .i32 1, hset H i (rgO n 0 1 1 L), ⟨[i], [], false⟩) := by
  refine up_sync_atomic_Int32_Add ?_
  refine callL_of rfl fn_sync_atomic_Int32_Add ?_
  have hilt := hget_lt hi
  have hc : cellsAt H i = some (rgC n 0 1 0 L, []) := by unfold cellsAt; rw [hi]
  have g : callL V.E V.F.sync_atomic_AddInt32 [.ptr (some (i, 4)), .int .i32 1] H = some (.int .i32 1, hset H i (rgO n 0 1 1 L), ⟨[i], [], false⟩) := by
    refine callL_prim rfl ?_
    unfold aaddP
    simp [hi, isNum, wrOne, hilt]
  simp [-getElem?_pos, V.c_sync_atomic_Int32_Add, g, hilt]
theorem fill0_eq {h : Heap} {i : Nat} (hi : hget h i = some (rgO 0 0 1 0 .nsl)) : callL E F.ring_Ring_fill [.ptr (some (i, 0))] h = some (.tup [], hset h i (rgO 0 0 1 1 .nsl), ⟨[i], [], false⟩) := by
  refine callL_of rfl fn_ring_Ring_fill ?_
  have key := fill_outer hi (by omega)
  have hf : fF i (4 * 0) = .no := by simp [fF]
  rw [hf] at key
  have e0 : (fH h i 0 (4 * 0)).1 = h := rfl
  rw [e0, show ((0 : Nat) : Int) = 0 from rfl] at key
  have g1 := sortF_nil h
  have g2 := add_up hi
  have hilt := hget_lt hi
  simp [-getElem?_pos, c_ring_Ring_fill, hi, key, g1, g2, hilt]
theorem fill_eq {h : Heap} {i n : Nat} (hi : hget h i = some (rgO n 0 1 0 .nsl)) (h0 : 0 < n) (hn : n ≤ 8) :
    ∃ h', callL E F.ring_Ring_fill [.ptr (some (i, 0))] h = some (.tup [], h', ⟨[i], [i], false⟩) ∧ h.length < h'.length ∧ (∀ j, j < h.length → j ≠ i → h'[j]? = h[j]?) ∧
      ∃ k, h.length ≤ k ∧ hget h' i = some (rgO n 0 1 1 (.msl k 0 (4 * n) 3)) ∧ hget h' k = some (.cells ((sort3 (ptsN (4 * n))).flatMap Pt.c) []) := by
  have key := fill_outer hi hn
  have f := fat h i n hi (4 * n)
  have hilt := hget_lt hi
  have hlst : (fH h i n (4 * n)).2 = .msl (h.length + 4 * n - 1) 0 (4 * n) 3 := by
    rcases f.lst with ⟨e, _⟩ | ⟨_, e, _⟩
    · omega
    · exact e
  have hcel : hget (fH h i n (4 * n)).1 (h.length + 4 * n - 1) = some (.cells ((ptsN (4 * n)).flatMap Pt.c) []) := by
    rcases f.lst with ⟨e, _⟩ | ⟨_, _, e⟩
    · omega
    · exact e
  have hring := f.ring
  rw [hlst] at hring
  have hlen := f.len
  have hfr := f.fr
  have hesc : fF i (4 * n) = ⟨[i], [i], false⟩ := by simp [fF, h0]
  rw [hesc] at key
  have hKe : h.length + 4 * n - 1 = h.length + (4 * n - 1) := by omega
  rw [hKe] at hring hcel
  generalize hK : h.length + (4 * n - 1) = K at *
  have hKi : K ≠ i := by omega
  have hKl : K < (fH h i n (4 * n)).1.length := hget_lt hcel
  have hge : h.length ≤ K := by omega
  generalize (fH h i n (4 * n)).1 = H at *
  have g1 := sortF_eq (t := 4 * n) hcel (ptsN_len _) (by omega)
  have hi2 : hget (hset H K (.cells ((sort3 (ptsN (4 * n))).flatMap Pt.c) [])) i = some (rgO n 0 1 0 (.msl K 0 (4 * n) 3)) := by rw [hget_hset_ne (Ne.symm hKi)]; exact hring
  have g2 := add_up hi2
  have hw : wrOne H K = ⟨[K], [], false⟩ := by unfold wrOne; rw [decide_eq_true hKl]; rfl
  rw [hw] at g1
  have hKn : ¬ K < h.length := by omega
  have hiH : i < H.length := by omega
  refine ⟨hset (hset H K (.cells ((sort3 (ptsN (4 * n))).flatMap Pt.c) [])) i (rgO n 0 1 1 (.msl K 0 (4 * n) 3)), ?_, by simp only [hset, List.length_set]; omega, fun j hj hji => ?_, K, hge, hget_hset (by simp only [hset, List.length_set]; omega), ?_⟩
  · refine callL_of rfl fn_ring_Ring_fill ?_
    have hsi : ∀ (C : List V) (o : Vm.Obj), hget (hset (hset H K (.cells C [])) i o) i = some o := fun C o => hget_hset (by simp only [hset, List.length_set]; omega)
    have hiN : ¬ h.length ≤ i := by omega
    generalize (sort3 (ptsN (4 * n))).flatMap Pt.c = C at *
    simp [-getElem?_pos, c_ring_Ring_fill, hi, key, hring, g1, g2, hilt, hKn, hi2, hsi, hiN]
  · rw [hset_ne hji, hset_ne (by omega)]
    exact hfr j hj hji
  · rw [hget_hset_ne hKi]
    exact hget_hset hKl
end Go.Proofs.Ytkkionmmkmhlpaa.W1
