/- What 'tattlerref5.Hints.Put' computes. -/
import Derived.Test.YthkfjefoblmbhaaVmHP
set_option linter.unusedVariables false
set_option linter.unusedSimpArgs false
namespace Go.Proofs.Ythkfjefoblmbhaa.V
open Go.Vm

theorem r5Put_bad {h : Heap} {i : Nat} (x : Hnt) (hx : mayH x = false) : callL E F.tattlerref5_Hints_Put [.ptr (some (i, 0)), x.v] h = some (.tup [.bool false, .int .i64 1], h, .no) := by
  refine callL_of rfl fn_tattlerref5_Hints_Put ?_
  have g := fun l => r5MayEntry_eq x.ent (h ++ l)
  unfold mayH at hx
  by_cases h0 : 0 ≤ x.node
  · by_cases h8 : x.node < 8
    · rw [decide_eq_true h0, decide_eq_true h8] at hx
      simp only [Bool.true_and] at hx
      rw [hx] at g
      have e1 : ¬ x.node < 0 := by omega
      have e2 : ¬ 8 ≤ x.node := by omega
      simp [-getElem?_pos, c_tattlerref5_Hints_Put, e1, e2, g]
    · have e1 : ¬ x.node < 0 := by omega
      have e2 : 8 ≤ x.node := by omega
      simp [-getElem?_pos, c_tattlerref5_Hints_Put, e1, e2]
  · have e1 : x.node < 0 := by omega
    simp [-getElem?_pos, c_tattlerref5_Hints_Put, e1]
section
variable {h : Heap} {i : Nat} {l : List Hnt} (hi : hget h i = some (rsO l)) (hl : l.length ≤ 64) (x : Hnt) (hx : mayH x = true)
include hi hl hx
theorem r5Put_full (hidx : idxH l x.node x.key = -1) (h64 : l.length = 64) : callL E F.tattlerref5_Hints_Put [.ptr (some (i, 0)), x.v] h = some (.tup [.bool false, .int .i64 11], h, .no) := by
  refine callL_of rfl fn_tattlerref5_Hints_Put ?_
  have hlt := hget_lt hi
  unfold mayH at hx
  simp only [Bool.and_eq_true, decide_eq_true_eq] at hx
  obtain ⟨h0, h8, hm⟩ := hx
  have e1 : ¬ x.node < 0 := by omega
  have e2 : ¬ 8 ≤ x.node := by omega
  have g := fun l => r5MayEntry_eq x.ent (h ++ l)
  rw [hm] at g
  have hg : ∀ L, hget (h ++ L) i = some (.cells [.sl (l.map Hnt.v)] []) := fun L => by rw [hget_app hlt]; exact hi
  have ga := at_eq (h := h ++ [.cells x.c []]) (i := i) (l := l) (hg _) hl x.node x.key
  rw [hidx, show x.key = x.ent.key from rfl] at ga
  simp [-getElem?_pos, c_tattlerref5_Hints_Put, e1, e2, g, ga, hg, h64]
theorem r5Put_there {p : Nat} (hidx : idxH l x.node x.key = p) {e : Hnt} (he : l[p]? = some e) (hv : (e.sib.join x.sib).vals.length ≤ 1099511627776) :
    callL E F.tattlerref5_Hints_Put [.ptr (some (i, 0)), x.v] h = some (cnd (decide (e.sib.join x.sib = e.sib)) (.tup [.bool false, .int .i64 0], h, .no) (.tup [.bool true, .int .i64 0], hset h i (rsO (l.set p (e.with (e.sib.join x.sib)))), ⟨cnd (decide (i < h.length)) [i] [], [], false⟩)) := by
  refine callL_of rfl fn_tattlerref5_Hints_Put ?_
  have hlt := hget_lt hi
  have hpl : p < l.length := (List.getElem?_eq_some_iff.1 he).1
  unfold mayH at hx
  simp only [Bool.and_eq_true, decide_eq_true_eq] at hx
  obtain ⟨h0, h8, hm⟩ := hx
  have e1 : ¬ x.node < 0 := by omega
  have e2 : ¬ 8 ≤ x.node := by omega
  have g := fun l => r5MayEntry_eq x.ent (h ++ l)
  rw [hm] at g
  have hg : ∀ L, hget (h ++ L) i = some (.cells [.sl (l.map Hnt.v)] []) := fun L => by rw [hget_app hlt]; exact hi
  have ga := at_eq (h := h ++ [.cells x.c []]) (i := i) (l := l) (hg _) hl x.node x.key
  rw [hidx, show x.key = x.ent.key from rfl] at ga
  have hp0 : ¬ (p : Int) < 0 := by omega
  have hp0' : (0 : Int) ≤ (p : Int) := by omega
  have gj := fun H => r5Join_eq e.ent.sib x.ent.sib H
  have gs := fun H => same_eq (e.ent.sib.join x.ent.sib) e.ent.sib hv H
  have hs : e.sib = e.ent.sib := rfl
  have hs2 : x.sib = x.ent.sib := rfl
  rw [hs, hs2]
  have hF := hnt_flat l
  have hFl := hnt_len l
  have z1 := sizeOk_hnts l
  have hlm : (l.map Hnt.v).length = l.length := by simp
  have hb : l.length * 112 ≤ 140737488355328 := by omega
  have hne : l.length ≠ 0 := by omega
  have hp1 := flat_part (c := Hnt.c) (z := 11) (fun x => by simp) he 2 9 (by omega)
  have hin := flat_in (c := Hnt.c) (z := 11) (fun x => by simp) hpl 2 9 (by omega)
  rw [Hnt.k_drop2, Sib.c_take] at hp1
  have hset1 := flat_set (c := Hnt.c) (z := 11) (fun x => by simp) he 2 9 (by omega) (vs := (e.ent.sib.join x.ent.sib).c) (y := e.with (e.ent.sib.join x.ent.sib)) (by simp) (e.k_with _).symm
  have hls : (l.set p (e.with (e.ent.sib.join x.ent.sib))).length = l.length := List.length_set
  have hFL' := hnt_len (l.set p (e.with (e.ent.sib.join x.ent.sib)))
  have hpu := hnt_pure (l.set p (e.with (e.ent.sib.join x.ent.sib)))
  have hch := hnt_chunks (l.set p (e.with (e.ent.sib.join x.ent.sib)))
  rw [hls] at hFL' hch
  have f0 := fun o L => hsf0 hlt o L
  unfold rsO
  by_cases hq : e.ent.sib.join x.ent.sib = e.ent.sib
  · rw [decide_eq_true hq] at gs ⊢
    generalize (l.set p (e.with (e.ent.sib.join x.ent.sib))).flatMap Hnt.c = FL' at *
    generalize (l.set p (e.with (e.ent.sib.join x.ent.sib))) = l' at *
    generalize l.flatMap Hnt.c = FL at *
    generalize l.map Hnt.v = L at *
    generalize l.length = N at *
    have ht : FL.take (N * 11) = FL := List.take_of_length_le (by omega)
    have hle : N * 11 ≤ FL.length := by omega
    have hle' : N * 11 ≤ FL'.length := by omega
    simp [-getElem?_pos, c_tattlerref5_Hints_Put, e1, e2, g, ga, hg, hp0, hp0', gj, gs, hF, hlm, z1, hb, hne, hp1, hin, hpl, ht, hle, f0, hlt]
  · rw [decide_eq_false hq] at gs ⊢
    generalize (l.set p (e.with (e.ent.sib.join x.ent.sib))).flatMap Hnt.c = FL' at *
    generalize (l.set p (e.with (e.ent.sib.join x.ent.sib))) = l' at *
    generalize l.flatMap Hnt.c = FL at *
    generalize l.map Hnt.v = L at *
    generalize l.length = N at *
    have ht : FL.take (N * 11) = FL := List.take_of_length_le (by omega)
    have hle : N * 11 ≤ FL.length := by omega
    have hle' : N * 11 ≤ FL'.length := by omega
    have ht' : FL'.take (N * 11) = FL' := List.take_of_length_le (by omega)
    simp [-getElem?_pos, c_tattlerref5_Hints_Put, e1, e2, g, ga, hg, hp0, hp0', gj, gs, hF, hlm, z1, hb, hne, hp1, hin, hpl, ht, hle, hle', f0, hlt, hset1, hpu, hch, ht']
omit hi hx in
theorem r5Put_loop {q : Nat} (hc : CutAt l x.node x.key q) (x' : Hnt) (e1 : x'.node = x.node) (e2 : x'.key = x.key) (H : Heap) (k fb : Nat) (hk : hget H k = some (.cells x'.c [])) (hfb : fb ≤ H.length) (hih : i < H.length) :
    loopRun (callL E) loopL fb [0, 3, 7, 9] c_tattlerref5_Hints_Put_l0 ⟨[(0, .ptr (some (i, 0))), (3, .ptr (some (k, 0))), (7, .sl (l.map Hnt.v)), (9, .int .i64 0)], H, .no⟩ =
      some (.exit 0, ⟨[(0, .ptr (some (i, 0))), (3, .ptr (some (k, 0))), (7, .sl (l.map Hnt.v)), (9, .int .i64 q), (118, .bool false)], H, .no⟩) := by
  have hkl := hget_lt hk
  have k2 := loop_to (C := callL E) (fb := fb) (live := [0, 3, 7, 9]) (c := c_tattlerref5_Hints_Put_l0)
    (fun j => ⟨[(0, .ptr (some (i, 0))), (3, .ptr (some (k, 0))), (7, .sl (l.map Hnt.v)), (9, .int .i64 j)], H, .no⟩) q
    (r := (.exit 0, ⟨[(0, .ptr (some (i, 0))), (3, .ptr (some (k, 0))), (7, .sl (l.map Hnt.v)), (9, .int .i64 q), (118, .bool false)], H, .no⟩)) (fun j hj => ?_) ?_ rfl
  · exact k2
  · have hjl : j < l.length := by have := hc.le; omega
    obtain ⟨y, hy, _, _⟩ := get_of_lt (l := l) (i := j) hjl
    have hlt : (j : Int) < (l.length : Int) := by omega
    have h1 := i64_add1 (n := j) (by omega)
    have hp := hc.lt j y hy
    rw [decide_eq_true hj] at hp
    have e1' : x'.node = x.node := e1
    have e2' : x'.ent.key = x.key := e2
    rw [s_round]
    by_cases hn : y.node < x.node
    · simp [-getElem?_pos, c_tattlerref5_Hints_Put_l0, hlt, hjl, hy, h1, hk, e1', e2', hn, hkl, hih]
    · have h2 : y.node = x.node ∧ bytesLess y.key x.key = true := by
        unfold V.hlt at hp
        simp only [Bool.or_eq_true, Bool.and_eq_true, decide_eq_true_eq] at hp
        rcases hp with h | h
        · exact absurd h hn
        · exact h
      obtain ⟨h3, h4⟩ := h2
      have h4 : bytesLess y.ent.key x.key = true := h4
      simp [-getElem?_pos, c_tattlerref5_Hints_Put_l0, hlt, hjl, hy, h1, hk, e1', e2', hn, h3, h4, hkl, hih]
  · have e1' : x'.node = x.node := e1
    have e2' : x'.ent.key = x.key := e2
    rw [s_round]
    by_cases hq : q < l.length
    · obtain ⟨y, hy, _, _⟩ := get_of_lt (l := l) (i := q) hq
      have hlt : (q : Int) < (l.length : Int) := by omega
      have hp := hc.lt q y hy
      rw [decide_eq_false (by omega)] at hp
      unfold V.hlt at hp
      simp only [Bool.or_eq_false_iff, decide_eq_false_iff_not, Bool.and_eq_false_iff] at hp
      obtain ⟨hn, h2⟩ := hp
      by_cases hn2 : y.node = x.node
      · have h4 : bytesLess y.ent.key x.key = false := by
          rcases h2 with h | h
          · exact absurd hn2 h
          · exact h
        simp [-getElem?_pos, c_tattlerref5_Hints_Put_l0, hlt, hq, hy, hk, e1', e2', hn2, h4]
      · have hn3 : (y.node == x.node) = false := by simpa using hn2
        simp [-getElem?_pos, c_tattlerref5_Hints_Put_l0, hlt, hq, hy, hk, e1', e2', hn, hn3]
    · have hlt : ¬ (q : Int) < (l.length : Int) := by omega
      simp [-getElem?_pos, c_tattlerref5_Hints_Put_l0, hlt]
theorem r5Put_new {q : Nat} (hidx : idxH l x.node x.key = -1) (h64 : l.length < 64) (hc : CutAt l x.node x.key q) :
    callL E F.tattlerref5_Hints_Put [.ptr (some (i, 0)), x.v] h = some (.tup [.bool true, .int .i64 0], hset h i (rsO (l.take q ++ x.with (zeroSib.join x.sib) :: l.drop q)), ⟨cnd (decide (i < h.length)) [i] [], [], false⟩) := by
  refine callL_of rfl fn_tattlerref5_Hints_Put ?_
  have hlt := hget_lt hi
  unfold mayH at hx
  simp only [Bool.and_eq_true, decide_eq_true_eq] at hx
  obtain ⟨h0, h8, hm⟩ := hx
  have e1 : ¬ x.node < 0 := by omega
  have e2 : ¬ 8 ≤ x.node := by omega
  have g := fun l => r5MayEntry_eq x.ent (h ++ l)
  rw [hm] at g
  have hg : ∀ L, hget (h ++ L) i = some (.cells [.sl (l.map Hnt.v)] []) := fun L => by rw [hget_app hlt]; exact hi
  have ga := at_eq (h := h ++ [.cells x.c []]) (i := i) (l := l) (hg _) hl x.node x.key
  rw [hidx, show x.key = x.ent.key from rfl] at ga
  have gj := fun H => r5Join_eq zeroSib x.ent.sib H
  have vz : zeroSib.v = .agg [.int .i64 0, .int .i64 0, .int .i64 0, .int .i64 0, .int .i64 0, .int .i64 0, .int .i64 0, .int .i64 0, .sl []] := rfl
  rw [vz] at gj
  have hs2 : x.sib = x.ent.sib := rfl
  rw [hs2]
  have hw := x.k_with' (zeroSib.join x.ent.sib)
  have hF := hnt_flat l
  have hFl := hnt_len l
  have z1 := sizeOk_hnts l
  have hlm : (l.map Hnt.v).length = l.length := by simp
  have hb : l.length * 112 ≤ 140737488355328 := by omega
  have hpu := hnt_pure l
  have hch := hnt_chunks l
  have f0 := fun o L => hsf0 hlt o L
  have h64' : ¬ (64 : Int) ≤ (l.length : Int) := by omega
  have hql := hc.le
  have hmt : (l.map Hnt.v).take q = (l.take q).map Hnt.v := by rw [List.map_take]
  have hmd : (l.map Hnt.v).drop q = (l.drop q).map Hnt.v := by rw [List.map_drop]
  have z2 := sizeOk_hnts (l.take q)
  have z3 := sizeOk_hnts (l.drop q)
  have hb1 : ((l.take q).map Hnt.v).length * 112 ≤ 140737488355328 := by rw [List.length_map, List.length_take]; omega
  have hb2 : (((l.take q).map Hnt.v).length + 1) * 112 ≤ 140737488355328 := by rw [List.length_map, List.length_take]; omega
  have hb3 : (((l.take q).map Hnt.v).length + (1 + (l.length - q))) * 112 ≤ 140737488355328 := by rw [List.length_map, List.length_take]; omega
  have hb4 : (((l.take q).map Hnt.v).length + 1 + (l.length - q)) * 112 ≤ 140737488355328 := by rw [List.length_map, List.length_take]; omega
  have hb5 : (((l.take q).map Hnt.v).length + 1 + ((l.drop q).map Hnt.v).length) * 112 ≤ 140737488355328 := by rw [List.length_map, List.length_map, List.length_take, List.length_drop]; omega
  have htN : (l.map Hnt.v).take l.length = l.map Hnt.v := List.take_of_length_le (by simp)
  have hro : rsO (l.take q ++ x.with (zeroSib.join x.ent.sib) :: l.drop q) = .cells [.sl ((l.take q).map Hnt.v ++ (x.with (zeroSib.join x.ent.sib)).v :: (l.drop q).map Hnt.v)] [] := by unfold rsO; simp
  have z4 : sizeOk 11 ((l.take q).map Hnt.v ++ [(x.with (zeroSib.join x.ent.sib)).v]) = true := by
    cases l.take q with
    | nil => simp [sizeOk]
    | cons y _ => simp [sizeOk]
  rw [hro]
  by_cases hl0 : l = []
  · subst hl0
    have hq0 : q = 0 := cut_nil hc
    subst hq0
    have kl := r5Put_loop (i := i) (l := []) (by simp) x hc (x.with (zeroSib.join x.ent.sib)) rfl rfl (h ++ [.cells (x.with (zeroSib.join x.ent.sib)).c []]) h.length h.length (by simp) (by simp) (by simp; omega)
    simp only [List.map_nil, List.length_nil] at *
    rw [show ((0 : Nat) : Int) = 0 from rfl] at kl
    generalize x.with (zeroSib.join x.ent.sib) = x' at *
    simp [-getElem?_pos, c_tattlerref5_Hints_Put, e1, e2, g, ga, hg, gj, hw, f0, hlt, kl, sizeOk]
  · have hne : l.length ≠ 0 := fun e => hl0 (List.length_eq_zero_iff.1 e)
    have kl := r5Put_loop (i := i) (l := l) hl x hc (x.with (zeroSib.join x.ent.sib)) rfl rfl (h ++ [.cells (x.with (zeroSib.join x.ent.sib)).c [], .dead]) h.length h.length (by simp) (by simp) (by simp; omega)
    generalize x.with (zeroSib.join x.ent.sib) = x' at *
    generalize (l.take q).map Hnt.v = A at *
    generalize (l.drop q).map Hnt.v = B at *
    generalize l.flatMap Hnt.c = FL at *
    generalize l.map Hnt.v = L at *
    generalize l.length = N at *
    have ht : FL.take (N * 11) = FL := List.take_of_length_le (by omega)
    have hle : N * 11 ≤ FL.length := by omega
    simp [-getElem?_pos, c_tattlerref5_Hints_Put, e1, e2, g, ga, hg, gj, hw, f0, hlt, kl, hF, hlm, z1, hb, hne, ht, hle, hpu, hch, h64', hql, hmt, hmd, z2, z3, z4, hb1, hb2, hb3, hb4, hb5, htN]
end
end Go.Proofs.Ythkfjefoblmbhaa.V
