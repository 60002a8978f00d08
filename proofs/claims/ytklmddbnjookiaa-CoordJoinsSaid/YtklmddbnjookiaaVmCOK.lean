/- CoordJoins. -/
import Derived.Test.YtklmddbnjookiaaVmCOJ
set_option linter.unusedVariables false
set_option linter.unusedSimpArgs false
set_option linter.unusedSectionVars false
namespace Go.Proofs.Ytklmddbnjookiaa.V
open Go.Vm

theorem joins_inner (HH : Heap) (b j : Nat) (l : List Sib) (own S : Sib) (N : List Nat) (hb : hget HH b = some (.cells own.c [])) (hw : hget HH (b + 7) = some (.cells S.c [])) (hj : j < l.length) (hl : l.length ≤ 7)
    (hN : ∀ k, k < 8 → decide (k ∈ N) = (decide (k ≤ j + 1) && !decide ((if k = 0 then own else l.getD (k - 1) zeroSib) = S))) (hNl : N.length ≤ 1000) (ho : own.vals.length ≤ 1099511627776) (hall : ∀ s ∈ l, s.vals.length ≤ 1099511627776) (e0 : List Nat) :
    loopRun (callL E) loopL b [2, 5, 14, 15, 17, 115] c_tattlerlaw22_CoordJoins_l1 ⟨[(2, .sl (l.map Sib.v)), (5, .ptr (some (b, 0))), (14, .ptr (some (b + 7, 0))), (15, .int .i64 j), (17, .sl (N.map natV)), (115, .int .i64 0)], HH, ⟨[], e0, false⟩⟩ =
      some (.exit 4, ⟨[(2, .sl (l.map Sib.v)), (5, .ptr (some (b, 0))), (14, .ptr (some (b + 7, 0))), (15, .int .i64 j), (17, .sl (N.map natV)), (115, .int .i64 8), (116, .bool false)], HH, ⟨[], e0, false⟩⟩) := by
  have key := loop_to (C := callL E) (fb := b) (live := [2, 5, 14, 15, 17, 115]) (c := c_tattlerlaw22_CoordJoins_l1)
    (fun k => ⟨[(2, .sl (l.map Sib.v)), (5, .ptr (some (b, 0))), (14, .ptr (some (b + 7, 0))), (15, .int .i64 j), (17, .sl (N.map natV)), (115, .int .i64 k)], HH, ⟨[], e0, false⟩⟩) 8
    (r := (.exit 4, ⟨[(2, .sl (l.map Sib.v)), (5, .ptr (some (b, 0))), (14, .ptr (some (b + 7, 0))), (15, .int .i64 j), (17, .sl (N.map natV)), (115, .int .i64 8), (116, .bool false)], HH, ⟨[], e0, false⟩⟩)) (fun k hk => ?_) ?_ rfl
  · exact key
  · have hlt : (k : Int) < 8 := by omega
    have h1 := i64_add1 (n := k) (by omega)
    have hj1 := i64_add1 (n := j) (by omega)
    have hbl := hget_lt hb
    have hwl := hget_lt hw
    have g1 := r14In_eq N k hNl HH
    rw [hN k hk] at g1
    have g2 := same_eq own S ho HH
    have tk : List.take HH.length HH = HH := List.take_length
    simp only [Sib.v] at g2
    rw [s_round]
    cases k with
    | zero =>
      simp only [if_true, Nat.zero_le, decide_true, Bool.true_and, show ((0 : Nat) : Int) = 0 from rfl] at g1
      have w1 : IntKind.i64.wrap 1 = 1 := by rw [wrap_i64] <;> omega
      by_cases hs : own = S
      · rw [decide_eq_true hs] at g1 g2
        simp [-getElem?_pos, c_tattlerlaw22_CoordJoins_l1, w1, h1, hj1, g1, g2, hb, hw, hbl, hwl, tk]
        done
      · rw [decide_eq_false hs] at g1 g2
        simp [-getElem?_pos, c_tattlerlaw22_CoordJoins_l1, w1, h1, hj1, g1, g2, hb, hw, hbl, hwl, tk]
        done
    | succ k =>
      have k1 : (1 : Int) ≤ ((k + 1 : Nat) : Int) := by omega
      have k0 : (((k + 1 : Nat) : Int) == 0) = false := by simp; omega
      have hk1 : IntKind.i64.wrap (((k + 1 : Nat) : Int) - 1) = (k : Int) := by rw [wrap_i64] <;> omega
      rw [if_neg (by omega), show k + 1 - 1 = k by omega] at g1
      by_cases hkj : k ≤ j
      · obtain ⟨x, hx, _, hm⟩ := get_of_lt (l := l) (i := k) (by omega)
        have hg : l.getD k zeroSib = x := by rw [List.getD_eq_getElem?_getD, hx]; rfl
        rw [hg, decide_eq_true (show k + 1 ≤ j + 1 by omega), Bool.true_and] at g1
        have g3 := same_eq x S (hall x hm) HH
        have kj : ((k + 1 : Nat) : Int) ≤ ((j + 1 : Nat) : Int) := by omega
        have hkl : k < l.length := by omega
        simp only [Sib.v] at g3
        generalize ((k + 1 : Nat) : Int) = K at *
        generalize ((j + 1 : Nat) : Int) = J1 at *
        by_cases hs : x = S
        · rw [decide_eq_true hs] at g1 g3
          simp [-getElem?_pos, c_tattlerlaw22_CoordJoins_l1, hlt, h1, hj1, g1, g3, hb, hw, hbl, hwl, tk, k1, k0, hk1, kj, hx, hkl]
          done
        · rw [decide_eq_false hs] at g1 g3
          simp [-getElem?_pos, c_tattlerlaw22_CoordJoins_l1, hlt, h1, hj1, g1, g3, hb, hw, hbl, hwl, tk, k1, k0, hk1, kj, hx, hkl]
          done
      · rw [decide_eq_false (show ¬ k + 1 ≤ j + 1 by omega), Bool.false_and] at g1
        have kj : ¬ ((k + 1 : Nat) : Int) ≤ ((j + 1 : Nat) : Int) := by omega
        generalize ((k + 1 : Nat) : Int) = K at *
        generalize ((j + 1 : Nat) : Int) = J1 at *
        simp [-getElem?_pos, c_tattlerlaw22_CoordJoins_l1, hlt, h1, hj1, g1, hb, hw, hbl, hwl, tk, k1, k0, hk1, kj]
        done
  · rw [s_round]
    simp [c_tattlerlaw22_CoordJoins_l1]
/-- A read under way, at so many answers: what the law holds. -/
structure JAt (b need : Nat) (h H : Heap) (key : List UInt8) (own : Sib) (l : List Sib) (j : Nat) : Prop where
  at_ : CAt H (b + 2) (b + 1) 5 1 [] [(1, b + 6)]
  op : OAt H (b + 6) (b + 5) (opJ key own l j) need (hasJ j)
  own_ : hget H b = some (.cells own.c [])
  want : hget H (b + 7) = some (.cells (opJ key own l j).s.c [])
  pre : H.take b = h
  len : H.length = b + 8
theorem hgets {h : Heap} {i : Nat} (hi : i < h.length) (o : Vm.Obj) : hget (hset h i o) i = some o := by
  rw [← List.append_nil (hset h i o)]; exact hgetS hi o []
theorem hgets_ne {h : Heap} {i k : Nat} (hk : k < h.length) (hne : i ≠ k) (o : Vm.Obj) : hget (hset h i o) k = hget h k := by
  rw [← List.append_nil (hset h i o)]; exact hgetS_ne hk hne o []
theorem joins_start (h : Heap) (need : Nat) (key : List UInt8) (own : Sib) (l : List Sib) (ho : own.may = true) :
    JAt h.length need h (begun (new0 (h ++ [.cells own.c []]) 5) (h.length + 2) (h.length + 1) 5 0 [] [] 0 need key own false ++ [.cells own.c []]) key own l 0 := by
  have t0 := new0_at (h ++ [.cells own.c []]) 5
  have l0 := new0_len (h ++ [.cells own.c []]) 5
  have hl1 : (h ++ [Vm.Obj.cells own.c []]).length = h.length + 1 := by simp
  rw [hl1] at t0 l0
  have t1 := begun_at t0 0 need key own false
  have u1 := begun_op t0 0 need key own false ho
  have b1 := begun_len (h := new0 (h ++ [.cells own.c []]) 5) (i := h.length + 1 + 1) (mi := h.length + 1) (wait := 5) (last := 0) (ans := []) (ops := []) 0 need key own false
  have k1 := begun_take t0 0 need key own false (m := h.length + 1) (by omega) (by omega)
  have ht : (new0 (h ++ [.cells own.c []]) 5).take (h.length + 1) = h ++ [.cells own.c []] := by simp [new0]
  rw [ht] at k1
  rw [l0] at t1 u1 b1
  simp only [List.nil_append] at t1
  rw [show h.length + 1 + 2 + 3 = h.length + 6 by omega, show (0 : Int) + 1 = 1 from rfl] at t1
  rw [show h.length + 1 + 2 + 3 = h.length + 6 by omega, show h.length + 1 + 2 + 2 = h.length + 5 by omega] at u1
  rw [show h.length + 1 + 2 + 4 = h.length + 7 by omega] at b1
  rw [show h.length + 1 + 1 = h.length + 2 by omega] at *
  generalize begun (new0 (h ++ [.cells own.c []]) 5) (h.length + 2) (h.length + 1) 5 0 [] [] 0 need key own false = H at *
  have e1 : hget H h.length = some (.cells own.c []) := by
    have : (H.take (h.length + 1))[h.length]? = some (.cells own.c []) := by rw [k1]; simp
    rw [List.getElem?_take, if_pos (by omega)] at this
    exact this
  refine ⟨t1.app _, ⟨?_, ?_, u1.al, u1.hl, u1.sm⟩, ?_, ?_, ?_, by rw [List.length_append, b1]; rfl⟩
  · rw [hget_app (by omega)]; exact u1.op
  · rw [hget_app (by omega)]; exact u1.ct
  · rw [hget_app (by omega)]; exact e1
  · show hget (H ++ [.cells own.c []]) (h.length + 7) = _
    rw [← b1]; simp; rfl
  · rw [List.take_append_of_le_length (by omega)]
    have := congrArg (List.take h.length) k1
    rw [List.take_take, Nat.min_eq_left (by omega)] at this
    rw [this]; simp
theorem joins_step {b need : Nat} {h H : Heap} {key : List UInt8} {own : Sib} {l : List Sib} {j : Nat} (y : JAt b need h H key own l j) (hm : (opJ key own l (j + 1)).s.may = true) :
    JAt b need h (hset (hset (hset H (b + 7) (.cells (opJ key own l (j + 1)).s.c [])) (b + 6) (.cells ((opJ key own l (j + 1)).c (b + 5)) [])) (b + 5) (.cells (cntC need (hasJ (j + 1))) [])) key own l (j + 1) := by
  have hl := y.len
  have l1 : ∀ o, (hset H (b + 7) o).length = b + 8 := fun o => by rw [hset_len, hl]
  have l2 : ∀ o p, (hset (hset H (b + 7) o) (b + 6) p).length = b + 8 := fun o p => by rw [hset_len, l1]
  refine ⟨⟨?_, ?_⟩, ⟨?_, ?_, by rw [opJ_len], hasJ_len _, hm⟩, ?_, ?_, ?_, by rw [hset_len, l2]⟩
  · rw [hgets_ne (by rw [l2]; omega) (by omega), hgets_ne (by rw [l1]; omega) (by omega), hgets_ne (by omega) (by omega)]; exact y.at_.co
  · rw [hgets_ne (by rw [l2]; omega) (by omega), hgets_ne (by rw [l1]; omega) (by omega), hgets_ne (by omega) (by omega)]; exact y.at_.mp
  · rw [hgets_ne (by rw [l2]; omega) (by omega), hgets (by rw [l1]; omega)]
  · rw [hgets (by rw [l2]; omega)]
  · rw [hgets_ne (by rw [l2]; omega) (by omega), hgets_ne (by rw [l1]; omega) (by omega), hgets_ne (by omega) (by omega)]; exact y.own_
  · rw [hgets_ne (by rw [l2]; omega) (by omega), hgets_ne (by rw [l1]; omega) (by omega), hgets (by omega)]
  · rw [take_hset_le (by omega), take_hset_le (by omega), take_hset_le (by omega)]; exact y.pre
theorem joins_loop22 (b need : Nat) (h : Heap) (key : List UInt8) (own : Sib) (l : List Sib) (hb : b = h.length) (hn1 : 2 ≤ need) (hn2 : need ≤ 8) (hl : l.length ≤ 7) (ho : own.may = true) (hls : ∀ s ∈ l, s.may = true) (hk : (⟨key, own⟩ : Ent).may = true) (H0 : Heap) (y0 : JAt b need h H0 key own l 0) :
    ∃ r, loopRun (callL E) loopL b [0, 2, 3, 5, 11, 12, 14, 61, 62, 63] c_tattlerlaw22_CoordJoins_l2 ⟨[(0, .str key), (2, .sl (l.map Sib.v)), (3, .int .i64 need), (5, .ptr (some (b, 0))), (11, .ptr (some (b + 2, 0))), (12, .int .i64 1), (14, .ptr (some (b + 7, 0))), (61, .sl (l.map Sib.v)), (62, .int .i64 l.length), (63, .int .i64 0)], H0, ⟨[], [b + 1], false⟩⟩ = some r ∧
      ((∃ H j x, JAt b need h H key own l j ∧ r = (.exit 2, ⟨[(0, .str key), (2, .sl (l.map Sib.v)), (3, .int .i64 need), (5, .ptr (some (b, 0))), (11, .ptr (some (b + 2, 0))), (12, .int .i64 1), (14, .ptr (some (b + 7, 0))), (15, .int .i64 j), (16, .ptr (some (H.length, 0))), (61, .sl (l.map Sib.v)), (62, .int .i64 l.length), (63, .int .i64 j), (71, .bool true)], H ++ x, ⟨[], [b + 1], false⟩⟩)) ∨
       (∃ H j, JAt b need h H key own l j ∧ r = (.exit 2, ⟨[(0, .str key), (2, .sl (l.map Sib.v)), (3, .int .i64 need), (5, .ptr (some (b, 0))), (11, .ptr (some (b + 2, 0))), (12, .int .i64 1), (14, .ptr (some (b + 7, 0))), (61, .sl (l.map Sib.v)), (62, .int .i64 l.length), (63, .int .i64 l.length), (64, .bool false)], H, ⟨[], [b + 1], false⟩⟩)) ∨
       (∃ H, H.take b = h ∧ r = (.ret, ⟨[(8, .bool true)], H, ⟨[], [b + 1], false⟩⟩))) := by
  refine loop_inv0 (C := callL E) (fb := b) (live := [0, 2, 3, 5, 11, 12, 14, 61, 62, 63]) (c := c_tattlerlaw22_CoordJoins_l2)
    (fun j s => ∃ H, JAt b need h H key own l j ∧ s = ⟨[(0, .str key), (2, .sl (l.map Sib.v)), (3, .int .i64 need), (5, .ptr (some (b, 0))), (11, .ptr (some (b + 2, 0))), (12, .int .i64 1), (14, .ptr (some (b + 7, 0))), (61, .sl (l.map Sib.v)), (62, .int .i64 l.length), (63, .int .i64 j)], H, ⟨[], [b + 1], false⟩⟩) _ l.length (fun j hj s hs => ?_) (fun s hs => ?_) ⟨H0, y0, rfl⟩
  · obtain ⟨H, y, rfl⟩ := hs
    obtain ⟨x, hx, _, hxm⟩ := get_of_lt hj
    have hlt : (j : Int) < (l.length : Int) := by omega
    have h1 := i64_add1 (n := j) (by omega)
    have h2 : IntKind.i64.wrap ((j : Int) + 2) = ((j + 2 : Nat) : Int) := by rw [wrap_i64] <;> omega
    have hlen := y.len
    have hmj := opJ_may key ho hls j (by omega)
    have hmj1 := opJ_may key ho hls (j + 1) (by omega)
    have hgx : l.getD j zeroSib = x := by rw [List.getD_eq_getElem?_getD, hx]; rfl
    have hs1 : (opJ key own l (j + 1)).s = (opJ key own l j).s.join x := by show (opJ key own l j).s.join (l.getD j zeroSib) = _; rw [hgx]
    have hg1 : (opJ key own l j).got (j + 1) x = opJ key own l (j + 1) := by show _ = (opJ key own l j).got (j + 1) (l.getD j zeroSib); rw [hgx]
    have w := y.want
    have hwl : ∀ z, hget (H ++ z) (b + 7) = some (.cells (opJ key own l j).s.c []) := fun z => by rw [hget_app (by omega)]; exact w
    by_cases hbrk : need < j + 2
    · right
      refine ⟨_, ?_, ?_, .inl ⟨H, j, [.cells x.c []], y, rfl⟩⟩
      · have hb1 : (need : Int) < ((j + 2 : Nat) : Int) := by omega
        have nb : ¬ H.length < b := by omega
        have l1 : b + 7 < H.length := by omega
        have l2 : b + 2 < H.length := by omega
        generalize ((j + 2 : Nat) : Int) = J2 at *
        rw [s_round]
        simp [-getElem?_pos, c_tattlerlaw22_CoordJoins_l2, hlt, hj, hx, h1, h2, hb1, nb, l1, l2]
        done
      · rfl
    · have hb1 : ¬ (need : Int) < ((j + 2 : Nat) : Int) := by omega
      have nb : ¬ H.length < b := by omega
      have lb0 : b < H.length := by omega
      have lb1 : b + 1 < H.length := by omega
      have lb2 : b + 2 < H.length := by omega
      have lb5 : b + 5 < H.length := by omega
      have lb6 : b + 6 < H.length := by omega
      have lb7 : b + 7 < H.length := by omega
      have a1 : ∀ z o, hset (H ++ z) (b + 7) o = hset H (b + 7) o ++ z := fun z o => V.hset_app lb7
      have g1 := fun z => r5Join_eq (opJ key own l j).s x (H ++ z)
      rw [← hs1] at g1
      have tw : CAt (hset H (b + 7) (.cells (opJ key own l (j + 1)).s.c [])) (b + 2) (b + 1) 5 1 [] [(1, b + 6)] := ⟨by rw [hgets_ne lb2 (by omega)]; exact y.at_.co, by rw [hgets_ne lb1 (by omega)]; exact y.at_.mp⟩
      have uw : OAt (hset H (b + 7) (.cells (opJ key own l (j + 1)).s.c [])) (b + 6) (b + 5) (opJ key own l j) need (hasJ j) := ⟨by rw [hgets_ne lb6 (by omega)]; exact y.op.op, by rw [hgets_ne lb5 (by omega)]; exact y.op.ct, y.op.al, y.op.hl, y.op.sm⟩
      have hlw : (hset H (b + 7) (.cells (opJ key own l (j + 1)).s.c [])).length = b + 8 := by rw [hset_len, hlen]
      have uwx : ∀ z, OAt (hset H (b + 7) (.cells (opJ key own l (j + 1)).s.c []) ++ z) (b + 6) (b + 5) (opJ key own l j) need (hasJ j) := fun z => ⟨by rw [hget_app (by omega)]; exact uw.op, by rw [hget_app (by omega)]; exact uw.ct, uw.al, uw.hl, uw.sm⟩
      have hem : (⟨key, x⟩ : Ent).may = true := by
        unfold Ent.may at hk ⊢
        simp only [Bool.and_eq_true] at hk ⊢
        exact ⟨hk.1, hls x hxm⟩
      have hbj : (hasJ j).getD (j + 1) false = false := by rw [hasJ_at j (by omega) (j + 1) (by omega)]; exact decide_eq_false (by omega)
      have y2 := joins_step y hmj1.1
      by_cases hnd : j + 2 = need
      · right
        have hcn : (cntN ((hasJ j).set (j + 1) true) : Int) = need := by
          rw [show (hasJ j).set (j + 1) true = hasJ (j + 1) from rfl, hasJ_cnt (j + 1) (by omega)]; omega
        have g2 := fun z => coordGot_done (tw.app z) (uwx z) (n := 1) (k := j + 1) (by omega) hbj ⟨key, x⟩ rfl (opJ_wr key own l j) (opJ_key key own l j).symm hem hcn (by simp) (fun s hs => by
          simp only [hg1] at hs
          have := may_len (hmj1.2 s hs); omega)
        simp only [hg1, show (hasJ j).set (j + 1) true = hasJ (j + 1) from rfl] at g2
        have y2l := y2.len
        have hNm := got_mem key own l (j + 1) (by omega)
        have hNl := gotN_len (hasJ (j + 1)) (opJ key own l (j + 1)).ans (opJ key own l (j + 1)).s 8
        have hsl := may_len hmj1.1
        generalize hS : (opJ key own l (j + 1)).s = S at *
        generalize gotN (hasJ (j + 1)) (opJ key own l (j + 1)).ans S 8 = N at *
        have a2 : ∀ z p q C M, hset (hset (hset (hset (hset H (b + 7) (.cells S.c []) ++ z) (b + 6) p) (b + 5) q) (b + 2) C) (b + 1) M = hset (hset (hset (hset (hset H (b + 7) (.cells S.c [])) (b + 6) p) (b + 5) q) (b + 2) C) (b + 1) M ++ z := fun z p q C M => by
          rw [V.hset_app (by omega), V.hset_app (by rw [hset_len]; omega), V.hset_app (by rw [hset_len, hset_len]; omega), V.hset_app (by rw [hset_len, hset_len, hset_len]; omega)]
        have e11 : ((j + 1 : Nat) : Int) = (j : Int) + 1 := by omega
        simp only [a2, e11] at g2
        have hd0 : delI [(1, b + 6)] 1 = [] := rfl
        rw [hd0] at g2
        have y2o := y2.own_
        have y2w := y2.want
        rw [hS] at y2w
        have y2p := y2.pre
        generalize hset (hset (hset H (b + 7) (.cells S.c [])) (b + 6) (.cells ((opJ key own l (j + 1)).c (b + 5)) [])) (b + 5) (.cells (cntC need (hasJ (j + 1))) []) = Hs at *
        have td : CAt (hset (hset Hs (b + 2) (coordO 5 1 (b + 1) ([] ++ [⟨1, 0, S⟩]))) (b + 1) (.map (mapI []))) (b + 2) (b + 1) 5 1 ([] ++ [⟨1, 0, S⟩]) [] := ⟨by rw [hgets_ne (by rw [hset_len]; omega) (by omega), hgets (by omega)], by rw [hgets (by rw [hset_len]; omega)]⟩
        have hdl : (hset (hset Hs (b + 2) (coordO 5 1 (b + 1) ([] ++ [⟨1, 0, S⟩]))) (b + 1) (.map (mapI []))).length = b + 8 := by rw [hset_len, hset_len, y2l]
        have hdo : hget (hset (hset Hs (b + 2) (coordO 5 1 (b + 1) ([] ++ [⟨1, 0, S⟩]))) (b + 1) (.map (mapI []))) b = some (.cells own.c []) := by rw [hgets_ne (by rw [hset_len]; omega) (by omega), hgets_ne (by omega) (by omega)]; exact y2o
        have hdw : hget (hset (hset Hs (b + 2) (coordO 5 1 (b + 1) ([] ++ [⟨1, 0, S⟩]))) (b + 1) (.map (mapI []))) (b + 7) = some (.cells S.c []) := by rw [hgets_ne (by rw [hset_len]; omega) (by omega), hgets_ne (by omega) (by omega)]; exact y2w
        have hdp : (hset (hset Hs (b + 2) (coordO 5 1 (b + 1) ([] ++ [⟨1, 0, S⟩]))) (b + 1) (.map (mapI []))).take b = h := by rw [take_hset_le (by omega), take_hset_le (by omega)]; exact y2p
        generalize hset (hset Hs (b + 2) (coordO 5 1 (b + 1) ([] ++ [⟨1, 0, S⟩]))) (b + 1) (.map (mapI [])) = Hd at *
        have g4 := fun z => coordAnswers_eq (td.app z)
        have a4 : ∀ z C, hset (Hd ++ z) (b + 2) C = hset Hd (b + 2) C ++ z := fun z C => V.hset_app (by omega)
        simp only [a4] at g4
        have hel : (hset Hd (b + 2) (coordO 5 1 (b + 1) [])).length = b + 8 := by rw [hset_len, hdl]
        have heo : ∀ z, hget (hset Hd (b + 2) (coordO 5 1 (b + 1) []) ++ z) b = some (.cells own.c []) := fun z => by rw [hgetS_ne (by omega) (by omega)]; exact hdo
        have hew : ∀ z, hget (hset Hd (b + 2) (coordO 5 1 (b + 1) []) ++ z) (b + 7) = some (.cells S.c []) := fun z => by rw [hgetS_ne (by omega) (by omega)]; exact hdw
        have hep : ∀ z, (hset Hd (b + 2) (coordO 5 1 (b + 1) []) ++ z).take b = h := fun z => by rw [take_hset_app (by omega) _ (by omega)]; exact hdp
        generalize hset Hd (b + 2) (coordO 5 1 (b + 1) []) = He at *
        have lp := fun z => joins_inner (He ++ z) b j l own S N (heo z) (hew z) hj hl hNm (by omega) (by have := may_len ho; omega) (fun s hs => by have := may_len (hls s hs); omega) []
        have g5 := fun z => same_eq S S (by omega) (He ++ z)
        rw [decide_eq_true rfl] at g5
        have g6 := fun z => awake22_eq (He ++ z)
        refine ⟨_, ?_, ?_, .inr (.inr ⟨He ++ [.cells x.c []], hep _, rfl⟩)⟩
        · have hne1 : ((((j + 2 : Nat) : Int)) == (need : Int)) = true := by simp; omega
          have hl7 : ∀ o, (hset H (b + 7) o).length = H.length := fun o => hset_len _ _ _
          have g3 : ∀ z, hget (hset H (b + 7) (.cells S.c []) ++ z) (b + 7) = some (.cells S.c []) := fun z => hgetS lb7 _ z
          have w1 : (Ans.c ⟨1, 0, S⟩)[1]? = some (.int .i64 0) := rfl
          have w2 : List.take 9 ((Ans.c ⟨1, 0, S⟩).drop 2) = S.c := List.take_of_length_le (by simp)
          simp only [Sib.v, Ent.v, Ent.c] at g1 g2 g5
          simp only [List.nil_append, List.map_cons, List.map_nil] at g4
          have lb8 : b ≤ H.length := by omega
          have lH : Hd.length = H.length := by omega
          have lE : He.length = H.length := by omega
          generalize N.map natV = NV at *
          generalize ((j + 2 : Nat) : Int) = J2 at *
          rw [s_round]
          simp [-getElem?_pos, c_tattlerlaw22_CoordJoins_l2, hlt, hj, hx, h1, h2, hb1, nb, lb0, lb1, lb2, lb7, lb8, hwl, g1, g2, g3, g4, g5, g6, lp, a1, hne1, hl7, w1, w2, hew]
          done
        · rfl
      · have hcn : (cntN ((hasJ j).set (j + 1) true) : Int) ≠ need := by
          rw [show (hasJ j).set (j + 1) true = hasJ (j + 1) from rfl, hasJ_cnt (j + 1) (by omega)]; omega
        have g2 := fun z => coordGot_wait (tw.app z) (uwx z) (n := 1) (k := j + 1) (by omega) hbj ⟨key, x⟩ rfl (opJ_wr key own l j) (opJ_key key own l j).symm hem hcn
        simp only [hg1, show (hasJ j).set (j + 1) true = hasJ (j + 1) from rfl] at g2
        have a2 : ∀ z p q, hset (hset (hset H (b + 7) (.cells (opJ key own l (j + 1)).s.c []) ++ z) (b + 6) p) (b + 5) q = hset (hset (hset H (b + 7) (.cells (opJ key own l (j + 1)).s.c [])) (b + 6) p) (b + 5) q ++ z := fun z p q => by
          rw [V.hset_app (by omega), V.hset_app (by rw [hset_len]; omega)]
        have e11 : ((j + 1 : Nat) : Int) = (j : Int) + 1 := by omega
        simp only [a2, e11] at g2
        left
        refine ⟨_, ?_, _, y2, rfl⟩
        have hne1 : ((((j + 2 : Nat) : Int)) == (need : Int)) = false := by simp; omega
        have tk : ∀ p q z, List.take H.length (hset (hset (hset H (b + 7) (.cells (opJ key own l (j + 1)).s.c [])) (b + 6) p) (b + 5) q ++ z) = hset (hset (hset H (b + 7) (.cells (opJ key own l (j + 1)).s.c [])) (b + 6) p) (b + 5) q := fun p q z => List.take_left' (by rw [hset_len, hset_len, hset_len])
        have hl7 : ∀ o, (hset H (b + 7) o).length = H.length := fun o => hset_len _ _ _
        have g3 : ∀ z, hget (hset H (b + 7) (.cells (opJ key own l (j + 1)).s.c []) ++ z) (b + 7) = some (.cells (opJ key own l (j + 1)).s.c []) := fun z => hgetS lb7 _ z
        simp only [Sib.v, Ent.v, Ent.c] at g1 g2
        have lb8 : b ≤ H.length := by omega
        generalize ((j + 2 : Nat) : Int) = J2 at *
        rw [s_round]
        simp [-getElem?_pos, c_tattlerlaw22_CoordJoins_l2, hlt, hj, hx, h1, h2, hb1, nb, lb0, lb1, lb2, lb7, lb8, hwl, g1, g2, g3, a1, hne1, tk, hl7]
        done
  · obtain ⟨H, y, rfl⟩ := hs
    refine ⟨_, ?_, ?_, .inr (.inl ⟨H, _, y, rfl⟩)⟩
    · rw [s_round]
      simp [c_tattlerlaw22_CoordJoins_l2]
    · rfl
end Go.Proofs.Ytklmddbnjookiaa.V
