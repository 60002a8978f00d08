/- CoordLate: a round's calls. -/
import Derived.Test.YtklmddbnjookiaaVmCLA
set_option linter.unusedVariables false
set_option linter.unusedSimpArgs false
set_option linter.unusedSectionVars false
namespace Go.Proofs.Ytklmddbnjookiaa.V
open Go.Vm

theorem CAt.hset {h : Heap} {i mi : Nat} {wait last : Int} {ans : List Ans} {ops : List (Int × Nat)} (t : CAt h i mi wait last ans ops) {k : Nat} (h1 : k ≠ i) (h2 : k ≠ mi) (o : Vm.Obj) : CAt (hset h k o) i mi wait last ans ops :=
  ⟨by rw [hsets_ne (hget_lt t.co) h1]; exact t.co, by rw [hsets_ne (hget_lt t.mp) h2]; exact t.mp⟩
theorem OAt.hset {h : Heap} {p q : Nat} {o : OpS} {need : Int} {has : List Bool} (u : OAt h p q o need has) {k : Nat} (h1 : k ≠ p) (h2 : k ≠ q) (x : Vm.Obj) : OAt (hset h k x) p q o need has :=
  ⟨by rw [hsets_ne (hget_lt u.op) h1]; exact u.op, by rw [hsets_ne (hget_lt u.ct) h2]; exact u.ct, u.al, u.hl, u.sm⟩
theorem OAt.count {h : Heap} {p q : Nat} {o : OpS} {need : Int} {has : List Bool} (u : OAt h p q o need has) {has' : List Bool} (hl : has'.length = 8) : OAt (Vm.hset h q (.cells (cntC need has') [])) p q o need has' :=
  ⟨by rw [hsets_ne (hget_lt u.op) u.ne.symm]; exact u.op, hsets (hget_lt u.ct) _, u.al, hl, u.sm⟩
theorem late_calls {b need : Nat} {h H : Heap} {hs : List Bool} {S : List Nat} (y : LAt b need h H hs S) {n : Nat} (hn : n < 8) {S' : List Nat} (hS' : S' = if n ∈ S then S else S ++ [n]) :
    ∃ nodes H2 f2 H3 f3 ok, callL E F.coord_Coord_Got [.ptr (some (b + 1, 0)), .int .i64 2, .int .i64 n, (⟨[107], zeroSib⟩ : Ent).v] (hset H (b + 10) (.map (seenM S'))) = some (.tup [.sl nodes, .bool ok], H2, f2) ∧ Fl.cut b f2 = .no ∧
      callL E F.coord_Coord_Ack [.ptr (some (b + 1, 0)), .int .i64 1, .int .i64 n] H2 = some (.bool ok, H3, f3) ∧ Fl.cut b f3 = .no ∧
      callL E F.coord_Coord_Ack [.ptr (some (b + 1, 0)), .int .i64 2, .int .i64 n] H3 = some (.bool false, H3, .no) ∧
      callL E F.coord_Coord_Got [.ptr (some (b + 1, 0)), .int .i64 1, .int .i64 n, (⟨[107], zeroSib⟩ : Ent).v] H3 = some (.tup [.sl [], .bool false], H3, .no) ∧
      ok = (decide (n ∉ S) && decide (S'.length = need)) ∧ ∃ hs', LAt b need h H3 hs' S' := by
  have hlen := y.len
  have hseen : hget (hset H (b + 10) (.map (seenM S'))) (b + 10) = some (.map (seenM S')) := hsets (by omega) _
  have hpre : (hset H (b + 10) (.map (seenM S'))).take b = h := by rw [take_hset_le (by omega), y.pre]
  have hl1 : (hset H (b + 10) (.map (seenM S'))).length = b + 11 := by rw [hset_len, hlen]
  have hmemn := y.mem n hn
  rcases y.way with ⟨hc, t, u1, u2⟩ | ⟨hc, ans, ha, t⟩
  · have t' := t.hset (k := b + 10) (by omega) (by omega) (.map (seenM S'))
    have u1' := u1.hset (k := b + 10) (by omega) (by omega) (.map (seenM S'))
    have u2' := u2.hset (k := b + 10) (by omega) (by omega) (.map (seenM S'))
    generalize hset H (b + 10) (.map (seenM S')) = H1 at *
    have f1 : findI [((1 : Int), b + 5), (2, b + 9)] 1 = some (b + 5) := rfl
    have f2 : findI [((1 : Int), b + 5), (2, b + 9)] 2 = some (b + 9) := rfl
    by_cases hin : n ∈ S
    · rw [if_pos hin] at hS'
      subst hS'
      have hq : hasQ hs (n : Int) = true := by
        unfold hasQ
        rw [show ((n : Int).toNat) = n from rfl, hmemn.2 hin]
        simp; omega
      exact ⟨[], H1, .no, H1, .no, false, coordGot_no t' u2' n _ f2 (.inr (.inr (.inr (.inr (.inr hq))))), rfl, coordAck_no t' u1' n f1 (.inr (.inr (.inr hq))), rfl,
        coordAck_no t' u2' n f2 (.inl rfl), coordGot_no t' u1' n _ f1 (.inl rfl), by simp [hin], hs, .inl ⟨hc, t', u1', u2'⟩, hseen, y.hl, y.mem, y.cnt, hpre, hl1⟩
    · rw [if_neg hin] at hS'
      have hb : hs.getD n false = false := by
        cases hg : hs.getD n false with
        | false => rfl
        | true => exact absurd (hmemn.1 hg) hin
      have hg? : hs[n]? = some false := by
        obtain ⟨x, hx, _, _⟩ := get_of_lt (l := hs) (i := n) (by rw [y.hl]; exact hn)
        rw [List.getD_eq_getElem?_getD, hx] at hb
        rw [hx]; exact congrArg some hb
      have hcs := cntN_set hg?
      have hSl : S'.length = S.length + 1 := by rw [hS']; simp
      have hmem' : ∀ k, k < 8 → ((hs.set n true).getD k false = true ↔ k ∈ S') := fun k hk => by
        rw [hS', List.getD_eq_getElem?_getD, List.getElem?_set]
        by_cases hkn : n = k
        · subst hkn; simp [y.hl, hn]
        · rw [if_neg hkn, ← List.getD_eq_getElem?_getD, y.mem k hk]
          simp [Ne.symm hkn]
      have hl' : (hs.set n true).length = 8 := by simp [y.hl]
      have hq' : hasQ (hs.set n true) (n : Int) = true := by
        unfold hasQ
        rw [show ((n : Int).toNat) = n from rfl, (hmem' n hn).2 (by rw [hS']; simp)]
        simp; omega
      by_cases hnd : cntN hs + 1 = need
      · -- there are enough
        have g1 := coordGot_done t' u2' (n := 2) hn hb ⟨[107], zeroSib⟩ f2 rfl rfl kZero_may (by rw [hcs]; omega) (by simp) (fun s hs => by
          rw [opR_got n hn] at hs
          have : s = zeroSib := by simpa [opR, ans8] using hs
          rw [this]; simp [zeroSib])
        rw [opR_got n hn] at g1
        have v1 := u1'.hset (k := b + 9) (by omega) (by omega) (.cells (opR.c (b + 8)) [])
        have s1 := t'.hset (k := b + 9) (by omega) (by omega) (.cells (opR.c (b + 8)) [])
        have e1 : (hset H1 (b + 9) (.cells (opR.c (b + 8)) [])).length = b + 11 := by rw [hset_len, hl1]
        have v1 := v1.hset (k := b + 8) (by omega) (by omega) (.cells (cntC need (hs.set n true)) [])
        have s1 := s1.hset (k := b + 8) (by omega) (by omega) (.cells (cntC need (hs.set n true)) [])
        have e2 : hget (hset (hset H1 (b + 9) (.cells (opR.c (b + 8)) [])) (b + 8) (.cells (cntC need (hs.set n true)) [])) (b + 10) = some (.map (seenM S')) := by rw [hsets_ne (by omega) (by omega), hsets_ne (by omega) (by omega)]; exact hseen
        have e3 : (hset (hset H1 (b + 9) (.cells (opR.c (b + 8)) [])) (b + 8) (.cells (cntC need (hs.set n true)) [])).take b = h := by rw [take_hset_le (by omega), take_hset_le (by omega)]; exact hpre
        have e1 : (hset (hset H1 (b + 9) (.cells (opR.c (b + 8)) [])) (b + 8) (.cells (cntC need (hs.set n true)) [])).length = b + 11 := by rw [hset_len, e1]
        generalize hset (hset H1 (b + 9) (.cells (opR.c (b + 8)) [])) (b + 8) (.cells (cntC need (hs.set n true)) []) = H2 at *
        have hd : delI [((1 : Int), b + 5), (2, b + 9)] 2 = [(1, b + 5)] := rfl
        rw [hd] at g1
        have s2 : CAt (hset (hset H2 (b + 1) (coordO 9 2 b ([] ++ [⟨2, 0, opR.s⟩]))) b (.map (mapI [(1, b + 5)]))) (b + 1) b 9 2 ([] ++ [⟨2, 0, opR.s⟩]) [(1, b + 5)] := ⟨by rw [hsets_ne (by rw [hset_len]; omega) (by omega), hsets (by omega)], by rw [hsets (by rw [hset_len]; omega)]⟩
        have v2 := (v1.hset (k := b + 1) (by omega) (by omega) (coordO 9 2 b ([] ++ [⟨2, 0, opR.s⟩]))).hset (k := b) (by omega) (by omega) (.map (mapI [(1, b + 5)]))
        have e4 : hget (hset (hset H2 (b + 1) (coordO 9 2 b ([] ++ [⟨2, 0, opR.s⟩]))) b (.map (mapI [(1, b + 5)]))) (b + 10) = some (.map (seenM S')) := by rw [hsets_ne (by rw [hset_len]; omega) (by omega), hsets_ne (by omega) (by omega)]; exact e2
        have e5 : (hset (hset H2 (b + 1) (coordO 9 2 b ([] ++ [⟨2, 0, opR.s⟩]))) b (.map (mapI [(1, b + 5)]))).take b = h := by rw [take_hset_le (by omega), take_hset_le (by omega)]; exact e3
        have e6 : (hset (hset H2 (b + 1) (coordO 9 2 b ([] ++ [⟨2, 0, opR.s⟩]))) b (.map (mapI [(1, b + 5)]))).length = b + 11 := by rw [hset_len, hset_len, e1]
        generalize hset (hset H2 (b + 1) (coordO 9 2 b ([] ++ [⟨2, 0, opR.s⟩]))) b (.map (mapI [(1, b + 5)])) = H3 at *
        have g2 := coordAck_done s2 v2 (n := 1) hn hb rfl rfl (by rw [hcs]; omega) (by simp)
        have hd2 : delI [((1 : Int), b + 5)] 1 = [] := rfl
        rw [hd2] at g2
        have e7 : (hset H3 (b + 4) (.cells (cntC need (hs.set n true)) [])).length = b + 11 := by rw [hset_len, e6]
        have e8 : hget (hset H3 (b + 4) (.cells (cntC need (hs.set n true)) [])) (b + 10) = some (.map (seenM S')) := by rw [hsets_ne (by omega) (by omega)]; exact e4
        have e9 : (hset H3 (b + 4) (.cells (cntC need (hs.set n true)) [])).take b = h := by rw [take_hset_le (by omega)]; exact e5
        generalize hset H3 (b + 4) (.cells (cntC need (hs.set n true)) []) = H4 at *
        have s3 : CAt (hset (hset H4 (b + 1) (coordO 9 2 b ([] ++ [⟨2, 0, opR.s⟩] ++ [⟨1, 0, opW.s⟩]))) b (.map (mapI []))) (b + 1) b 9 2 ([] ++ [⟨2, 0, opR.s⟩] ++ [⟨1, 0, opW.s⟩]) [] := ⟨by rw [hsets_ne (by rw [hset_len]; omega) (by omega), hsets (by omega)], by rw [hsets (by rw [hset_len]; omega)]⟩
        refine ⟨_, _, _, _, _, true, g1, ?_, g2, ?_, coordAck_none s3 n rfl, coordGot_none s3 n _ rfl, ?_, hs.set n true, .inr ⟨by omega, _, rfl, s3⟩, ?_, hl', hmem', by rw [hcs, hSl, y.cnt], ?_, ?_⟩
        · have a1 : ¬ b + 9 < b := by omega
          have a2 : ¬ b + 8 < b := by omega
          have a3 : ¬ b + 1 < b := by omega
          simp [wrLt, a1, a2, a3]
        · have a1 : ¬ b + 4 < b := by omega
          have a3 : ¬ b + 1 < b := by omega
          simp [wrLt, a1, a3]
        · have : S'.length = need := by rw [hSl, ← y.cnt]; exact hnd
          simp [hin, this]
        · rw [hsets_ne (by rw [hset_len]; omega) (by omega), hsets_ne (by omega) (by omega)]; exact e8
        · rw [take_hset_le (by omega), take_hset_le (by omega)]; exact e9
        · rw [hset_len, hset_len, e7]
      · -- there are not
        have g1 := coordGot_wait t' u2' (n := 2) hn hb ⟨[107], zeroSib⟩ f2 rfl rfl kZero_may (by rw [hcs]; omega)
        rw [opR_got n hn] at g1
        have e1 : (hset H1 (b + 9) (.cells (opR.c (b + 8)) [])).length = b + 11 := by rw [hset_len, hl1]
        have v1 := (u1'.hset (k := b + 9) (by omega) (by omega) (.cells (opR.c (b + 8)) [])).hset (k := b + 8) (by omega) (by omega) (.cells (cntC need (hs.set n true)) [])
        have s1 := (t'.hset (k := b + 9) (by omega) (by omega) (.cells (opR.c (b + 8)) [])).hset (k := b + 8) (by omega) (by omega) (.cells (cntC need (hs.set n true)) [])
        have w1 : OAt (hset (hset H1 (b + 9) (.cells (opR.c (b + 8)) [])) (b + 8) (.cells (cntC need (hs.set n true)) [])) (b + 9) (b + 8) opR need (hs.set n true) := ⟨by rw [hsets_ne (by omega) (by omega), hsets (by omega)], hsets (by omega) _, u2'.al, hl', u2'.sm⟩
        have e2 : hget (hset (hset H1 (b + 9) (.cells (opR.c (b + 8)) [])) (b + 8) (.cells (cntC need (hs.set n true)) [])) (b + 10) = some (.map (seenM S')) := by rw [hsets_ne (by omega) (by omega), hsets_ne (by omega) (by omega)]; exact hseen
        have e3 : (hset (hset H1 (b + 9) (.cells (opR.c (b + 8)) [])) (b + 8) (.cells (cntC need (hs.set n true)) [])).take b = h := by rw [take_hset_le (by omega), take_hset_le (by omega)]; exact hpre
        have e1 : (hset (hset H1 (b + 9) (.cells (opR.c (b + 8)) [])) (b + 8) (.cells (cntC need (hs.set n true)) [])).length = b + 11 := by rw [hset_len, e1]
        generalize hset (hset H1 (b + 9) (.cells (opR.c (b + 8)) [])) (b + 8) (.cells (cntC need (hs.set n true)) []) = H2 at *
        have g2 := coordAck_wait s1 v1 (n := 1) hn hb f1 rfl (by rw [hcs]; omega)
        have s2 := s1.hset (k := b + 4) (by omega) (by omega) (.cells (cntC need (hs.set n true)) [])
        have w2 := w1.hset (k := b + 4) (by omega) (by omega) (.cells (cntC need (hs.set n true)) [])
        have v2 := v1.count hl'
        refine ⟨_, _, _, _, _, false, g1, ?_, g2, ?_, coordAck_no s2 w2 n f2 (.inl rfl), coordGot_no s2 v2 n _ f1 (.inl rfl), ?_, hs.set n true, .inl ⟨by omega, s2, v2, w2⟩, ?_, hl', hmem', by rw [hcs, hSl, y.cnt], ?_, ?_⟩
        · have a1 : ¬ b + 9 < b := by omega
          have a2 : ¬ b + 8 < b := by omega
          simp [wrLt, a1, a2]
        · have a1 : ¬ b + 4 < b := by omega
          simp [wrLt, a1]
        · have : ¬ S'.length = need := by rw [hSl, ← y.cnt]; exact hnd
          simp [this]
        · rw [hsets_ne (by omega) (by omega)]; exact e2
        · rw [take_hset_le (by omega)]; exact e3
        · rw [hset_len, e1]
  · have t' := t.hset (k := b + 10) (by omega) (by omega) (.map (seenM S'))
    generalize hset H (b + 10) (.map (seenM S')) = H1 at *
    have hg1 := coordGot_none t' (n := 2) n ⟨[107], zeroSib⟩ rfl
    have hg2 := coordAck_none t' (n := 1) n rfl
    have hg3 := coordAck_none t' (n := 2) n rfl
    have hg4 := coordGot_none t' (n := 1) n ⟨[107], zeroSib⟩ rfl
    by_cases hin : n ∈ S
    · rw [if_pos hin] at hS'
      subst hS'
      exact ⟨_, _, _, _, _, false, hg1, rfl, hg2, rfl, hg3, hg4, by simp [hin], hs, .inr ⟨hc, ans, ha, t'⟩, hseen, y.hl, y.mem, y.cnt, hpre, hl1⟩
    · rw [if_neg hin] at hS'
      have hb : hs.getD n false = false := by
        cases hg : hs.getD n false with
        | false => rfl
        | true => exact absurd (hmemn.1 hg) hin
      have hg? : hs[n]? = some false := by
        obtain ⟨x, hx, _, _⟩ := get_of_lt (l := hs) (i := n) (by rw [y.hl]; exact hn)
        rw [List.getD_eq_getElem?_getD, hx] at hb
        rw [hx]; exact congrArg some hb
      have hcs := cntN_set hg?
      have hSl : S'.length = S.length + 1 := by rw [hS']; simp
      have hmem' : ∀ k, k < 8 → ((hs.set n true).getD k false = true ↔ k ∈ S') := fun k hk => by
        rw [hS', List.getD_eq_getElem?_getD, List.getElem?_set]
        by_cases hkn : n = k
        · subst hkn; simp [y.hl, hn]
        · rw [if_neg hkn, ← List.getD_eq_getElem?_getD, y.mem k hk]
          simp [Ne.symm hkn]
      have hne : ¬ S'.length = need := by rw [hSl, ← y.cnt]; omega
      exact ⟨_, _, _, _, _, false, hg1, rfl, hg2, rfl, hg3, hg4, by simp [hne], hs.set n true, .inr ⟨by omega, ans, ha, t'⟩, hseen, by simp [y.hl], hmem', by rw [hcs, hSl, y.cnt], hpre, hl1⟩
end Go.Proofs.Ytklmddbnjookiaa.V
