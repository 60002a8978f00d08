/- HintsGrow. -/
import Derived.Test.YthkfjefoblmbhaaVmHL
import Derived.Test.YthkfjefoblmbhaaVmTN
set_option linter.unusedVariables false
set_option linter.unusedSimpArgs false
namespace Go.Proofs.Ythkfjefoblmbhaa.V
open Go.Vm

theorem joinAll_few {a b : Sib} (ha : a.may = true) (hb : b.may = true) (h : (a.join b).vals.length < 16) : (joinAll a b).length ≤ 16 := by
  have h1 : a.join b = ⟨a.seen.join b.seen, joinVals a b⟩ := by unfold Sib.join; rw [ha, hb]; rfl
  rw [h1] at h
  have h2 : ((joinAll a b).take 16).length < 16 := h
  rw [List.length_take] at h2
  omega
/-- What was put is known, unless there are too many values. -/
theorem more_leq {s m : Sib} (hs : s.may = true) (hm : m.may = true) (h : (s.join m).vals.length < 16) : m.leq (s.join m) = true := by
  refine leq_of hm (join_may hs hm) ?_
  have e := join_commG (a := s) (b := m)
  rw [e] at h ⊢
  exact join_abs hm hs (joinAll_few hm hs h)
theorem grow_leq {S : List Hnt} (inv : HInv S) {m : Hnt} (hm : mayH m = true) {x : Hnt} (hx : x ∈ putH S m) (hk : heq x m.node m.key = true) (hv : x.sib.vals.length < 16) : m.sib.leq x.sib = true := by
  have h1 := getH_mem (putH_srt (x := m) inv.srt) hx
  obtain ⟨e1, e2⟩ := heq_iff.1 hk
  rw [getH_putH _ _ inv.srt, if_pos ⟨e1.symm, e2.symm⟩] at h1
  injection h1 with h1
  cases hg : getH S x.node x.key with
  | none =>
    rw [hg] at h1
    simp only at h1
    rw [join_self (mayH_sib hm)] at h1
    rw [← h1]
    exact leq_of (mayH_sib hm) (mayH_sib hm) (join_self (mayH_sib hm))
  | some s =>
    rw [hg] at h1
    simp only at h1
    have hs : s.may = true := mayH_sib (inv.may _ (getH_some hg))
    rw [← h1] at hv ⊢
    exact more_leq hs (mayH_sib hm) hv
theorem grow_l0 (cs : List Cll) (hcs : cs.length ≤ 140737488355328) (B : Vm.Obj) (h : Heap) :
    loopRun (callL E) loopL h.length [3, 5, 28, 29, 30] c_tattlerlaw11_HintsGrow_l0 ⟨[(3, .ptr (some (h.length, 0))), (5, .ptr (some (h.length + 1, 0))), (28, .sl (cs.map Cll.v)), (29, .int .i64 cs.length), (30, .int .i64 0)], h ++ [B, hsO []], .no⟩ =
      some (.exit 0, ⟨[(3, .ptr (some (h.length, 0))), (5, .ptr (some (h.length + 1, 0))), (28, .sl (cs.map Cll.v)), (29, .int .i64 cs.length), (30, .int .i64 cs.length), (31, .bool false)], h ++ [B, hsO (putAll [] cs)], ⟨[], [], putM cs⟩⟩) := by
  have k2 := loop_to (C := callL E) (fb := h.length) (live := [3, 5, 28, 29, 30]) (c := c_tattlerlaw11_HintsGrow_l0)
    (fun j => ⟨[(3, .ptr (some (h.length, 0))), (5, .ptr (some (h.length + 1, 0))), (28, .sl (cs.map Cll.v)), (29, .int .i64 cs.length), (30, .int .i64 j)], h ++ [B, hsO (putAll [] (cs.take j))], ⟨[], [], putM (cs.take j)⟩⟩) cs.length
    (r := (.exit 0, ⟨[(3, .ptr (some (h.length, 0))), (5, .ptr (some (h.length + 1, 0))), (28, .sl (cs.map Cll.v)), (29, .int .i64 cs.length), (30, .int .i64 cs.length), (31, .bool false)], h ++ [B, hsO (putAll [] cs)], ⟨[], [], putM cs⟩⟩)) (fun j hj => ?_) ?_ rfl
  · exact k2
  · obtain ⟨c, hc, _, _⟩ := get_of_lt (l := cs) (i := j) hj
    have hlt : (j : Int) < (cs.length : Int) := by omega
    have h1 := i64_add1 (n := j) (by omega)
    have inv := HInv.nil.putAll (cs.take j)
    obtain ⟨b, g⟩ := put_at B inv c.h h [.cells c.c []]
    have hw := wrLt_cnd (n := h.length) (i := h.length + 1) (by omega) b
    rw [s_round, putAll_take hc, putM_take hc]
    generalize putAll [] (cs.take j) = P at *
    have ho := hs_lt (putL P c.h)
    simp [-getElem?_pos, c_tattlerlaw11_HintsGrow_l0, hlt, hj, hc, h1, g, hw, ho]
  · rw [s_round, List.take_length]
    simp [c_tattlerlaw11_HintsGrow_l0]
theorem ltK_flag {a b : Int} {x y : List UInt8} (h : ltK a x b y = true) : ¬ b < a ∧ (a = b → bytesLess x y = true) := by
  simp only [ltK, Bool.or_eq_true, Bool.and_eq_true, decide_eq_true_eq] at h
  rcases h with h | ⟨rfl, h⟩
  · exact ⟨by omega, fun e => by omega⟩
  · exact ⟨by omega, fun _ => h⟩
theorem grow_l1 (S W : List Hnt) (inv : HInv S) (m : Hnt) (hleq : ∀ x ∈ S, heq x m.node m.key = true → x.sib.vals.length < 16 → m.sib.leq x.sib = true) (h : Heap) (al : Bool) :
    ∃ al', loopRun (callL E) loopL h.length [3, 5, 8, 11, 57, 58, 59] c_tattlerlaw11_HintsGrow_l1 ⟨[(3, .ptr (some (h.length, 0))), (5, .ptr (some (h.length + 1, 0))), (8, .sl (W.map Hnt.v)), (11, .int .i64 0), (57, .sl (S.map Hnt.v)), (58, .int .i64 S.length), (59, .int .i64 0)], h ++ [.cells m.c [], hsO S], ⟨[], [], al⟩⟩ =
      some (.exit 2, ⟨[(3, .ptr (some (h.length, 0))), (5, .ptr (some (h.length + 1, 0))), (8, .sl (W.map Hnt.v)), (11, .int .i64 (S.filter fun x => heq x m.node m.key).length), (57, .sl (S.map Hnt.v)), (58, .int .i64 S.length), (59, .int .i64 S.length), (60, .bool false)], h ++ [.cells m.c [], hsO S], ⟨[], [], al'⟩⟩) := by
  have k2 := loop_to (C := callL E) (fb := h.length) (live := [3, 5, 8, 11, 57, 58, 59]) (c := c_tattlerlaw11_HintsGrow_l1)
    (fun j => ⟨[(3, .ptr (some (h.length, 0))), (5, .ptr (some (h.length + 1, 0))), (8, .sl (W.map Hnt.v)), (11, .int .i64 ((S.take j).filter fun x => heq x m.node m.key).length), (57, .sl (S.map Hnt.v)), (58, .int .i64 S.length), (59, .int .i64 j)], h ++ [.cells m.c [], hsO S], ⟨[], [], al || decide (0 < j)⟩⟩) S.length
    (r := (.exit 2, ⟨[(3, .ptr (some (h.length, 0))), (5, .ptr (some (h.length + 1, 0))), (8, .sl (W.map Hnt.v)), (11, .int .i64 (S.filter fun x => heq x m.node m.key).length), (57, .sl (S.map Hnt.v)), (58, .int .i64 S.length), (59, .int .i64 S.length), (60, .bool false)], h ++ [.cells m.c [], hsO S], ⟨[], [], al || decide (0 < S.length)⟩⟩)) (fun j hj => ?_) ?_ rfl
  · refine ⟨al || decide (0 < S.length), ?_⟩
    rw [show (al || decide (0 < 0)) = al by simp] at k2
    exact k2
  · obtain ⟨x, hx, _, hm⟩ := get_of_lt (l := S) (i := j) hj
    have hlt : (j : Int) < (S.length : Int) := by omega
    have hlen := inv.len
    have h1 := i64_add1 (n := j) (by omega)
    have hcnt : ((S.take j).filter fun x => heq x m.node m.key).length ≤ 64 := by
      have := List.length_filter_le (fun x : Hnt => heq x m.node m.key) (S.take j)
      have := List.length_take_le j S
      omega
    have h2 := i64_add1 (n := ((S.take j).filter fun x => heq x m.node m.key).length) (by omega)
    have ht : S.take (j + 1) = S.take j ++ [x] := by rw [List.take_add_one, hx]; rfl
    have hf : ((S.take (j + 1)).filter fun x => heq x m.node m.key).length = ((S.take j).filter fun x => heq x m.node m.key).length + cnd (heq x m.node m.key) 1 0 := by
      rw [ht, List.filter_append, List.length_append]
      cases hq : heq x m.node m.key <;> simp [hq]
    have ga := all_at (.cells m.c []) inv h [.cells x.c []]
    have gq := fun H => leq_eq m.ent.sib x.ent.sib H
    have ho := hs_lt S
    have hord : j = 0 ∨ ∃ i y, j = i + 1 ∧ S[i]? = some y ∧ ltK y.node y.key x.node x.key = true := by
      cases j with
      | zero => exact .inl rfl
      | succ i =>
        obtain ⟨y, hy, _, _⟩ := get_of_lt (l := S) (i := i) (by omega)
        refine .inr ⟨i, y, rfl, hy, ?_⟩
        have hs := inv.srt
        rw [HSrt, List.pairwise_iff_getElem] at hs
        have := hs i (i + 1) (by omega) hj (by omega)
        rw [(List.getElem?_eq_some_iff.1 hy).2, (List.getElem?_eq_some_iff.1 hx).2] at this
        exact this
    rw [s_round, hf]
    have w1 : IntKind.wrap .i64 1 = 1 := by rw [wrap_i64] <;> omega
    have hv16 : ∀ (hv : x.ent.sib.vals.length < 16), heq x m.node m.key = true → m.ent.sib.leq x.ent.sib = true := fun hv hq => hleq x hm hq hv
    generalize ((S.take j).filter fun x => heq x m.node m.key).length = cnt at *
    have hkx : x.key = x.ent.key := rfl
    have hkm : m.key = m.ent.key := rfl
    generalize hsO S = OS at *
    cases hq : heq x m.node m.key with
    | true =>
      obtain ⟨e1, e2⟩ := heq_iff.1 hq
      have hv := fun hv => hv16 hv hq
      rw [hkx, hkm] at e2
      rcases hord with rfl | ⟨i, y, rfl, hy, hlt2⟩
      · by_cases hvv : x.ent.sib.vals.length < 16
        · have e3 : (x.ent.sib.vals.length : Int) < 16 := by omega
          rw [hv hvv] at gq
          simp [-getElem?_pos, -Int.natCast_add, c_tattlerlaw11_HintsGrow_l1, hlt, hj, hx, h1, w1, h2, ga, gq, ho, e1, e2, e3]
        · have e3 : ¬ (x.ent.sib.vals.length : Int) < 16 := by omega
          simp [-getElem?_pos, -Int.natCast_add, c_tattlerlaw11_HintsGrow_l1, hlt, hj, hx, h1, w1, h2, ga, ho, e1, e2, e3]
      · obtain ⟨f1, f2⟩ := ltK_flag hlt2
        have f3 : y.node = m.node → bytesLess y.ent.key m.ent.key = true := fun e => by have := f2 (e.trans e1.symm); rw [hkx, e2] at this; exact this
        have f4 : ¬ m.node < y.node := by rw [← e1]; exact f1
        have j0 : (0 : Int) < ((i + 1 : Nat) : Int) := by omega
        have j1 : IntKind.wrap .i64 (((i + 1 : Nat) : Int) - 1) = (i : Int) := by rw [wrap_i64] <;> omega
        have hil : i < S.length := by omega
        by_cases hyn : y.node = m.node
        · have f5 := f3 hyn
          by_cases hvv : x.ent.sib.vals.length < 16
          · have e3 : (x.ent.sib.vals.length : Int) < 16 := by omega
            rw [hv hvv] at gq
            simp [-getElem?_pos, -Int.natCast_add, c_tattlerlaw11_HintsGrow_l1, hlt, hj, hx, h1, w1, h2, ga, gq, ho, e1, e2, e3, j0, j1, hil, hy, f4, f5, hyn]
          · have e3 : ¬ (x.ent.sib.vals.length : Int) < 16 := by omega
            simp [-getElem?_pos, -Int.natCast_add, c_tattlerlaw11_HintsGrow_l1, hlt, hj, hx, h1, w1, h2, ga, ho, e1, e2, e3, j0, j1, hil, hy, f4, f5, hyn]
        · have hyb : (y.node == m.node) = false := by simpa using hyn
          by_cases hvv : x.ent.sib.vals.length < 16
          · have e3 : (x.ent.sib.vals.length : Int) < 16 := by omega
            rw [hv hvv] at gq
            simp [-getElem?_pos, -Int.natCast_add, c_tattlerlaw11_HintsGrow_l1, hlt, hj, hx, h1, w1, h2, ga, gq, ho, e1, e2, e3, j0, j1, hil, hy, f4, hyb]
          · have e3 : ¬ (x.ent.sib.vals.length : Int) < 16 := by omega
            simp [-getElem?_pos, -Int.natCast_add, c_tattlerlaw11_HintsGrow_l1, hlt, hj, hx, h1, w1, h2, ga, ho, e1, e2, e3, j0, j1, hil, hy, f4, hyb]
    | false =>
      have hor : (x.node == m.node) = false ∨ (x.node = m.node ∧ (x.ent.key == m.ent.key) = false) := by
        by_cases e1 : x.node = m.node
        · refine .inr ⟨e1, ?_⟩
          simp only [beq_eq_false_iff_ne]
          intro e2
          have := heq_iff.2 ⟨e1, e2⟩
          rw [show m.ent.key = m.key from rfl, hq] at this; cases this
        · exact .inl (by simpa using e1)
      rcases hord with rfl | ⟨i, y, rfl, hy, hlt2⟩
      · rcases hor with e1 | ⟨e1, e2⟩
        · simp [-getElem?_pos, -Int.natCast_add, c_tattlerlaw11_HintsGrow_l1, hlt, hj, hx, h1, w1, h2, ga, ho, e1]
        · simp [-getElem?_pos, -Int.natCast_add, c_tattlerlaw11_HintsGrow_l1, hlt, hj, hx, h1, w1, h2, ga, ho, e1, e2]
      · obtain ⟨f1, f2⟩ := ltK_flag hlt2
        have j0 : (0 : Int) < ((i + 1 : Nat) : Int) := by omega
        have j1 : IntKind.wrap .i64 (((i + 1 : Nat) : Int) - 1) = (i : Int) := by rw [wrap_i64] <;> omega
        have hil : i < S.length := by omega
        have f3 : y.node = x.node → bytesLess y.ent.key x.ent.key = true := f2
        by_cases hyn : y.node = x.node
        · have f5 := f3 hyn
          rcases hor with e1 | ⟨e1, e2⟩
          · simp [-getElem?_pos, -Int.natCast_add, c_tattlerlaw11_HintsGrow_l1, hlt, hj, hx, h1, w1, h2, ga, ho, e1, j0, j1, hil, hy, f1, f5, hyn]
          · rw [hyn] at f1
            simp [-getElem?_pos, -Int.natCast_add, c_tattlerlaw11_HintsGrow_l1, hlt, hj, hx, h1, w1, h2, ga, ho, e1, e2, j0, j1, hil, hy, f1, f5, hyn]
        · have hyb : (y.node == x.node) = false := by simpa using hyn
          rcases hor with e1 | ⟨e1, e2⟩
          · simp [-getElem?_pos, -Int.natCast_add, c_tattlerlaw11_HintsGrow_l1, hlt, hj, hx, h1, w1, h2, ga, ho, e1, j0, j1, hil, hy, f1, hyb]
          · rw [e1] at f1 hyb
            simp [-getElem?_pos, -Int.natCast_add, c_tattlerlaw11_HintsGrow_l1, hlt, hj, hx, h1, w1, h2, ga, ho, e1, e2, j0, j1, hil, hy, f1, hyb]
  · rw [s_round, List.take_length]
    simp [c_tattlerlaw11_HintsGrow_l1]
theorem put_err {l : List Hnt} {x : Hnt} (h : putE l x ≠ 0) : putL l x = l := by
  unfold putE at h
  unfold putL
  cases hm : mayH x
  · rfl
  · rw [hm, cnd_true] at h
    rw [Bool.true_and]
    cases hg : (getH l x.node x.key).isSome || decide (l.length < 64)
    · rfl
    · rw [hg] at h
      exact absurd rfl h
theorem put_fine {l : List Hnt} {x : Hnt} (h : putE l x = 0) : mayH x = true ∧ putL l x = putH l x := by
  unfold putE at h
  unfold putL
  cases hm : mayH x
  · rw [hm] at h; cases h
  · rw [hm, cnd_true] at h
    rw [Bool.true_and]
    cases hg : (getH l x.node x.key).isSome || decide (l.length < 64)
    · rw [hg] at h; cases h
    · exact ⟨rfl, rfl⟩
theorem HintsGrow_eq (cs : List Cll) (hcs : cs.length ≤ 140737488355328) (m : Hnt) (h : Heap) : ∃ fl, callL E F.tattlerlaw11_HintsGrow [.sl (cs.map Cll.v), m.v] h = some (.bool true, h, fl) := by
  obtain ⟨b, g1, _⟩ := light11_eq cs hcs (h ++ [.cells m.c []])
  have g2 := fun L => awake11_eq (h ++ L)
  cases hb : b && decide (m.ent.sib.vals.length ≤ 20) with
  | false =>
    refine ⟨⟨[], [], true⟩, callL_of rfl fn_tattlerlaw11_HintsGrow ?_⟩
    cases b with
    | false => simp [-getElem?_pos, c_tattlerlaw11_HintsGrow, g1, g2]
    | true =>
      have e1 : (20 : Int) < (m.ent.sib.vals.length : Int) := by
        rw [Bool.true_and, decide_eq_false_iff_not] at hb
        omega
      simp [-getElem?_pos, c_tattlerlaw11_HintsGrow, g1, g2, e1]
  | true =>
    simp only [Bool.and_eq_true, decide_eq_true_eq] at hb
    obtain ⟨rfl, hs20⟩ := hb
    have e1 : ¬ (20 : Int) < (m.ent.sib.vals.length : Int) := by omega
    have inv := HInv.nil.putAll cs
    have g3 := hintsNew_eq (h ++ [.cells m.c []])
    have k0 := grow_l0 cs hcs (.cells m.c []) h
    have ga := all_at (.cells m.c []) inv h []
    obtain ⟨b1, gp⟩ := put_at (.cells m.c []) inv m h []
    have hw := wrLt_cnd (n := h.length) (i := h.length + 1) (by omega) b1
    refine ⟨⟨[], [], true⟩, callL_of rfl fn_tattlerlaw11_HintsGrow ?_⟩
    by_cases he : putE (putAll [] cs) m = 0
    · obtain ⟨hm, hp⟩ := put_fine he
      have inv2 := inv.putL m
      have hleq : ∀ x ∈ putL (putAll [] cs) m, heq x m.node m.key = true → x.sib.vals.length < 16 → m.sib.leq x.sib = true := by
        rw [hp]
        exact fun x hx hk hv => grow_leq inv hm hx hk hv
      have gb := all_at (.cells m.c []) inv2 h []
      obtain ⟨a1, k1⟩ := grow_l1 (putL (putAll [] cs) m) (putAll [] cs) inv2 m hleq h true
      have hc1 : ((putL (putAll [] cs) m).filter fun x => heq x m.node m.key).length = 1 := by
        rw [cnt1 inv2.srt, hp, getH_putH _ _ inv.srt, if_pos ⟨rfl, rfl⟩]
        rfl
      rw [hc1] at k1
      have gl := len_at (.cells m.c []) inv2 h []
      have hlen : (putL (putAll [] cs) m).length ≤ (putAll [] cs).length + 1 := by
        rw [hp, putH_len inv.srt]
        cases (getH (putAll [] cs) m.node m.key).isSome <;> simp
      have hlen2 : ((putL (putAll [] cs) m).length : Int) ≤ ((putAll [] cs).length : Int) + 1 := by omega
      have h64 := i64_add1 (n := (putAll [] cs).length) (by have := inv.len; omega)
      rw [he, hm] at gp
      generalize putL (putAll [] cs) m = S2 at *
      generalize putAll [] cs = S at *
      generalize hsO S2 = O2 at *
      generalize hsO S = OS at *
      generalize hsO [] = O0 at *
      have hlen3 : ((S2.length : Nat) : Int) ≤ ((S.length + 1 : Nat) : Int) := by omega
      simp [-getElem?_pos, -Int.natCast_add, c_tattlerlaw11_HintsGrow, g1, g2, g3, e1, k0, ga, gp, hw, gb, k1, gl, h64, hlen3]
    · have hp := put_err he
      rw [hp] at gp
      have gs := fun H => sameHints_self (putAll [] cs) (by have := inv.len; omega) inv.vals H
      have heb : (putE (putAll [] cs) m == 0) = false := by simpa using he
      generalize putE (putAll [] cs) m = e at *
      generalize putB (putAll [] cs) m = bb at *
      generalize putAll [] cs = S at *
      generalize hsO S = OS at *
      generalize hsO [] = O0 at *
      simp [-getElem?_pos, -Int.natCast_add, c_tattlerlaw11_HintsGrow, g1, g2, g3, e1, k0, ga, gp, hw, heb, gs]
theorem tattlerlaw11_HintsGrow_top {c0 c1 : List V} (h0 : Ty.Has (.sl (.st (.cons (.int .i64) (.cons hntT (.cons sibT .nil))))) c0) (h1 : Ty.Has hntT c1) : ∃ h fl, callL E F.tattlerlaw11_HintsGrow [Ty.el (.sl (.st (.cons (.int .i64) (.cons hntT (.cons sibT .nil))))) c0, Ty.el hntT c1] [] = some (.bool true, h, fl) := by
  obtain ⟨l, wl, _, rfl⟩ := Clls.dec h0
  obtain ⟨s, ws, rfl⟩ := Hnt.dec h1
  obtain ⟨fl, hf⟩ := HintsGrow_eq l (by unfold reachLen at wl; omega) s []
  exact ⟨_, fl, hf⟩
end Go.Proofs.Ythkfjefoblmbhaa.V
