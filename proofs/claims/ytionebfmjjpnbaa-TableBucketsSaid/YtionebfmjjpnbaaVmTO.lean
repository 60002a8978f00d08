/- TableOrder. -/
import Derived.Test.YtionebfmjjpnbaaVmTW
import Derived.Test.YtionebfmjjpnbaaVmKSE
set_option linter.unusedVariables false
set_option linter.unusedSimpArgs false
namespace Go.Proofs.Ytionebfmjjpnbaa.V
open Go.Vm

theorem hset_same {h : Heap} {k : Nat} {o : Vm.Obj} (hk : hget h k = some o) : hset h k o = h := by
  unfold hset hget at *
  apply List.ext_getElem?
  intro j
  rw [List.getElem?_set]
  split
  · rename_i e
    subst e
    rw [hk, if_pos (List.getElem?_eq_some_iff.1 hk).1]
  · rfl
/-- An entry is joined to a table with room. -/
theorem tabJoin_any {h : Heap} {i k : Nat} {T : List Ent} (t : TabAt h i k T) (hm : AllMay T) (e : Ent) (hl : T.length < 256) :
    ∃ r fl, callL E F.table_Table_Join [.ptr (some (i, 0)), .agg e.c] h = some (r, hset h k (.map (mapE (joinT T e))), fl) ∧ ∀ n, n ≤ k → Fl.cut n fl = .no := by
  unfold joinT
  cases he : e.may with
  | false =>
    have g := tabJoin_no (h := h) (i := 0) e he (some (i, 0))
    exact ⟨_, .no, g.trans (by rw [cnd_false, hset_same t.map]), fun n _ => rfl⟩
  | true =>
    have g := tabJoin_eq t hm he (.inr (by omega)) (by omega)
    refine ⟨_, _, g, fun n hn => ?_⟩
    have : decide (k < n) = false := decide_eq_false (by omega)
    simp [this, wrLt]
def sumE (l : List Ent) : Nat := (l.map fun e => e.sib.vals.length).sum
theorem few10_eq (l : List Ent) (hl : l.length ≤ 60) (hv : ∀ e ∈ l, e.sib.vals.length ≤ 20) (h : Heap) : callL E F.tattlerlaw10_few [.sl (l.map Ent.v)] h = some (.bool (decide (sumE l ≤ 16)), h, .no) := by
  refine callL_of rfl fn_tattlerlaw10_few ?_
  have bound : ∀ j, sumE (l.take j) ≤ 20 * j := by
    intro j
    have : ∀ q : List Ent, (∀ e ∈ q, e.sib.vals.length ≤ 20) → sumE q ≤ 20 * q.length := by
      intro q
      induction q with
      | nil => intro _; exact Nat.le_refl _
      | cons e q ih =>
        intro hq
        have h1 := ih fun x hx => hq x (by simp [hx])
        have h2 := hq e (by simp)
        show (e.sib.vals.length + sumE q) ≤ _
        rw [List.length_cons]
        omega
    have h1 := this (l.take j) fun e he => hv e (List.mem_of_mem_take he)
    have h2 : (l.take j).length ≤ j := by simp; omega
    omega
  have key := loop_to (C := callL E) (fb := h.length) (live := [3, 6, 7, 8]) (c := c_tattlerlaw10_few_l0)
    (fun j => ⟨[(3, .int .i64 (sumE (l.take j))), (6, .sl (l.map Ent.v)), (7, .int .i64 l.length), (8, .int .i64 j)], h, .no⟩) l.length
    (r := (.exit 0, ⟨[(3, .int .i64 (sumE l)), (6, .sl (l.map Ent.v)), (7, .int .i64 l.length), (8, .int .i64 l.length), (9, .bool false)], h, .no⟩)) (fun j hj => ?_) ?_ rfl
  · rw [show ((0 : Nat) : Int) = 0 from rfl, List.take_zero, show sumE [] = 0 from rfl, show ((0 : Nat) : Int) = 0 from rfl] at key
    have e1 : decide ((sumE l : Int) ≤ 16) = decide (sumE l ≤ 16) := decide_eq_decide.2 (by omega)
    by_cases h16 : sumE l ≤ 16
    · have e2 : (sumE l : Int) ≤ 16 := by omega
      simp [-getElem?_pos, c_tattlerlaw10_few, key, h16, e2]
      done
    · have e2 : ¬ (sumE l : Int) ≤ 16 := by omega
      simp [-getElem?_pos, c_tattlerlaw10_few, key, h16, e2]
      done
  · obtain ⟨e, hx, _, hm⟩ := get_of_lt (l := l) (i := j) hj
    have hlt : (j : Int) < (l.length : Int) := by omega
    have h1 := i64_add1 (n := j) (by omega)
    have hb := bound (j + 1)
    have hs : sumE (l.take (j + 1)) = sumE (l.take j) + e.sib.vals.length := by
      unfold sumE
      rw [List.take_add_one, hx]
      simp
    have h2 : IntKind.i64.wrap ((sumE (l.take j) : Int) + (e.sib.vals.length : Int)) = ((sumE (l.take (j + 1)) : Nat) : Int) := by
      rw [wrap_i64] <;> omega
    generalize sumE (l.take (j + 1)) = B at *
    generalize sumE (l.take j) = A at *
    rw [s_round]
    simp [-getElem?_pos, c_tattlerlaw10_few_l0, hlt, hj, hx, h1, h2]
    done
  · rw [s_round, List.take_length]
    simp [c_tattlerlaw10_few_l0]
/-- Two tables. -/
def tab2 (h : Heap) (A B : List Ent) : Heap := h ++ [.map (mapE A), .cells [.map (some h.length)] [], .map (mapE B), .cells [.map (some (h.length + 2))] []]
theorem tab2_a (h : Heap) (A B : List Ent) : TabAt (tab2 h A B) (h.length + 1) h.length A := ⟨by simp [tab2], by simp [tab2]⟩
theorem tab2_b (h : Heap) (A B : List Ent) : TabAt (tab2 h A B) (h.length + 3) (h.length + 2) B := ⟨by simp [tab2], by simp [tab2]⟩
theorem tab2_setA (h : Heap) (A B A' : List Ent) : hset (tab2 h A B) h.length (.map (mapE A')) = tab2 h A' B := by simp [tab2]
theorem tab2_setB (h : Heap) (A B B' : List Ent) : hset (tab2 h A B) (h.length + 2) (.map (mapE B')) = tab2 h A B' := by simp [tab2]
noncomputable def twice (l : List Ent) (T : List Ent) : List Ent := (l.flatMap fun e => [e, e]).foldl joinT T
theorem twice_take {l : List Ent} {j : Nat} {e : Ent} (h : l[j]? = some e) : twice (l.take (j + 1)) [] = joinT (joinT (twice (l.take j) []) e) e := by
  unfold twice
  rw [List.take_add_one, h]
  simp
theorem flat_len : ∀ l : List Ent, (l.flatMap fun e => [e, e]).length = 2 * l.length
  | [] => rfl
  | e :: l => by
    rw [List.flatMap_cons, List.length_append, flat_len l, List.length_cons]
    simp only [List.length_cons, List.length_nil]
    omega
theorem twice_len (l : List Ent) : (twice l []).length ≤ 2 * l.length := by
  have h1 := fold_len (l.flatMap fun e => [e, e]) []
  have h2 := flat_len l
  unfold twice
  simp only [List.length_nil] at h1
  omega
theorem twice_may (l : List Ent) : TMayE (twice l []) := fold_mayE fun e he => by cases he
theorem twice_ndup (l : List Ent) : NDup (twice l []) := fold_ndup List.nodup_nil
theorem order_loop (l : List Ent) (hl : l.length ≤ 60) (h : Heap) :
    loopRun (callL E) loopL h.length [0, 3, 4, 23, 24] c_tattlerlaw10_TableOrder_l0 ⟨[(0, .sl (l.map Ent.v)), (3, .ptr (some (h.length + 1, 0))), (4, .ptr (some (h.length + 3, 0))), (23, .int .i64 l.length), (24, .int .i64 0)], tab2 h [] [], .no⟩ =
      some (.exit 0, ⟨[(0, .sl (l.map Ent.v)), (3, .ptr (some (h.length + 1, 0))), (4, .ptr (some (h.length + 3, 0))), (23, .int .i64 l.length), (24, .int .i64 l.length), (25, .bool false)], tab2 h (l.foldl joinT []) (twice l.reverse []), .no⟩) := by
  have key := loop_to (C := callL E) (fb := h.length) (live := [0, 3, 4, 23, 24]) (c := c_tattlerlaw10_TableOrder_l0)
    (fun j => ⟨[(0, .sl (l.map Ent.v)), (3, .ptr (some (h.length + 1, 0))), (4, .ptr (some (h.length + 3, 0))), (23, .int .i64 l.length), (24, .int .i64 j)], tab2 h ((l.take j).foldl joinT []) (twice (l.reverse.take j) []), .no⟩) l.length
    (r := (.exit 0, ⟨[(0, .sl (l.map Ent.v)), (3, .ptr (some (h.length + 1, 0))), (4, .ptr (some (h.length + 3, 0))), (23, .int .i64 l.length), (24, .int .i64 l.length), (25, .bool false)], tab2 h (l.foldl joinT []) (twice l.reverse []), .no⟩)) (fun j hj => ?_) ?_ rfl
  · rw [show ((0 : Nat) : Int) = 0 from rfl, List.take_zero, List.take_zero] at key
    exact key
  · obtain ⟨e, hx, _, _⟩ := get_of_lt (l := l) (i := j) hj
    obtain ⟨e', hy, _, _⟩ := get_of_lt (l := l) (i := l.length - 1 - j) (by omega)
    have hyr : l.reverse[j]? = some e' := by rw [List.getElem?_reverse hj]; exact hy
    have hlt : (j : Int) < (l.length : Int) := by omega
    have h1 := i64_add1 (n := j) (by omega)
    have n1 : IntKind.i64.wrap ((l.length : Int) - 1) = (l.length : Int) - 1 := by rw [wrap_i64] <;> omega
    have n2 : IntKind.i64.wrap ((l.length : Int) - 1 - (j : Int)) = ((l.length - 1 - j : Nat) : Int) := by rw [wrap_i64] <;> omega
    have hlt2 : l.length - 1 - j < l.length := by omega
    rw [foldl_takeG hx, twice_take hyr]
    have hm : TMayE ((l.take j).foldl joinT []) := fold_mayE fun e he => by cases he
    have hm2 := twice_may (l.reverse.take j)
    have hlen := fold_len (l.take j) []
    have hlen2 := twice_len (l.reverse.take j)
    simp only [List.length_nil, List.length_take, List.length_reverse] at hlen hlen2
    generalize (l.take j).foldl joinT [] = A at *
    generalize twice (l.reverse.take j) [] = B at *
    obtain ⟨r1, f1, g1, c1⟩ := tabJoin_any (tab2_a h A B) hm.sib e (by omega)
    rw [tab2_setA] at g1
    obtain ⟨r2, f2, g2, c2⟩ := tabJoin_any (tab2_b h (joinT A e) B) hm2.sib e' (by omega)
    rw [tab2_setB] at g2
    have hl3 := joinT_len B e'
    obtain ⟨r3, f3, g3, c3⟩ := tabJoin_any (tab2_b h (joinT A e) (joinT B e')) (joinT_mayE hm2 e').sib e' (by omega)
    rw [tab2_setB] at g3
    have d1 := c1 h.length (Nat.le_refl _)
    have d2 := c2 h.length (by omega)
    have d3 := c3 h.length (by omega)
    have kl : ∀ X Y : List Ent, (tab2 h X Y).length = h.length + 4 := fun X Y => by simp [tab2]
    have ltA : ∀ X Y : List Ent, h.length + 1 < (tab2 h X Y).length := fun X Y => by rw [kl]; omega
    have ltB : ∀ X Y : List Ent, h.length + 3 < (tab2 h X Y).length := fun X Y => by rw [kl]; omega
    have tk : ∀ X Y : List Ent, List.take (h.length + 4) (tab2 h X Y) = tab2 h X Y := fun X Y => List.take_of_length_le (by rw [kl]; omega)
    generalize joinT (joinT B e') e' = B2 at *
    generalize joinT B e' = B1 at *
    generalize joinT A e = A1 at *
    rw [s_round]
    simp [-getElem?_pos, c_tattlerlaw10_TableOrder_l0, hlt, hj, hx, hy, h1, n1, n2, hlt2, g1, g2, g3, d1, d2, d3, kl, tk]
    done
  · rw [s_round, List.take_length, show l.reverse.take l.length = l.reverse from List.take_of_length_le (by simp)]
    simp [c_tattlerlaw10_TableOrder_l0]
/-- What is told of one table is in the other already. -/
theorem again_loop (A B : List Ent) (hB : TMayE B) (hl : B.length < 256) (l : List Ent) (hll : l.length ≤ 1000) (hm : TMayE l) (hf : ∀ e ∈ l, findT B e.key = some e.sib) (h : Heap) :
    loopRun (callL E) loopL h.length [4, 61, 62, 63] c_tattlerlaw10_TableOrder_l1 ⟨[(4, .ptr (some (h.length + 3, 0))), (61, .sl (l.map Ent.v)), (62, .int .i64 l.length), (63, .int .i64 0)], tab2 h A B, .no⟩ =
      some (.exit 2, ⟨[(4, .ptr (some (h.length + 3, 0))), (61, .sl (l.map Ent.v)), (62, .int .i64 l.length), (63, .int .i64 l.length), (64, .bool false)], tab2 h A B, .no⟩) := by
  have key := loop_to (C := callL E) (fb := h.length) (live := [4, 61, 62, 63]) (c := c_tattlerlaw10_TableOrder_l1)
    (fun j => ⟨[(4, .ptr (some (h.length + 3, 0))), (61, .sl (l.map Ent.v)), (62, .int .i64 l.length), (63, .int .i64 j)], tab2 h A B, .no⟩) l.length
    (r := (.exit 2, ⟨[(4, .ptr (some (h.length + 3, 0))), (61, .sl (l.map Ent.v)), (62, .int .i64 l.length), (63, .int .i64 l.length), (64, .bool false)], tab2 h A B, .no⟩)) (fun j hj => ?_) ?_ rfl
  · rw [show ((0 : Nat) : Int) = 0 from rfl] at key
    exact key
  · obtain ⟨e, hx, _, he⟩ := get_of_lt (l := l) (i := j) hj
    have hlt : (j : Int) < (l.length : Int) := by omega
    have h1 := i64_add1 (n := j) (by omega)
    have hfe := hf e he
    have hme := hm e he
    have g1 := fun x => tabJoin_eq ((tab2_b h A B).app x) hB.sib hme (.inl (by rw [hfe]; rfl)) (by omega)
    have hnow : nowT B e = e.sib := by
      unfold nowT
      rw [hfe]
      exact join_self (ent_sib_may hme)
    rw [hnow, hfe, putT_id hfe] at g1
    have hs2 : ∀ x, hset (tab2 h A B ++ x) (h.length + 2) (.map (mapE B)) = tab2 h A B ++ x := fun x => hset_same ((tab2_b h A B).app x).map
    simp only [hs2, Option.isSome_some, Option.getD_some, Bool.true_and, decide_true, Ent.v, Sib.v] at g1
    have ltB : h.length + 3 < List.length (tab2 h A B) := by simp [tab2]
    have dw : decide (h.length + 2 < h.length) = false := decide_eq_false (by omega)
    generalize tab2 h A B = H at *
    rw [s_round]
    have l1 : h.length ≤ List.length H := by omega
    have l2 : h.length ≤ List.length H + 1 := by omega
    simp [-getElem?_pos, c_tattlerlaw10_TableOrder_l1, hlt, hj, hx, h1, g1, ltB, dw, wrLt, l1, l2]
    done
  · rw [s_round]
    simp [c_tattlerlaw10_TableOrder_l1]
theorem joinE_c (e : Ent) : e.v = .agg e.c := rfl
set_option maxRecDepth 4000 in
theorem TableOrder_eq (l : List Ent) (hl : l.length ≤ 140737488355328) (h : Heap) : callL E F.tattlerlaw10_TableOrder [.sl (l.map Ent.v)] h = some (.bool true, h, .no) := by
  refine callL_of rfl fn_tattlerlaw10_TableOrder ?_
  have g2 := light10_eq l hl h
  have g5 := fun x => awake10_eq (h ++ x)
  have g5' := awake10_eq h
  cases hlt : lightE l with
  | false =>
    rw [hlt] at g2
    simp [-getElem?_pos, c_tattlerlaw10_TableOrder, g2, g5']
    done
  | true =>
    rw [hlt] at g2
    unfold lightE at hlt
    simp only [Bool.and_eq_true, decide_eq_true_eq, List.all_eq_true] at hlt
    have g3 := few10_eq l hlt.1 hlt.2 h
    by_cases hfew : sumE l ≤ 16
    · rw [decide_eq_true hfew] at g3
      have n0 := tabNew_eq h
      have n1 : callL E F.table_New [] (h ++ [.map [], .cells [.map (some h.length)] []]) = some (.ptr (some (h.length + 3, 0)), h ++ [.map [], .cells [.map (some h.length)] [], .map [], .cells [.map (some (h.length + 2))] []], .no) := by
        have := tabNew_eq (h ++ [.map [], .cells [.map (some h.length)] []])
        simpa using this
      have lp := order_loop l hlt.1 h
      have m0 : mapE [] = [] := rfl
      have ext : ∀ k, findT (twice l.reverse []) k = findT (l.foldl joinT []) k := order_same l hfew
      have ma : TMayE (l.foldl joinT []) := fold_mayE fun e he => by cases he
      have mb := twice_may l.reverse
      have na : NDup (l.foldl joinT []) := fold_ndup List.nodup_nil
      have nb := twice_ndup l.reverse
      have la := fold_len l []
      have lb := twice_len l.reverse
      simp only [List.length_nil, List.length_reverse] at la lb
      have eqA : allT (twice l.reverse []) = allT (l.foldl joinT []) := allT_ext nb na ext
      have hin : ∀ e ∈ allT (l.foldl joinT []), findT (twice l.reverse []) e.key = some e.sib := fun e he => by rw [ext]; exact mem_allT.1 he
      have hal := allT_len (l.foldl joinT [])
      have ham := allT_may ma
      generalize twice l.reverse [] = B at *
      generalize l.foldl joinT [] = A at *
      have a1 := tabAll_eq (tab2_a h A B) ma.sib (by omega) ma.small
      have a2 := tabAll_eq (tab2_b h A B) mb.sib (by omega) mb.small
      rw [eqA] at a2
      have s1 := sameEntries_eq (allT A) (allT A) (by omega) (fun e he => by have := may_len (ent_sib_may (ham e he)); omega) (tab2 h A B)
      rw [decide_eq_true rfl] at s1
      have lq := again_loop A B mb (by omega) (allT A) (by omega) ham hin h
      have hh : ∀ X, tab2 h X B = h ++ [.map (mapE X), .cells [.map (some h.length)] [], .map (mapE B), .cells [.map (some (h.length + 2))] []] := fun X => rfl
      have wk := g5 [.map (mapE A), .cells [.map (some h.length)] [], .map (mapE B), .cells [.map (some (h.length + 2))] []]
      rw [← hh A] at wk
      have hz : tab2 h [] [] = h ++ [.map [], .cells [.map (some h.length)] [], .map [], .cells [.map (some (h.length + 2))] []] := rfl
      rw [hz] at lp
      have tk : List.take h.length (tab2 h A B) = h := by simp [tab2]
      have hQ : (allT A).length = ((allT A).map Ent.v).length := by simp
      rw [hQ] at lq
      generalize (allT A).map Ent.v = Q at *
      generalize tab2 h A B = H at *
      simp [-getElem?_pos, c_tattlerlaw10_TableOrder, g2, g3, n0, n1, lp, a1, a2, s1, lq, wk, tk]
      done
    · rw [decide_eq_false hfew] at g3
      simp [-getElem?_pos, c_tattlerlaw10_TableOrder, g2, g3, g5']
      done
theorem tattlerlaw10_TableOrder_top {c0 : List V} (h0 : Ty.Has (.sl entT) c0) : ∃ h fl, callL E F.tattlerlaw10_TableOrder [Ty.el (.sl entT) c0] [] = some (.bool true, h, fl) := by
  obtain ⟨l, wl, ws, rfl⟩ := Ents.dec h0
  exact ⟨_, _, TableOrder_eq l (by unfold reachLen at wl; omega) []⟩
end Go.Proofs.Ytionebfmjjpnbaa.V
