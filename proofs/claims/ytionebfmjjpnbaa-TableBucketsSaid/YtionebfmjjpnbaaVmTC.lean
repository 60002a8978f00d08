/- TableCopies. -/
import Derived.Test.YtionebfmjjpnbaaVmTO
set_option linter.unusedVariables false
set_option linter.unusedSimpArgs false
namespace Go.Proofs.Ytionebfmjjpnbaa.V
open Go.Vm

noncomputable def reapT (T : List Ent) (k : List UInt8) : List Ent :=
  match findT T k with
  | some s => putT T k (reapS s)
  | none => T
theorem tabReap_any {h : Heap} {i k : Nat} {T : List Ent} (t : TabAt h i k T) (hm : AllMay T) (key : List UInt8) :
    ∃ r fl, callL E F.table_Table_Reap [.ptr (some (i, 0)), .str key] h = some (r, hset h k (.map (mapE (reapT T key))), fl) ∧ ∀ n, n ≤ k → Fl.cut n fl = .no := by
  unfold reapT
  cases hf : findT T key with
  | none =>
    have g := tabReap_no t hm hf
    exact ⟨_, .no, g.trans (by rw [hset_same t.map]), fun n _ => rfl⟩
  | some s =>
    refine ⟨_, _, tabReap_eq t hm hf, fun n hn => ?_⟩
    have : decide (k < n) = false := decide_eq_false (by omega)
    simp [this, wrLt]
theorem reapT_may {T : List Ent} (h : AllMay T) (k : List UInt8) : AllMay (reapT T k) := by
  unfold reapT
  cases hf : findT T k with
  | none => exact h
  | some s => exact putT_may h (reap_may (findT_may h hf))
theorem reapT_len (T : List Ent) (k : List UInt8) : (reapT T k).length = T.length := by
  unfold reapT
  cases hf : findT T k with
  | none => rfl
  | some s => exact putT_same hf
noncomputable def reapsT (T : List Ent) (l : List Ent) : List Ent := l.foldl (fun T e => reapT T e.key) T
theorem reapsT_may {l T : List Ent} (h : AllMay T) : AllMay (reapsT T l) := by
  induction l generalizing T with
  | nil => exact h
  | cons e l ih => exact ih (reapT_may h e.key)
theorem reapsT_len (l T : List Ent) : (reapsT T l).length = T.length := by
  induction l generalizing T with
  | nil => rfl
  | cons e l ih => exact (ih (reapT T e.key)).trans (reapT_len T e.key)
theorem fold_lenLe (l r : List Ent) : r.length ≤ (l.foldl joinT r).length := by
  induction l generalizing r with
  | nil => exact Nat.le_refl _
  | cons e l ih =>
    refine Nat.le_trans ?_ (ih (joinT r e))
    unfold joinT
    cases e.may
    · exact Nat.le_refl _
    · exact (putT_len _ _ _).2
theorem fill_take {l T : List Ent} {j : Nat} {e : Ent} (h : l[j]? = some e) : (l.take (j + 1)).foldl joinT T = joinT ((l.take j).foldl joinT T) e := foldl_takeG h
theorem reaps_take {l T : List Ent} {j : Nat} {e : Ent} (h : l[j]? = some e) : reapsT T (l.take (j + 1)) = reapT (reapsT T (l.take j)) e.key := foldl_takeG h
theorem copies_loop0 (l : List Ent) (h : Heap) (T0 : List Ent) (hm0 : AllMay T0) (hl0 : T0.length + l.length < 256) (v1 : V) (hv1 : v1.lt (h.length + 2) = true) :
    loopRun (callL E) loopL h.length [1, 5, 24, 25, 26] c_tattlerlaw10_TableCopies_l0 ⟨[(1, v1), (5, .ptr (some (h.length + 1, 0))), (24, .sl (l.map Ent.v)), (25, .int .i64 l.length), (26, .int .i64 0)], tabH h T0, .no⟩ =
      some (.exit 0, ⟨[(1, v1), (5, .ptr (some (h.length + 1, 0))), (24, .sl (l.map Ent.v)), (25, .int .i64 l.length), (26, .int .i64 l.length), (27, .bool false)], tabH h (l.foldl joinT T0), .no⟩) := by
  have key := loop_to (C := callL E) (fb := h.length) (live := [1, 5, 24, 25, 26]) (c := c_tattlerlaw10_TableCopies_l0)
    (fun j => ⟨[(1, v1), (5, .ptr (some (h.length + 1, 0))), (24, .sl (l.map Ent.v)), (25, .int .i64 l.length), (26, .int .i64 j)], tabH h ((l.take j).foldl joinT T0), .no⟩) l.length
    (r := (.exit 0, ⟨[(1, v1), (5, .ptr (some (h.length + 1, 0))), (24, .sl (l.map Ent.v)), (25, .int .i64 l.length), (26, .int .i64 l.length), (27, .bool false)], tabH h (l.foldl joinT T0), .no⟩)) (fun j hj => ?_) ?_ rfl
  · rw [show ((0 : Nat) : Int) = 0 from rfl, List.take_zero] at key
    exact key
  · obtain ⟨e, hx, _, _⟩ := get_of_lt (l := l) (i := j) hj
    have hlt : (j : Int) < (l.length : Int) := by omega
    have h1 := i64_add1 (n := j) (by omega)
    rw [fill_take hx]
    have hm : AllMay ((l.take j).foldl joinT T0) := fold_may hm0
    have hlen : ((l.take j).foldl joinT T0).length ≤ T0.length + j := by (have h5 := fold_len (l.take j) T0); (have h6 : (l.take j).length ≤ j := (by simp; omega)); omega
    generalize ((l.take j).foldl joinT T0) = T at *
    have hset2 : ∀ x, hset (tabH h T ++ x) h.length (.map (mapE (joinT T e))) = tabH h (joinT T e) ++ x := fun x => by rw [hset_app (by simp [tabH, tab2])]; simp [tabH, tab2]
    obtain ⟨r1, f1, g1, c1⟩ := tabJoin_any (h := tabH h T ++ [.cells e.c []]) ((tabH_app h T _)) hm e (by omega)
    rw [hset2] at g1
    have d1 := c1 h.length (by omega)
    have kl : ∀ X, List.length (tabH h X) = h.length + 2 := fun X => by simp [tabH, tab2]
    have kT := kl T
    have kJ := kl (joinT T e)
    have vl1 : v1.lt (List.length (tabH h T)) = true := V.lt_mono (by omega) v1 hv1
    have l1 : h.length ≤ List.length (tabH h T) := by omega
    have l2 : h.length ≤ List.length (tabH h T) + 1 := by omega
    have l3 : h.length + 1 < List.length (tabH h T) := by omega
    have eq : List.length (tabH h (joinT T e)) = List.length (tabH h T) := by omega
    have tk : ∀ x, List.take (List.length (tabH h T)) (tabH h (joinT T e) ++ x) = tabH h (joinT T e) := fun x => List.take_left' eq
    have hk : e.c[0]? = some (.str e.key) := rfl
    generalize tabH h (joinT T e) = H1 at *
    generalize tabH h T = H at *
    rw [s_round]
    simp [-getElem?_pos, c_tattlerlaw10_TableCopies_l0, hlt, hj, hx, h1, g1, d1, l1, l2, l3, eq, tk, hk, vl1]
    done
  · rw [s_round, List.take_length]
    simp [c_tattlerlaw10_TableCopies_l0]
theorem copies_loop1 (l : List Ent) (h : Heap) (A : List Ent) (T0 : List Ent) (hm0 : AllMay T0) (hl0 : T0.length + l.length < 256) (v5 : V) (hv5 : v5.lt (h.length + 4) = true) (v8 : V) (hv8 : v8.lt (h.length + 4) = true) :
    loopRun (callL E) loopL h.length [5, 8, 9, 40, 41, 42] c_tattlerlaw10_TableCopies_l1 ⟨[(5, v5), (8, v8), (9, .ptr (some (h.length + 3, 0))), (40, .sl (l.map Ent.v)), (41, .int .i64 l.length), (42, .int .i64 0)], tab2 h A T0, .no⟩ =
      some (.exit 2, ⟨[(5, v5), (8, v8), (9, .ptr (some (h.length + 3, 0))), (40, .sl (l.map Ent.v)), (41, .int .i64 l.length), (42, .int .i64 l.length), (43, .bool false)], tab2 h A (l.foldl joinT T0), .no⟩) := by
  have key := loop_to (C := callL E) (fb := h.length) (live := [5, 8, 9, 40, 41, 42]) (c := c_tattlerlaw10_TableCopies_l1)
    (fun j => ⟨[(5, v5), (8, v8), (9, .ptr (some (h.length + 3, 0))), (40, .sl (l.map Ent.v)), (41, .int .i64 l.length), (42, .int .i64 j)], tab2 h A ((l.take j).foldl joinT T0), .no⟩) l.length
    (r := (.exit 2, ⟨[(5, v5), (8, v8), (9, .ptr (some (h.length + 3, 0))), (40, .sl (l.map Ent.v)), (41, .int .i64 l.length), (42, .int .i64 l.length), (43, .bool false)], tab2 h A (l.foldl joinT T0), .no⟩)) (fun j hj => ?_) ?_ rfl
  · rw [show ((0 : Nat) : Int) = 0 from rfl, List.take_zero] at key
    exact key
  · obtain ⟨e, hx, _, _⟩ := get_of_lt (l := l) (i := j) hj
    have hlt : (j : Int) < (l.length : Int) := by omega
    have h1 := i64_add1 (n := j) (by omega)
    rw [fill_take hx]
    have hm : AllMay ((l.take j).foldl joinT T0) := fold_may hm0
    have hlen : ((l.take j).foldl joinT T0).length ≤ T0.length + j := by (have h5 := fold_len (l.take j) T0); (have h6 : (l.take j).length ≤ j := (by simp; omega)); omega
    generalize ((l.take j).foldl joinT T0) = T at *
    have hset2 : ∀ x, hset (tab2 h A T ++ x) (h.length + 2) (.map (mapE (joinT T e))) = tab2 h A (joinT T e) ++ x := fun x => by rw [hset_app (by simp [tabH, tab2])]; simp [tabH, tab2]
    obtain ⟨r1, f1, g1, c1⟩ := tabJoin_any (h := tab2 h A T ++ [.cells e.c []]) ((tab2_b h A T).app _) hm e (by omega)
    rw [hset2] at g1
    have d1 := c1 h.length (by omega)
    have kl : ∀ X, List.length (tab2 h A X) = h.length + 4 := fun X => by simp [tabH, tab2]
    have kT := kl T
    have kJ := kl (joinT T e)
    have vl5 : v5.lt (List.length (tab2 h A T)) = true := V.lt_mono (by omega) v5 hv5
    have vl8 : v8.lt (List.length (tab2 h A T)) = true := V.lt_mono (by omega) v8 hv8
    have l1 : h.length ≤ List.length (tab2 h A T) := by omega
    have l2 : h.length ≤ List.length (tab2 h A T) + 1 := by omega
    have l3 : h.length + 3 < List.length (tab2 h A T) := by omega
    have eq : List.length (tab2 h A (joinT T e)) = List.length (tab2 h A T) := by omega
    have tk : ∀ x, List.take (List.length (tab2 h A T)) (tab2 h A (joinT T e) ++ x) = tab2 h A (joinT T e) := fun x => List.take_left' eq
    have hk : e.c[0]? = some (.str e.key) := rfl
    generalize tab2 h A (joinT T e) = H1 at *
    generalize tab2 h A T = H at *
    rw [s_round]
    simp [-getElem?_pos, c_tattlerlaw10_TableCopies_l1, hlt, hj, hx, h1, g1, d1, l1, l2, l3, eq, tk, hk, vl5, vl8]
    done
  · rw [s_round, List.take_length]
    simp [c_tattlerlaw10_TableCopies_l1]
theorem copies_loop2 (l : List Ent) (h : Heap) (A : List Ent) (T0 : List Ent) (hm0 : AllMay T0) (hl0 : T0.length + l.length < 256) (v5 : V) (hv5 : v5.lt (h.length + 4) = true) (v8 : V) (hv8 : v8.lt (h.length + 4) = true) :
    loopRun (callL E) loopL h.length [5, 8, 9, 50, 51, 52] c_tattlerlaw10_TableCopies_l2 ⟨[(5, v5), (8, v8), (9, .ptr (some (h.length + 3, 0))), (50, .sl (l.map Ent.v)), (51, .int .i64 l.length), (52, .int .i64 0)], tab2 h A T0, .no⟩ =
      some (.exit 4, ⟨[(5, v5), (8, v8), (9, .ptr (some (h.length + 3, 0))), (50, .sl (l.map Ent.v)), (51, .int .i64 l.length), (52, .int .i64 l.length), (53, .bool false)], tab2 h A (reapsT T0 l), .no⟩) := by
  have key := loop_to (C := callL E) (fb := h.length) (live := [5, 8, 9, 50, 51, 52]) (c := c_tattlerlaw10_TableCopies_l2)
    (fun j => ⟨[(5, v5), (8, v8), (9, .ptr (some (h.length + 3, 0))), (50, .sl (l.map Ent.v)), (51, .int .i64 l.length), (52, .int .i64 j)], tab2 h A (reapsT T0 (l.take j)), .no⟩) l.length
    (r := (.exit 4, ⟨[(5, v5), (8, v8), (9, .ptr (some (h.length + 3, 0))), (50, .sl (l.map Ent.v)), (51, .int .i64 l.length), (52, .int .i64 l.length), (53, .bool false)], tab2 h A (reapsT T0 l), .no⟩)) (fun j hj => ?_) ?_ rfl
  · rw [show ((0 : Nat) : Int) = 0 from rfl, List.take_zero] at key
    exact key
  · obtain ⟨e, hx, _, _⟩ := get_of_lt (l := l) (i := j) hj
    have hlt : (j : Int) < (l.length : Int) := by omega
    have h1 := i64_add1 (n := j) (by omega)
    rw [reaps_take hx]
    have hm : AllMay (reapsT T0 (l.take j)) := reapsT_may hm0
    have hlen : (reapsT T0 (l.take j)).length ≤ T0.length + j := by rw [reapsT_len]; omega
    generalize (reapsT T0 (l.take j)) = T at *
    have hset2 : ∀ x, hset (tab2 h A T ++ x) (h.length + 2) (.map (mapE (reapT T e.key))) = tab2 h A (reapT T e.key) ++ x := fun x => by rw [hset_app (by simp [tabH, tab2])]; simp [tabH, tab2]
    obtain ⟨r1, f1, g1, c1⟩ := tabReap_any (h := tab2 h A T ++ [.cells e.c []]) ((tab2_b h A T).app _) hm e.key
    rw [hset2] at g1
    have d1 := c1 h.length (by omega)
    have kl : ∀ X, List.length (tab2 h A X) = h.length + 4 := fun X => by simp [tabH, tab2]
    have kT := kl T
    have kJ := kl (reapT T e.key)
    have vl5 : v5.lt (List.length (tab2 h A T)) = true := V.lt_mono (by omega) v5 hv5
    have vl8 : v8.lt (List.length (tab2 h A T)) = true := V.lt_mono (by omega) v8 hv8
    have l1 : h.length ≤ List.length (tab2 h A T) := by omega
    have l2 : h.length ≤ List.length (tab2 h A T) + 1 := by omega
    have l3 : h.length + 3 < List.length (tab2 h A T) := by omega
    have eq : List.length (tab2 h A (reapT T e.key)) = List.length (tab2 h A T) := by omega
    have tk : ∀ x, List.take (List.length (tab2 h A T)) (tab2 h A (reapT T e.key) ++ x) = tab2 h A (reapT T e.key) := fun x => List.take_left' eq
    have hk : e.c[0]? = some (.str e.key) := rfl
    generalize tab2 h A (reapT T e.key) = H1 at *
    generalize tab2 h A T = H at *
    rw [s_round]
    simp [-getElem?_pos, c_tattlerlaw10_TableCopies_l2, hlt, hj, hx, h1, g1, d1, l1, l2, l3, eq, tk, hk, vl5, vl8]
    done
  · rw [s_round, List.take_length]
    simp [c_tattlerlaw10_TableCopies_l2]
set_option maxRecDepth 4000 in
theorem TableCopies_eq (l more : List Ent) (hl : l.length ≤ 140737488355328) (hmo : more.length ≤ 140737488355328) (h : Heap) : callL E F.tattlerlaw10_TableCopies [.sl (l.map Ent.v), .sl (more.map Ent.v)] h = some (.bool true, h, .no) := by
  refine callL_of rfl fn_tattlerlaw10_TableCopies ?_
  have g2 := light10_eq l hl h
  have g3 := light10_eq more hmo h
  have g5' := awake10_eq h
  cases hlt : lightE l with
  | false =>
    rw [hlt] at g2
    simp [-getElem?_pos, c_tattlerlaw10_TableCopies, g2, g5']
    done
  | true =>
    rw [hlt] at g2
    cases hlm : lightE more with
    | false =>
      rw [hlm] at g3
      simp [-getElem?_pos, c_tattlerlaw10_TableCopies, g2, g3, g5']
      done
    | true =>
      rw [hlm] at g3
      unfold lightE at hlt hlm
      simp only [Bool.and_eq_true, decide_eq_true_eq, List.all_eq_true] at hlt hlm
      have n0 := tabNew_eq h
      have m0 : mapE [] = [] := rfl
      have mz : AllMay [] := fun e he => by cases he
      have lp0 := copies_loop0 l h [] mz (by simp; omega) (.sl (more.map Ent.v)) (by simp [V.lt])
      have ma : TMayE (l.foldl joinT []) := fold_mayE fun e he => by cases he
      have na : NDup (l.foldl joinT []) := fold_ndup List.nodup_nil
      have la := fold_len l []
      simp only [List.length_nil] at la
      generalize l.foldl joinT [] = A at *
      have a1 := tabAll_eq (tabH_at h A) ma.sib (by omega) ma.small
      have k1 := tabCopy_eq (tabH_at h A)
      have e2 : tabH h A ++ [.map (mapE A), .cells [.map (some (List.length (tabH h A)))] []] = tab2 h A A := by simp [tabH, tab2]
      have e3 : List.length (tabH h A) + 1 = h.length + 3 := by simp [tabH]
      rw [e2, e3] at k1
      have lp1 := copies_loop1 more h A A ma.sib (by omega) (.ptr (some (h.length + 1, 0))) (by simp [V.lt]) (.sl ((allT A).map Ent.v)) (by simp [V.lt])
      have mb : AllMay (more.foldl joinT A) := fold_may ma.sib
      have lb1 := fold_len more A
      have lb2 := fold_lenLe more A
      generalize more.foldl joinT A = B at *
      have hal := allT_len A
      have ham := allT_may ma
      have lp2 := copies_loop2 (allT A) h A B mb (by omega) (.ptr (some (h.length + 1, 0))) (by simp [V.lt]) (.sl ((allT A).map Ent.v)) (by simp [V.lt])
      have lc := reapsT_len (allT A) B
      generalize reapsT B (allT A) = C at *
      have a2 := tabAll_eq (tab2_a h A C) ma.sib (by omega) ma.small
      have s1 := sameEntries_eq (allT A) (allT A) (by omega) (fun e he => by have := may_len (ent_sib_may (ham e he)); omega) (tab2 h A C)
      rw [decide_eq_true rfl] at s1
      have q1 := tabLen_eq (tab2_b h A C)
      have wk : callL E F.tattlerlaw10_awake [] (tab2 h A C) = some (.bool true, tab2 h A C, .no) := awake10_eq _
      have tk : List.take h.length (tab2 h A C) = h := by simp [tab2]
      have hQ : (allT A).length = ((allT A).map Ent.v).length := by simp
      have hge2 : (((allT A).map Ent.v).length : Int) ≤ ((C.length : Nat) : Int) := by rw [← hQ]; omega
      rw [hQ] at lp2
      have tz : tabH h [] = h ++ [.map [], .cells [.map (some h.length)] []] := rfl
      rw [tz] at lp0
      generalize (allT A).map Ent.v = Q at *
      generalize tab2 h A C = H2 at *
      generalize tab2 h A B = H1 at *
      generalize tab2 h A A = H0 at *
      generalize tabH h A = HA at *
      simp [-getElem?_pos, c_tattlerlaw10_TableCopies, g2, g3, n0, lp0, a1, k1, lp1, lp2, a2, s1, q1, wk, tk, hge2]
      done
theorem tattlerlaw10_TableCopies_top {c0 c1 : List V} (h0 : Ty.Has (.sl entT) c0) (h1 : Ty.Has (.sl entT) c1) : ∃ h fl, callL E F.tattlerlaw10_TableCopies [Ty.el (.sl entT) c0, Ty.el (.sl entT) c1] [] = some (.bool true, h, fl) := by
  obtain ⟨l, wl, ws, rfl⟩ := Ents.dec h0
  obtain ⟨m, wm, wt, rfl⟩ := Ents.dec h1
  exact ⟨_, _, TableCopies_eq l m (by unfold reachLen at wl; omega) (by unfold reachLen at wm; omega) []⟩
end Go.Proofs.Ytionebfmjjpnbaa.V
