/- TableJoins. -/
import Derived.Test.YtionebfmjjpnbaaGreatVmTBB
import Derived.Test.YtionebfmjjpnbaaGreatVmTJA
import Derived.Test.YtionebfmjjpnbaaGreatVmKSE
import Derived.Test.YtionebfmjjpnbaaGreatVB3
set_option linter.unusedVariables false
set_option linter.unusedSimpArgs false
namespace Go.Proofs.YtionebfmjjpnbaaGreat.W3
open Go.Vm Go.Proofs.YtionebfmjjpnbaaGreat.V
open Go.Proofs.YtionebfmjjpnbaaGreat.W1 (bucketT)

/-- A table, and the reference's. -/
def tabK (h : Heap) (A L : List Ent) : Heap := h ++ [.map (mapE A), .cells [.map (some h.length)] [], tabO L]
theorem tabK_t (h : Heap) (A L : List Ent) : TabAt (tabK h A L) (h.length + 1) h.length A := ⟨by simp [tabK], by simp [tabK]⟩
theorem tabK_m (h : Heap) (A L : List Ent) : hget (tabK h A L) (h.length + 2) = some (tabO L) := by simp [tabK]
theorem tabK_setA (h : Heap) (A L A' : List Ent) : hset (tabK h A L) h.length (.map (mapE A')) = tabK h A' L := by simp [tabK]
theorem tabK_setM (h : Heap) (A L L' : List Ent) : hset (tabK h A L) (h.length + 2) (tabO L') = tabK h A L' := by simp [tabK]
theorem tabK_len (h : Heap) (A L : List Ent) : (tabK h A L).length = h.length + 3 := by simp [tabK]
theorem allT_nil : allT [] = [] := by simp [allT, keysT]
theorem jres_len {A : List Ent} (hm : AllMay A) (e : Ent) : (jres A e).1.vals.length ≤ 1099511627776 := by
  unfold jres
  cases he : e.may with
  | false => rw [cnd_false]; simp [zeroSib]
  | true => rw [cnd_true]; have := may_len (nowT_may hm he); show (nowT A e).vals.length ≤ _; omega
theorem joins_loop (l : List Ent) (hl : l.length ≤ 60) (h : Heap) (DD : List V) (kk : List UInt8) :
    loopRun (callL E) loopL h.length [1, 2, 7, 8, 31, 32, 33] c_tattlerlaw10_TableJoins_l0 ⟨[(1, .sl DD), (2, .str kk), (7, .ptr (some (h.length + 1, 0))), (8, .ptr (some (h.length + 2, 0))), (31, .sl (l.map Ent.v)), (32, .int .i64 l.length), (33, .int .i64 0)], tabK h [] [], .no⟩ =
      some (.exit 0, ⟨[(1, .sl DD), (2, .str kk), (7, .ptr (some (h.length + 1, 0))), (8, .ptr (some (h.length + 2, 0))), (31, .sl (l.map Ent.v)), (32, .int .i64 l.length), (33, .int .i64 l.length), (34, .bool false)], tabK h (l.foldl joinT []) (allT (l.foldl joinT [])), .no⟩) := by
  have key := loop_to (C := callL E) (fb := h.length) (live := [1, 2, 7, 8, 31, 32, 33]) (c := c_tattlerlaw10_TableJoins_l0)
    (fun j => ⟨[(1, .sl DD), (2, .str kk), (7, .ptr (some (h.length + 1, 0))), (8, .ptr (some (h.length + 2, 0))), (31, .sl (l.map Ent.v)), (32, .int .i64 l.length), (33, .int .i64 j)], tabK h ((l.take j).foldl joinT []) (allT ((l.take j).foldl joinT [])), .no⟩) l.length
    (r := (.exit 0, ⟨[(1, .sl DD), (2, .str kk), (7, .ptr (some (h.length + 1, 0))), (8, .ptr (some (h.length + 2, 0))), (31, .sl (l.map Ent.v)), (32, .int .i64 l.length), (33, .int .i64 l.length), (34, .bool false)], tabK h (l.foldl joinT []) (allT (l.foldl joinT [])), .no⟩)) (fun j hj => ?_) ?_ rfl
  · rw [show ((0 : Nat) : Int) = 0 from rfl, List.take_zero, List.foldl_nil, allT_nil] at key
    exact key
  · obtain ⟨e, hx, _, _⟩ := get_of_lt (l := l) (i := j) hj
    have hlt : (j : Int) < (l.length : Int) := by omega
    have h1 := i64_add1 (n := j) (by omega)
    rw [fill_take hx]
    have hm : TMayE ((l.take j).foldl joinT []) := fold_mayE fun e he => by cases he
    have hn : NDup ((l.take j).foldl joinT []) := fold_ndup List.nodup_nil
    have hlen : ((l.take j).foldl joinT []).length < 256 := by (have h5 := fold_len (l.take j) []); (have h6 : (l.take j).length ≤ j := (by simp; omega)); simp only [List.length_nil] at h5; omega
    generalize ((l.take j).foldl joinT []) = A at *
    have hL : ∀ x ∈ allT A, x.sib.vals.length ≤ 1099511627776 := fun x hx => by have := may_len (ent_sib_may (allT_may hm x hx)); omega
    obtain ⟨f1, g1, u1⟩ := tblJoin_res ((tabK_t h A (allT A)).app [.cells e.c []]) hm.sib e hlen
    rw [V.hset_app (by rw [tabK_len]; omega), tabK_setA] at g1
    replace g1 := up_table_Table_Join g1
    have d1 := u1.cut_no (Nat.le_refl h.length)
    obtain ⟨ws, hws, g2⟩ := tabJoin_eq (allT A) (by rw [allT_len]; omega) hL e (h.length + 2) (tabK h (joinT A e) (allT A) ++ [.cells e.c [], .cells (jres A e).1.c []]) (by rw [hget_app (by rw [tabK_len]; omega)]; exact tabK_m _ _ _)
    rw [V.hset_app (by rw [tabK_len]; omega), tabK_setM, tabJoin_allT hn hlen] at g2
    replace g2 := up_tattlerref5_Table_Join g2
    have d2 : Fl.cut h.length (.w ws) = .no := FlUp.cut_no (n := h.length) (.w fun x hx => by rcases hws with rfl | rfl <;> simp at hx; omega) (Nat.le_refl _)
    have g3 := up_tattlerref5_Same (same_eq (jres A e).1 (jres A e).1 (jres_len hm.sib e) (tabK h (joinT A e) (allT (joinT A e)) ++ [.cells e.c [], .cells (jres A e).1.c [], .cells (jres A e).1.c []]))
    rw [decide_eq_true rfl] at g3
    have k0 := tabK_len h A (allT A)
    have k1 := tabK_len h (joinT A e) (allT A)
    have k2 := tabK_len h (joinT A e) (allT (joinT A e))
    generalize jres A e = J at *
    obtain ⟨J1, J2, J3⟩ := J
    simp only [Sib.v, Ent.v] at g1 g2 g3
    generalize tabK h (joinT A e) (allT (joinT A e)) = H2 at *
    generalize tabK h (joinT A e) (allT A) = H1 at *
    generalize tabK h A (allT A) = H at *
    have l1 : h.length ≤ List.length H := by omega
    have l2 : h.length ≤ List.length H + 1 := by omega
    have l2' : h.length ≤ List.length H + 1 + 1 := by omega
    have l2'' : h.length ≤ List.length H + 2 := by omega
    have l3 : h.length + 1 < List.length H := by omega
    have l4 : h.length + 2 < List.length H := by omega
    have eq1 : List.length H1 = List.length H := by omega
    have eq2 : List.length H2 = List.length H := by omega
    have tk : ∀ x, List.take (List.length H) (H2 ++ x) = H2 := fun x => List.take_left' eq2
    have nl : ¬ List.length H < List.length h := by omega
    have nl1 : ¬ List.length H + 1 < List.length h := by omega
    have nl2 : ¬ List.length H + 2 < List.length h := by omega
    have nl3 : ¬ List.length H + 1 + 1 < List.length h := by omega
    have p1 : ∀ a b : Vm.Obj, hget (H1 ++ [a, b]) (List.length H + 1) = some b := fun a b => by rw [← eq1]; simp
    have p2 : ∀ a b c : Vm.Obj, hset (H1 ++ [a, b]) (List.length H + 1) c = H1 ++ [a, c] := fun a b c => by rw [← eq1]; simp
    have p3 : ∀ x : Heap, hget (H1 ++ x) (List.length H) = x[0]? := fun x => by rw [← eq1]; unfold hget; rw [List.getElem?_append_right (Nat.le_refl _), Nat.sub_self]
    have p4 : ∀ a b c : Vm.Obj, hget (H2 ++ [a, b, c]) (List.length H + 2) = some c := fun a b c => by rw [← eq2]; simp
    have p5 : ∀ a b c d : Vm.Obj, hset (H2 ++ [a, b, c]) (List.length H + 2) d = H2 ++ [a, b, d] := fun a b c d => by rw [← eq2]; simp
    have p6 : ∀ a b c : Vm.Obj, hget (H2 ++ [a, b, c]) (List.length H + 1) = some b := fun a b c => by rw [← eq2]; simp
    rw [s_round]
    simp [-getElem?_pos, c_tattlerlaw10_TableJoins_l0, hlt, hj, hx, h1, g1, g2, g3, d1, d2, l1, l2, l2', l2'', l3, l4, eq1, eq2, tk, nl, nl1, nl2, nl3, p1, p2, p3, p4, p5, p6]
    done
  · rw [s_round, List.take_length]
    simp [c_tattlerlaw10_TableJoins_l0]
noncomputable def reapK (A : List Ent) (D : List (List UInt8)) : List Ent := (D.take 20).foldl reapT A
theorem reapK_may {A : List Ent} (h : TMayE A) : ∀ D : List (List UInt8), TMayE (D.foldl reapT A)
  | [] => h
  | k :: D => reapK_may (A := reapT A k) (reapT_mayE h k) D
theorem reapK_ndup {A : List Ent} (h : NDup A) : ∀ D : List (List UInt8), NDup (D.foldl reapT A)
  | [] => h
  | k :: D => reapK_ndup (A := reapT A k) (reapT_ndup h k) D
theorem reapK_len : ∀ (A : List Ent) (D : List (List UInt8)), (D.foldl reapT A).length = A.length
  | A, [] => rfl
  | A, k :: D => (reapK_len (reapT A k) D).trans (reapT_len A k)
theorem reapK_lt {A : List Ent} {D : List (List UInt8)} {j : Nat} {k : List UInt8} (h : D[j]? = some k) (hj : j < 20) : reapK A (D.take (j + 1)) = reapT (reapK A (D.take j)) k := by
  unfold reapK
  rw [List.take_take, List.take_take, Nat.min_eq_right (by omega), Nat.min_eq_right (by omega)]
  exact foldl_takeG h
theorem reapK_ge {A : List Ent} {D : List (List UInt8)} {j : Nat} (hj : ¬ j < 20) : reapK A (D.take (j + 1)) = reapK A (D.take j) := by
  unfold reapK
  rw [List.take_take, List.take_take, Nat.min_eq_left (by omega), Nat.min_eq_left (by omega)]
theorem reap_eq (A : List Ent) (hm : TMayE A) (hn : NDup A) (hl : A.length ≤ 256) (D : List (List UInt8)) (hD : D.length ≤ 140737488355328) (h : Heap) :
    ∃ fl, callL E F.tattlerlaw10_reap [.ptr (some (h.length + 1, 0)), .ptr (some (h.length + 2, 0)), .sl (D.map V.str)] (tabK h A (allT A)) = some (.bool true, tabK h (reapK A D) (allT (reapK A D)), fl) ∧ FlUp h.length fl := by
  have key := loop_inv0 (C := callL E) (fb := h.length + 3) (live := [0, 1, 9, 10, 11]) (c := c_tattlerlaw10_reap_l0)
    (fun j s => ∃ fl, s = ⟨[(0, .ptr (some (h.length + 1, 0))), (1, .ptr (some (h.length + 2, 0))), (9, .sl (D.map V.str)), (10, .int .i64 D.length), (11, .int .i64 j)], tabK h (reapK A (D.take j)) (allT (reapK A (D.take j))), fl⟩ ∧ FlUp h.length fl)
    (fun r => ∃ fl, r = (.exit 0, ⟨[(0, .ptr (some (h.length + 1, 0))), (1, .ptr (some (h.length + 2, 0))), (9, .sl (D.map V.str)), (10, .int .i64 D.length), (11, .int .i64 D.length), (12, .bool false)], tabK h (reapK A D) (allT (reapK A D)), fl⟩) ∧ FlUp h.length fl)
    D.length (fun j hj s hs => ?_) (fun s hs => ?_) (s := ⟨[(0, .ptr (some (h.length + 1, 0))), (1, .ptr (some (h.length + 2, 0))), (9, .sl (D.map V.str)), (10, .int .i64 D.length), (11, .int .i64 0)], tabK h A (allT A), .no⟩) ⟨.no, by rw [List.take_zero]; rfl, .no⟩
  · obtain ⟨r, h1, fl, rfl, hfl⟩ := key
    refine ⟨fl, callL_of rfl fn_tattlerlaw10_reap ?_, hfl⟩
    obtain ⟨wr, esc, all⟩ := fl
    obtain ⟨e1, e2, e3⟩ := hfl
    simp only at e1 e2
    subst e1 e2
    have kl : ∀ X Y, List.length (tabK h X Y) = h.length + 3 := fun X Y => by simp [tabK]
    have tk : ∀ X Y, List.take (h.length + 3) (tabK h X Y) = tabK h X Y := fun X Y => List.take_of_length_le (by rw [kl]; omega)
    rw [show (D.length : Int) = ((D.map V.str).length : Int) by simp] at h1
    generalize D.map V.str = DD at *
    simp [-getElem?_pos, c_tattlerlaw10_reap, kl, tk, h1]
    done
  · obtain ⟨fl, rfl, hf⟩ := hs
    obtain ⟨k, hx, _, _⟩ := get_of_lt (l := D) (i := j) hj
    have hlt : (j : Int) < (D.length : Int) := by omega
    have h1 := i64_add1 (n := j) (by omega)
    have kl : ∀ X Y, List.length (tabK h X Y) = h.length + 3 := fun X Y => by simp [tabK]
    have tk : ∀ X Y, List.take (h.length + 3) (tabK h X Y) = tabK h X Y := fun X Y => List.take_of_length_le (by rw [kl]; omega)
    by_cases h20 : j < 20
    · have hlt2 : (j : Int) < 20 := by omega
      rw [reapK_lt hx h20]
      have hm' : TMayE (reapK A (D.take j)) := reapK_may hm _
      have hn' : NDup (reapK A (D.take j)) := reapK_ndup hn _
      have hl' : (reapK A (D.take j)).length ≤ 256 := by unfold reapK; rw [reapK_len]; exact hl
      generalize reapK A (D.take j) = B at *
      obtain ⟨f1, g1, u1⟩ := tblReap_res (tabK_t h B (allT B)) hm'.sib k
      rw [tabK_setA] at g1
      replace g1 := up_table_Table_Reap g1
      obtain ⟨ws, hws, g2⟩ := tabReapR_eq (allT B) (by rw [allT_len]; omega) (fun x hx => ent_sib_may (allT_may hm' x hx)) k (h.length + 2) (tabK h (reapT B k) (allT B)) (tabK_m _ _ _)
      rw [tabK_setM, tabReap_allT hn'] at g2
      replace g2 := up_tattlerref5_Table_Reap g2
      have u2 : FlUp h.length (.w ws) := .w fun x hx => by rcases hws with rfl | rfl <;> simp at hx; omega
      generalize reapT B k = B1 at *
      generalize rb B k = R at *
      obtain ⟨w0, x0, a0⟩ := fl
      obtain ⟨w1, x1, a1⟩ := f1
      have uu := (hf.or (u1.cut (m := h.length + 3))).or (u2.cut (m := h.length + 3))
      obtain ⟨e1, e2, _⟩ := hf
      obtain ⟨e3, e4, _⟩ := u1
      simp only at e1 e2 e3 e4
      subst e1 e2 e3 e4
      refine .inl ⟨⟨[(0, .ptr (some (h.length + 1, 0))), (1, .ptr (some (h.length + 2, 0))), (9, .sl (D.map V.str)), (10, .int .i64 D.length), (11, .int .i64 (j + 1 : Nat))], tabK h B1 (allT B1), .w (addE (addE w0 (wrLt (h.length + 3) w1)) (wrLt (h.length + 3) ws))⟩, ?_, _, rfl, uu⟩
      rw [s_round]
      simp [-getElem?_pos, c_tattlerlaw10_reap_l0, hlt, hlt2, hj, hx, h1, g1, g2, kl, tk]
      done
    · have hlt2 : ¬ (j : Int) < 20 := by omega
      rw [reapK_ge h20]
      generalize reapK A (D.take j) = B at *
      refine .inl ⟨⟨[(0, .ptr (some (h.length + 1, 0))), (1, .ptr (some (h.length + 2, 0))), (9, .sl (D.map V.str)), (10, .int .i64 D.length), (11, .int .i64 (j + 1 : Nat))], tabK h B (allT B), fl⟩, ?_, _, rfl, hf⟩
      obtain ⟨w0, x0, a0⟩ := fl
      obtain ⟨e1, e2, _⟩ := hf
      simp only at e1 e2
      subst e1 e2
      rw [s_round]
      simp [-getElem?_pos, c_tattlerlaw10_reap_l0, hlt, hlt2, hj, hx, h1, kl, tk]
      done
  · obtain ⟨fl, rfl, hf⟩ := hs
    rw [List.take_length]
    refine ⟨_, ?_, rfl, fl, rfl, hf⟩
    have kl : ∀ X Y, List.length (tabK h X Y) = h.length + 3 := fun X Y => by simp [tabK]
    rw [s_round]
    simp [c_tattlerlaw10_reap_l0]
theorem buckets_loop (A : List Ent) (hm : TMayE A) (hl : A.length ≤ 256) (h : Heap) (kk : List UInt8) :
    loopRun (callL E) loopL h.length [2, 7, 8, 17] c_tattlerlaw10_TableJoins_l1 ⟨[(2, .str kk), (7, .ptr (some (h.length + 1, 0))), (8, .ptr (some (h.length + 2, 0))), (17, .int .i64 (-1))], tabK h A (allT A), .no⟩ =
      some (.exit 2, ⟨[(2, .str kk), (7, .ptr (some (h.length + 1, 0))), (8, .ptr (some (h.length + 2, 0))), (17, .int .i64 5), (92, .bool false)], tabK h A (allT A), .no⟩) := by
  have key := loop_to (C := callL E) (fb := h.length) (live := [2, 7, 8, 17]) (c := c_tattlerlaw10_TableJoins_l1)
    (fun j => ⟨[(2, .str kk), (7, .ptr (some (h.length + 1, 0))), (8, .ptr (some (h.length + 2, 0))), (17, .int .i64 ((j : Int) - 1))], tabK h A (allT A), .no⟩) 6
    (r := (.exit 2, ⟨[(2, .str kk), (7, .ptr (some (h.length + 1, 0))), (8, .ptr (some (h.length + 2, 0))), (17, .int .i64 5), (92, .bool false)], tabK h A (allT A), .no⟩)) (fun j hj => ?_) ?_ rfl
  · exact key
  · have hle : (j : Int) - 1 ≤ 4 := by omega
    have h1 : IntKind.i64.wrap ((j : Int) - 1 + 1) = ((j + 1 : Nat) : Int) - 1 := by rw [wrap_i64] <;> omega
    have g1 := up_table_Table_Bucket (W1.bucket_eq (tabK_t h A (allT A)) hm (by omega) ((j : Int) - 1))
    have g2 := up_tattlerref5_Table_Bucket (r5bucket_eq (allT A) (by rw [allT_len]; omega) (allT_may hm).small ((j : Int) - 1) (h.length + 2) (tabK h A (allT A)) (tabK_m _ _ _))
    rw [show (allT A).filter (fun e => decide ((bkt e.key : Int) = (j : Int) - 1)) = bucketT A ((j : Int) - 1) from rfl] at g2
    have hbl : (bucketT A ((j : Int) - 1)).length ≤ A.length := by rw [← allT_len A]; exact List.length_filter_le _ _
    have g3 := up_tattlerref5_SameEntries (sameEntries_eq (bucketT A ((j : Int) - 1)) (bucketT A ((j : Int) - 1)) (by omega) (fun x hx => by have := may_len (ent_sib_may (allT_may hm x (List.mem_filter.1 hx).1)); omega) (tabK h A (allT A)))
    rw [decide_eq_true rfl] at g3
    have kl : List.length (tabK h A (allT A)) = h.length + 3 := by simp [tabK]
    have tk : List.take (h.length + 3) (tabK h A (allT A)) = tabK h A (allT A) := List.take_of_length_le (by rw [kl]; omega)
    generalize bucketT A ((j : Int) - 1) = B at *
    generalize tabK h A (allT A) = H at *
    generalize ((j + 1 : Nat) : Int) - 1 = J1 at *
    generalize (j : Int) - 1 = J at *
    rw [s_round]
    simp [-getElem?_pos, c_tattlerlaw10_TableJoins_l1, hle, h1, g1, g2, g3, kl, tk]
    done
  · rw [show ((6 : Nat) : Int) - 1 = 5 from rfl, s_round]
    have kl : List.length (tabK h A (allT A)) = h.length + 3 := by simp [tabK]
    simp [c_tattlerlaw10_TableJoins_l1, kl]
theorem TableJoins_eq (l : List Ent) (D : List (List UInt8)) (hD : D.length ≤ 140737488355328) (key : List UInt8) (hl : l.length ≤ 140737488355328) (h : Heap) : callL E F.tattlerlaw10_TableJoins [.sl (l.map Ent.v), .sl (D.map V.str), .str key] h = some (.bool true, h, .no) := by
  refine callL_of rfl fn_tattlerlaw10_TableJoins ?_
  have g2 := up_tattlerlaw10_light (light10_eq l hl h)
  have g5' := up_tattlerlaw10_awake (awake10_eq h)
  cases hlt : lightE l with
  | false =>
    rw [hlt] at g2
    simp [-getElem?_pos, c_tattlerlaw10_TableJoins, g2, g5']
    done
  | true =>
    rw [hlt] at g2
    unfold lightE at hlt
    simp only [Bool.and_eq_true, decide_eq_true_eq, List.all_eq_true] at hlt
    have n0 := up_table_New (tabNew_eq h)
    have lp0 := joins_loop l (by omega) h (D.map V.str) key
    have tz : tabK h [] [] = h ++ [.map [], .cells [.map (some h.length)] [], .cells [.sl []] []] := rfl
    rw [tz] at lp0
    have ma : TMayE (l.foldl joinT []) := fold_mayE fun e he => by cases he
    have na : NDup (l.foldl joinT []) := fold_ndup List.nodup_nil
    have la := fold_len l []
    simp only [List.length_nil] at la
    generalize l.foldl joinT [] = A at *
    obtain ⟨f1, r1, u1⟩ := reap_eq A ma na (by omega) D hD h
    have d1 := u1.cut_no (Nat.le_refl h.length)
    have mb : TMayE (reapK A D) := reapK_may ma _
    have nb : NDup (reapK A D) := reapK_ndup na _
    have lb : (reapK A D).length ≤ 256 := by unfold reapK; rw [reapK_len]; omega
    generalize reapK A D = B at *
    have hL : ∀ x ∈ allT B, x.sib.vals.length ≤ 1099511627776 := fun x hx => by have := may_len (ent_sib_may (allT_may mb x hx)); omega
    have a1 := up_table_Table_All (tabAll_eq (tabK_t h B (allT B)) mb.sib (by omega) mb.small)
    have a2 := up_tattlerref5_SameEntries (sameEntries_eq (allT B) (allT B) (by rw [allT_len]; omega) hL (tabK h B (allT B)))
    rw [decide_eq_true rfl] at a2
    have a3 := up_table_Table_Len (tabLen_eq (tabK_t h B (allT B)))
    have hm0 := tabK_m h B (allT B)
    unfold tabO at hm0
    have lp1 := buckets_loop B mb lb h key
    have q1 := up_table_Table_Get (tblGet_eq (tabK_t h B (allT B)) mb.sib key)
    have q2 := up_tattlerref5_Table_Get (tabGet_eq (allT B) (by rw [allT_len]; omega) key (h.length + 2) (tabK h B (allT B) ++ [.cells ((findT B key).getD zeroSib).c []]) (by rw [hget_app (by rw [tabK_len]; omega)]; exact tabK_m _ _ _))
    rw [tabGet_allT] at q2
    have q3 := up_tattlerref5_Same (same_eq ((findT B key).getD zeroSib) ((findT B key).getD zeroSib) (by have := may_len (getT_may mb.sib key); omega) (tabK h B (allT B) ++ [.cells ((findT B key).getD zeroSib).c [], .cells ((findT B key).getD zeroSib).c []]))
    rw [decide_eq_true rfl] at q3
    have wk := up_tattlerlaw10_awake (awake10_eq (tabK h B (allT B) ++ [.cells ((findT B key).getD zeroSib).c [], .cells ((findT B key).getD zeroSib).c []]))
    have hal := allT_len B
    have kl := tabK_len h B (allT B)
    have tk : ∀ x, List.take h.length (tabK h B (allT B) ++ x) = h := fun x => by simp [tabK]
    generalize (findT B key).isSome = FS at *
    generalize (findT B key).getD zeroSib = FD at *
    simp only [Sib.v] at q1 q2 q3
    have hml : ((allT B).map Ent.v).length = (allT B).length := by simp
    generalize tabK h B (allT B) = H at *
    generalize tabK h A (allT A) = HA at *
    have l3 : h.length + 1 < List.length H := by omega
    have l4 : h.length + 2 < List.length H := by omega
    have l1 : h.length ≤ List.length H := by omega
    have l2 : h.length ≤ List.length H + 1 := by omega
    simp [-getElem?_pos, c_tattlerlaw10_TableJoins, g2, n0, lp0, r1, d1, a1, a2, a3, hm0, hal, lp1, q1, q2, q3, wk, tk, l1, l2, l3, l4]
    done
theorem tattlerlaw10_TableJoins_top {c0 c1 c2 : List V} (h0 : Ty.Has (.sl entT) c0) (h1 : Ty.Has (.sl .str) c1) (h2 : Ty.Has .str c2) : ∃ h fl, callL E F.tattlerlaw10_TableJoins [Ty.el (.sl entT) c0, Ty.el (.sl .str) c1, Ty.el .str c2] [] = some (.bool true, h, fl) := by
  obtain ⟨l, wl, ws, rfl⟩ := Ents.dec h0
  obtain ⟨D, wd, rfl, _⟩ := slice_of (f := V.str) (Q := fun _ => True) (fun ys hy => by
    obtain ⟨k, _, rfl⟩ := str_dec hy
    exact ⟨k, trivial, rfl⟩) h1
  obtain ⟨k, _, rfl⟩ := str_dec h2
  exact ⟨_, _, TableJoins_eq l D (by unfold reachLen at wd; omega) k (by unfold reachLen at wl; omega) []⟩
end Go.Proofs.YtionebfmjjpnbaaGreat.W3
