/- What 'table.Bucket' computes. -/
import Derived.Test.YtionebfmjjpnbaaGreatVmTBA
import Derived.Test.YtionebfmjjpnbaaGreatVmTW
import Derived.Test.YtionebfmjjpnbaaGreatVmG5
import Derived.Test.YtionebfmjjpnbaaGreatVB1
set_option linter.unusedVariables false
set_option linter.unusedSimpArgs false
namespace Go.Proofs.YtionebfmjjpnbaaGreat.W1
open Go.Vm Go.Proofs.YtionebfmjjpnbaaGreat.V

theorem ent_part {l : List Ent} {j : Nat} {x : Ent} (hx : l[j]? = some x) : ((l.flatMap Ent.c).drop (j * 10)).take 10 = x.c := by
  have h := flat_part (c := Ent.c) (z := 10) (fun x => Ent.c_len x) hx 0 10 (by omega)
  rw [Nat.add_zero, List.drop_zero] at h
  exact h.trans (List.take_of_length_le (by simp))
theorem ent_in {l : List Ent} {j : Nat} (hj : j < l.length) : j * 10 + 10 ≤ (l.flatMap Ent.c).length := flat_in (c := Ent.c) (z := 10) (fun x => Ent.c_len x) hj 0 10 (by omega)
theorem ent_set {l : List Ent} {j : Nat} (hj : j < l.length) (y : Ent) : (l.flatMap Ent.c).take (j * 10) ++ (y.c ++ (l.flatMap Ent.c).drop (j * 10 + 10)) = (l.set j y).flatMap Ent.c := by
  obtain ⟨x, hx, _, _⟩ := get_of_lt hj
  have h := flat_set (c := Ent.c) (z := 10) (fun x => Ent.c_len x) hx 0 10 (by omega) (vs := y.c) (by simp) (y := y) (by simp)
  rw [Nat.add_zero] at h
  exact h
theorem bucket1_eq (e : Ent) (he : e.key.length ≤ 1000000) (h : Heap) (p : Nat) (b : Int) (hp : hget h p = some (.cells [.int .i64 b] [])) :
    callL E F.table_Table_Bucket_c1 [.agg e.c, .ptr (some (p, 0))] h = some (.bool (!decide ((bkt e.key : Int) = b)), h, .no) := by
  refine callL_of rfl fn_table_Table_Bucket_c1 ?_
  have g1 := fun x => up_keys_Bucket (keysBucket_eq e.key he (h ++ x))
  have hpl := hget_lt hp
  have p1 : ∀ X, hget (h ++ X) p = some (.cells [.int .i64 b] []) := fun X => by rw [hget_app hpl]; exact hp
  have ke : e.c[0]? = some (.str e.key) := rfl
  by_cases hb : (bkt e.key : Int) = b
  · simp [-getElem?_pos, c_table_Table_Bucket_c1, g1, p1, ke, hb]
    done
  · simp [-getElem?_pos, c_table_Table_Bucket_c1, g1, p1, ke, hb]
    done
/-- Is it to go? -/
def goes (b : Int) (e : Ent) : Bool := !decide ((bkt e.key : Int) = b)
theorem index_eq (l : List Ent) (hl : l.length ≤ 1000000) (hk : KeysSmall l) (h : Heap) (k p : Nat) (b : Int) (hm : hget h k = some (.cells (l.flatMap Ent.c) [])) (hp : hget h p = some (.cells [.int .i64 b] [])) :
    (∃ i, i < l.length ∧ getB l (goes b) i = true ∧ (∀ j, j < i → getB l (goes b) j = false) ∧ callL E F.slices_IndexFunc_api_Entry_api_Entry [.msl k 0 l.length 10, .fn F.table_Table_Bucket_c1 [] [.ptr (some (p, 0))]] h = some (.int .i64 i, h, .no)) ∨
    ((∀ j, j < l.length → getB l (goes b) j = false) ∧ callL E F.slices_IndexFunc_api_Entry_api_Entry [.msl k 0 l.length 10, .fn F.table_Table_Bucket_c1 [] [.ptr (some (p, 0))]] h = some (.int .i64 (-1), h, .no)) := by
  have hkl := hget_lt hm
  have hpl := hget_lt hp
  have key := loop_scan (C := callL E) (fb := h.length) (live := [0, 1, 7, 8]) (c := c_slices_IndexFunc_api_Entry_api_Entry_l0)
    (fun j => ⟨[(0, .msl k 0 l.length 10), (1, .fn F.table_Table_Bucket_c1 [] [.ptr (some (p, 0))]), (7, .int .i64 l.length), (8, .int .i64 j)], h, .no⟩) l.length (getB l fun e => !goes b e)
    (.exit 0, ⟨[(0, .msl k 0 l.length 10), (1, .fn F.table_Table_Bucket_c1 [] [.ptr (some (p, 0))]), (7, .int .i64 l.length), (8, .int .i64 l.length), (9, .bool false)], h, .no⟩)
    (fun j => (.ret, ⟨[(4, .int .i64 j)], h, .no⟩)) (fun j hj hp0 => ?_) (fun j hj hp0 => ?_) (fun _ => rfl) ?_ rfl
  · rw [show ((0 : Nat) : Int) = 0 from rfl] at key
    rcases key with ⟨h1, h2⟩ | ⟨j, h1, h2, h3, h4⟩
    · refine .inr ⟨fun j hj => ?_, ?_⟩
      · obtain ⟨x, hx, _, _⟩ := get_of_lt (l := l) (i := j) hj
        have := h1 j hj
        rw [getB_at hx] at this ⊢
        simpa using this
      · refine callL_of rfl fn_slices_IndexFunc_api_Entry_api_Entry ?_
        simp [-getElem?_pos, c_slices_IndexFunc_api_Entry_api_Entry, h2, hkl, hpl]
        done
    · refine .inl ⟨j, h1, ?_, fun i hi => ?_, ?_⟩
      · obtain ⟨x, hx, _, _⟩ := get_of_lt (l := l) (i := j) h1
        rw [getB_at hx] at h2 ⊢
        simpa using h2
      · obtain ⟨x, hx, _, _⟩ := get_of_lt (l := l) (i := i) (by omega)
        have := h3 i hi
        rw [getB_at hx] at this ⊢
        simpa using this
      · refine callL_of rfl fn_slices_IndexFunc_api_Entry_api_Entry ?_
        simp [-getElem?_pos, c_slices_IndexFunc_api_Entry_api_Entry, h4, hkl, hpl]
        done
  · obtain ⟨x, hx, _, hxm⟩ := get_of_lt (l := l) (i := j) hj
    have hlt : (j : Int) < (l.length : Int) := by omega
    have h1 := i64_add1 (n := j) (by omega)
    rw [getB_at hx] at hp0
    have g1 := bucket1_eq x (hk x hxm) h p b hp
    have hg : (!decide ((bkt x.key : Int) = b)) = false := by unfold goes at hp0; simpa using hp0
    rw [hg] at g1
    have hpart := ent_part hx
    have hin := ent_in hj
    generalize l.flatMap Ent.c = X at *
    rw [s_round]
    simp [-getElem?_pos, c_slices_IndexFunc_api_Entry_api_Entry_l0, hlt, hj, h1, hm, hin, hpart, g1, hkl, hpl]
    done
  · obtain ⟨x, hx, _, hxm⟩ := get_of_lt (l := l) (i := j) hj
    have hlt : (j : Int) < (l.length : Int) := by omega
    rw [getB_at hx] at hp0
    have g1 := bucket1_eq x (hk x hxm) h p b hp
    have hg : (!decide ((bkt x.key : Int) = b)) = true := by unfold goes at hp0; simpa using hp0
    rw [hg] at g1
    have hpart := ent_part hx
    have hin := ent_in hj
    generalize l.flatMap Ent.c = X at *
    rw [s_round]
    simp [-getElem?_pos, c_slices_IndexFunc_api_Entry_api_Entry_l0, hlt, hj, hm, hin, hpart, g1, hkl, hpl]
    done
  · rw [s_round]
    simp [c_slices_IndexFunc_api_Entry_api_Entry_l0]
/-- One more element looked at: it stays, at the next place, or it goes. -/
def stepD (b : Int) (s : List Ent × Nat) (e : Ent) : List Ent × Nat := if goes b e = true then s else (s.1.set s.2 e, s.2 + 1)
def foldD (b : Int) (l : List Ent) (i : Nat) (t : Nat) : List Ent × Nat := ((l.drop (i + 1)).take t).foldl (stepD b) (l, i)
structure DOk (b : Int) (l : List Ent) (i t : Nat) (s : List Ent × Nat) : Prop where
  len : s.1.length = l.length
  tail : s.1.drop (i + 1 + t) = l.drop (i + 1 + t)
  head : s.1.take s.2 = (l.take (i + 1 + t)).filter fun e => !goes b e
  le : s.2 ≤ i + t
  ge : i ≤ s.2
theorem foldD_step (b : Int) {l : List Ent} {i t : Nat} {e : Ent} (h : l[i + 1 + t]? = some e) : foldD b l i (t + 1) = stepD b (foldD b l i t) e := by
  unfold foldD
  rw [List.take_add_one, List.getElem?_drop, h, List.foldl_append]
  rfl
theorem foldD_ok (b : Int) {l : List Ent} {i : Nat} (hi : i < l.length) (hg : getB l (goes b) i = true) (hb : ∀ j, j < i → getB l (goes b) j = false) : ∀ t, i + 1 + t ≤ l.length → DOk b l i t (foldD b l i t)
  | 0, _ => by
    have e0 : foldD b l i 0 = (l, i) := by unfold foldD; rfl
    rw [e0]
    refine ⟨rfl, rfl, ?_, Nat.le_refl _, Nat.le_refl _⟩
    obtain ⟨x, hx, _, _⟩ := get_of_lt (l := l) (i := i) hi
    rw [getB_at hx] at hg
    have : (l.take i).filter (fun e => !goes b e) = l.take i := by
      rw [List.filter_eq_self]
      intro e he
      obtain ⟨j, hj, hje⟩ := List.getElem_of_mem he
      have hji : j < i := by simp at hj; omega
      have h1 := hb j hji
      have h2 : l[j]? = some e := by
        rw [List.getElem_take] at hje
        rw [← hje]
        exact List.getElem?_eq_getElem _
      rw [getB_at h2] at h1
      simp [h1]
    rw [Nat.add_zero, List.take_add_one, hx, List.filter_append, this]
    simp [hg]
  | t + 1, ht => by
    have ih := foldD_ok b hi hg hb t (by omega)
    obtain ⟨x, hx, _, _⟩ := get_of_lt (l := l) (i := i + 1 + t) (by omega)
    rw [foldD_step b hx]
    generalize foldD b l i t = s at *
    obtain ⟨S, q⟩ := s
    obtain ⟨h1, h2, h3, h4, h5⟩ := ih
    simp only at h1 h2 h3 h4 h5
    have hd : S.drop (i + 1 + (t + 1)) = l.drop (i + 1 + (t + 1)) := by
      have : S.drop (i + 1 + t + 1) = (S.drop (i + 1 + t)).drop 1 := by rw [List.drop_drop]
      rw [show i + 1 + (t + 1) = i + 1 + t + 1 by omega, this, h2, List.drop_drop]
    have hf : (l.take (i + 1 + (t + 1))).filter (fun e => !goes b e) = (l.take (i + 1 + t)).filter (fun e => !goes b e) ++ [x].filter fun e => !goes b e := by
      rw [show i + 1 + (t + 1) = i + 1 + t + 1 by omega, List.take_add_one, hx, List.filter_append]
      rfl
    unfold stepD
    cases hgx : goes b x with
    | true =>
      simp only [if_true]
      exact ⟨h1, hd, by rw [hf, ← h3]; simp [hgx], by omega, h5⟩
    | false =>
      simp only [Bool.false_eq_true, if_false]
      refine ⟨by simpa using h1, ?_, ?_, by simp only; omega, by simp only; omega⟩
      · simp only
        rw [List.drop_set_of_lt (by omega)]
        exact hd
      · simp only
        rw [hf, ← h3]
        have hq : q < S.length := by omega
        rw [List.take_add_one, List.take_set_of_le (Nat.le_refl _)]
        simp [hgx, hq]
theorem foldD_end (b : Int) {l : List Ent} {i : Nat} (hi : i < l.length) (hg : getB l (goes b) i = true) (hb : ∀ j, j < i → getB l (goes b) j = false) :
    (foldD b l i (l.length - (i + 1))).1.take (foldD b l i (l.length - (i + 1))).2 = l.filter (fun e => !goes b e) ∧ (foldD b l i (l.length - (i + 1))).1.length = l.length ∧ (foldD b l i (l.length - (i + 1))).2 < l.length := by
  have h := foldD_ok b hi hg hb (l.length - (i + 1)) (by omega)
  refine ⟨?_, h.len, by have := h.le; omega⟩
  rw [h.head, List.take_of_length_le (by omega)]
theorem dele_loop (l : List Ent) (hl : l.length ≤ 1000000) (hk : KeysSmall l) (h : Heap) (k p : Nat) (b : Int) (hm : hget h k = some (.cells (l.flatMap Ent.c) [])) (hp : hget h p = some (.cells [.int .i64 b] [])) (hkp : k ≠ p)
    (i : Nat) (hi : i < l.length) (hg : getB l (goes b) i = true) (hb : ∀ j, j < i → getB l (goes b) j = false) :
    loopRun (callL E) loopL h.length [0, 1, 5, 6] c_slices_DeleteFunc_api_Entry_api_Entry_l0 ⟨[(0, .msl k 0 l.length 10), (1, .fn F.table_Table_Bucket_c1 [] [.ptr (some (p, 0))]), (5, .int .i64 i), (6, .int .i64 ((i + 1 : Nat) : Int))], h, .no⟩ =
      some (.exit 0, ⟨[(0, .msl k 0 l.length 10), (1, .fn F.table_Table_Bucket_c1 [] [.ptr (some (p, 0))]), (5, .int .i64 (foldD b l i (l.length - (i + 1))).2), (6, .int .i64 l.length), (19, .bool false)], hset h k (.cells ((foldD b l i (l.length - (i + 1))).1.flatMap Ent.c) []), cnd (decide (i < (foldD b l i (l.length - (i + 1))).2)) (.w [k]) .no⟩) := by
  have hkl := hget_lt hm
  have hpl := hget_lt hp
  have key := loop_to (C := callL E) (fb := h.length) (live := [0, 1, 5, 6]) (c := c_slices_DeleteFunc_api_Entry_api_Entry_l0)
    (fun t => ⟨[(0, .msl k 0 l.length 10), (1, .fn F.table_Table_Bucket_c1 [] [.ptr (some (p, 0))]), (5, .int .i64 (foldD b l i t).2), (6, .int .i64 ((i + 1 + t : Nat) : Int))], hset h k (.cells ((foldD b l i t).1.flatMap Ent.c) []), cnd (decide (i < (foldD b l i t).2)) (.w [k]) .no⟩) (l.length - (i + 1))
    (r := (.exit 0, ⟨[(0, .msl k 0 l.length 10), (1, .fn F.table_Table_Bucket_c1 [] [.ptr (some (p, 0))]), (5, .int .i64 (foldD b l i (l.length - (i + 1))).2), (6, .int .i64 l.length), (19, .bool false)], hset h k (.cells ((foldD b l i (l.length - (i + 1))).1.flatMap Ent.c) []), cnd (decide (i < (foldD b l i (l.length - (i + 1))).2)) (.w [k]) .no⟩)) (fun t ht => ?_) ?_ rfl
  · have e0 : foldD b l i 0 = (l, i) := by unfold foldD; rfl
    rw [e0] at key
    simp only [hset_same hm, Nat.lt_irrefl, decide_false, cnd_false, Nat.add_zero] at key
    exact key
  · obtain ⟨x, hx, _, hxm⟩ := get_of_lt (l := l) (i := i + 1 + t) (by omega)
    have hlt : ((i + 1 + t : Nat) : Int) < (l.length : Int) := by omega
    have h1 : IntKind.i64.wrap (((i + 1 + t : Nat) : Int) + 1) = ((i + 1 + (t + 1) : Nat) : Int) := by rw [wrap_i64] <;> omega
    have ok := foldD_ok b hi hg hb t (by omega)
    rw [foldD_step b hx]
    generalize foldD b l i t = s at *
    obtain ⟨S, q⟩ := s
    obtain ⟨o1, o2, o3, o4, o5⟩ := ok
    simp only at o1 o2 o3 o4 o5
    have hSx : S[i + 1 + t]? = some x := by
      have := congrArg (fun z => z[0]?) o2
      simp only [List.getElem?_drop, Nat.add_zero] at this
      rw [this, hx]
    have hp' : ∀ o X, hget (hset h k o ++ X) p = some (.cells [.int .i64 b] []) := fun o X => by
      rw [hget_app (by rw [hset_len]; exact hpl)]
      unfold hget hset at *
      rw [List.getElem?_set_ne hkp]
      exact hp
    have hk' : ∀ o X, hget (hset h k o ++ X) k = some o := fun o X => by
      rw [hget_app (by rw [hset_len]; exact hkl)]
      simp [hget, hset, hkl]
    have hk0 : ∀ o, hget (hset h k o) k = some o := fun o => by simp [hget, hset, hkl]
    have g1 := fun o X => bucket1_eq x (hk x hxm) (hset h k o ++ X) p b (hp' o X)
    have hpart := ent_part hSx
    have hin := ent_in (l := S) (j := i + 1 + t) (by omega)
    have hsl : ∀ o, List.length (hset h k o) = h.length := fun o => hset_len _ _ _
    have hs2 : ∀ o o', hset (hset h k o) k o' = hset h k o' := fun o o' => by simp [hset]
    have hsa : ∀ o o' X, hset (hset h k o ++ X) k o' = hset h k o' ++ X := fun o o' X => by rw [V.hset_app (by rw [hset_len]; exact hkl), hs2]
    have htk : ∀ o X, List.take h.length (hset h k o ++ X) = hset h k o := fun o X => List.take_left' (hset_len _ _ _)
    have hlt2 : i + 1 + t < l.length := by omega
    have hq : q < l.length := by omega
    have hqi := ent_in (l := S) (j := q) (by omega)
    have hqs := ent_set (l := S) (j := q) (by omega) x
    have h2 : IntKind.i64.wrap ((q : Int) + 1) = ((q + 1 : Nat) : Int) := i64_add1 (n := q) (by omega)
    have hnx := o5
    unfold stepD
    have hgd : goes b x = !decide ((bkt x.key : Int) = b) := rfl
    obtain ⟨J, hJ⟩ : ∃ J, J = i + 1 + t := ⟨_, rfl⟩
    have hJ1 : i + 1 + (t + 1) = J + 1 := by omega
    have hJ2 : J < l.length := by omega
    have hJ3 : (J : Int) < (l.length : Int) := by omega
    rw [hJ1] at h1 ⊢
    rw [← hJ] at h1 hpart hin ⊢
    clear hlt hlt2
    cases hgx : goes b x with
    | true =>
      rw [← hgd, hgx] at g1
      simp only [if_true]
      generalize S.flatMap Ent.c = X at *
      rw [s_round]
      cases decide (i < q) with
      | true =>
        simp only [cnd_true]
        simp [-getElem?_pos, c_slices_DeleteFunc_api_Entry_api_Entry_l0, hJ2, hJ3, h1, g1, hp', hk', hk0, hpart, hin, hsl, htk, hkl, hpl]
        done
      | false =>
        simp only [cnd_false]
        simp [-getElem?_pos, c_slices_DeleteFunc_api_Entry_api_Entry_l0, hJ2, hJ3, h1, g1, hp', hk', hk0, hpart, hin, hsl, htk, hkl, hpl]
        done
    | false =>
      rw [← hgd, hgx] at g1
      simp only [Bool.false_eq_true, if_false]
      have hlq : decide (i < q + 1) = true := decide_eq_true (by omega)
      rw [hlq, cnd_true]
      generalize (S.set q x).flatMap Ent.c = Y at *
      generalize S.flatMap Ent.c = X at *
      rw [s_round]
      cases decide (i < q) with
      | true =>
        simp only [cnd_true]
        simp [-getElem?_pos, c_slices_DeleteFunc_api_Entry_api_Entry_l0, hJ2, hJ3, h1, h2, g1, hp', hk', hk0, hpart, hin, hsl, htk, hkl, hpl, hq, hqi, hqs, hsa, hs2]
        done
      | false =>
        simp only [cnd_false]
        simp [-getElem?_pos, c_slices_DeleteFunc_api_Entry_api_Entry_l0, hJ2, hJ3, h1, h2, g1, hp', hk', hk0, hpart, hin, hsl, htk, hkl, hpl, hq, hqi, hqs, hsa, hs2]
        done
  · rw [s_round, show i + 1 + (l.length - (i + 1)) = l.length by omega]
    cases decide (i < (foldD b l i (l.length - (i + 1))).2) <;> simp [c_slices_DeleteFunc_api_Entry_api_Entry_l0]
theorem chunks_zero (m : Nat) : (List.replicate m [V.str [], .int .i64 0, .int .i64 0, .int .i64 0, .int .i64 0, .int .i64 0, .int .i64 0, .int .i64 0, .int .i64 0, .sl []]).flatten.length = m * 10 := by simp [List.length_flatten]
theorem dele_eq (l : List Ent) (hl : l.length ≤ 1000000) (hk : KeysSmall l) (h : Heap) (k p : Nat) (b : Int) (hm : hget h k = some (.cells (l.flatMap Ent.c) [])) (hp : hget h p = some (.cells [.int .i64 b] [])) (hkp : k ≠ p) (hn : 0 < l.length) :
    ∃ v o fl, callL E F.slices_DeleteFunc_api_Entry_api_Entry [.msl k 0 l.length 10, .fn F.table_Table_Bucket_c1 [] [.ptr (some (p, 0))]] h = some (v, hset h k o, fl) ∧ (∀ n, n ≤ k → Fl.cut n fl = .no) ∧
      ∃ o', frzrV 10 true (hset h k o) v = some (.sl ((l.filter fun e => !goes b e).map Ent.v), hset h k o', .no) := by
  have hkl := hget_lt hm
  have hpl := hget_lt hp
  have hk0 : ∀ o, hget (hset h k o) k = some o := fun o => by simp [hget, hset, hkl]
  have hs2 : ∀ o o', hset (hset h k o) k o' = hset h k o' := fun o o' => by simp [hset]
  have hsl : ∀ o, List.length (hset h k o) = h.length := fun o => hset_len _ _ _
  rcases index_eq l hl hk h k p b hm hp with ⟨i, hi, hg, hb, g1⟩ | ⟨hall, g1⟩
  · have lp := dele_loop l hl hk h k p b hm hp hkp i hi hg hb
    obtain ⟨e1, e2, e3⟩ := foldD_end b hi hg hb
    have ok := foldD_ok b hi hg hb (l.length - (i + 1)) (by omega)
    have hge := ok.ge
    generalize foldD b l i (l.length - (i + 1)) = s at *
    obtain ⟨S, q⟩ := s
    simp only at e1 e2 e3 hge lp
    have hi1 := i64_add1 (n := i) (by omega)
    have hne : ((i : Int) == -1) = false := beq_eq_false_iff_ne.2 (by omega)
    have hlen : (S.flatMap Ent.c).length = l.length * 10 := by rw [flat_ents_len, e2]
    have hkt : ((l.filter fun e => !goes b e)).length = q := by rw [← e1, List.length_take]; omega
    have ht : (S.flatMap Ent.c).take (q * 10) = (l.filter fun e => !goes b e).flatMap Ent.c := by rw [flat_take (c := Ent.c) (fun x => Ent.c_len x), e1]
    have hz := chunks_zero (l.length - q)
    have hzp : (List.replicate (l.length - q) [V.str [], .int .i64 0, .int .i64 0, .int .i64 0, .int .i64 0, .int .i64 0, .int .i64 0, .int .i64 0, .int .i64 0, .sl []]).flatten.all V.isCell = true := by
      simp [List.all_flatten, V.isCell]
    have hzl : V.ltL 0 (List.replicate (l.length - q) [V.str [], .int .i64 0, .int .i64 0, .int .i64 0, .int .i64 0, .int .i64 0, .int .i64 0, .int .i64 0, .int .i64 0, .sl []]).flatten = true := by
      generalize l.length - q = m
      induction m with
      | zero => rfl
      | succ m ih => rw [List.replicate_succ, List.flatten_cons, Sib.ltL_append, ih]; rfl
    generalize hZ : (List.replicate (l.length - q) [V.str [], .int .i64 0, .int .i64 0, .int .i64 0, .int .i64 0, .int .i64 0, .int .i64 0, .int .i64 0, .int .i64 0, .sl []]).flatten = Z at *
    have hfl : Fl.or (cnd (decide (i < q)) (Fl.w [k]) Fl.no) (Fl.w [k]) = Fl.w [k] := by cases decide (i < q) <;> simp
    have hq0 : 0 < l.length - q := by omega
    have c1 : q * 10 + (l.length - q) * 10 ≤ (S.flatMap Ent.c).length := by rw [hlen]; omega
    have c2 : (S.flatMap Ent.c).drop (q * 10 + (l.length - q) * 10) = [] := List.drop_of_length_le (by rw [hlen]; omega)
    have cut : ∀ n, n ≤ k → Fl.cut n (Fl.w [k]) = .no := fun n hn => by
      have : decide (k < n) = false := decide_eq_false (by omega)
      simp [this, wrLt]
    have hql : q ≤ l.length := by omega
    have htl : ((l.filter fun e => !goes b e).flatMap Ent.c ++ Z).take (q * 10) = (l.filter fun e => !goes b e).flatMap Ent.c := List.take_left' (by rw [flat_ents_len, hkt])
    refine ⟨cnd (decide (0 < q)) (.msl k 0 q 10) (.sl []), .cells ((l.filter fun e => !goes b e).flatMap Ent.c ++ Z) [], .w [k], ?_, cut, ?_⟩
    · refine callL_of rfl fn_slices_DeleteFunc_api_Entry_api_Entry ?_
      have hi1' : IntKind.i64.wrap ((i : Int) + 1) = ((i + 1 : Nat) : Int) := hi1
      rw [show ((i + 1 : Nat) : Int) = (i : Int) + 1 by omega] at lp hi1'
      generalize S.flatMap Ent.c = X at *
      generalize (l.filter fun e => !goes b e).flatMap Ent.c = K at *
      cases hdq : decide (i < q) with
      | true =>
        rw [hdq] at lp
        simp only [cnd_true] at lp
        by_cases hq : 0 < q
        · simp [-getElem?_pos, c_slices_DeleteFunc_api_Entry_api_Entry, g1, hne, hi1', lp, e3, hql, hq, hk0, hs2, hsl, hkl, hpl, hq0, hZ, hz, hzp, hzl, c1, c2, ht]
          done
        · have := of_decide_eq_true hdq
          omega
      | false =>
        rw [hdq] at lp
        simp only [cnd_false] at lp
        by_cases hq : 0 < q
        · simp [-getElem?_pos, c_slices_DeleteFunc_api_Entry_api_Entry, g1, hne, hi1', lp, e3, hql, hq, hk0, hs2, hsl, hkl, hpl, hq0, hZ, hz, hzp, hzl, c1, c2, ht]
          done
        · simp [-getElem?_pos, c_slices_DeleteFunc_api_Entry_api_Entry, g1, hne, hi1', lp, e3, hql, hq, hk0, hs2, hsl, hkl, hpl, hq0, hZ, hz, hzp, hzl, c1, c2, ht]
          done
    · have hcl : 0 + q * 10 ≤ ((l.filter fun e => !goes b e).flatMap Ent.c ++ Z).length := by rw [List.length_append, flat_ents_len, hkt]; omega
      have hch : chunks true 10 q ((l.filter fun e => !goes b e).flatMap Ent.c) = (l.filter fun e => !goes b e).map Ent.v := chunks_ents _ _ hkt.symm
      have hpu : ((l.filter fun e => !goes b e).flatMap Ent.c).all V.pureCell = true := flat_ents_pure _
      by_cases hq : 0 < q
      · refine ⟨.dead, ?_⟩
        rw [decide_eq_true hq, cnd_true, frzr_msl]
        unfold pureL
        rw [mcells_msl, hk0]
        simp only [decide_eq_true hcl, cnd_true, bnd_some, List.drop_zero, htl, hpu, hch, hs2]
        rfl
      · have hq' : q = 0 := by omega
        refine ⟨.cells ((l.filter fun e => !goes b e).flatMap Ent.c ++ Z) [], ?_⟩
        rw [decide_eq_false hq, cnd_false, List.eq_nil_of_length_eq_zero (hkt.trans hq')]
        rfl
  · have hkept : (l.filter fun e => !goes b e) = l := by
      rw [List.filter_eq_self]
      intro e he
      obtain ⟨j, hj, hje⟩ := List.getElem_of_mem he
      have h1 := hall j hj
      rw [getB_at (x := e) (by rw [← hje]; exact List.getElem?_eq_getElem hj)] at h1
      simp [h1]
    refine ⟨.msl k 0 l.length 10, .cells (l.flatMap Ent.c) [], .no, ?_, fun _ _ => rfl, .dead, ?_⟩
    · rw [hset_same hm]
      refine callL_of rfl fn_slices_DeleteFunc_api_Entry_api_Entry ?_
      simp [-getElem?_pos, c_slices_DeleteFunc_api_Entry_api_Entry, g1, hkl, hpl]
      done
    · rw [frzr_msl, hset_same hm, hkept]
      unfold pureL
      have hcl : 0 + l.length * 10 ≤ (l.flatMap Ent.c).length := by rw [flat_ents_len]; omega
      have htk : (l.flatMap Ent.c).take (l.length * 10) = l.flatMap Ent.c := List.take_of_length_le (by rw [flat_ents_len]; exact Nat.le_refl _)
      rw [mcells_msl, hm]
      simp only [decide_eq_true hcl, cnd_true, bnd_some, List.drop_zero, htk, flat_ents_pure, chunks_ents l _ rfl]
      rfl
theorem index_eml (k : Nat) (x : V) (h : Heap) (hk : k < h.length) : callL E F.slices_IndexFunc_api_Entry_api_Entry [.eml k 10, x] h = some (.int .i64 (-1), h, .no) := by
  refine callL_of rfl fn_slices_IndexFunc_api_Entry_api_Entry ?_
  have lp : loopRun (callL E) loopL h.length [0, 1, 7, 8] c_slices_IndexFunc_api_Entry_api_Entry_l0 ⟨[(0, .eml k 10), (1, x), (7, .int .i64 0), (8, .int .i64 0)], h, .no⟩ = some (.exit 0, ⟨[(0, .eml k 10), (1, x), (7, .int .i64 0), (8, .int .i64 0), (9, .bool false)], h, .no⟩) := by
    refine loop_exit ?_
    rw [s_round]
    simp [c_slices_IndexFunc_api_Entry_api_Entry_l0]
  simp [-getElem?_pos, c_slices_IndexFunc_api_Entry_api_Entry, lp]
  done
theorem dele_eml (k : Nat) (x : V) (h : Heap) (hk : k < h.length) : callL E F.slices_DeleteFunc_api_Entry_api_Entry [.eml k 10, x] h = some (.eml k 10, h, .no) := by
  refine callL_of rfl fn_slices_DeleteFunc_api_Entry_api_Entry ?_
  have g := index_eml k x h hk
  simp [-getElem?_pos, c_slices_DeleteFunc_api_Entry_api_Entry, g, hk]
  done
theorem all1_loop {h : Heap} {i k : Nat} {l : List Ent} (t : TabAt h i k l) (hm : AllMay l) (hl : l.length ≤ 1000000) (x : Heap) :
    loopRun (callL E) loopL h.length [0, 3, 13, 14, 15] c_table_Table_All_l0 ⟨[(0, .ptr (some (i, 0))), (3, .lst []), (13, .sl ((keysT l).map V.str)), (14, .int .i64 l.length), (15, .int .i64 0)], h ++ x, .no⟩ =
      some (.exit 0, ⟨[(0, .ptr (some (i, 0))), (3, .lst ((allT l).map Ent.v)), (13, .sl ((keysT l).map V.str)), (14, .int .i64 l.length), (15, .int .i64 l.length), (16, .bool false)], h ++ x, .no⟩) := by
  have key := loop_to (C := callL E) (fb := h.length) (live := [0, 3, 13, 14, 15]) (c := c_table_Table_All_l0)
    (fun j => ⟨[(0, .ptr (some (i, 0))), (3, .lst (((allT l).take j).map Ent.v)), (13, .sl ((keysT l).map V.str)), (14, .int .i64 l.length), (15, .int .i64 j)], h ++ x, .no⟩) l.length
    (r := (.exit 0, ⟨[(0, .ptr (some (i, 0))), (3, .lst ((allT l).map Ent.v)), (13, .sl ((keysT l).map V.str)), (14, .int .i64 l.length), (15, .int .i64 l.length), (16, .bool false)], h ++ x, .no⟩)) (fun j hj => ?_) ?_ rfl
  · rw [show ((0 : Nat) : Int) = 0 from rfl, List.take_zero] at key
    exact key
  · obtain ⟨q, hx, _, _⟩ := get_of_lt (l := keysT l) (i := j) (by rw [keysT_len]; exact hj)
    have hlt : (j : Int) < (l.length : Int) := by omega
    have h1 := i64_add1 (n := j) (by omega)
    have ht := (t.app x).tab
    have hil := hget_lt t.tab
    have hil2 : i < List.length h + List.length x := by omega
    have hmo := (t.app x).mapOf
    have h3 := findV_map q l
    have hg := up_table_copied (copied_eq ((findT l q).getD zeroSib) (h ++ x))
    rw [join_self (getT_may hm q)] at hg
    have hal : (allT l).length = l.length := by simp [allT, keysT_len]
    have h5 : (((allT l).take j).map Ent.v).length = j := by simp; omega
    have ha : (allT l)[j]? = some ⟨q, (findT l q).getD zeroSib⟩ := by
      unfold allT
      rw [List.getElem?_map, hx]
      rfl
    have h4 : ((allT l).take (j + 1)).map Ent.v = ((allT l).take j).map Ent.v ++ [.agg (.str q :: ((findT l q).getD zeroSib).c)] := by
      rw [List.take_add_one, ha]
      simp
      rfl
    have h6 : (j + 1) * 104 ≤ 140737488355328 := by omega
    have hsz : sizeOk 10 (((allT l).take j).map Ent.v) = true := sizeOk_ents _
    rw [h4]
    generalize ((allT l).take j).map Ent.v = Q at h5 hsz ⊢
    rw [s_round]
    cases hf : findT l q with
    | none =>
      rw [hf] at h3 hg
      simp only [Option.map_none, Option.getD_none, zeroSib_v, zeroSib_c] at h3 hg
      simp [-getElem?_pos, c_table_Table_All_l0, hlt, hx, h1, ht, hmo, h3, h5, h6, hsz, hg, hil2, isKey, found, zeroSib_c]
      done
    | some s =>
      rw [hf] at h3 hg
      simp only [Option.map_some, Option.getD_some, Sib.v] at h3 hg
      simp [-getElem?_pos, c_table_Table_All_l0, hlt, hx, h1, ht, hmo, h3, h5, h6, hsz, hg, hil2, isKey, found]
      done
  · rw [s_round, List.take_of_length_le (by simp [allT, keysT_len])]
    simp [c_table_Table_All_l0]
theorem all1_eq {h : Heap} {i k : Nat} {l : List Ent} (t : TabAt h i k l) (hm : AllMay l) (hl : l.length ≤ 1000000) (hs : KeysSmall l) :
    callL E F.table_Table_All [.ptr (some (i, 0))] h = some (cnd (decide (l.length = 0)) (.eml (h.length + 1) 10) (.msl (h.length + 1) 0 l.length 10), h ++ [.cells [.map (some k)] [], cnd (decide (l.length = 0)) .emp (.cells ((allT l).flatMap Ent.c) [])], .no) := by
  refine callL_of rfl fn_table_Table_All ?_
  have h1 := t.tab
  have g1 : callL V.E F.maps_Keys_map_string_api_Sibs_string_api_Sibs [.map (some k)] h = some (.fn F.maps_Keys_map_string_api_Sibs_string_api_Sibs_c1 [] [.ptr (some (h.length, 0))], h ++ [.cells [.map (some k)] []], .no) := by
    refine callL_of rfl V.fn_maps_Keys_map_string_api_Sibs_string_api_Sibs ?_
    simp [-getElem?_pos, V.c_maps_Keys_map_string_api_Sibs_string_api_Sibs]
    done
  have g1' := up_maps_Keys_map_string_api_Sibs_string_api_Sibs g1
  have g2 := up_slices_Sorted_string (sorted_call t.map hl hs)
  have lp := all1_loop t hm hl [.cells [.map (some k)] []]
  have hkl := keysT_len l
  have hal := allT_len l
  have hfl : ((allT l).map Ent.v).flatMap V.flat = (allT l).flatMap Ent.c := flat_ents _
  have hml : ((allT l).map Ent.v).length = l.length := by simp [hal]
  generalize keysT l = K at *
  generalize (allT l).flatMap Ent.c = Y at *
  generalize (allT l).map Ent.v = A at *
  by_cases h0 : l.length = 0
  · rw [h0] at lp hkl
    rw [show ((0 : Nat) : Int) = 0 from rfl] at lp
    simp [-getElem?_pos, c_table_Table_All, h1, g1', g2, lp, hkl, thwV, mnewO, hml, hfl, h0]
    done
  · simp [-getElem?_pos, c_table_Table_All, h1, g1', g2, lp, hkl, thwV, mnewO, hml, hfl, h0]
    done
/-- A table's bucket. -/
def bucketT (l : List Ent) (b : Int) : List Ent := (allT l).filter fun e => decide ((bkt e.key : Int) = b)
theorem bucket_eq {h : Heap} {i k : Nat} {l : List Ent} (t : TabAt h i k l) (hm : TMayE l) (hl : l.length ≤ 1000000) (b : Int) :
    callL E F.table_Table_Bucket [.ptr (some (i, 0)), .int .i64 b] h = some (.sl ((bucketT l b).map Ent.v), h, .no) := by
  refine callL_of rfl fn_table_Table_Bucket ?_
  have g1 := all1_eq (t.app [.cells [.int .i64 b] []]) hm.sib hl hm.small
  have hal := allT_len l
  have hks : KeysSmall (allT l) := (allT_may hm).small
  have hil := hget_lt t.tab
  have hbe : bucketT l b = (allT l).filter fun e => !goes b e := by
    unfold bucketT goes
    congr 1
    funext e
    simp
  rw [hbe]
  by_cases h0 : l.length = 0
  · have ha0 : allT l = [] := List.eq_nil_of_length_eq_zero (hal.trans h0)
    rw [ha0]
    have g2 := dele_eml (h.length + 2) (.fn F.table_Table_Bucket_c1 [] [.ptr (some (h.length, 0))]) (h ++ [.cells [.int .i64 b] [], .cells [.map (some k)] [], .emp]) (by simp)
    simp only [h0, decide_true, cnd_true, List.append_assoc, List.cons_append, List.nil_append, List.length_append, List.length_cons, List.length_nil] at g1
    simp [-getElem?_pos, c_table_Table_Bucket, g1, g2, pureL, chunks]
    done
  · have hset1 := dele_eq (allT l) (by omega) hks (h ++ [.cells [.int .i64 b] [], .cells [.map (some k)] [], .cells ((allT l).flatMap Ent.c) []]) (h.length + 2) h.length b (by simp) (by simp) (by omega) (by omega)
    obtain ⟨v, o, fl, g2, c2, o', g3⟩ := hset1
    have d2 := c2 h.length (by omega)
    rw [hal] at g2
    simp only [h0, decide_false, cnd_false, List.append_assoc, List.cons_append, List.nil_append, List.length_append, List.length_cons, List.length_nil] at g1
    generalize ((allT l).filter fun e => !goes b e).map Ent.v = R at *
    generalize (allT l).flatMap Ent.c = Y at *
    simp only [hset_local, List.set_cons_succ, List.set_cons_zero] at g2 g3
    simp [-getElem?_pos, c_table_Table_Bucket, g1, g2, g3, d2]
    done
end Go.Proofs.YtionebfmjjpnbaaGreat.W1
