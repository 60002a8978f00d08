/- TableBuckets. -/
import Derived.Test.YtionebfmjjpnbaaVmTBB
import Derived.Test.YtionebfmjjpnbaaVmTC
import Derived.Test.YtionebfmjjpnbaaVB2
set_option linter.unusedVariables false
set_option linter.unusedSimpArgs false
namespace Go.Proofs.Ytionebfmjjpnbaa.W2
open Go.Vm Go.Proofs.Ytionebfmjjpnbaa.V
open Go.Proofs.Ytionebfmjjpnbaa.W1 (bucketT)

theorem buckets_loop0 (l : List Ent) (h : Heap) (T0 : List Ent) (hm0 : AllMay T0) (hl0 : T0.length + l.length < 256) :
    loopRun (callL E) loopL h.length [3, 15, 16, 17] c_tattlerlaw10_TableBuckets_l0 ⟨[(3, .ptr (some (h.length + 1, 0))), (15, .sl (l.map Ent.v)), (16, .int .i64 l.length), (17, .int .i64 0)], tabH h T0, .no⟩ =
      some (.exit 0, ⟨[(3, .ptr (some (h.length + 1, 0))), (15, .sl (l.map Ent.v)), (16, .int .i64 l.length), (17, .int .i64 l.length), (18, .bool false)], tabH h (l.foldl joinT T0), .no⟩) := by
  have key := loop_to (C := callL E) (fb := h.length) (live := [3, 15, 16, 17]) (c := c_tattlerlaw10_TableBuckets_l0)
    (fun j => ⟨[(3, .ptr (some (h.length + 1, 0))), (15, .sl (l.map Ent.v)), (16, .int .i64 l.length), (17, .int .i64 j)], tabH h ((l.take j).foldl joinT T0), .no⟩) l.length
    (r := (.exit 0, ⟨[(3, .ptr (some (h.length + 1, 0))), (15, .sl (l.map Ent.v)), (16, .int .i64 l.length), (17, .int .i64 l.length), (18, .bool false)], tabH h (l.foldl joinT T0), .no⟩)) (fun j hj => ?_) ?_ rfl
  · rw [show ((0 : Nat) : Int) = 0 from rfl, List.take_zero] at key
    exact key
  · obtain ⟨e, hx, _, _⟩ := get_of_lt (l := l) (i := j) hj
    have hlt : (j : Int) < (l.length : Int) := by omega
    have h1 := i64_add1 (n := j) (by omega)
    rw [fill_take hx]
    have hm : AllMay ((l.take j).foldl joinT T0) := fold_may hm0
    have hlen : ((l.take j).foldl joinT T0).length ≤ T0.length + j := by (have h5 := fold_len (l.take j) T0); (have h6 : (l.take j).length ≤ j := (by simp; omega)); omega
    generalize ((l.take j).foldl joinT T0) = T at *
    have hset2 : ∀ x, hset (tabH h T ++ x) h.length (.map (mapE (joinT T e))) = tabH h (joinT T e) ++ x := fun x => by rw [V.hset_app (by simp [tabH, tab2])]; simp [tabH, tab2]
    obtain ⟨r1, f1, g1, c1⟩ := tabJoin_any (h := tabH h T ++ [.cells e.c []]) ((tabH_app h T _)) hm e (by omega)
    rw [hset2] at g1
    replace g1 := up_table_Table_Join g1
    have d1 := c1 h.length (by omega)
    have kl : ∀ X, List.length (tabH h X) = h.length + 2 := fun X => by simp [tabH, tab2]
    have kT := kl T
    have kJ := kl (joinT T e)
    have l1 : h.length ≤ List.length (tabH h T) := by omega
    have l2 : h.length ≤ List.length (tabH h T) + 1 := by omega
    have l3 : h.length + 1 < List.length (tabH h T) := by omega
    have eq : List.length (tabH h (joinT T e)) = List.length (tabH h T) := by omega
    have tk : ∀ x, List.take (List.length (tabH h T)) (tabH h (joinT T e) ++ x) = tabH h (joinT T e) := fun x => List.take_left' eq
    have hk : e.c[0]? = some (.str e.key) := rfl
    generalize tabH h (joinT T e) = H1 at *
    generalize tabH h T = H at *
    rw [s_round]
    simp [-getElem?_pos, c_tattlerlaw10_TableBuckets_l0, hlt, hj, hx, h1, g1, d1, l1, l2, l3, eq, tk, hk]
    done
  · rw [s_round, List.take_length]
    simp [c_tattlerlaw10_TableBuckets_l0]
theorem bytesLess_iff : ∀ a b : List UInt8, bytesLess a b = true ↔ a < b
  | _, [] => by simp [bytesLess]
  | [], b :: y => by simp [bytesLess]
  | a :: x, b :: y => by
    rw [List.cons_lt_cons_iff]
    simp only [bytesLess, Bool.or_eq_true, Bool.and_eq_true, decide_eq_true_eq, beq_iff_eq, bytesLess_iff x y]
theorem bucket_lt {l : List Ent} (hn : NDup l) (b : Int) {j : Nat} {x y : Ent} (hx : (bucketT l b)[j]? = some x) (hy : (bucketT l b)[j + 1]? = some y) : bytesLess x.key y.key = true := by
  rw [bytesLess_iff]
  have h1 : (allT l).Pairwise fun a b => a.key < b.key := by
    unfold allT
    rw [List.pairwise_map]
    exact keysT_lt hn
  have h2 : (bucketT l b).Pairwise fun a b => a.key < b.key := h1.filter _
  obtain ⟨p1, e1⟩ := List.getElem?_eq_some_iff.1 hx
  obtain ⟨p2, e2⟩ := List.getElem?_eq_some_iff.1 hy
  have := List.pairwise_iff_getElem.1 h2 j (j + 1) p1 p2 (by omega)
  rw [e1, e2] at this
  exact this
theorem bucket_mem {l : List Ent} {b : Int} {x : Ent} (h : x ∈ bucketT l b) : (bkt x.key : Int) = b ∧ x ∈ allT l := by
  have := List.mem_filter.1 h
  exact ⟨by simpa using this.2, this.1⟩
def cntT (l : List Ent) (b : Nat) : Nat := ((allT l).filter fun e => decide (bkt e.key < b)).length
theorem cnt_step (l : List Ent) (b : Nat) : cntT l (b + 1) = cntT l b + (bucketT l (b : Int)).length := by
  unfold cntT bucketT
  generalize allT l = A
  induction A with
  | nil => rfl
  | cons e A ih =>
    simp only [List.filter_cons]
    rcases Nat.lt_trichotomy (bkt e.key) b with h | h | h
    · rw [if_pos (by simp; omega), if_pos (by simp; omega), if_neg (by simp; omega)]
      simp only [List.length_cons]; omega
    · rw [if_pos (by simp; omega), if_neg (by simp; omega), if_pos (by simp; omega)]
      simp only [List.length_cons]; omega
    · rw [if_neg (by simp; omega), if_neg (by simp; omega), if_neg (by simp; omega)]
      exact ih
theorem cnt_zero (l : List Ent) : cntT l 0 = 0 := by unfold cntT; rw [List.filter_eq_nil_iff.2 (by simp)]; rfl
theorem cnt_four (l : List Ent) : cntT l 4 = l.length := by
  unfold cntT
  rw [List.filter_eq_self.2 (fun e _ => decide_eq_true (bkt_lt _)), allT_len]
theorem bucket_len (l : List Ent) (b : Int) : (bucketT l b).length ≤ l.length := by
  rw [← allT_len l]
  exact List.length_filter_le _ _
theorem inner_loop (A : List Ent) (hm : TMayE A) (hn : NDup A) (hl : A.length ≤ 1000) (h : Heap) (b c0 : Nat) (hb : b < 4) (hc : c0 ≤ 1000) :
    loopRun (callL E) loopL h.length [3, 6, 7, 25, 30, 31, 32] c_tattlerlaw10_TableBuckets_l1 ⟨[(3, .ptr (some (h.length + 1, 0))), (6, .int .i64 c0), (7, .int .i64 b), (25, .int .i64 b), (30, .sl ((bucketT A b).map Ent.v)), (31, .int .i64 (bucketT A b).length), (32, .int .i64 0)], tabH h A, .no⟩ =
      some (.exit 4, ⟨[(3, .ptr (some (h.length + 1, 0))), (6, .int .i64 ((c0 + (bucketT A b).length : Nat) : Int)), (7, .int .i64 b), (25, .int .i64 b), (30, .sl ((bucketT A b).map Ent.v)), (31, .int .i64 (bucketT A b).length), (32, .int .i64 (bucketT A b).length), (33, .bool false)], tabH h A, .no⟩) := by
  have hbl := bucket_len A b
  have key := loop_to (C := callL E) (fb := h.length) (live := [3, 6, 7, 25, 30, 31, 32]) (c := c_tattlerlaw10_TableBuckets_l1)
    (fun j => ⟨[(3, .ptr (some (h.length + 1, 0))), (6, .int .i64 ((c0 + j : Nat) : Int)), (7, .int .i64 b), (25, .int .i64 b), (30, .sl ((bucketT A b).map Ent.v)), (31, .int .i64 (bucketT A b).length), (32, .int .i64 j)], tabH h A, .no⟩) (bucketT A b).length
    (r := (.exit 4, ⟨[(3, .ptr (some (h.length + 1, 0))), (6, .int .i64 ((c0 + (bucketT A b).length : Nat) : Int)), (7, .int .i64 b), (25, .int .i64 b), (30, .sl ((bucketT A b).map Ent.v)), (31, .int .i64 (bucketT A b).length), (32, .int .i64 (bucketT A b).length), (33, .bool false)], tabH h A, .no⟩)) (fun j hj => ?_) ?_ rfl
  · rw [show ((0 : Nat) : Int) = 0 from rfl, Nat.add_zero] at key
    exact key
  · obtain ⟨e, hx, _, he⟩ := get_of_lt hj
    have hlt : (j : Int) < ((bucketT A b).length : Int) := by omega
    have h1 := i64_add1 (n := j) (by omega)
    have h2 : IntKind.i64.wrap (((c0 + j : Nat) : Int) + 1) = ((c0 + (j + 1) : Nat) : Int) := by rw [wrap_i64] <;> omega
    obtain ⟨hbk, hea⟩ := bucket_mem he
    have hks : e.key.length ≤ 1000000 := (allT_may hm).small e hea
    have g1 := up_tattlerref5_Bucket (r5Bucket_eq e.key hks (tabH h A ++ [.cells e.c []]))
    rw [hbk] at g1
    have g2 := up_table_Table_Bucket (W1.bucket_eq ((tabH_at h A).app [.cells e.c []]) hm (by omega) b)
    have ke : e.c[0]? = some (.str e.key) := rfl
    have kl : List.length (tabH h A) = h.length + 2 := by simp [tabH]
    have l1 : h.length ≤ List.length (tabH h A) := by omega
    have l2 : h.length ≤ List.length (tabH h A) + 1 := by omega
    have l3 : h.length + 1 < List.length (tabH h A) := by omega
    obtain ⟨c, hc⟩ : ∃ c, c = c0 + j := ⟨_, rfl⟩
    have hc1 : c0 + (j + 1) = c + 1 := by omega
    rw [← hc, hc1] at h2
    rw [hc1, ← hc]
    generalize tabH h A = H at *
    rw [s_round]
    cases j with
    | zero =>
      have hw1 : IntKind.i64.wrap 1 = 1 := by rw [wrap_i64] <;> omega
      simp [hw1, -getElem?_pos, c_tattlerlaw10_TableBuckets_l1, hlt, hj, hx, h1, h2, g1, ke, l1, l2, l3]
      done
    | succ j =>
      obtain ⟨y, hy, _, _⟩ := get_of_lt (l := bucketT A b) (i := j) (by omega)
      have hyk : y.c[0]? = some (.str y.key) := rfl
      have hless := bucket_lt hn b hy hx
      have hj0 : (0 : Int) < ((j + 1 : Nat) : Int) := by omega
      have hjm : IntKind.i64.wrap (((j + 1 : Nat) : Int) - 1) = (j : Int) := by rw [wrap_i64] <;> omega
      have hjl : j < (bucketT A b).length := by omega
      have hjlt : j + 1 < (bucketT A b).length := by omega
      generalize bucketT A b = L at *
      obtain ⟨J, hJ⟩ : ∃ J : Nat, J = j + 1 := ⟨_, rfl⟩
      rw [← hJ] at h1 hlt hx hj0 hjm hjlt ⊢
      have hJ0 : 0 < J := by omega
      have n1 : ¬ List.length H < List.length h := by omega
      simp [-getElem?_pos, c_tattlerlaw10_TableBuckets_l1, hlt, hjlt, hx, h1, h2, g1, g2, ke, l1, l2, l3, hj0, hJ0, n1, hjm, hjl, hy, hyk, hless]
      done
  · rw [s_round]
    simp [c_tattlerlaw10_TableBuckets_l1]
theorem outer_loop (A : List Ent) (hm : TMayE A) (hn : NDup A) (hl : A.length ≤ 1000) (h : Heap) :
    loopRun (callL E) loopL h.length [3, 6, 25] c_tattlerlaw10_TableBuckets_l2 ⟨[(3, .ptr (some (h.length + 1, 0))), (6, .int .i64 0), (25, .int .i64 0)], tabH h A, .no⟩ =
      some (.exit 2, ⟨[(3, .ptr (some (h.length + 1, 0))), (6, .int .i64 A.length), (25, .int .i64 4), (26, .bool false)], tabH h A, .no⟩) := by
  have hcl : ∀ b, cntT A b ≤ 1000 := fun b => by
    have := List.length_filter_le (fun e : Ent => decide (bkt e.key < b)) (allT A)
    rw [allT_len] at this
    unfold cntT
    omega
  have key := loop_to (C := callL E) (fb := h.length) (live := [3, 6, 25]) (c := c_tattlerlaw10_TableBuckets_l2)
    (fun j => ⟨[(3, .ptr (some (h.length + 1, 0))), (6, .int .i64 (cntT A j)), (25, .int .i64 j)], tabH h A, .no⟩) 4
    (r := (.exit 2, ⟨[(3, .ptr (some (h.length + 1, 0))), (6, .int .i64 A.length), (25, .int .i64 4), (26, .bool false)], tabH h A, .no⟩)) (fun j hj => ?_) ?_ rfl
  · rw [show ((0 : Nat) : Int) = 0 from rfl, cnt_zero, show ((0 : Nat) : Int) = 0 from rfl] at key
    exact key
  · have hlt : (j : Int) < 4 := by omega
    have h1 := i64_add1 (n := j) (by omega)
    have g2 := up_table_Table_Bucket (W1.bucket_eq (tabH_at h A) hm (by omega) j)
    have lp := inner_loop A hm hn hl h j (cntT A j) hj (hcl j)
    rw [← cnt_step] at lp
    have kl : List.length (tabH h A) = h.length + 2 := by simp [tabH]
    have l3 : h.length + 1 < List.length (tabH h A) := by omega
    have hml : ((bucketT A j).map Ent.v).length = (bucketT A j).length := by simp
    generalize cntT A (j + 1) = c1 at *
    generalize cntT A j = c0 at *
    rw [← hml] at lp
    generalize (bucketT A j).map Ent.v = L at *
    generalize tabH h A = H at *
    rw [s_round]
    simp [-getElem?_pos, c_tattlerlaw10_TableBuckets_l2, hlt, h1, g2, lp, l3]
    done
  · rw [s_round, cnt_four]
    simp [c_tattlerlaw10_TableBuckets_l2]
theorem TableBuckets_eq (l : List Ent) (hl : l.length ≤ 140737488355328) (h : Heap) : callL E F.tattlerlaw10_TableBuckets [.sl (l.map Ent.v)] h = some (.bool true, h, .no) := by
  refine callL_of rfl fn_tattlerlaw10_TableBuckets ?_
  have g2 := up_tattlerlaw10_light (light10_eq l hl h)
  have g5' := up_tattlerlaw10_awake (awake10_eq h)
  cases hlt : lightE l with
  | false =>
    rw [hlt] at g2
    simp [-getElem?_pos, c_tattlerlaw10_TableBuckets, g2, g5']
    done
  | true =>
    rw [hlt] at g2
    unfold lightE at hlt
    simp only [Bool.and_eq_true, decide_eq_true_eq, List.all_eq_true] at hlt
    have n0 := up_table_New (tabNew_eq h)
    have mz : AllMay [] := fun e he => by cases he
    have lp0 := buckets_loop0 l h [] mz (by simp; omega)
    have tz : tabH h [] = h ++ [.map [], .cells [.map (some h.length)] []] := rfl
    rw [tz] at lp0
    have ma : TMayE (l.foldl joinT []) := fold_mayE fun e he => by cases he
    have na : NDup (l.foldl joinT []) := fold_ndup List.nodup_nil
    have la := fold_len l []
    simp only [List.length_nil] at la
    generalize l.foldl joinT [] = A at *
    have lp1 := outer_loop A ma na (by omega) h
    have q1 := up_table_Table_Len (tabLen_eq (tabH_at h A))
    have wk := up_tattlerlaw10_awake (awake10_eq (tabH h A))
    have tk : List.take h.length (tabH h A) = h := by simp [tabH]
    have kl : List.length (tabH h A) = h.length + 2 := by simp [tabH]
    generalize tabH h A = H at *
    simp [-getElem?_pos, c_tattlerlaw10_TableBuckets, g2, n0, lp0, lp1, q1, wk, tk]
    done
theorem tattlerlaw10_TableBuckets_top {c0 : List V} (h0 : Ty.Has (.sl entT) c0) : ∃ h fl, callL E F.tattlerlaw10_TableBuckets [Ty.el (.sl entT) c0] [] = some (.bool true, h, fl) := by
  obtain ⟨l, wl, ws, rfl⟩ := Ents.dec h0
  exact ⟨_, _, TableBuckets_eq l (by unfold reachLen at wl; omega) []⟩
end Go.Proofs.Ytionebfmjjpnbaa.W2
