/- The first owner is the one whose point comes next. -/
import Derived.Test.YtkkionmmkmhlpaaVmRGN
import Derived.Test.YtkkionmmkmhlpaaVRO
set_option linter.unusedVariables false
set_option linter.unusedSimpArgs false
namespace Go.Proofs.Ytkkionmmkmhlpaa.W2
open Go.Vm Go.Proofs.Ytkkionmmkmhlpaa.V

def dd1 (out : List Int) (p : Pt) : List Int := cnd (out.contains p.node) out (out ++ [p.node])
def dd (out : List Int) (T : List Pt) : List Int := T.foldl dd1 out
theorem pass_dd (fr : Int) (turn : Bool) : ∀ (ps : List Pt) (out : List Int), pass fr turn out ps = dd out (ps.filter fun p => decide (fr ≤ p.at') == turn)
  | [], _ => rfl
  | p :: ps, out => by
    show pass fr turn (take1 fr turn out p) ps = _
    rw [pass_dd fr turn ps, List.filter_cons]
    unfold take1
    cases h1 : (decide (fr ≤ p.at') == turn)
    · rfl
    · simp only [Bool.true_and, if_true]
      show dd (cnd (!out.contains p.node) _ _) _ = dd (dd1 out p) _
      unfold dd1
      cases out.contains p.node <;> rfl
abbrev tour (ps : List Pt) (fr : Int) : List Pt := (ps.filter fun p => decide (fr ≤ p.at') == true) ++ ps.filter fun p => decide (fr ≤ p.at') == false
theorem orderL_dd (ps : List Pt) (fr : Int) : orderL ps fr = dd [] (tour ps fr) := by
  unfold orderL
  rw [pass_dd, pass_dd]
  unfold dd
  rw [List.foldl_append]
theorem dd_mem {x : Int} : ∀ (T : List Pt) (out : List Int), x ∈ dd out T ↔ x ∈ out ∨ ∃ p ∈ T, p.node = x
  | [], out => by simp [dd]
  | p :: T, out => by
    show x ∈ dd (dd1 out p) T ↔ _
    rw [dd_mem T]
    have : x ∈ dd1 out p ↔ x ∈ out ∨ p.node = x := by
      unfold dd1
      cases h : out.contains p.node
      · simp [eq_comm]
      · have hm : p.node ∈ out := by simpa using h
        simp only [cnd_true]
        constructor
        · exact .inl
        · rintro (h | rfl)
          · exact h
          · exact hm
    rw [this]
    simp only [List.mem_cons, exists_eq_or_imp, or_assoc]
theorem dd_far {far : Int → Int} {key : Pt → Int} {T : List Pt} (hS : T.Pairwise fun a b => key a ≤ key b) (F1 : ∀ q ∈ T, far q.node ≤ key q) (F2 : ∀ p ∈ T, ∃ q ∈ T, q.node = p.node ∧ far p.node = key q) :
    (dd [] T).Pairwise fun x y => far x ≤ far y := by
  have main : ∀ m, m ≤ T.length → (dd [] (T.take m)).Pairwise fun x y => far x ≤ far y := by
    intro m
    induction m with
    | zero => intro _; simp [dd]
    | succ m ih =>
      intro hm
      have ih := ih (by omega)
      have hp : T[m]? = some T[m] := List.getElem?_eq_getElem (by omega)
      have e : dd [] (T.take (m + 1)) = dd1 (dd [] (T.take m)) T[m] := by
        unfold dd
        rw [List.take_add_one, hp, List.foldl_append]
        rfl
      rw [e]
      unfold dd1
      cases hc : (dd [] (T.take m)).contains (T[m]).node
      · rw [cnd_false, List.pairwise_append]
        refine ⟨ih, by simp, fun x hx y hy => ?_⟩
        simp only [List.mem_singleton] at hy
        subst hy
        rw [dd_mem] at hx
        rcases hx with hx | ⟨q, hq, rfl⟩
        · cases hx
        · obtain ⟨r, hr, hrn, hrf⟩ := F2 T[m] (List.getElem_mem _)
          rw [hrf]
          obtain ⟨i, hi, rfl⟩ := List.getElem_of_mem hq
          rw [List.length_take] at hi
          rw [List.getElem_take]
          refine Int.le_trans (F1 _ (List.getElem_mem _)) ?_
          obtain ⟨j, hj, rfl⟩ := List.getElem_of_mem hr
          have hmj : m ≤ j := by
            refine Nat.le_of_not_lt fun hlt => ?_
            have : (T[m]).node ∈ dd [] (T.take m) := by
              rw [dd_mem]
              refine .inr ⟨T[j], ?_, hrn⟩
              rw [List.mem_take_iff_getElem]
              exact ⟨j, by omega, rfl⟩
            rw [← List.contains_iff_mem, hc] at this
            cases this
          rw [List.pairwise_iff_getElem] at hS
          exact hS i j (by omega) hj (by omega)
      · exact ih
  have := main T.length (Nat.le_refl _)
  rwa [List.take_length] at this

noncomputable def gap (pl : Int) (x k : Int) : Int := IntKind.wrap .u32 (point x k - pl)
def mn2 (a b : Int) : Int := if b < a then b else a
noncomputable def far (pl x : Int) : Int := mn2 (mn2 (mn2 (mn2 4294967295 (gap pl x 0)) (gap pl x 1)) (gap pl x 2)) (gap pl x 3)
theorem gap_rng (pl x k : Int) : 0 ≤ gap pl x k ∧ gap pl x k ≤ 4294967295 := by
  unfold gap
  have := wrap_u32_rng (point x k - pl)
  omega
theorem far_le (pl x : Int) (k : Nat) (hk : k < 4) : far pl x ≤ gap pl x k := by
  unfold far mn2
  have : k = 0 ∨ k = 1 ∨ k = 2 ∨ k = 3 := by omega
  rcases this with rfl | rfl | rfl | rfl
  · rw [show ((0 : Nat) : Int) = 0 from rfl]; (repeat' split) <;> omega
  · rw [show ((1 : Nat) : Int) = 1 from rfl]; (repeat' split) <;> omega
  · rw [show ((2 : Nat) : Int) = 2 from rfl]; (repeat' split) <;> omega
  · rw [show ((3 : Nat) : Int) = 3 from rfl]; (repeat' split) <;> omega
theorem far_at (pl x : Int) : ∃ k : Nat, k < 4 ∧ far pl x = gap pl x k := by
  have h0 := gap_rng pl x 0
  have h1 := gap_rng pl x 1
  have h2 := gap_rng pl x 2
  have h3 := gap_rng pl x 3
  have c0 : ((0 : Nat) : Int) = 0 := rfl
  have c1 : ((1 : Nat) : Int) = 1 := rfl
  have c2 : ((2 : Nat) : Int) = 2 := rfl
  have c3 : ((3 : Nat) : Int) = 3 := rfl
  by_cases e0 : far pl x = gap pl x 0
  · exact ⟨0, by omega, by rw [c0]; exact e0⟩
  by_cases e1 : far pl x = gap pl x 1
  · exact ⟨1, by omega, by rw [c1]; exact e1⟩
  by_cases e2 : far pl x = gap pl x 2
  · exact ⟨2, by omega, by rw [c2]; exact e2⟩
  by_cases e3 : far pl x = gap pl x 3
  · exact ⟨3, by omega, by rw [c3]; exact e3⟩
  exfalso
  unfold far mn2 at *
  (repeat' split at e0) <;> (repeat' split at e1) <;> (repeat' split at e2) <;> (repeat' split at e3) <;> omega
noncomputable def keyP (pl : Int) (p : Pt) : Int := IntKind.wrap .u32 (p.at' - pl)
theorem tour_mem {ps : List Pt} {fr : Int} {p : Pt} : p ∈ tour ps fr ↔ p ∈ ps := by
  simp only [tour, List.mem_append, List.mem_filter]
  cases decide (fr ≤ p.at') <;> simp
theorem tour_sorted {ps : List Pt} {pl : Int} (hs : Sorted3 ps) (hr : ∀ p ∈ ps, 0 ≤ p.at' ∧ p.at' < 4294967296) (hp : 0 ≤ pl ∧ pl < 4294967296) : (tour ps pl).Pairwise fun a b => keyP pl a ≤ keyP pl b := by
  have hs2 : ps.Pairwise fun a b => a.at' ≤ b.at' := hs.imp fun {a b} h => by rw [lt3_no] at h; omega
  have k1 : ∀ p ∈ ps, pl ≤ p.at' → keyP pl p = p.at' - pl := fun p h1 h2 => by
    have := hr p h1
    unfold keyP
    rw [wrap_u32', Int.emod_eq_of_lt (by omega) (by omega)]
  have k2 : ∀ p ∈ ps, ¬ pl ≤ p.at' → keyP pl p = p.at' - pl + 4294967296 := fun p h1 h2 => by
    have := hr p h1
    unfold keyP
    rw [wrap_u32']
    omega
  rw [List.pairwise_append]
  refine ⟨(hs2.filter _).imp_of_mem fun {a b} ha hb h => ?_, (hs2.filter _).imp_of_mem fun {a b} ha hb h => ?_, fun a ha b hb => ?_⟩
  · simp only [List.mem_filter, beq_true, decide_eq_true_eq] at ha hb
    rw [k1 a ha.1 ha.2, k1 b hb.1 hb.2]; omega
  · simp only [List.mem_filter, beq_false, Bool.not_eq_true', decide_eq_false_iff_not] at ha hb
    rw [k2 a ha.1 ha.2, k2 b hb.1 hb.2]; omega
  · simp only [List.mem_filter, beq_true, decide_eq_true_eq] at ha
    simp only [List.mem_filter, beq_false, Bool.not_eq_true', decide_eq_false_iff_not] at hb
    rw [k1 a ha.1 ha.2, k2 b hb.1 hb.2]
    have := hr a ha.1
    have := hr b hb.1
    omega
theorem point_rng (n k : Int) : 0 ≤ point n k ∧ point n k < 4294967296 := mix_rng _
theorem place_rng (s : List UInt8) : 0 ≤ place s ∧ place s < 4294967296 := mix_rng _
theorem orderN_far (n : Nat) (s : List UInt8) : (orderN n s).Pairwise fun x y => far (place s) x ≤ far (place s) y := by
  unfold orderN
  rw [orderL_dd]
  have hm : ∀ p, p ∈ tour (sort3 (ptsN (4 * n))) (place s) ↔ ∃ j, j < 4 * n ∧ ptN j = p := fun p => by
    rw [tour_mem, (sort3_perm _).mem_iff, ptsN_mem]
  refine dd_far (key := keyP (place s)) (tour_sorted (sort3_sorted _) (fun p hp => ?_) (place_rng s)) (fun q hq => ?_) (fun p hp => ?_)
  · obtain ⟨j, hj, rfl⟩ := ptsN_mem.1 ((sort3_perm _).subset hp)
    exact point_rng _ _
  · obtain ⟨j, hj, rfl⟩ := (hm q).1 hq
    exact far_le (place s) ((j / 4 : Nat) : Int) (j % 4) (by omega)
  · obtain ⟨j, hj, rfl⟩ := (hm p).1 hp
    obtain ⟨k, hk, hf⟩ := far_at (place s) ((j / 4 : Nat) : Int)
    refine ⟨ptN (4 * (j / 4) + k), (hm _).2 ⟨4 * (j / 4) + k, by omega, rfl⟩, ?_, ?_⟩
    · simp only [ptN]
      rw [show (4 * (j / 4) + k) / 4 = j / 4 by omega]
    · show far (place s) ((j / 4 : Nat) : Int) = keyP (place s) (ptN (4 * (j / 4) + k))
      rw [hf]
      unfold gap keyP ptN
      rw [show (4 * (j / 4) + k) / 4 = j / 4 by omega, show (4 * (j / 4) + k) % 4 = k by omega]
end Go.Proofs.Ytkkionmmkmhlpaa.W2
