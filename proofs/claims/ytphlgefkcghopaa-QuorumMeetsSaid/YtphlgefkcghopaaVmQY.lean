/- The law of meetings. -/
import Derived.Test.YtphlgefkcghopaaVmQW
set_option linter.unusedVariables false
set_option linter.unusedSimpArgs false
namespace Go.Proofs.Ytphlgefkcghopaa.V
open Go.Vm

/-- Bit i of a number, as the program asks for it. -/
def bit (w : Int) (i : Nat) : Bool := (w.fdiv (2 ^ (min i 64))) % 2 == (1 : Int)
def filt (w : Int) (i k : Nat) : List Int := ((List.range' i k).filter (bit w)).map Int.ofNat
theorem filt_succ (w : Int) (i k : Nat) : filt w i (k + 1) = cnd (bit w i) ((i : Int) :: filt w (i + 1) k) (filt w (i + 1) k) := by
  unfold filt
  rw [List.range'_succ]
  cases h : bit w i <;> simp [h]
theorem filt_mem {w : Int} {i k : Nat} {x : Int} : x ∈ filt w i k ↔ ∃ n : Nat, x = n ∧ i ≤ n ∧ n < i + k ∧ bit w n = true := by
  unfold filt
  simp only [List.mem_map, List.mem_filter, List.mem_range'_1]
  constructor
  · rintro ⟨n, ⟨⟨h1, h2⟩, h3⟩, rfl⟩; exact ⟨n, rfl, h1, h2, h3⟩
  · rintro ⟨n, rfl, h1, h2, h3⟩; exact ⟨n, ⟨⟨h1, h2⟩, h3⟩, rfl⟩
theorem pigeon (w r : Int) : ∀ (k i : Nat), k < (filt w i k).length + (filt r i k).length → ∃ x, x ∈ filt w i k ∧ x ∈ filt r i k := by
  intro k
  induction k with
  | zero => intro i h; simp [filt] at h
  | succ k ih =>
    intro i h
    rw [filt_succ, filt_succ] at h ⊢
    cases hw : bit w i <;> cases hr : bit r i <;> simp only [hw, hr, cnd_true, cnd_false, List.length_cons] at h ⊢
    · obtain ⟨x, h1, h2⟩ := ih (i + 1) (by omega); exact ⟨x, h1, h2⟩
    · obtain ⟨x, h1, h2⟩ := ih (i + 1) (by omega); exact ⟨x, h1, by simp [h2]⟩
    · obtain ⟨x, h1, h2⟩ := ih (i + 1) (by omega); exact ⟨x, by simp [h1], h2⟩
    · exact ⟨i, by simp, by simp⟩
theorem filt_len (w : Int) (i k : Nat) : (filt w i k).length ≤ k := by
  unfold filt
  rw [List.length_map]
  exact Nat.le_trans (List.length_filter_le _ _) (by simp)

theorem Meets_loop0 (N : Nat) (hN : N ≤ 8) (w r : Int) : ∀ (k i : Nat) (la lb : List Int), i + k = N → la.length ≤ i → lb.length ≤ i →
    ∃ rs, loopRun (callL E) loopL 0 [0, 3, 4, 11, 12, 51, 52] c_tattlerlaw21_QuorumMeets_l0
      ⟨[(0, .int .i64 N), (3, .int .u64 w), (4, .int .u64 r), (11, .sl (la.map (V.int .i64))), (12, .sl (lb.map (V.int .i64))), (51, .int .i64 N), (52, .int .i64 i)], [], .no⟩ =
      some (.exit 0, ⟨rs, [], .no⟩) ∧ get rs 0 = .int .i64 N ∧ get rs 11 = .sl ((la ++ filt w i k).map (V.int .i64)) ∧ get rs 12 = .sl ((lb ++ filt r i k).map (V.int .i64)) := by
  intro k
  induction k with
  | zero =>
    intro i la lb hi _ _
    have : i = N := by omega
    subst this
    exact ⟨_, loop_exit (by rw [s_round]; simp [c_tattlerlaw21_QuorumMeets_l0]; rfl), by simp, by simp [filt], by simp [filt]⟩
  | succ k ih =>
    intro i la lb hi ha hb
    have hltI : (i : Int) < N := by omega
    have hlt : i < N := by omega
    have hw : IntKind.wrap .i64 (i + 1 : Int) = ((i + 1 : Nat) : Int) := by rw [wrap_i64] <;> omega
    have hwu : IntKind.wrap .u64 (i : Int) = (i : Int) := by rw [wrap_u64] <;> omega
    have hla : (la.length + 1) * 8 ≤ 140737488355328 := by omega
    have hlb : (lb.length + 1) * 8 ≤ 140737488355328 := by omega
    have hn0 : ¬ (i : Int) < 0 := by omega
    obtain ⟨rs, h1, h2, h3, h4⟩ := ih (i + 1) (cnd (bit w i) (la ++ [(i : Int)]) la) (cnd (bit r i) (lb ++ [(i : Int)]) lb) (by omega)
      (by cases bit w i <;> simp <;> omega) (by cases bit r i <;> simp <;> omega)
    refine ⟨rs, loop_next ?_ h1, h2, ?_, ?_⟩
    · clear h1 h2 h3 h4 ih
      rw [s_round]
      cases hbw : bit w i <;> cases hbr : bit r i <;> simp only [bit] at hbw hbr <;>
        simp [c_tattlerlaw21_QuorumMeets_l0, hltI, hlt, hwu, hn0, IntKind.bits, hbw, hbr, hla, hlb, hw]
    · rw [h3, filt_succ]
      cases bit w i <;> simp
    · rw [h4, filt_succ]
      cases bit r i <;> simp
theorem Meets_inner (la lb : List Int) (hlb : lb.length ≤ 8) (hla : la.length ≤ 8) (i : Nat) (x : Int) (h : Heap) : ∀ (k j : Nat), j + k = lb.length →
    ∃ st e, loopRun (callL E) loopL 0 [12, 15, 84, 85, 86, 90, 91, 92] c_tattlerlaw21_QuorumMeets_l1
      ⟨[(12, .sl (lb.map (V.int .i64))), (15, .int .i64 x), (84, .sl (la.map (V.int .i64))), (85, .int .i64 la.length), (86, .int .i64 i), (90, .sl (lb.map (V.int .i64))), (91, .int .i64 lb.length), (92, .int .i64 j)], [], .no⟩ = some (e, st) ∧
      (x ∈ lb.drop j → e = .ret ∧ get st.rs 10 = .bool true) ∧
      (x ∉ lb.drop j → e = .exit 4 ∧ st.h = [] ∧ st.fl = .no ∧ get st.rs 12 = .sl (lb.map (V.int .i64)) ∧ get st.rs 84 = .sl (la.map (V.int .i64)) ∧ get st.rs 85 = .int .i64 la.length ∧ get st.rs 86 = .int .i64 i) := by
  intro k
  induction k with
  | zero =>
    intro j hj
    have : j = lb.length := by omega
    subst this
    refine ⟨_, .exit 4, loop_exit (by rw [s_round]; simp [c_tattlerlaw21_QuorumMeets_l1]; rfl), by simp, fun _ => by simp⟩
  | succ k ih =>
    intro j hj
    have hlt : j < lb.length := by omega
    have hltI : (j : Int) < lb.length := by omega
    obtain ⟨y, hy⟩ : ∃ y, lb[j]? = some y := ⟨_, List.getElem?_eq_getElem hlt⟩
    have hy2 := (List.getElem?_eq_some_iff.1 hy).2
    have hd : lb.drop j = y :: lb.drop (j + 1) := by rw [List.drop_eq_getElem_cons hlt, hy2]
    have hw : IntKind.wrap .i64 (j + 1 : Int) = ((j + 1 : Nat) : Int) := by rw [wrap_i64] <;> omega
    rw [hd]
    by_cases hxy : x = y
    · subst hxy
      refine ⟨_, .ret, loop_ret (by rw [s_round]; simp [-getElem?_pos, c_tattlerlaw21_QuorumMeets_l1, hltI, hlt, hy, awake_eq]; try rfl), by simp, by simp⟩
    · obtain ⟨st, e, h1, h2, h3⟩ := ih (j + 1) (by omega)
      have hbe : (x == y) = false := beq_false_of_ne hxy
      refine ⟨st, e, loop_next ?_ h1, fun hx => h2 (by simpa [hxy] using hx), fun hx => h3 (by simp at hx; exact hx.2)⟩
      rw [s_round]
      simp [-getElem?_pos, c_tattlerlaw21_QuorumMeets_l1, hltI, hlt, hy, hbe, hw]
theorem Meets_outer (la lb : List Int) (hlb : lb.length ≤ 8) (hla : la.length ≤ 8) : ∀ (k i : Nat), i + k = la.length → (∃ x, x ∈ la.drop i ∧ x ∈ lb) →
    ∃ st, loopRun (callL E) loopL 0 [12, 84, 85, 86] c_tattlerlaw21_QuorumMeets_l2
      ⟨[(12, .sl (lb.map (V.int .i64))), (84, .sl (la.map (V.int .i64))), (85, .int .i64 la.length), (86, .int .i64 i)], [], .no⟩ = some (.ret, st) ∧ get st.rs 10 = .bool true := by
  intro k
  induction k with
  | zero =>
    intro i hi ⟨x, hx, _⟩
    have : i = la.length := by omega
    subst this
    simp at hx
  | succ k ih =>
    intro i hi hex
    have hlt : i < la.length := by omega
    have hltI : (i : Int) < la.length := by omega
    obtain ⟨y, hy⟩ : ∃ y, la[i]? = some y := ⟨_, List.getElem?_eq_getElem hlt⟩
    have hy2 := (List.getElem?_eq_some_iff.1 hy).2
    have hd : la.drop i = y :: la.drop (i + 1) := by rw [List.drop_eq_getElem_cons hlt, hy2]
    have hw : IntKind.wrap .i64 (i + 1 : Int) = ((i + 1 : Nat) : Int) := by rw [wrap_i64] <;> omega
    obtain ⟨st, e, h1, h2, h3⟩ := Meets_inner la lb hlb hla i y [] lb.length 0 (by simp)
    simp only [List.drop_zero, Int.natCast_zero] at h1 h2 h3
    by_cases hyb : y ∈ lb
    · obtain ⟨rfl, h5⟩ := h2 hyb
      refine ⟨_, loop_ret (by rw [s_round]; simp [-getElem?_pos, c_tattlerlaw21_QuorumMeets_l2, hltI, hlt, hy, h1]; try rfl), h5⟩
    · obtain ⟨rfl, e1, e2, e3, e4, e5, e6⟩ := h3 hyb
      obtain ⟨st2, k1, k2⟩ := ih (i + 1) (by omega) (by
        obtain ⟨x, hx, hxb⟩ := hex
        rw [hd] at hx
        rcases List.mem_cons.1 hx with rfl | hx
        · exact absurd hxb hyb
        · exact ⟨x, hx, hxb⟩)
      refine ⟨st2, loop_next ?_ k1, k2⟩
      rw [s_round]
      obtain ⟨rs, h, fl⟩ := st
      simp only at e1 e2 e3 e4 e5 e6
      subst e1 e2
      simp [-getElem?_pos, c_tattlerlaw21_QuorumMeets_l2, hltI, hlt, hy, h1, e3, e4, e5, e6, hw]
theorem tattlerlaw21_QuorumMeets_top (n : Int) (_ : (Lit.int .i64 n).wf = true) (r : Int) (_ : (Lit.int .i64 r).wf = true) (w : Int) (_ : (Lit.int .i64 w).wf = true) (ws : Int) (_ : (Lit.int .u64 ws).wf = true) (rs : Int) (_ : (Lit.int .u64 rs).wf = true) :
    ∃ h fl, callL E F.tattlerlaw21_QuorumMeets [.int .i64 n, .int .i64 r, .int .i64 w, .int .u64 ws, .int .u64 rs] [] = some (.bool true, h, fl) := by
  obtain ⟨u, hu, hu2⟩ : ∃ u : Nat, IntKind.wrap .u64 n = u ∧ u < 18446744073709551616 := by
    have h1 : IntKind.wrap .u64 n = n % 18446744073709551616 := rfl
    have h2 : 0 ≤ n % 18446744073709551616 := Int.emod_nonneg _ (by decide)
    have h3 : n % 18446744073709551616 < 18446744073709551616 := Int.emod_lt_of_pos _ (by decide)
    exact ⟨(n % 18446744073709551616).toNat, by rw [h1]; omega, by omega⟩
  have hm : u % 8 < 8 := Nat.mod_lt _ (by omega)
  have e1 : IntKind.wrap .i64 (Int.tmod (u : Int) 8) = ((u % 8 : Nat) : Int) := by
    have : Int.tmod (u : Int) 8 = ((u % 8 : Nat) : Int) := by rw [Int.ofNat_tmod]; rfl
    rw [this, wrap_i64] <;> omega
  have e2 : IntKind.wrap .i64 ((u : Int) % 8 + 1) = ((u % 8 + 1 : Nat) : Int) := by rw [wrap_i64] <;> omega
  obtain ⟨rg, h1, g0, g11, g12⟩ := Meets_loop0 (u % 8 + 1) (by omega) ws rs (u % 8 + 1) 0 [] [] (by omega) (by simp) (by simp)
  have ha := filt_len ws 0 (u % 8 + 1)
  have hb := filt_len rs 0 (u % 8 + 1)
  have hp := pigeon ws rs (u % 8 + 1) 0
  have hN : u % 8 + 1 ≤ 8 := by omega
  simp only [List.nil_append, List.map_nil, Int.natCast_zero] at h1 g11 g12
  generalize filt ws 0 (u % 8 + 1) = A at *
  generalize filt rs 0 (u % 8 + 1) = B at *
  generalize u % 8 + 1 = N at *
  have hwN : IntKind.wrap .i64 ((N : Int) - (A.length : Int)) = (N : Int) - A.length := by rw [wrap_i64] <;> omega
  have first : ∀ q : Option (V × Heap × Fl), q = q := fun _ => rfl
  have hMeet := Meet_eq N B.length A.length []
  rw [hwN] at hMeet
  refine top_of rfl fn_tattlerlaw21_QuorumMeets ?_
  by_cases hc : (1 : Int) ≤ B.length ∧ (B.length : Int) ≤ N ∧ (1 : Int) ≤ A.length ∧ (A.length : Int) ≤ N ∧ (N : Int) - A.length < B.length
  · obtain ⟨c1, c2, c3, c4, c5⟩ := hc
    obtain ⟨x, hx1, hx2⟩ := hp (by omega)
    obtain ⟨st, h2, h3⟩ := Meets_outer A B (by omega) (by omega) A.length 0 (by omega) ⟨x, by simpa using hx1, hx2⟩
    obtain ⟨rs2, hh, fl2⟩ := st
    simp only [Int.natCast_zero] at h2 h3
    simp only [c1, c2, c3, c4, c5, decide_true, Bool.and_true] at hMeet
    by_cases q1 : 1 ≤ r <;> by_cases q2 : r ≤ n <;> by_cases q3 : 1 ≤ w <;> by_cases q4 : w ≤ n <;>
      simp [c_tattlerlaw21_QuorumMeets, Meet_eq, q1, q2, q3, q4, hu, e1, e2, h1, g0, g11, g12, hMeet, h2, h3] <;> cases hesc : fl2.esc <;> simp
  · have hMeet' : callL E F.quorum_Meet [.int .i64 N, .int .i64 B.length, .int .i64 A.length] [] = some (.bool false, [], .no) := by
      rw [hMeet]
      congr 2
      refine congrArg V.bool ?_
      cases hq : (decide ((1 : Int) ≤ B.length) && (decide ((B.length : Int) ≤ N) && (decide ((1 : Int) ≤ A.length) && (decide ((A.length : Int) ≤ N) && decide ((N : Int) - A.length < B.length)))))
      · rfl
      · simp only [Bool.and_eq_true, decide_eq_true_eq] at hq
        exact absurd hq hc
    by_cases q1 : 1 ≤ r <;> by_cases q2 : r ≤ n <;> by_cases q3 : 1 ≤ w <;> by_cases q4 : w ≤ n <;>
      simp [c_tattlerlaw21_QuorumMeets, Meet_eq, q1, q2, q3, q4, hu, e1, e2, h1, g0, g11, g12, hMeet', awake_eq]
end Go.Proofs.Ytphlgefkcghopaa.V
