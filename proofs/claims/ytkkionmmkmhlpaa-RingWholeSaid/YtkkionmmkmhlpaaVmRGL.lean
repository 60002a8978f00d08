/- The order in which a key asks the nodes: each once. -/
import Derived.Test.YtkkionmmkmhlpaaVmRGP
set_option linter.unusedVariables false
set_option linter.unusedSimpArgs false
namespace Go.Proofs.Ytkkionmmkmhlpaa.W2
open Go.Vm Go.Proofs.Ytkkionmmkmhlpaa.V

theorem take1_nodup {fr : Int} {turn : Bool} {out : List Int} {p : Pt} (h : out.Nodup) : (take1 fr turn out p).Nodup := by
  unfold take1
  cases hc : ((decide (fr ≤ p.at') == turn) && !out.contains p.node)
  · exact h
  · simp only [Bool.and_eq_true, Bool.not_eq_true', ← Bool.not_eq_true, List.contains_iff_mem] at hc
    rw [cnd_true, List.nodup_append]
    refine ⟨h, by simp, fun a ha b hb e => ?_⟩
    simp only [List.mem_singleton] at hb
    subst hb e
    exact hc.2 ha
theorem pass_nodup {fr : Int} {turn : Bool} : ∀ (ps : List Pt) {out : List Int}, out.Nodup → (pass fr turn out ps).Nodup
  | [], _, h => h
  | p :: ps, _, h => pass_nodup ps (take1_nodup h)
theorem take1_mem {fr : Int} {turn : Bool} {out : List Int} {p : Pt} {x : Int} : x ∈ take1 fr turn out p ↔ x ∈ out ∨ ((decide (fr ≤ p.at') == turn) = true ∧ p.node = x) := by
  unfold take1
  cases h1 : (decide (fr ≤ p.at') == turn)
  · simp
  · cases h2 : out.contains p.node
    · simp [eq_comm]
    · have : p.node ∈ out := by simpa using h2
      simp only [Bool.not_true, Bool.and_false, cnd_false, true_and]
      constructor
      · exact .inl
      · rintro (h | rfl)
        · exact h
        · exact this
theorem pass_mem {fr : Int} {turn : Bool} {x : Int} : ∀ (ps : List Pt) (out : List Int), x ∈ pass fr turn out ps ↔ x ∈ out ∨ ∃ p ∈ ps, (decide (fr ≤ p.at') == turn) = true ∧ p.node = x
  | [], out => by simp [pass]
  | p :: ps, out => by
    show x ∈ pass fr turn (take1 fr turn out p) ps ↔ _
    rw [pass_mem ps, take1_mem]
    simp only [List.mem_cons, exists_eq_or_imp, or_assoc]
theorem orderL_nodup (ps : List Pt) (fr : Int) : (orderL ps fr).Nodup := pass_nodup ps (pass_nodup ps .nil)
theorem orderL_mem {ps : List Pt} {fr x : Int} : x ∈ orderL ps fr ↔ ∃ p ∈ ps, p.node = x := by
  unfold orderL
  rw [pass_mem, pass_mem]
  simp only [List.not_mem_nil, false_or]
  constructor
  · rintro (⟨p, h1, _, h2⟩ | ⟨p, h1, _, h2⟩) <;> exact ⟨p, h1, h2⟩
  · rintro ⟨p, h1, h2⟩
    cases hd : decide (fr ≤ p.at')
    · exact .inr ⟨p, h1, by rw [hd]; rfl, h2⟩
    · exact .inl ⟨p, h1, by rw [hd]; rfl, h2⟩
theorem ptsN_mem {t : Nat} {p : Pt} : p ∈ ptsN t ↔ ∃ j, j < t ∧ ptN j = p := by simp [ptsN]
theorem orderN_mem {n : Nat} {s : List UInt8} {x : Int} : x ∈ orderN n s ↔ ∃ m : Nat, m < n ∧ x = (m : Int) := by
  unfold orderN
  rw [orderL_mem]
  constructor
  · rintro ⟨p, hp, rfl⟩
    obtain ⟨j, hj, rfl⟩ := ptsN_mem.1 ((sort3_perm _).subset hp)
    exact ⟨j / 4, by omega, rfl⟩
  · rintro ⟨m, hm, rfl⟩
    refine ⟨ptN (4 * m), (sort3_perm _).symm.subset (ptsN_mem.2 ⟨4 * m, by omega, rfl⟩), ?_⟩
    simp [ptN]
theorem orderN_nodup (n : Nat) (s : List UInt8) : (orderN n s).Nodup := orderL_nodup _ _
theorem nats_nodup (n : Nat) : ((List.range n).map fun m : Nat => (m : Int)).Nodup := by
  rw [List.nodup_iff_pairwise_ne, List.pairwise_map]
  refine List.Pairwise.imp (fun h => ?_) (List.nodup_iff_pairwise_ne.1 (List.nodup_range (n := n)))
  intro e
  exact h (by omega)
theorem orderN_perm (n : Nat) (s : List UInt8) : (orderN n s).Perm ((List.range n).map fun m : Nat => (m : Int)) := by
  rw [List.perm_ext_iff_of_nodup (orderN_nodup n s) (nats_nodup n)]
  intro x
  rw [orderN_mem]
  simp only [List.mem_map, List.mem_range]
  constructor
  · rintro ⟨m, hm, rfl⟩; exact ⟨m, hm, rfl⟩
  · rintro ⟨m, hm, rfl⟩; exact ⟨m, hm, rfl⟩
theorem orderN_length (n : Nat) (s : List UInt8) : (orderN n s).length = n := by
  rw [(orderN_perm n s).length_eq]
  simp
theorem orderN_one (s : List UInt8) : orderN 1 s = [0] := by
  have := orderN_perm 1 s
  simpa using this
end Go.Proofs.Ytkkionmmkmhlpaa.W2
