/- Lists of entries that rise by key. -/
import Derived.Test.YtionebfmjjpnbaaGreatVmR5D
import Derived.Test.YtionebfmjjpnbaaGreatVmTB
set_option linter.unusedVariables false
set_option linter.unusedSimpArgs false
namespace Go.Proofs.YtionebfmjjpnbaaGreat.V
open Go.Vm

theorem insertE_mem {u e : Ent} : ∀ {l : List Ent}, u ∈ insertE l e → u = e ∨ u ∈ l
  | [], h => .inl (by simpa [insertE] using h)
  | w :: l, h => by
    unfold insertE at h
    split at h
    · rcases List.mem_cons.1 h with h | h
      · exact .inr (by simp [h])
      · rcases insertE_mem h with h | h
        · exact .inl h
        · exact .inr (by simp [h])
    · exact List.mem_cons.1 h
theorem insertE_keys : ∀ {l : List Ent} {e : Ent}, (l.map Ent.key).Pairwise (fun a b => bytesLess a b = true) → (∀ x ∈ l, x.key ≠ e.key) → ((insertE l e).map Ent.key).Pairwise (fun a b => bytesLess a b = true)
  | [], e, _, _ => by simp [insertE]
  | u :: l, e, h, hne => by
    rw [List.map_cons, List.pairwise_cons] at h
    unfold insertE
    split
    · rename_i hlt
      rw [List.map_cons, List.pairwise_cons]
      refine ⟨fun k hk => ?_, insertE_keys h.2 (fun x hx => hne x (by simp [hx]))⟩
      obtain ⟨x, hx, rfl⟩ := List.mem_map.1 hk
      rcases insertE_mem hx with rfl | hx
      · exact hlt
      · exact h.1 _ (List.mem_map_of_mem hx)
    · rename_i hlt
      have h1 : bytesLess e.key u.key = true := by
        rcases bytesLess_tri u.key e.key with h | h | h
        · exact absurd h hlt
        · exact absurd h (hne u (by simp))
        · exact h
      rw [List.map_cons, List.map_cons, List.pairwise_cons, List.pairwise_cons]
      refine ⟨fun k hk => ?_, h⟩
      rcases List.mem_cons.1 hk with rfl | hk
      · exact h1
      · exact bytesLess_trans h1 (h.1 k hk)
theorem tabAt_none {l : List Ent} {k : List UInt8} (h : tabAt l k = none) : ∀ x ∈ l, x.key ≠ k := fun x hx e => by
  unfold tabAt at h
  rw [List.findIdx?_eq_none_iff] at h
  have := h x hx
  rw [decide_eq_true e] at this
  cases this
abbrev KSrt (l : List Ent) : Prop := (l.map Ent.key).Pairwise fun a b => bytesLess a b = true
theorem KSrt.ext : ∀ {a b : List Ent}, KSrt a → KSrt b → (∀ v, v ∈ a ↔ v ∈ b) → a = b
  | [], [], _, _, _ => rfl
  | [], v :: b, _, _, h => absurd ((h v).2 (by simp)) (by simp)
  | u :: a, [], _, _, h => absurd ((h u).1 (by simp)) (by simp)
  | u :: a, v :: b, ha, hb, h => by
    rw [KSrt, List.map_cons, List.pairwise_cons] at ha hb
    have ha1 : ∀ w ∈ a, bytesLess u.key w.key = true := fun w hw => ha.1 _ (List.mem_map_of_mem hw)
    have hb1 : ∀ w ∈ b, bytesLess v.key w.key = true := fun w hw => hb.1 _ (List.mem_map_of_mem hw)
    have huv : u = v := by
      rcases List.mem_cons.1 ((h u).1 (by simp)) with h1 | h1
      · exact h1
      · rcases List.mem_cons.1 ((h v).2 (by simp)) with h2 | h2
        · exact h2.symm
        · have h3 := bytesLess_trans (hb1 u h1) (ha1 v h2)
          rw [bytesLess_irrefl] at h3; cases h3
    subst huv
    congr 1
    refine KSrt.ext (a := a) (b := b) ha.2 hb.2 fun w => ⟨fun hw => ?_, fun hw => ?_⟩
    · rcases List.mem_cons.1 ((h w).1 (by simp [hw])) with h1 | h1
      · have := ha1 w hw
        rw [h1, bytesLess_irrefl] at this; cases this
      · exact h1
    · rcases List.mem_cons.1 ((h w).2 (by simp [hw])) with h1 | h1
      · have := hb1 w hw
        rw [h1, bytesLess_irrefl] at this; cases this
      · exact h1
theorem mem_insertE {u v : Ent} : ∀ {l : List Ent}, u ∈ insertE l v ↔ u = v ∨ u ∈ l
  | [] => by simp [insertE]
  | w :: l => by
    unfold insertE
    split
    · simp only [List.mem_cons, mem_insertE (l := l)]
      constructor
      · rintro (h | h | h)
        · exact .inr (.inl h)
        · exact .inl h
        · exact .inr (.inr h)
      · rintro (h | h | h)
        · exact .inr (.inl h)
        · exact .inl h
        · exact .inr (.inr h)
    · simp only [List.mem_cons]
end Go.Proofs.YtionebfmjjpnbaaGreat.V
