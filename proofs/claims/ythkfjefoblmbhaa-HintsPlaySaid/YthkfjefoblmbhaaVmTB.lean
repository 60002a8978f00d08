/- The order of texts. -/
import Derived.Test.YthkfjefoblmbhaaVmG5
set_option linter.unusedVariables false
set_option linter.unusedSimpArgs false
namespace Go.Proofs.Ythkfjefoblmbhaa.V
open Go.Vm

theorem bytesLess_cons (a b : UInt8) (x y : List UInt8) : bytesLess (a :: x) (b :: y) = true ↔ a.toNat < b.toNat ∨ (a = b ∧ bytesLess x y = true) := by
  simp [bytesLess, UInt8.lt_iff_toNat_lt]
theorem bytesLess_nil (x : List UInt8) : bytesLess x [] = false := by cases x <;> rfl
theorem bytesLess_irrefl : ∀ (x : List UInt8), bytesLess x x = false
  | [] => rfl
  | a :: x => by
    cases h : bytesLess (a :: x) (a :: x)
    · rfl
    · rcases (bytesLess_cons _ _ _ _).1 h with h1 | ⟨_, h1⟩
      · omega
      · rw [bytesLess_irrefl x] at h1; cases h1
theorem bytesLess_trans : ∀ {x y z : List UInt8}, bytesLess x y = true → bytesLess y z = true → bytesLess x z = true
  | x, y, [], _, h => by rw [bytesLess_nil] at h; cases h
  | x, [], c :: z, h, _ => by rw [bytesLess_nil] at h; cases h
  | [], b :: y, c :: z, _, _ => rfl
  | a :: x, b :: y, c :: z, h1, h2 => by
    rw [bytesLess_cons] at h1 h2 ⊢
    rcases h1 with h1 | ⟨rfl, h1⟩ <;> rcases h2 with h2 | ⟨rfl, h2⟩
    · exact .inl (by omega)
    · exact .inl h1
    · exact .inl h2
    · exact .inr ⟨rfl, bytesLess_trans h1 h2⟩
theorem bytesLess_tri : ∀ (x y : List UInt8), bytesLess x y = true ∨ x = y ∨ bytesLess y x = true
  | [], [] => .inr (.inl rfl)
  | [], b :: y => .inl rfl
  | a :: x, [] => .inr (.inr rfl)
  | a :: x, b :: y => by
    rw [bytesLess_cons, bytesLess_cons]
    rcases Nat.lt_trichotomy a.toNat b.toNat with h | h | h
    · exact .inl (.inl h)
    · have h : a = b := UInt8.toNat_inj.1 h
      subst h
      rcases bytesLess_tri x y with h | h | h
      · exact .inl (.inr ⟨rfl, h⟩)
      · exact .inr (.inl (by rw [h]))
      · exact .inr (.inr (.inr ⟨rfl, h⟩))
    · exact .inr (.inr (.inl h))
end Go.Proofs.Ythkfjefoblmbhaa.V
