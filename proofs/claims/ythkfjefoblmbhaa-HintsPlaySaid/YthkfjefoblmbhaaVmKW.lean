/- What the functions of 'wire' compute: the writer. -/
import Derived.Test.YthkfjefoblmbhaaVT
import Derived.Test.YthkfjefoblmbhaaVmG5
set_option linter.unusedVariables false
set_option linter.unusedSimpArgs false
namespace Go.Proofs.Ythkfjefoblmbhaa.V
open Go.Vm

def encNum (n : Nat) : List UInt8 := if h : n < 128 then [UInt8.ofNat n] else (UInt8.ofNat n ||| 128) :: encNum (n / 128)
termination_by n
decreasing_by omega
theorem conv_byte (k : IntKind) (n : Nat) : convV (.toInt .u8) (.int k (n : Int)) = some (byteV (UInt8.ofNat n)) := by
  show some (V.int .u8 (IntKind.wrap .u8 (n : Int))) = some (.int .u8 _)
  congr 2
theorem bin_or128 (ek : EK) (b : UInt8) : binV .or ek (byteV b) (.int .u8 128) = some (byteV (b ||| 128)) := by
  show some (V.int .u8 (IntKind.wrap .u8 (((BitVec.ofInt 8 ((b.toNat : Nat) : Int) ||| BitVec.ofInt 8 128).toNat : Nat) : Int))) = some (.int .u8 (((b ||| 128).toNat : Nat) : Int))
  have h3 : ∀ m : Fin 256, V.int .u8 (IntKind.wrap .u8 (((BitVec.ofInt 8 ((m.val : Nat) : Int) ||| BitVec.ofInt 8 128).toNat : Nat) : Int)) = .int .u8 (((UInt8.ofNat m.val ||| 128).toNat : Nat) : Int) := fun m => congrArg (V.int .u8) (by
    have : ∀ m : Fin 256, IntKind.wrap .u8 (((BitVec.ofInt 8 ((m.val : Nat) : Int) ||| BitVec.ofInt 8 128).toNat : Nat) : Int) = (((UInt8.ofNat m.val ||| 128).toNat : Nat) : Int) := by decide +kernel
    exact this m)
  have := h3 ⟨b.toNat, b.toNat_lt⟩
  simp only [UInt8.ofNat_toNat] at this
  rw [this]
theorem bin_shr7 (ek : EK) (n : Nat) : binV .shr ek (.int .u64 (n : Int)) (.int .u64 7) = some (.int .u64 ((n / 128 : Nat) : Int)) := by
  have h : Int.fdiv (n : Int) (2 ^ 7) = ((n / 128 : Nat) : Int) := by rw [Int.fdiv_eq_ediv_of_nonneg _ (by decide)]; omega
  show some (V.int .u64 (Int.fdiv (n : Int) (2 ^ 7))) = _
  rw [h]
attribute [simp high] conv_byte bin_or128 bin_shr7

structure Wr where
  b : List UInt8
  most : Int
  long : Bool
def Wr.c (w : Wr) : List V := [bytesV w.b, .int .i64 w.most, .bool w.long]
def Wr.o (w : Wr) : Vm.Obj := .cells w.c [(0, 1)]
def Wr.put (w : Wr) (x : List UInt8) : Wr := if w.long = true ∨ w.most - w.b.length < x.length then { w with long := true } else { w with b := w.b ++ x }
structure Wr.Ok (w : Wr) : Prop where
  lo : 0 ≤ w.most
  hi : w.most ≤ 70368744177664
  len : (w.b.length : Int) ≤ w.most
theorem Wr.Ok.put {w : Wr} (h : w.Ok) (x : List UInt8) : (w.put x).Ok := by
  unfold Wr.put
  split
  · exact ⟨h.lo, h.hi, h.len⟩
  · rename_i hc
    have : ¬ (w.most - (w.b.length : Int) < (x.length : Int)) := fun h => hc (.inr h)
    exact ⟨h.lo, h.hi, by simp; omega⟩
def zig (n : Int) : Nat := if n < 0 then (-2 * n - 1).toNat else (2 * n).toNat
theorem clone_eq (x : List UInt8) (hx : x.length ≤ 140737488355328) (h : Heap) : callL E F.slices_Clone_byte_byte [.sl (x.map byteV)] h = some (.sl (x.map byteV), h, .no) := by
  refine callL_of rfl fn_slices_Clone_byte_byte ?_
  cases x with
  | nil => simp [c_slices_Clone_byte_byte]
  | cons b x =>
    simp only [List.length_cons] at hx
    simp [c_slices_Clone_byte_byte, hx]
end Go.Proofs.Ythkfjefoblmbhaa.V
