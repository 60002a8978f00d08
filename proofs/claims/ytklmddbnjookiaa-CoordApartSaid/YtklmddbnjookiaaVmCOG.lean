/- What 'coord.Write', 'Read', 'Ack', 'Got' compute. -/
import Derived.Test.YtklmddbnjookiaaVmCOE
set_option linter.unusedVariables false
set_option linter.unusedSimpArgs false
namespace Go.Proofs.Ytklmddbnjookiaa.V
open Go.Vm

def begun (h : Heap) (i mi : Nat) (wait last : Int) (ans : List Ans) (ops : List (Int × Nat)) (n need : Nat) (key : List UInt8) (s : Sib) (wr : Bool) : Heap :=
  hset (hset h i (coordO wait (last + 1) mi ans)) mi (.map (mapI (ops ++ [(last + 1, h.length + 3)]))) ++ [.cells s.c [], .cells s.c [], .cells (cntC need (no8.set n true)) [], .cells (OpS.c ⟨key, wr, s, ans8.set n s, 0⟩ (h.length + 2)) []]
section
variable {h : Heap} {i mi : Nat} {wait last : Int} {ans : List Ans} {ops : List (Int × Nat)} (t : CAt h i mi wait last ans ops)
include t
theorem coordWR (n need : Nat) (hn : n < 8) (hneed : 1 < need) (key : List UInt8) (s : Sib) (wr : Bool)
    (hm : (⟨key, s⟩ : Ent).may = true) (hl : ops.length < 64) (hl0 : 0 ≤ last) (hl1 : last < 1000000000) (hf : findI ops (last + 1) = none) :
    callL E F.coord_Coord_begin [.ptr (some (i, 0)), .int .i64 n, .int .i64 need, .str key, s.v, .bool wr] (h ++ [.cells s.c []]) =
      some (.tup [.int .i64 (last + 1), .int .i64 0], begun h i mi wait last ans ops n need key s wr, ⟨[i, mi], [mi], false⟩) := by
  have g := coordBegin_ok (t.app [.cells s.c []]) n need hn hneed key s wr hm hl hl0 hl1 hf
  have hil := hget_lt t.co
  have hml := hget_lt t.mp
  rw [g, V.hset_app hil, V.hset_app (by rw [hset_len]; exact hml)]
  simp [begun]
theorem begun_mi (n need : Nat) (key : List UInt8) (s : Sib) (wr : Bool) : hget (begun h i mi wait last ans ops n need key s wr) mi = some (.map (mapI (ops ++ [(last + 1, h.length + 3)]))) := by
  have hml := hget_lt t.mp
  unfold begun
  rw [hget_app (by rw [hset_len, hset_len]; exact hml)]
  unfold hset hget
  rw [List.getElem?_set]
  simp [hml]
omit t in
theorem begun_lt : Vm.Obj.lt h.length (.map (mapI (ops ++ [(last + 1, h.length + 3)]))) = false := by
  rw [mapI_lt, List.all_append]
  simp
theorem coordWrite_ok (n need : Nat) (hn : n < 8) (hneed : 1 < need) (key : List UInt8) (s : Sib)
    (hm : (⟨key, s⟩ : Ent).may = true) (hl : ops.length < 64) (hl0 : 0 ≤ last) (hl1 : last < 1000000000) (hf : findI ops (last + 1) = none) :
    callL E F.coord_Coord_Write [.ptr (some (i, 0)), .int .i64 n, .int .i64 need, .str key, s.v] h =
      some (.tup [.int .i64 (last + 1), .int .i64 0], begun h i mi wait last ans ops n need key s true, ⟨[i, mi], [mi], false⟩) := by
  refine callL_of rfl fn_coord_Coord_Write ?_
  have g := coordWR t n need hn hneed key s true hm hl hl0 hl1 hf
  have b := begun_mi t n need key s true
  have b2 := begun_lt (h := h) (last := last) (ops := ops)
  have hil := hget_lt t.co
  have hml := hget_lt t.mp
  have n9 : ¬ (h.length ≤ mi) := by omega
  have hne := t.ne
  simp only [Sib.v] at g
  simp [-getElem?_pos, c_coord_Coord_Write, g, b, b2, hil, hml, n9]
  done
theorem coordRead_ok (n need : Nat) (hn : n < 8) (hneed : 1 < need) (key : List UInt8) (s : Sib)
    (hm : (⟨key, s⟩ : Ent).may = true) (hl : ops.length < 64) (hl0 : 0 ≤ last) (hl1 : last < 1000000000) (hf : findI ops (last + 1) = none) :
    callL E F.coord_Coord_Read [.ptr (some (i, 0)), .int .i64 n, .int .i64 need, .str key, s.v] h =
      some (.tup [.int .i64 (last + 1), .int .i64 0], begun h i mi wait last ans ops n need key s false, ⟨[i, mi], [mi], false⟩) := by
  refine callL_of rfl fn_coord_Coord_Read ?_
  have g := coordWR t n need hn hneed key s false hm hl hl0 hl1 hf
  have b := begun_mi t n need key s false
  have b2 := begun_lt (h := h) (last := last) (ops := ops)
  have hil := hget_lt t.co
  have hml := hget_lt t.mp
  have n9 : ¬ (h.length ≤ mi) := by omega
  have hne := t.ne
  simp only [Sib.v] at g
  simp [-getElem?_pos, c_coord_Coord_Read, g, b, b2, hil, hml, n9]
  done
end
end Go.Proofs.Ytklmddbnjookiaa.V
