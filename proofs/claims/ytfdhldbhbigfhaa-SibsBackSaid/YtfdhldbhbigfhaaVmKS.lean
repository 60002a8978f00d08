/- What the functions of 'sibs' compute: writing. -/
import Derived.Test.YtfdhldbhbigfhaaVmKV
set_option linter.unusedVariables false
set_option linter.unusedSimpArgs false
namespace Go.Proofs.Ytfdhldbhbigfhaa.V
open Go.Vm

theorem hset_app {h l : Heap} {i : Nat} {o : Vm.Obj} (hi : i < h.length) : hset (h ++ l) i o = hset h i o ++ l := Vm.hset_app hi
theorem hget_app {h l : Heap} {i : Nat} (hi : i < h.length) : hget (h ++ l) i = hget h i := by simp [hget, hi, List.getElem?_append_left]
theorem take_hset {h l : Heap} {i : Nat} {o : Vm.Obj} (hi : i < h.length) : (hset (h ++ l) i o).take h.length = hset h i o := by rw [hset_app hi, List.take_left' (hset_len _ _ _)]

def u64 (n : Int) : Nat := (n % 18446744073709551616).toNat
theorem u64_lt (n : Int) : u64 n < 18446744073709551616 := by unfold u64; omega
theorem wrap_u64n (n : Int) : IntKind.wrap .u64 n = (u64 n : Int) := by rw [wrap_u64']; unfold u64; omega
theorem u64_len (n : Nat) (h : n < 18446744073709551616) : u64 n = n := by unfold u64; omega
def Wr.val (w : Wr) (v : Val) : Wr := (((w.put (encNum (u64 v.dot.node))).put (encNum (zig v.dot.n))).put [if v.dead then 1 else 0]).put (encNum v.data.length ++ v.data)
def Wr.vals (w : Wr) (l : List Val) : Wr := l.foldl Wr.val w
def Wr.sib (w : Wr) (s : Sib) : Wr := ((w.vec s.seen.l).put (encNum s.vals.length)).vals s.vals
def Wr.ent (w : Wr) (e : Ent) : Wr := (w.put (encNum e.key.length ++ e.key)).sib e.sib
theorem Wr.Ok.val {w : Wr} (h : w.Ok) (v : Val) : (w.val v).Ok := (((h.put _).put _).put _).put _
theorem Wr.Ok.vals {w : Wr} (h : w.Ok) (l : List Val) : (w.vals l).Ok := by
  induction l generalizing w with
  | nil => exact h
  | cons v l ih => exact ih (h.val v)
theorem Wr.Ok.sib {w : Wr} (h : w.Ok) (s : Sib) : (w.sib s).Ok := ((h.vec _).put _).vals _
theorem Wr.Ok.ent {w : Wr} (h : w.Ok) (e : Ent) : (w.ent e).Ok := (h.put _).sib _
/-- Small enough to be counted. -/
def _root_.Go.Vm.Val.Small (v : Val) : Prop := v.dot.Wf ∧ v.data.length ≤ 1099511627776
def _root_.Go.Vm.Sib.Small (s : Sib) : Prop := s.seen.Wf ∧ s.vals.length ≤ 1099511627776 ∧ ∀ v ∈ s.vals, v.Small
def _root_.Go.Vm.Ent.Small (e : Ent) : Prop := e.key.length ≤ 1099511627776 ∧ e.sib.Small

theorem sibWrite_loop {l : List Val} (hl : l.length ≤ 1099511627776) (hs : ∀ v ∈ l, v.Small) (i : Nat) (fb : Nat) : ∀ (k j : Nat) (w : Wr) (h : Heap), j + k = l.length → w.Ok → hget h i = some w.o → i < fb → fb ≤ h.length →
    loopRun (callL E) loopL fb [0, 17, 18, 19] c_sibs_Write_l0 ⟨[(0, .ptr (some (i, 0))), (17, .sl (l.map Val.v)), (18, .int .i64 l.length), (19, .int .i64 j)], h, .w [i]⟩ =
      some (.exit 0, ⟨[(0, .ptr (some (i, 0))), (17, .sl (l.map Val.v)), (18, .int .i64 l.length), (19, .int .i64 l.length), (20, .bool false)], hset h i (w.vals (l.drop j)).o, .w [i]⟩) := by
  intro k
  induction k with
  | zero =>
    intro j w h hj hw hh hi hfb
    have : j = l.length := by omega
    subst this
    refine loop_exit ?_
    rw [s_round]
    simp [c_sibs_Write_l0, List.drop_of_length_le, Wr.vals, hset_same hh]
  | succ k ih =>
    intro j w h hj hw hh hi hfb
    have hlt : (j : Int) < (l.length : Int) := by omega
    obtain ⟨v, hx, hd, hm⟩ := get_of_lt (l := l) (i := j) (by omega)
    have h1 := i64_add1 (n := j) (by omega)
    have hil := hget_lt hh
    have hne : i ≠ h.length := by omega
    obtain ⟨hv1, hv2⟩ := hs v hm
    have hA : hget (h ++ [.cells v.c []]) i = some w.o := by rw [hget_app hil]; exact hh
    have g1 := Num_eq hw (u64_lt v.dot.node) hA
    have g2 := Int_eq (hw.put _) hv1.2 (hget_hset hA (q := (w.put (encNum (u64 v.dot.node))).o))
    have g3 := Flag_eq ((hw.put _).put _) v.dead (hget_hset hA (q := ((w.put (encNum (u64 v.dot.node))).put (encNum (zig v.dot.n))).o))
    have g4 := Text_eq (((hw.put _).put _).put _) v.data hv2 (hget_hset hA (q := (((w.put (encNum (u64 v.dot.node))).put (encNum (zig v.dot.n))).put [if v.dead then 1 else 0]).o))
    rw [hset_hset] at g2 g3 g4
    have h3 := ih (j + 1) (w.val v) (hset h i (w.val v).o) (by omega) (hw.val v) (hget_hset hh) hi (by rw [hset_len]; exact hfb)
    have hfb2 : ¬ h.length < fb := by omega
    refine loop_next ?_ (h3.trans ?_)
    · have ht := take_hset (l := [.cells v.c []]) (o := (w.val v).o) hil
      unfold Wr.val at ht
      unfold bytesV at g4
      have hdr : v.c.drop 4 = [] := rfl
      rw [s_round]
      simp [c_sibs_Write_l0, hlt, hx, g1, g2, g3, g4, h1, -getElem?_pos, hil, hi, hfb2, hne, wrap_u64n, ht, Wr.val]
    · rw [hd]; simp [Wr.vals]
theorem sibWrite_eq {s : Sib} (hs : s.Small) {w : Wr} (hw : w.Ok) {h : Heap} {i : Nat} (hh : hget h i = some w.o) :
    callL E F.sibs_Write [.ptr (some (i, 0)), s.v] h = some (.tup [], hset h i (w.sib s).o, .w [i]) := by
  refine callL_of rfl fn_sibs_Write ?_
  obtain ⟨h1, h2, h3⟩ := hs
  have hil := hget_lt hh
  have hne : i ≠ h.length := by omega
  have hA : hget (h ++ [.cells s.c []]) i = some w.o := by rw [hget_app hil]; exact hh
  have g1 := vecWrite_eq h1 hw hA
  have g2 := Num_eq (hw.vec s.seen.l) (n := s.vals.length) (by omega) (hget_hset hA (q := (w.vec s.seen.l).o))
  rw [hset_hset] at g2
  have g3 := sibWrite_loop h2 h3 i h.length s.vals.length 0 _ _ (by omega) ((hw.vec s.seen.l).put (encNum s.vals.length)) (hget_hset hA) hil (by rw [hset_len]; simp)
  rw [show ((0 : Nat) : Int) = 0 from rfl, List.drop_zero, hset_hset] at g3
  have ht := take_hset (l := [.cells s.c []]) (o := (w.sib s).o) hil
  unfold Wr.sib at ht
  have hw64 : u64 (s.vals.length : Int) = s.vals.length := u64_len _ (by omega)
  simp only [Vec.v] at g1
  simp [c_sibs_Write, g1, g2, g3, ht, hne, hil, Sib.v, Wr.sib, wrap_u64n, hw64, -getElem?_pos]
end Go.Proofs.Ytfdhldbhbigfhaa.V
