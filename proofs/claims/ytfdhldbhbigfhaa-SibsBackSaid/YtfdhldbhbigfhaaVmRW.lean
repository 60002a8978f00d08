/- What 'sibs.WriteEntry' computes, however great its data; what is written then. -/
import Derived.Test.YtfdhldbhbigfhaaVmRN
set_option linter.unusedVariables false
set_option linter.unusedSimpArgs false
namespace Go.Proofs.Ytfdhldbhbigfhaa.V
open Go.Vm

def _root_.Go.Vm.Val.Big (v : Val) : Prop := v.dot.Wf ∧ v.data.length ≤ 140737488351232
def _root_.Go.Vm.Sib.Big (s : Sib) : Prop := s.seen.Wf ∧ s.vals.length ≤ 1099511627776 ∧ ∀ v ∈ s.vals, v.Big
def _root_.Go.Vm.Ent.Big (e : Ent) : Prop := e.key.length ≤ 140737488351232 ∧ e.sib.Big
theorem wPutL_eq {w : Wr} (hw : w.Ok) (x : List UInt8) {h : Heap} {i : Nat} (hh : hget h i = some w.o) :
    callL E F.wire_Writer_put [.ptr (some (i, 0)), bytesV x] h = some (.tup [], hset h i (w.put x).o, .w [i]) := by
  refine callL_of rfl fn_wire_Writer_put ?_
  have hi := hget_lt hh
  obtain ⟨b, most, long⟩ := w
  obtain ⟨h1, h2, h3⟩ := hw
  simp only at h1 h2 h3
  have hwrap : IntKind.wrap .i64 (most - b.length) = most - b.length := by rw [wrap_i64] <;> omega
  unfold Wr.o Wr.c bytesV at hh
  cases long with
  | true =>
    have hp : Wr.put ⟨b, most, true⟩ x = ⟨b, most, true⟩ := by simp [Wr.put]
    simp [c_wire_Writer_put, hh, hp, Wr.o, Wr.c, bytesV, hi]
  | false =>
    by_cases hc : most - (b.length : Int) < (x.length : Int)
    · have hp : Wr.put ⟨b, most, false⟩ x = ⟨b, most, true⟩ := by simp [Wr.put, hc]
      simp [c_wire_Writer_put, hh, hp, Wr.o, Wr.c, bytesV, hi, hwrap, hc]
    · have hp : Wr.put ⟨b, most, false⟩ x = ⟨b ++ x, most, false⟩ := by simp [Wr.put, hc]
      have h4 : b.length + x.length ≤ 140737488355328 := by omega
      simp [c_wire_Writer_put, hh, hp, Wr.o, Wr.c, bytesV, hi, hwrap, hc, h4]
theorem wTextL_eq {w : Wr} (hw : w.Ok) (x : List UInt8) (hx : x.length ≤ 140737488351232) {h : Heap} {i : Nat} (hh : hget h i = some w.o) :
    callL E F.wire_Writer_Text [.ptr (some (i, 0)), bytesV x] h = some (.tup [], hset h i (w.put (encNum x.length ++ x)).o, .w [i]) := by
  refine callL_of rfl fn_wire_Writer_Text ?_
  have h0 : x.length < 18446744073709551616 := by omega
  have h1 := encNum_10 h0
  have h2 := wPutL_eq hw (encNum x.length ++ x) hh
  have h3 : (encNum x.length).length + x.length ≤ 140737488355328 := by omega
  have h4 : IntKind.wrap .u64 (x.length : Int) = x.length := by rw [wrap_u64] <;> omega
  have h5 := num_eq h0
  unfold bytesV at h2 h5
  rw [List.map_append] at h2
  simp [hget_lt hh, bytesV, c_wire_Writer_Text, h4, h5, h3, h2]
theorem sibWriteL_loop {l : List Val} (hl : l.length ≤ 1099511627776) (hs : ∀ v ∈ l, v.Big) (i : Nat) (fb : Nat) : ∀ (k j : Nat) (w : Wr) (h : Heap), j + k = l.length → w.Ok → hget h i = some w.o → i < fb → fb ≤ h.length →
    loopRun (callL E) loopL fb [0, 17, 18, 19] c_sibs_Write_l0 ⟨[(0, .ptr (some (i, 0))), (17, .sl (l.map Val.v)), (18, .int .i64 l.length), (19, .int .i64 j)], h, .w [i]⟩ =
      some (.exit 0, ⟨[(0, .ptr (some (i, 0))), (17, .sl (l.map Val.v)), (18, .int .i64 l.length), (19, .int .i64 l.length), (20, .bool false)], hset h i (w.vals (l.drop j)).o, .w [i]⟩) := by
  intro k
  induction k with
  | zero =>
    intro j w h hj hw hh hi hfb
    have : j = l.length := by omega
    subst this
    refine loop_exit ?_
    rw [s_round]
    simp [c_sibs_Write_l0, List.drop_of_length_le, Wr.vals, hset_same hh]
  | succ k ih =>
    intro j w h hj hw hh hi hfb
    have hlt : (j : Int) < (l.length : Int) := by omega
    obtain ⟨v, hx, hd, hm⟩ := get_of_lt (l := l) (i := j) (by omega)
    have h1 := i64_add1 (n := j) (by omega)
    have hil := hget_lt hh
    have hne : i ≠ h.length := by omega
    obtain ⟨hv1, hv2⟩ := hs v hm
    have hA : hget (h ++ [.cells v.c []]) i = some w.o := by rw [hget_app hil]; exact hh
    have g1 := Num_eq hw (u64_lt v.dot.node) hA
    have g2 := Int_eq (hw.put _) hv1.2 (hget_hset hA (q := (w.put (encNum (u64 v.dot.node))).o))
    have g3 := Flag_eq ((hw.put _).put _) v.dead (hget_hset hA (q := ((w.put (encNum (u64 v.dot.node))).put (encNum (zig v.dot.n))).o))
    have g4 := wTextL_eq (((hw.put _).put _).put _) v.data hv2 (hget_hset hA (q := (((w.put (encNum (u64 v.dot.node))).put (encNum (zig v.dot.n))).put [if v.dead then 1 else 0]).o))
    rw [hset_hset] at g2 g3 g4
    have h3 := ih (j + 1) (w.val v) (hset h i (w.val v).o) (by omega) (hw.val v) (hget_hset hh) hi (by rw [hset_len]; exact hfb)
    have hfb2 : ¬ h.length < fb := by omega
    refine loop_next ?_ (h3.trans ?_)
    · have ht := take_hset (l := [.cells v.c []]) (o := (w.val v).o) hil
      unfold Wr.val at ht
      unfold bytesV at g4
      have hdr : v.c.drop 4 = [] := rfl
      rw [s_round]
      simp [c_sibs_Write_l0, hlt, hx, g1, g2, g3, g4, h1, -getElem?_pos, hil, hi, hfb2, hne, wrap_u64n, ht, Wr.val]
    · rw [hd]; simp [Wr.vals]
theorem sibWriteL_eq {s : Sib} (hs : s.Big) {w : Wr} (hw : w.Ok) {h : Heap} {i : Nat} (hh : hget h i = some w.o) :
    callL E F.sibs_Write [.ptr (some (i, 0)), s.v] h = some (.tup [], hset h i (w.sib s).o, .w [i]) := by
  refine callL_of rfl fn_sibs_Write ?_
  obtain ⟨h1, h2, h3⟩ := hs
  have hil := hget_lt hh
  have hne : i ≠ h.length := by omega
  have hA : hget (h ++ [.cells s.c []]) i = some w.o := by rw [hget_app hil]; exact hh
  have g1 := vecWrite_eq h1 hw hA
  have g2 := Num_eq (hw.vec s.seen.l) (n := s.vals.length) (by omega) (hget_hset hA (q := (w.vec s.seen.l).o))
  rw [hset_hset] at g2
  have g3 := sibWriteL_loop h2 h3 i h.length s.vals.length 0 _ _ (by omega) ((hw.vec s.seen.l).put (encNum s.vals.length)) (hget_hset hA) hil (by rw [hset_len]; simp)
  rw [show ((0 : Nat) : Int) = 0 from rfl, List.drop_zero, hset_hset] at g3
  have ht := take_hset (l := [.cells s.c []]) (o := (w.sib s).o) hil
  unfold Wr.sib at ht
  have hw64 : u64 (s.vals.length : Int) = s.vals.length := u64_len _ (by omega)
  simp only [Vec.v] at g1
  simp [c_sibs_Write, g1, g2, g3, ht, hne, hil, Sib.v, Wr.sib, wrap_u64n, hw64, -getElem?_pos]
theorem entWriteL_eq {e : Ent} (hs : e.Big) {w : Wr} (hw : w.Ok) {h : Heap} {i : Nat} (hh : hget h i = some w.o) :
    callL E F.sibs_WriteEntry [.ptr (some (i, 0)), e.v] h = some (.tup [], hset h i (w.ent e).o, .w [i]) := by
  refine callL_of rfl fn_sibs_WriteEntry ?_
  obtain ⟨h1, h2⟩ := hs
  have hil := hget_lt hh
  have hne : i ≠ h.length := by omega
  have hA : hget (h ++ [.cells e.c []]) i = some w.o := by rw [hget_app hil]; exact hh
  have g1 := wTextL_eq hw e.key h1 hA
  have g2 := sibWriteL_eq h2 (hw.put (encNum e.key.length ++ e.key)) (hget_hset hA)
  rw [hset_hset] at g2
  have ht := take_hset (l := [.cells e.c []]) (o := (w.ent e).o) hil
  unfold Wr.ent at ht
  unfold bytesV at g1
  simp [-getElem?_pos, c_sibs_WriteEntry, g1, g2, ht, hne, hil, Wr.ent]
/-! ### what is written, where there is room -/
theorem wput_short {w : Wr} {x : List UInt8} (h : (w.put x).long = false) : w.long = false ∧ (w.put x).b = w.b ++ x := by
  unfold Wr.put at h ⊢
  split at h
  · cases h
  · rename_i hc
    rw [if_neg hc]
    exact ⟨h, rfl⟩
theorem wput_fit {w : Wr} {x : List UInt8} (h : w.long = false) (hr : (w.b.length : Int) + x.length ≤ w.most) : w.put x = { w with b := w.b ++ x } := by
  unfold Wr.put
  rw [if_neg]
  rintro (e | e)
  · rw [h] at e; cases e
  · omega
/-- Writing pieces one behind the other. -/
def Wr.puts (w : Wr) (l : List (List UInt8)) : Wr := l.foldl Wr.put w
theorem puts_short : ∀ {l : List (List UInt8)} {w : Wr}, (w.puts l).long = false → w.long = false ∧ (w.puts l).b = w.b ++ l.flatten
  | [], w, h => ⟨h, by simp [Wr.puts]⟩
  | x :: l, w, h => by
    obtain ⟨h1, h2⟩ := puts_short (l := l) (w := w.put x) h
    obtain ⟨h3, h4⟩ := wput_short h1
    refine ⟨h3, ?_⟩
    show (Wr.puts (w.put x) l).b = _
    rw [h2, h4]
    simp
theorem puts_fit : ∀ {l : List (List UInt8)} {w : Wr}, w.long = false → (w.b.length : Int) + l.flatten.length ≤ w.most → w.puts l = { w with b := w.b ++ l.flatten }
  | [], w, _, _ => by simp [Wr.puts]
  | x :: l, w, h, hr => by
    have hx : (w.b.length : Int) + x.length ≤ w.most := by simp at hr; omega
    show (w.put x).puts l = _
    rw [wput_fit h hx, puts_fit (l := l) (w := { w with b := w.b ++ x }) h (by simp at hr ⊢; omega)]
    simp
def valPs (v : Val) : List (List UInt8) := [encNum (u64 v.dot.node), encNum (zig v.dot.n), [if v.dead then 1 else 0], encNum v.data.length ++ v.data]
def entPs (e : Ent) : List (List UInt8) := (encNum e.key.length ++ e.key) :: ((e.sib.seen.l.map fun n => encNum (zig n)) ++ (encNum e.sib.vals.length :: e.sib.vals.flatMap valPs))
theorem puts_app (w : Wr) (a b : List (List UInt8)) : w.puts (a ++ b) = (w.puts a).puts b := List.foldl_append
theorem vals_puts : ∀ (l : List Val) (w : Wr), w.vals l = w.puts (l.flatMap valPs)
  | [], _ => rfl
  | v :: l, w => by
    show (w.val v).vals l = _
    rw [vals_puts l, List.flatMap_cons, puts_app]
    rfl
theorem vec_puts : ∀ (l : List Int) (w : Wr), w.vec l = w.puts (l.map fun n => encNum (zig n))
  | [], _ => rfl
  | n :: l, w => by
    show (w.put (encNum (zig n))).vec l = _
    rw [vec_puts l]
    rfl
theorem ent_puts (w : Wr) (e : Ent) : w.ent e = w.puts (entPs e) := by
  unfold Wr.ent Wr.sib entPs
  rw [vals_puts, vec_puts]
  show _ = (w.put _).puts _
  rw [puts_app]
  rfl
theorem valPs_flat (v : Val) : (valPs v).flatten = encVal v := by simp [valPs, encVal]
theorem entPs_flat (e : Ent) : (entPs e).flatten = encEnt e := by
  have h1 : ∀ l : List Int, (l.map fun n => encNum (zig n)).flatten = encZ l := fun l => by simp [encZ, List.flatMap]
  have h2 : ∀ l : List Val, (l.flatMap valPs).flatten = l.flatMap encVal := by
    intro l
    induction l with
    | nil => rfl
    | cons v l ih => rw [List.flatMap_cons, List.flatten_append, valPs_flat, ih, List.flatMap_cons]
  unfold entPs encEnt encSib
  rw [List.flatten_cons, List.flatten_append, h1, List.flatten_cons, h2]
  simp
theorem ent_short {e : Ent} {m : Int} (h : (Wr.ent ⟨[], m, false⟩ e).long = false) : (Wr.ent ⟨[], m, false⟩ e).b = encEnt e := by
  rw [ent_puts] at h ⊢
  rw [(puts_short h).2, entPs_flat]; rfl
theorem ent_fit {e : Ent} {m : Int} (h : ((encEnt e).length : Int) ≤ m) : (Wr.ent ⟨[], m, false⟩ e).long = false ∧ (Wr.ent ⟨[], m, false⟩ e).b = encEnt e := by
  rw [ent_puts, puts_fit rfl (by rw [entPs_flat]; simpa using h), entPs_flat]
  exact ⟨rfl, rfl⟩
end Go.Proofs.Ytfdhldbhbigfhaa.V
