/- What 'digest.Write' computes; lists of digests that are the same. -/
import Derived.Test.YtphlgefkcghopaaVmKE
set_option linter.unusedVariables false
set_option linter.unusedSimpArgs false
namespace Go.Proofs.Ytphlgefkcghopaa.V
open Go.Vm

theorem putL_eq {w : Wr} (hw : w.Ok) (x : List UInt8) {h : Heap} {i : Nat} (hh : hget h i = some w.o) :
    callL E F.wire_Writer_put [.ptr (some (i, 0)), bytesV x] h = some (.tup [], hset h i (w.put x).o, .w [i]) := by
  refine callL_of rfl fn_wire_Writer_put ?_
  have hi := hget_lt hh
  obtain ⟨b, most, long⟩ := w
  obtain ⟨h1, h2, h3⟩ := hw
  simp only at h1 h2 h3
  have hwrap : IntKind.wrap .i64 (most - b.length) = most - b.length := by rw [wrap_i64] <;> omega
  unfold Wr.o Wr.c bytesV at hh
  cases long with
  | true =>
    have hp : Wr.put ⟨b, most, true⟩ x = ⟨b, most, true⟩ := by simp [Wr.put]
    simp [c_wire_Writer_put, hh, hp, Wr.o, Wr.c, bytesV, hi]
  | false =>
    by_cases hc : most - (b.length : Int) < (x.length : Int)
    · have hp : Wr.put ⟨b, most, false⟩ x = ⟨b, most, true⟩ := by simp [Wr.put, hc]
      simp [c_wire_Writer_put, hh, hp, Wr.o, Wr.c, bytesV, hi, hwrap, hc]
    · have hp : Wr.put ⟨b, most, false⟩ x = ⟨b ++ x, most, false⟩ := by simp [Wr.put, hc]
      have h4 : b.length + x.length ≤ 140737488355328 := by omega
      simp [c_wire_Writer_put, hh, hp, Wr.o, Wr.c, bytesV, hi, hwrap, hc, h4]
theorem TextL_eq {w : Wr} (hw : w.Ok) (x : List UInt8) (hx : x.length ≤ 140737488351232) {h : Heap} {i : Nat} (hh : hget h i = some w.o) :
    callL E F.wire_Writer_Text [.ptr (some (i, 0)), bytesV x] h = some (.tup [], hset h i (w.put (encNum x.length ++ x)).o, .w [i]) := by
  refine callL_of rfl fn_wire_Writer_Text ?_
  have h0 : x.length < 18446744073709551616 := by omega
  have h1 := encNum_10 h0
  have h2 := putL_eq hw (encNum x.length ++ x) hh
  have h3 : (encNum x.length).length + x.length ≤ 140737488355328 := by omega
  have h4 : IntKind.wrap .u64 (x.length : Int) = x.length := by rw [wrap_u64] <;> omega
  have h5 := num_eq h0
  unfold bytesV at h2 h5
  rw [List.map_append] at h2
  simp [hget_lt hh, bytesV, c_wire_Writer_Text, h4, h5, h3, h2]
def Wr.dot (w : Wr) (d : Dot) : Wr := (w.put (encNum (u64 d.node))).put (encNum (zig d.n))
def Wr.dots (w : Wr) (l : List Dot) : Wr := l.foldl Wr.dot w
def Wr.dig (w : Wr) (d : Dig) : Wr := (((w.put (encNum d.key.length ++ d.key)).vec d.seen.l).put (encNum d.dots.length)).dots d.dots
theorem Wr.Ok.dot {w : Wr} (h : w.Ok) (d : Dot) : (w.dot d).Ok := (h.put _).put _
theorem Wr.Ok.dots {w : Wr} (h : w.Ok) (l : List Dot) : (w.dots l).Ok := by
  induction l generalizing w with
  | nil => exact h
  | cons d l ih => exact ih (h.dot d)
theorem Wr.Ok.dig {w : Wr} (h : w.Ok) (d : Dig) : (w.dig d).Ok := (((h.put _).vec _).put _).dots _
theorem digWrite_loop {l : List Dot} (hl : l.length ≤ 1099511627776) (hs : ∀ v ∈ l, v.Wf) (i : Nat) (fb : Nat) : ∀ (k j : Nat) (w : Wr) (h : Heap), j + k = l.length → w.Ok → hget h i = some w.o → i < fb → fb ≤ h.length →
    loopRun (callL E) loopL fb [0, 22, 23, 24] c_digest_Write_l0 ⟨[(0, .ptr (some (i, 0))), (22, .sl (l.map Dot.v)), (23, .int .i64 l.length), (24, .int .i64 j)], h, .w [i]⟩ =
      some (.exit 0, ⟨[(0, .ptr (some (i, 0))), (22, .sl (l.map Dot.v)), (23, .int .i64 l.length), (24, .int .i64 l.length), (25, .bool false)], hset h i (w.dots (l.drop j)).o, .w [i]⟩) := by
  intro k
  induction k with
  | zero =>
    intro j w h hj hw hh hi hfb
    have : j = l.length := by omega
    subst this
    refine loop_exit ?_
    rw [s_round]
    simp [c_digest_Write_l0, List.drop_of_length_le, Wr.dots, hset_same hh]
  | succ k ih =>
    intro j w h hj hw hh hi hfb
    have hlt : (j : Int) < (l.length : Int) := by omega
    obtain ⟨v, hx, hd, hm⟩ := get_of_lt (l := l) (i := j) (by omega)
    have h1 := i64_add1 (n := j) (by omega)
    have hil := hget_lt hh
    have hne : i ≠ h.length := by omega
    have hv := hs v hm
    have hA : hget (h ++ [.cells v.c []]) i = some w.o := by rw [hget_app hil]; exact hh
    have g1 := Num_eq hw (u64_lt v.node) hA
    have g2 := Int_eq (hw.put _) hv.2 (hget_hset hA (q := (w.put (encNum (u64 v.node))).o))
    rw [hset_hset] at g2
    have h3 := ih (j + 1) (w.dot v) (hset h i (w.dot v).o) (by omega) (hw.dot v) (hget_hset hh) hi (by rw [hset_len]; exact hfb)
    have hfb2 : ¬ h.length < fb := by omega
    refine loop_next ?_ (h3.trans ?_)
    · have ht := take_hset (l := [.cells v.c []]) (o := (w.dot v).o) hil
      unfold Wr.dot at ht
      rw [s_round]
      simp [c_digest_Write_l0, hlt, hx, g1, g2, h1, -getElem?_pos, hil, hi, hfb2, hne, wrap_u64n, ht, Wr.dot]
    · rw [hd]; simp [Wr.dots]
structure _root_.Go.Vm.Dig.Small (d : Dig) : Prop where
  key : d.key.length ≤ 140737488351232
  seen : d.seen.Wf
  len : d.dots.length ≤ 1099511627776
  dots : ∀ x ∈ d.dots, x.Wf
theorem digWrite_eq {d : Dig} (hd : d.Small) {w : Wr} (hw : w.Ok) {h : Heap} {i : Nat} (hh : hget h i = some w.o) :
    callL E F.digest_Write [.ptr (some (i, 0)), d.v] h = some (.tup [], hset h i (w.dig d).o, .w [i]) := by
  refine callL_of rfl fn_digest_Write ?_
  obtain ⟨h1, h2, h3, h4⟩ := hd
  have hil := hget_lt hh
  have hne : i ≠ h.length := by omega
  have hA : hget (h ++ [.cells d.c []]) i = some w.o := by rw [hget_app hil]; exact hh
  have g0 := TextL_eq hw d.key h1 hA
  have g1 := vecWrite_eq h2 (hw.put (encNum d.key.length ++ d.key)) (hget_hset hA (q := (w.put (encNum d.key.length ++ d.key)).o))
  have g2 := Num_eq ((hw.put (encNum d.key.length ++ d.key)).vec d.seen.l) (n := d.dots.length) (by omega) (hget_hset hA (q := ((w.put (encNum d.key.length ++ d.key)).vec d.seen.l).o))
  rw [hset_hset] at g1 g2
  have g3 := digWrite_loop h3 h4 i h.length d.dots.length 0 _ _ (by omega) (((hw.put (encNum d.key.length ++ d.key)).vec d.seen.l).put (encNum d.dots.length)) (hget_hset hA) hil (by rw [hset_len]; simp)
  rw [show ((0 : Nat) : Int) = 0 from rfl, List.drop_zero, hset_hset] at g3
  have ht := take_hset (l := [.cells d.c []]) (o := (w.dig d).o) hil
  unfold Wr.dig at ht
  have hw64 : u64 (d.dots.length : Int) = d.dots.length := u64_len _ (by omega)
  simp only [Vec.v] at g1
  unfold bytesV at g0
  have hc1 : (d.c.drop 1).take 8 = d.seen.c := Dig.c_seen d
  simp [c_digest_Write, g0, g1, g2, g3, ht, hne, hil, Wr.dig, wrap_u64n, hw64, -getElem?_pos]
/-! ### the same -/
theorem sameDots_self (l : List Dot) (hl : l.length ≤ 1000000) (h : Heap) : callL E F.tattlerref5_SameDots [.sl (l.map Dot.v), .sl (l.map Dot.v)] h = some (.bool true, h, .no) := by
  refine callL_of rfl fn_tattlerref5_SameDots ?_
  have key := loop_to (C := callL E) (fb := h.length) (live := [0, 1, 12, 13]) (c := c_tattlerref5_SameDots_l0)
    (fun j => ⟨[(0, .sl (l.map Dot.v)), (1, .sl (l.map Dot.v)), (12, .int .i64 l.length), (13, .int .i64 j)], h, .no⟩) l.length
    (r := (.exit 0, ⟨[(0, .sl (l.map Dot.v)), (1, .sl (l.map Dot.v)), (12, .int .i64 l.length), (13, .int .i64 l.length), (14, .bool false)], h, .no⟩)) (fun j hj => ?_) ?_ rfl
  · rw [show ((0 : Nat) : Int) = 0 from rfl] at key
    simp [-getElem?_pos, c_tattlerref5_SameDots, key]
  · obtain ⟨v, hx, _, _⟩ := get_of_lt (l := l) (i := j) hj
    have hlt : (j : Int) < (l.length : Int) := by omega
    have h1 := i64_add1 (n := j) (by omega)
    rw [s_round]
    simp [-getElem?_pos, c_tattlerref5_SameDots_l0, hlt, hj, hx, h1, Dot.eq_cells]
  · rw [s_round]
    simp [c_tattlerref5_SameDots_l0]
theorem sameDigs_self (d : Dig) (hl : d.dots.length ≤ 1000000) (h : Heap) : callL E F.tattlerref5_SameDigests [.sl [d.v], .sl [d.v]] h = some (.bool true, h, .no) := by
  refine callL_of rfl fn_tattlerref5_SameDigests ?_
  have g1 := sameDots_self d.dots hl h
  have key := loop_to (C := callL E) (fb := h.length) (live := [0, 1, 12, 13]) (c := c_tattlerref5_SameDigests_l0)
    (fun j => ⟨[(0, .sl [d.v]), (1, .sl [d.v]), (12, .int .i64 1), (13, .int .i64 j)], h, .no⟩) 1
    (r := (.exit 0, ⟨[(0, .sl [d.v]), (1, .sl [d.v]), (12, .int .i64 1), (13, .int .i64 1), (14, .bool false)], h, .no⟩)) (fun j hj => ?_) ?_ rfl
  · rw [show ((0 : Nat) : Int) = 0 from rfl] at key
    simp [-getElem?_pos, c_tattlerref5_SameDigests, key]
  · have : j = 0 := by omega
    subst this
    have w1 : IntKind.wrap .i64 1 = 1 := by rw [wrap_i64] <;> omega
    rw [show ((0 : Nat) : Int) = 0 from rfl, show ((0 + 1 : Nat) : Int) = 1 from rfl, s_round]
    simp [-getElem?_pos, c_tattlerref5_SameDigests_l0, w1, g1, Vec.eq_cells]
  · rw [s_round]
    simp [c_tattlerref5_SameDigests_l0]
end Go.Proofs.Ytphlgefkcghopaa.V
