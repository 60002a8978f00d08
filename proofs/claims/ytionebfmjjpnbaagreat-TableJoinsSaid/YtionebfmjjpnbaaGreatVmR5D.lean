/- What the functions of 'tattlerref5' compute: tables. -/
import Derived.Test.YtionebfmjjpnbaaGreatVmR5C
import Derived.Test.YtionebfmjjpnbaaGreatVmKS
import Derived.Test.YtionebfmjjpnbaaGreatVmG5
set_option linter.unusedVariables false
set_option linter.unusedSimpArgs false
namespace Go.Proofs.YtionebfmjjpnbaaGreat.V
open Go.Vm

def tabO (l : List Ent) : Vm.Obj := .cells [.sl (l.map Ent.v)] []
def tabAt (l : List Ent) (k : List UInt8) : Option Nat := l.findIdx? fun e => decide (e.key = k)
theorem tabAt_some {l : List Ent} {k : List UInt8} {i : Nat} (h : tabAt l k = some i) : ∃ e, l[i]? = some e ∧ e.key = k := by
  unfold tabAt at h
  rw [List.findIdx?_eq_some_iff_getElem] at h
  obtain ⟨h1, h2, _⟩ := h
  exact ⟨l[i], List.getElem?_eq_getElem h1, by simpa using h2⟩
theorem tabAt_eq (l : List Ent) (hl : l.length ≤ 1099511627776) (k : List UInt8) (t : Nat) (h : Heap) (hh : hget h t = some (tabO l)) : callL E F.tattlerref5_Table_At [.ptr (some (t, 0)), .str k] h = some (idxV (tabAt l k), h, .no) := by
  refine callL_of rfl fn_tattlerref5_Table_At ?_
  have key := loop_scan (C := callL E) (fb := h.length) (live := [1, 10, 11, 12]) (c := c_tattlerref5_Table_At_l0)
    (fun j => ⟨[(1, .str k), (10, .sl (l.map Ent.v)), (11, .int .i64 l.length), (12, .int .i64 j)], h, .no⟩) l.length (getB l fun e => !decide (e.key = k))
    (.exit 0, ⟨[(1, .str k), (10, .sl (l.map Ent.v)), (11, .int .i64 l.length), (12, .int .i64 l.length), (13, .bool false)], h, .no⟩)
    (fun j => (.ret, ⟨[(4, .int .i64 j)], h ++ [.cells (match l[j]? with | some v => v.c | none => []) []], .no⟩)) ?_ ?_ (fun _ => rfl) ?_ rfl
  · rw [show ((0 : Nat) : Int) = 0 from rfl] at key
    unfold tabO at hh
    rcases key with ⟨h1, h2⟩ | ⟨j, h1, h2, h3, h4⟩
    · have : tabAt l k = none := findIdx_getB h1
      simp [-getElem?_pos, c_tattlerref5_Table_At, hh, h2, this, idxV]
    · have : tabAt l k = some j := findIdx_at h1 h2 h3
      simp [-getElem?_pos, c_tattlerref5_Table_At, hh, h4, this, idxV]
  · intro j hj hp
    obtain ⟨e, hx, _, _⟩ := get_of_lt (l := l) (i := j) hj
    have hlt : (j : Int) < (l.length : Int) := by omega
    have h1 := i64_add1 (n := j) (by omega)
    rw [getB_at hx] at hp
    have hp' : (e.key == k) = false := by simpa using hp
    rw [s_round]
    simp [-getElem?_pos, c_tattlerref5_Table_At_l0, hlt, hj, hx, h1, hp']
  · intro j hj hp
    obtain ⟨e, hx, _, _⟩ := get_of_lt (l := l) (i := j) hj
    have hlt : (j : Int) < (l.length : Int) := by omega
    rw [getB_at hx] at hp
    have hp' : e.key = k := by simpa using hp
    rw [s_round]
    simp [-getElem?_pos, c_tattlerref5_Table_At_l0, hlt, hj, hx, hp']
  · rw [s_round]
    simp [c_tattlerref5_Table_At_l0]
def tabGet (l : List Ent) (k : List UInt8) : Option Sib :=
  match tabAt l k with
  | some i => (l[i]?).map Ent.sib
  | none => none
theorem tabGet_eq (l : List Ent) (hl : l.length ≤ 1099511627776) (k : List UInt8) (t : Nat) (h : Heap) (hh : hget h t = some (tabO l)) :
    callL E F.tattlerref5_Table_Get [.ptr (some (t, 0)), .str k] h = some (.tup [((tabGet l k).getD zeroSib).v, .bool (tabGet l k).isSome], h, .no) := by
  refine callL_of rfl fn_tattlerref5_Table_Get ?_
  have htl := hget_lt hh
  have h0 : hget (h ++ [.cells zeroSib.c []]) t = some (tabO l) := by rw [hget_app htl]; exact hh
  have g1 := tabAt_eq l hl k t _ h0
  unfold tabO at h0
  rw [zeroSib_c] at g1 h0
  unfold tabGet
  cases hf : tabAt l k with
  | none =>
    rw [hf] at g1
    simp [-getElem?_pos, c_tattlerref5_Table_Get, g1, idxV, zeroSib_c]
  | some i =>
    rw [hf] at g1
    obtain ⟨e, he, _⟩ := tabAt_some hf
    have hi := (List.getElem?_eq_some_iff.1 he).1
    simp [-getElem?_pos, c_tattlerref5_Table_Get, g1, h0, idxV, he]
def insertE : List Ent → Ent → List Ent
  | [], e => [e]
  | u :: l, e => if bytesLess u.key e.key = true then u :: insertE l e else e :: u :: l
theorem insertE_at : ∀ {l : List Ent} {v : Ent} {j : Nat}, j ≤ l.length → (∀ i, i < j → getB l (fun u => bytesLess u.key v.key) i = true) → (j = l.length ∨ getB l (fun u => bytesLess u.key v.key) j = false) → insertE l v = l.take j ++ v :: l.drop j
  | [], v, j, hj, _, _ => by
    have : j = 0 := by simpa using hj
    subst this; rfl
  | u :: l, v, 0, _, _, h => by
    rcases h with h | h
    · cases h
    · have : bytesLess u.key v.key = false := by simpa [getB] using h
      simp [insertE, this]
  | u :: l, v, j + 1, hj, h0, h => by
    have : bytesLess u.key v.key = true := by simpa [getB] using h0 0 (by omega)
    simp only [insertE, this, if_true, List.take_succ_cons, List.drop_succ_cons, List.cons_append]
    congr 1
    refine insertE_at (by simpa using hj) (fun i hi => ?_) (h.imp (fun e => by simpa using e) id)
    exact h0 (i + 1) (by omega)
/-- An entry joined: what there is now; what is told. -/
noncomputable def tabJoin (l : List Ent) (e : Ent) : List Ent × Sib × Bool × Int :=
  cnd e.may (match tabAt l e.key with
    | some i => match l[i]? with
      | some x => (l.set i ⟨x.key, x.sib.join e.sib⟩, x.sib.join e.sib, decide (x.sib.join e.sib = x.sib), 0)
      | none => (l, zeroSib, false, 0)
    | none => cnd (decide (256 ≤ l.length)) (l, zeroSib, false, 11) (insertE l ⟨e.key, zeroSib.join e.sib⟩, zeroSib.join e.sib, false, 0)) (l, zeroSib, false, 1)
theorem tabIns_loop (l : List Ent) (hl : l.length ≤ 256) (e : Ent) (t i3 i4 : Nat) (h : Heap) (fb : Nat) (h3 : hget h i3 = some (.cells e.c [])) (h3l : i3 < h.length) (h4l : i4 < h.length) (htl : t < h.length) :
    ∃ j, j ≤ l.length ∧ (insertE l ⟨e.key, zeroSib.join e.sib⟩ = l.take j ++ ⟨e.key, zeroSib.join e.sib⟩ :: l.drop j) ∧
      loopRun (callL E) loopL fb [0, 3, 4, 8, 9] c_tattlerref5_Table_Join_l0 ⟨[(0, .ptr (some (t, 0))), (3, .ptr (some (i3, 0))), (4, .ptr (some (i4, 0))), (8, .sl (l.map Ent.v)), (9, .int .i64 0)], h, .no⟩ =
        some (.exit 0, ⟨[(0, .ptr (some (t, 0))), (3, .ptr (some (i3, 0))), (4, .ptr (some (i4, 0))), (8, .sl (l.map Ent.v)), (9, .int .i64 j), (52, .bool false)], h, .no⟩) := by
  have key := loop_scan (C := callL E) (fb := fb) (live := [0, 3, 4, 8, 9]) (c := c_tattlerref5_Table_Join_l0)
    (fun j => ⟨[(0, .ptr (some (t, 0))), (3, .ptr (some (i3, 0))), (4, .ptr (some (i4, 0))), (8, .sl (l.map Ent.v)), (9, .int .i64 j)], h, .no⟩) l.length (getB l fun u => bytesLess u.key e.key)
    (.exit 0, ⟨[(0, .ptr (some (t, 0))), (3, .ptr (some (i3, 0))), (4, .ptr (some (i4, 0))), (8, .sl (l.map Ent.v)), (9, .int .i64 l.length), (52, .bool false)], h, .no⟩)
    (fun j => (.exit 0, ⟨[(0, .ptr (some (t, 0))), (3, .ptr (some (i3, 0))), (4, .ptr (some (i4, 0))), (8, .sl (l.map Ent.v)), (9, .int .i64 j), (52, .bool false)], h, .no⟩)) ?_ ?_ (fun _ => rfl) ?_ rfl
  · rw [show ((0 : Nat) : Int) = 0 from rfl] at key
    rcases key with ⟨h1, h2⟩ | ⟨j, h1, h2, h3, h4⟩
    · exact ⟨l.length, Nat.le_refl _, insertE_at (v := ⟨e.key, zeroSib.join e.sib⟩) (Nat.le_refl _) h1 (.inl rfl), h2⟩
    · exact ⟨j, Nat.le_of_lt h1, insertE_at (v := ⟨e.key, zeroSib.join e.sib⟩) (Nat.le_of_lt h1) h3 (.inr h2), h4⟩
  · intro j hj hp
    obtain ⟨u, hx, _, _⟩ := get_of_lt (l := l) (i := j) hj
    have hlt : (j : Int) < (l.length : Int) := by omega
    have h1 := i64_add1 (n := j) (by omega)
    rw [getB_at hx] at hp
    rw [s_round]
    simp [-getElem?_pos, c_tattlerref5_Table_Join_l0, hlt, hj, hx, h1, hp, h3, h3l, h4l, htl]
  · intro j hj hp
    obtain ⟨u, hx, _, _⟩ := get_of_lt (l := l) (i := j) hj
    have hlt : (j : Int) < (l.length : Int) := by omega
    rw [getB_at hx] at hp
    rw [s_round]
    simp [-getElem?_pos, c_tattlerref5_Table_Join_l0, hlt, hj, hx, hp, h3]
  · rw [s_round]
    simp [c_tattlerref5_Table_Join_l0]
end Go.Proofs.YtionebfmjjpnbaaGreat.V
