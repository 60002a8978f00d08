/- CoordLate: the two operations, and who has come. -/
import Derived.Test.YtklmddbnjookiaaVmCOW
import Derived.Test.YtklmddbnjookiaaVmMI
set_option linter.unusedVariables false
set_option linter.unusedSimpArgs false
set_option linter.unusedSectionVars false
namespace Go.Proofs.Ytklmddbnjookiaa.V
open Go.Vm

theorem hsets {h : Heap} {i : Nat} (hi : i < h.length) (o : Vm.Obj) : hget (hset h i o) i = some o := by
  rw [← List.append_nil (hset h i o)]; exact hgetS hi o []
theorem hsets_ne {h : Heap} {i k : Nat} (hk : k < h.length) (hne : i ≠ k) (o : Vm.Obj) : hget (hset h i o) k = hget h k := by
  rw [← List.append_nil (hset h i o)]; exact hgetS_ne hk hne o []
theorem coordAck_none {h : Heap} {i mi : Nat} {wait last : Int} {ans : List Ans} {ops : List (Int × Nat)} (t : CAt h i mi wait last ans ops) {n : Int} (node : Int) (hf : findI ops n = none) :
    callL E F.coord_Coord_Ack [.ptr (some (i, 0)), .int .i64 n, .int .i64 node] h = some (.bool false, h, .no) := by
  refine callL_of rfl fn_coord_Coord_Ack ?_
  have g := coordFind_none t n true hf
  simp [-getElem?_pos, c_coord_Coord_Ack, g]
  done
theorem cntN_set : ∀ {hs : List Bool} {n : Nat}, hs[n]? = some false → cntN (hs.set n true) = cntN hs + 1
  | [], n, h => by simp at h
  | b :: hs, 0, h => by
    simp at h
    subst h
    simp [cntN]
  | b :: hs, n + 1, h => by
    have ih := cntN_set (hs := hs) (n := n) (by simpa using h)
    unfold cntN at ih ⊢
    cases b <;> simp [ih]
/-- Who has come. -/
def seenM (S : List Nat) : List (V × V) := S.map fun (n : Nat) => (.int .i64 (n : Int), .int .i64 1)
theorem seenM_len (S : List Nat) : (seenM S).length = S.length := by simp [seenM]
theorem findV_seen (n : Nat) : ∀ S : List Nat, Vm.findV .i (.int .i64 n) (seenM S) = some (if n ∈ S then some (.int .i64 1) else none)
  | [] => rfl
  | x :: S => by
    show bnd (cellEq .i (.int .i64 n) (.int .i64 x)) _ = _
    have ih := findV_seen n S
    unfold seenM at ih
    simp only [cellEq, decide_true, cnd_true, bnd_some]
    by_cases h : n = x
    · subst h; simp
    · rw [show ((n : Int) == (x : Int)) = false by simp; omega, cnd_false, ih]
      simp [h]
theorem putV_seen (n : Nat) : ∀ S : List Nat, putV .i (.int .i64 n) (.int .i64 1) (seenM S) = some (seenM (if n ∈ S then S else S ++ [n]))
  | [] => rfl
  | x :: S => by
    show bnd (cellEq .i (.int .i64 n) (.int .i64 x)) _ = _
    have ih := putV_seen n S
    unfold seenM at ih
    simp only [cellEq, decide_true, cnd_true, bnd_some]
    by_cases h : n = x
    · subst h; simp [seenM]
    · rw [show ((n : Int) == (x : Int)) = false by simp; omega, cnd_false, ih]
      by_cases hn : n ∈ S <;> simp [h, hn, seenM]
def opW : OpS := ⟨[107], true, zeroSib, ans8, 0⟩
def opR : OpS := ⟨[107], false, zeroSib, ans8, 0⟩
theorem ans8_set (n : Nat) (hn : n < 8) : ans8.set n zeroSib = ans8 := by
  have : ∀ n, n < 8 → ans8.set n zeroSib = ans8 := by
    intro n hn
    match n, hn with
    | 0, _ => rfl
    | 1, _ => rfl
    | 2, _ => rfl
    | 3, _ => rfl
    | 4, _ => rfl
    | 5, _ => rfl
    | 6, _ => rfl
    | 7, _ => rfl
  exact this n hn
theorem opR_got (n : Nat) (hn : n < 8) : opR.got n zeroSib = opR := by
  show (⟨[107], false, zeroSib.join zeroSib, ans8.set n zeroSib, 0⟩ : OpS) = _
  rw [join_self zeroSib_may, ans8_set n hn]
  rfl
/-- Both are under way, or neither. -/
structure LAt (b need : Nat) (h H : Heap) (hs : List Bool) (S : List Nat) : Prop where
  way : (cntN hs < need ∧ CAt H (b + 1) b 9 2 [] [(1, b + 5), (2, b + 9)] ∧ OAt H (b + 5) (b + 4) opW need hs ∧ OAt H (b + 9) (b + 8) opR need hs) ∨ (need ≤ cntN hs ∧ ∃ ans : List Ans, ans.length = 2 ∧ CAt H (b + 1) b 9 2 ans [])
  seen : hget H (b + 10) = some (.map (seenM S))
  hl : hs.length = 8
  mem : ∀ k, k < 8 → (hs.getD k false = true ↔ k ∈ S)
  cnt : cntN hs = S.length
  pre : H.take b = h
  len : H.length = b + 11
theorem late_start (h : Heap) (need : Nat) (hn : 2 ≤ need) :
    LAt h.length need h (begun (begun (new0 h 9) (h.length + 1) h.length 9 0 [] [] 0 need [107] zeroSib true) (h.length + 1) h.length 9 1 [] [(1, h.length + 5)] 0 need [107] zeroSib false ++ [.map (seenM [0])]) (no8.set 0 true) [0] := by
  have t0 := new0_at h 9
  have l0 := new0_len h 9
  have t1 := begun_at t0 0 need [107] zeroSib true
  have u1 := begun_op t0 0 need [107] zeroSib true zeroSib_may
  have b1 := begun_len (h := new0 h 9) (i := h.length + 1) (mi := h.length) (wait := 9) (last := 0) (ans := []) (ops := []) 0 need [107] zeroSib true
  have k1 := begun_take t0 0 need [107] zeroSib true (m := h.length) (by omega) (by omega)
  have ht : (new0 h 9).take h.length = h := by simp [new0]
  rw [ht] at k1
  rw [l0] at t1 u1 b1
  simp only [List.nil_append] at t1
  rw [show h.length + 2 + 3 = h.length + 5 by omega, show (0 : Int) + 1 = 1 from rfl] at t1
  rw [show h.length + 2 + 3 = h.length + 5 by omega, show h.length + 2 + 2 = h.length + 4 by omega] at u1
  rw [show (⟨[107], true, zeroSib, ans8.set 0 zeroSib, 0⟩ : OpS) = opW from rfl] at u1
  generalize begun (new0 h 9) (h.length + 1) h.length 9 0 [] [] 0 need [107] zeroSib true = H1 at *
  have t2 := begun_at t1 0 need [107] zeroSib false
  have u2 := begun_op t1 0 need [107] zeroSib false zeroSib_may
  have u3 := begun_old t1 0 need [107] zeroSib false u1
  have b2 := begun_len (h := H1) (i := h.length + 1) (mi := h.length) (wait := 9) (last := 1) (ans := []) (ops := [(1, h.length + 5)]) 0 need [107] zeroSib false
  have k2 := begun_take t1 0 need [107] zeroSib false (m := h.length) (by omega) (by omega)
  rw [k1] at k2
  rw [b1] at t2 u2 b2
  rw [show h.length + 2 + 4 + 3 = h.length + 9 by omega, show (1 : Int) + 1 = 2 from rfl] at t2
  rw [show h.length + 2 + 4 + 3 = h.length + 9 by omega, show h.length + 2 + 4 + 2 = h.length + 8 by omega] at u2
  rw [show (⟨[107], false, zeroSib, ans8.set 0 zeroSib, 0⟩ : OpS) = opR from rfl] at u2
  generalize begun H1 (h.length + 1) h.length 9 1 [] [(1, h.length + 5)] 0 need [107] zeroSib false = H2 at *
  have up : ∀ {p q : Nat} {o : OpS} {nd : Int} {has : List Bool} (z : Heap), OAt H2 p q o nd has → OAt (H2 ++ z) p q o nd has := fun z u => ⟨by rw [hget_app (hget_lt u.op)]; exact u.op, by rw [hget_app (hget_lt u.ct)]; exact u.ct, u.al, u.hl, u.sm⟩
  refine ⟨.inl ⟨?_, t2.app _, up _ u3, up _ u2⟩, ?_, rfl, ?_, rfl, ?_, ?_⟩
  · show 1 < need; omega
  · rw [show h.length + 10 = H2.length by omega]; simp
  · have : ∀ k, k < 8 → ((no8.set 0 true).getD k false = true ↔ k ∈ [0]) := by decide
    exact this
  · rw [List.take_append_of_le_length (by omega), k2]
  · rw [List.length_append, b2]; rfl
end Go.Proofs.Ytklmddbnjookiaa.V
