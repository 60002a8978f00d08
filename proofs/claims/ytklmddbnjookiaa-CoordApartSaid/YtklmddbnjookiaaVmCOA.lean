/- What 'coord.Ack', 'Got' compute. -/
import Derived.Test.YtklmddbnjookiaaVmCOG
set_option linter.unusedVariables false
set_option linter.unusedSimpArgs false
namespace Go.Proofs.Ytklmddbnjookiaa.V
open Go.Vm

/-- An operation and its count. -/
structure OAt (h : Heap) (p q : Nat) (o : OpS) (need : Int) (has : List Bool) : Prop where
  op : hget h p = some (.cells (o.c q) [])
  ct : hget h q = some (.cells (cntC need has) [])
  al : o.ans.length = 8
  hl : has.length = 8
  sm : o.s.may = true
theorem OAt.ne {h : Heap} {p q : Nat} {o : OpS} {need : Int} {has : List Bool} (u : OAt h p q o need has) : p ≠ q := fun e => by
  have h1 := u.op
  rw [e, u.ct] at h1
  have h2 := OpS.c_len o q u.al
  have h3 : (cntC need has).length = 9 := by simp [cntC, u.hl]
  injection h1 with h1
  injection h1 with h1
  rw [← h1, h3] at h2
  omega
section
variable {h : Heap} {i mi : Nat} {wait last : Int} {ans : List Ans} {ops : List (Int × Nat)} (t : CAt h i mi wait last ans ops)
variable {p q : Nat} {o : OpS} {need : Int} {has : List Bool} (u : OAt h p q o need has)
include t u
theorem CAt.ne_q : i ≠ q ∧ mi ≠ q := by
  constructor
  · intro e
    have h1 := t.co
    rw [e, u.ct] at h1
    unfold coordO at h1
    injection h1 with h1
    injection h1 with h1 h2
    cases h2
  · intro e
    have h1 := t.mp
    rw [e, u.ct] at h1
    cases h1
theorem CAt.ne_p : i ≠ p ∧ mi ≠ p := by
  constructor
  · intro e
    have h1 := t.co
    rw [e, u.op] at h1
    unfold coordO at h1
    injection h1 with h1
    injection h1 with h1 h2
    cases h2
  · intro e
    have h1 := t.mp
    rw [e, u.op] at h1
    cases h1
theorem CAt.setq (x : Vm.Obj) : CAt (hset h q x) i mi wait last ans ops := by
  obtain ⟨h1, h2⟩ := t.ne_q u
  have hi := hget_lt t.co
  have hm := hget_lt t.mp
  refine ⟨?_, ?_⟩
  · rw [← List.append_nil (hset h q x), hgetS_ne hi h1.symm]; exact t.co
  · rw [← List.append_nil (hset h q x), hgetS_ne hm h2.symm]; exact t.mp
theorem CAt.setp (x : Vm.Obj) : CAt (hset h p x) i mi wait last ans ops := by
  obtain ⟨h1, h2⟩ := t.ne_p u
  have hi := hget_lt t.co
  have hm := hget_lt t.mp
  refine ⟨?_, ?_⟩
  · rw [← List.append_nil (hset h p x), hgetS_ne hi h1.symm]; exact t.co
  · rw [← List.append_nil (hset h p x), hgetS_ne hm h2.symm]; exact t.mp
theorem coordAck_done {n : Int} {k : Nat} (hk : k < 8) (hb : has.getD k false = false) (hf : findI ops n = some p) (hw : o.wr = true) (he : (cntN (has.set k true) : Int) = need) (hbig : ans.length ≤ 1000000) :
    callL E F.coord_Coord_Ack [.ptr (some (i, 0)), .int .i64 n, .int .i64 k] h =
      some (.bool true, hset (hset (hset h q (.cells (cntC need (has.set k true)) [])) i (coordO wait last mi (ans ++ [⟨n, 0, o.s⟩]))) mi (.map (mapI (delI ops n))), .w [q, i, mi]) := by
  refine callL_of rfl fn_coord_Coord_Ack ?_
  have g1 := coordFind_some t n true hf u.op
  rw [hw] at g1
  simp only [if_true] at g1
  have g2 := qAdd_yes need has u.hl k hk hb q h u.ct
  rw [decide_eq_true he] at g2
  have h1 := u.op
  have h2 := OpS.c_ptr o q
  have hq := hget_lt u.ct
  have t2 := t.setq u (.cells (cntC need (has.set k true)) [])
  have ho : hget (hset h q (.cells (cntC need (has.set k true)) [])) p = some (.cells (o.c q) []) := by
    rw [← List.append_nil (hset h q _), hgetS_ne (hget_lt u.op) u.ne.symm]; exact u.op
  have g3 := coordEnd_ok t2 n hf ho u.al u.sm hbig
  obtain ⟨n1, n2⟩ := t.ne_q u
  have n3 := t.ne
  have hi := hget_lt t.co
  have hm := hget_lt t.mp
  have htk : ∀ C D M, List.take h.length (hset (hset (hset h q C) i D) mi M) = hset (hset (hset h q C) i D) mi M := fun C D M => List.take_of_length_le (by rw [hset_len, hset_len, hset_len]; exact Nat.le_refl _)
  simp [-getElem?_pos, c_coord_Coord_Ack, g1, g2, g3, h1, h2, hq, hi, hm, htk, addE, n1, n2, n1.symm, n2.symm, n3, n3.symm]
  done
end
end Go.Proofs.Ytklmddbnjookiaa.V
