/- CoordApart: the rounds. -/
import Derived.Test.YtklmddbnjookiaaVmCPA
set_option linter.unusedVariables false
set_option linter.unusedSimpArgs false
set_option linter.unusedSectionVars false
namespace Go.Proofs.Ytklmddbnjookiaa.V
open Go.Vm

def kA : List UInt8 := [97]
def kB : List UInt8 := [98]
theorem kA_may : (⟨kA, zeroSib⟩ : Ent).may = true := by decide
theorem kB_may : (⟨kB, zeroSib⟩ : Ent).may = true := by decide
def only (n : Int) (l : List Ans) : List Ans := l.filter fun a => decide (a.op = n)
/-- Two coordinators behind so many answers. -/
structure PAt (b nA nB : Nat) (h H : Heap) (la lb : List Sib) (jA jB : Nat) (ansC ansD : List Ans) : Prop where
  c_ : ∃ opsC, CAt H (b + 1) b 9 2 ansC opsC ∧ StJ H 1 (b + 7) (b + 6) nA kA la jA opsC ∧ StJ H 2 (b + 11) (b + 10) nB kB lb jB opsC ∧ (opsC.map Prod.fst).Nodup
  d_ : ∃ opsD, CAt H (b + 3) (b + 2) 9 1 ansD opsD ∧ StJ H 1 (b + 15) (b + 14) nA kA la jA opsD ∧ (opsD.map Prod.fst).Nodup
  same : only 1 ansC = ansD
  may : ∀ a ∈ ansD, a.sib.may = true
  lc : ansC.length ≤ jA + jB
  ld : ansD.length ≤ jA
  pre : H.take b = h
  len : H.length = b + 16
theorem newA_len (n : Int) (key : List UInt8) (l : List Sib) (need j : Nat) : (newA n key l need j).length ≤ 1 := by unfold newA; split <;> simp
theorem only_new (n m : Int) (key : List UInt8) (l : List Sib) (need j : Nat) : only m (newA n key l need j) = if n = m then newA n key l need j else [] := by
  unfold newA only
  by_cases h : j + 2 = need
  · rw [if_pos h]
    by_cases e : n = m
    · simp [e]
    · simp [e]
  · rw [if_neg h]; simp
/-- The other one's answer. -/
theorem apart_b {b nA nB : Nat} {h H : Heap} {la lb : List Sib} {jA jB : Nat} {ansC ansD : List Ans} (y : PAt b nA nB h H la lb jA jB ansC ansD) (hj : jB < lb.length) (h7 : jB < 7) (h7a : jA ≤ 7) (hls : ∀ s ∈ lb, s.may = true) {x : Sib} (hx : lb[jB]? = some x) :
    ∃ H' fl r ansC', callL E F.coord_Coord_Got [.ptr (some (b + 1, 0)), .int .i64 2, .int .i64 ((jB + 1 : Nat) : Int), (⟨kB, x⟩ : Ent).v] H = some (r, H', fl) ∧ Fl.cut b fl = .no ∧ PAt b nA nB h H' la lb jA (jB + 1) ansC' ansD := by
  obtain ⟨opsC, t, s1, s2, hn⟩ := y.c_
  obtain ⟨opsD, td, sd, hnd⟩ := y.d_
  have hlen := y.len
  have hlc := y.lc
  obtain ⟨H', fl, ops', g, c, t', s2', hn', ho, hf, hl', hp⟩ := got_gen t s2 hj h7 hls kB_may hn (by omega) hx b (by omega) (by omega) (by omega) (by omega)
  refine ⟨H', fl, _, _, g, c, ⟨⟨ops', t', s1.frame (ho 1 (by omega)) (hf _ (by omega) (by omega) (by omega) (by omega) (by omega)) (hf _ (by omega) (by omega) (by omega) (by omega) (by omega)), s2', hn'⟩,
    ⟨opsD, td.frame (hf _ (by omega) (by omega) (by omega) (by omega) (by omega)) (hf _ (by omega) (by omega) (by omega) (by omega) (by omega)), sd.frame rfl (hf _ (by omega) (by omega) (by omega) (by omega) (by omega)) (hf _ (by omega) (by omega) (by omega) (by omega) (by omega)), hnd⟩, ?_, y.may, ?_, y.ld, hp.trans y.pre, hl'.trans hlen⟩⟩
  · unfold only
    rw [List.filter_append]
    have h1 := only_new 2 1 kB lb nB jB
    unfold only at h1
    rw [h1, if_neg (by omega), List.append_nil]
    exact y.same
  · have := newA_len 2 kB lb nB jB
    rw [List.length_append]; omega
theorem apart_a {b nA nB : Nat} {h H : Heap} {la lb : List Sib} {jA jB : Nat} {ansC ansD : List Ans} (y : PAt b nA nB h H la lb jA jB ansC ansD) (hj : jA < la.length) (h7 : jA < 7) (h7b : jB ≤ 7) (hls : ∀ s ∈ la, s.may = true) {x : Sib} (hx : la[jA]? = some x) :
    ∃ H1 f1 H2 f2 ansC' ansD', callL E F.coord_Coord_Got [.ptr (some (b + 1, 0)), .int .i64 1, .int .i64 ((jA + 1 : Nat) : Int), (⟨kA, x⟩ : Ent).v] H = some (.tup [.sl (gotR kA la nA jA).1, .bool (gotR kA la nA jA).2], H1, f1) ∧ Fl.cut b f1 = .no ∧
      callL E F.coord_Coord_Got [.ptr (some (b + 3, 0)), .int .i64 1, .int .i64 ((jA + 1 : Nat) : Int), (⟨kA, x⟩ : Ent).v] H1 = some (.tup [.sl (gotR kA la nA jA).1, .bool (gotR kA la nA jA).2], H2, f2) ∧ Fl.cut b f2 = .no ∧ H1.length = b + 16 ∧ PAt b nA nB h H2 la lb (jA + 1) jB ansC' ansD' := by
  obtain ⟨opsC, t, s1, s2, hn⟩ := y.c_
  obtain ⟨opsD, td, sd, hnd⟩ := y.d_
  have hlen := y.len
  have hlc := y.lc
  have hld := y.ld
  obtain ⟨H1, f1, ops', g, c, t', s1', hn', ho, hf, hl', hp⟩ := got_gen t s1 hj h7 hls kA_may hn (by omega) hx b (by omega) (by omega) (by omega) (by omega)
  have s2' := s2.frame (ho 2 (by omega)) (hf _ (by omega) (by omega) (by omega) (by omega) (by omega)) (hf _ (by omega) (by omega) (by omega) (by omega) (by omega))
  have td' := td.frame (hf (b + 3) (by omega) (by omega) (by omega) (by omega) (by omega)) (hf (b + 2) (by omega) (by omega) (by omega) (by omega) (by omega))
  have sd' := sd.frame (ops' := opsD) rfl (hf (b + 15) (by omega) (by omega) (by omega) (by omega) (by omega)) (hf (b + 14) (by omega) (by omega) (by omega) (by omega) (by omega))
  obtain ⟨H2, f2, ops2, g2, c2, t2, s3, hn2, ho2, hf2, hl2, hp2⟩ := got_gen td' sd' hj h7 hls kA_may hnd (by omega) hx b (by omega) (by omega) (by omega) (by omega)
  rw [hlen] at hl'
  refine ⟨H1, f1, H2, f2, _, _, g, c, g2, c2, hl', ⟨⟨ops', t'.frame (hf2 _ (by omega) (by omega) (by omega) (by omega) (by omega)) (hf2 _ (by omega) (by omega) (by omega) (by omega) (by omega)), s1'.frame rfl (hf2 _ (by omega) (by omega) (by omega) (by omega) (by omega)) (hf2 _ (by omega) (by omega) (by omega) (by omega) (by omega)),
      s2'.frame rfl (hf2 _ (by omega) (by omega) (by omega) (by omega) (by omega)) (hf2 _ (by omega) (by omega) (by omega) (by omega) (by omega)), hn'⟩, ⟨ops2, t2, s3, hn2⟩, ?_, ?_, ?_, ?_, (hp2.trans hp).trans y.pre, hl2.trans hl'⟩⟩
  · unfold only
    rw [List.filter_append]
    have h1 := only_new 1 1 kA la nA jA
    unfold only at h1
    rw [h1, if_pos rfl]
    have := y.same
    unfold only at this
    rw [this]
  · intro a ha
    rcases List.mem_append.1 ha with ha | ha
    · exact y.may a ha
    · unfold newA at ha
      split at ha
      · simp only [List.mem_cons, List.not_mem_nil, or_false] at ha
        rw [ha]
        exact (opJ_may kA zeroSib_may hls (jA + 1) (by omega)).1
      · cases ha
  · have := newA_len 1 kA la nA jA
    rw [List.length_append]; omega
  · have := newA_len 1 kA la nA jA
    rw [List.length_append]; omega
end Go.Proofs.Ytklmddbnjookiaa.V
