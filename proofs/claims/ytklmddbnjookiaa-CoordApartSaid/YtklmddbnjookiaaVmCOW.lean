/- An operation begun: what is there. The law's wakefulness. -/
import Derived.Test.YtklmddbnjookiaaVmCOU
set_option linter.unusedVariables false
set_option linter.unusedSimpArgs false
set_option linter.unusedSectionVars false
namespace Go.Proofs.Ytklmddbnjookiaa.V
open Go.Vm

theorem modN (a : Int) (k : Nat) (hk : 0 < k) (hk2 : k < 1000) : ∃ n : Nat, n < k ∧ IntKind.i64.wrap ((IntKind.u64.wrap a).tmod (k : Int)) = (n : Int) := by
  have h0 : 0 ≤ IntKind.u64.wrap a := by
    show (0 : Int) ≤ a % 18446744073709551616
    omega
  rw [Int.tmod_eq_emod_of_nonneg h0]
  have h1 := Int.emod_nonneg (IntKind.u64.wrap a) (b := (k : Int)) (by omega)
  have h2 := Int.emod_lt_of_pos (IntKind.u64.wrap a) (b := (k : Int)) (by omega)
  generalize IntKind.u64.wrap a % (k : Int) = x at *
  refine ⟨x.toNat, by omega, ?_⟩
  rw [wrap_i64] <;> omega
theorem take_hset_le {h : Heap} {i m : Nat} (hm : m ≤ i) (x : Vm.Obj) : (hset h i x).take m = h.take m := by
  unfold hset
  exact List.take_set_of_le hm
theorem take_hset_app {h : Heap} {i m : Nat} (hm : m ≤ i) (x : Vm.Obj) (hl : m ≤ h.length) (y : Heap) : (hset h i x ++ y).take m = h.take m := by
  rw [List.take_append_of_le_length (by rw [hset_len]; exact hl), take_hset_le hm]
section
variable {h : Heap} {i mi : Nat} {wait last : Int} {ans : List Ans} {ops : List (Int × Nat)} (t : CAt h i mi wait last ans ops) (n need : Nat) (key : List UInt8) (s : Sib) (wr : Bool)
include t
theorem begun_take {m : Nat} (h1 : m ≤ i) (h2 : m ≤ mi) : (begun h i mi wait last ans ops n need key s wr).take m = h.take m := by
  have hml := hget_lt t.mp
  unfold begun
  rw [take_hset_app h2 _ (by rw [hset_len]; omega), take_hset_le h1]
theorem begun_at : CAt (begun h i mi wait last ans ops n need key s wr) i mi wait (last + 1) ans (ops ++ [(last + 1, h.length + 3)]) := by
  refine ⟨?_, begun_mi t n need key s wr⟩
  have hil := hget_lt t.co
  unfold begun
  rw [hgetS_ne (by rw [hset_len]; exact hil) t.ne.symm, ← List.append_nil (hset h i _)]
  exact hgetS hil _ _
omit t in
theorem begun_len : (begun h i mi wait last ans ops n need key s wr).length = h.length + 4 := by
  unfold begun
  rw [List.length_append, hset_len, hset_len]
  rfl
theorem begun_op (hs : s.may = true) : OAt (begun h i mi wait last ans ops n need key s wr) (h.length + 3) (h.length + 2) ⟨key, wr, s, ans8.set n s, 0⟩ need (no8.set n true) := by
  have hX : ∀ X : Heap, X.length = h.length → ∀ a b c d : Vm.Obj, hget (X ++ [a, b, c, d]) (h.length + 3) = some d ∧ hget (X ++ [a, b, c, d]) (h.length + 2) = some c := fun X e a b c d => by
    rw [← e]; constructor <;> simp
  obtain ⟨h1, h2⟩ := hX (hset (hset h i (coordO wait (last + 1) mi ans)) mi (.map (mapI (ops ++ [(last + 1, h.length + 3)])))) (by rw [hset_len, hset_len]) (.cells s.c []) (.cells s.c []) (.cells (cntC need (no8.set n true)) []) (.cells (OpS.c ⟨key, wr, s, ans8.set n s, 0⟩ (h.length + 2)) [])
  exact ⟨h1, h2, by simp [ans8], by simp [no8], hs⟩
theorem begun_old {p q : Nat} {o : OpS} {nd : Int} {has : List Bool} (u : OAt h p q o nd has) : OAt (begun h i mi wait last ans ops n need key s wr) p q o nd has := by
  obtain ⟨a1, a2⟩ := t.ne_q u
  obtain ⟨a3, a4⟩ := t.ne_p u
  have hp := hget_lt u.op
  have hq := hget_lt u.ct
  unfold begun
  refine ⟨?_, ?_, u.al, u.hl, u.sm⟩
  · rw [hgetS_ne (by rw [hset_len]; exact hp) a4, ← List.append_nil (hset h i _), hgetS_ne hp a3]; exact u.op
  · rw [hgetS_ne (by rw [hset_len]; exact hq) a2, ← List.append_nil (hset h i _), hgetS_ne hq a1]; exact u.ct
end
def new0 (h : Heap) (wait : Int) : Heap := h ++ [.map [], coordO wait 0 h.length []]
theorem new0_at (h : Heap) (wait : Int) : CAt (new0 h wait) (h.length + 1) h.length wait 0 [] [] := ⟨by simp [new0], by simp [new0, mapI]⟩
theorem new0_len (h : Heap) (wait : Int) : (new0 h wait).length = h.length + 2 := by simp [new0]
theorem kZero_may : (⟨[107], zeroSib⟩ : Ent).may = true := by decide
theorem awake22_eq (h : Heap) : callL E F.tattlerlaw22_awake [] h = some (.bool true, h, .no) := by
  refine callL_of rfl fn_tattlerlaw22_awake ?_
  have g1 := coordNew_eq 3 h
  rw [show h ++ [.map [], coordO (max 1 3) 0 h.length []] = new0 h 3 from rfl] at g1
  have t0 := new0_at h 3
  have g2 := coordWrite_ok t0 0 2 (by omega) (by omega) [107] zeroSib kZero_may (by simp) (by omega) (by omega) rfl
  have t1 := begun_at t0 0 2 [107] zeroSib true
  have u1 := begun_op t0 0 2 [107] zeroSib true zeroSib_may
  have k1 := begun_take t0 0 2 [107] zeroSib true (m := h.length) (by omega) (by omega)
  have l1 := begun_len (h := new0 h 3) (i := h.length + 1) (mi := h.length) (wait := 3) (last := 0) (ans := []) (ops := []) 0 2 [107] zeroSib true
  have l0 := new0_len h 3
  rw [show (new0 h 3).take h.length = h by simp [new0]] at k1
  simp only [l0, List.nil_append] at t1 u1 l1
  generalize begun (new0 h 3) (h.length + 1) h.length 3 0 [] [] 0 2 [107] zeroSib true = H1 at *
  have g3 := coordAck_done t1 u1 (n := 1) (k := 1) (by omega) rfl rfl rfl rfl (by simp)
  obtain ⟨m1, m2⟩ := t1.ne_q u1
  have t2 := t1.setq u1 (.cells (cntC 2 ((no8.set 0 true).set 1 true)) [])
  have k2 : (hset H1 (h.length + 2 + 2) (.cells (cntC 2 ((no8.set 0 true).set 1 true)) [])).take h.length = h := by rw [take_hset_le (by omega), k1]
  have l2 : (hset H1 (h.length + 2 + 2) (.cells (cntC 2 ((no8.set 0 true).set 1 true)) [])).length = h.length + 6 := by rw [hset_len, l1]
  generalize hset H1 (h.length + 2 + 2) (.cells (cntC 2 ((no8.set 0 true).set 1 true)) []) = H2 at *
  have hd : delI [(0 + 1, h.length + 2 + 3)] 1 = [] := rfl
  rw [hd] at g3
  have t3 : CAt (hset (hset H2 (h.length + 1) (coordO 3 (0 + 1) h.length ([] ++ [⟨1, 0, zeroSib⟩]))) h.length (.map (mapI []))) (h.length + 1) h.length 3 (0 + 1) ([] ++ [⟨1, 0, zeroSib⟩]) [] := by
    refine ⟨?_, ?_⟩
    · rw [← List.append_nil (hset (hset H2 _ _) _ _), hgetS_ne (by rw [hset_len]; omega) (by omega), ← List.append_nil (hset H2 _ _)]
      exact hgetS (by omega) _ _
    · rw [← List.append_nil (hset (hset H2 _ _) _ _)]
      exact hgetS (by rw [hset_len]; omega) _ _
  have k3 : (hset (hset H2 (h.length + 1) (coordO 3 (0 + 1) h.length ([] ++ [⟨1, 0, zeroSib⟩]))) h.length (.map (mapI []))).take h.length = h := by rw [take_hset_le (by omega), take_hset_le (by omega), k2]
  have l3 : (hset (hset H2 (h.length + 1) (coordO 3 (0 + 1) h.length ([] ++ [⟨1, 0, zeroSib⟩]))) h.length (.map (mapI []))).length = h.length + 6 := by rw [hset_len, hset_len, l2]
  simp only [show (⟨[107], true, zeroSib, ans8.set 0 zeroSib, 0⟩ : OpS).s = zeroSib from rfl] at g3
  generalize hset (hset H2 (h.length + 1) (coordO 3 (0 + 1) h.length ([] ++ [⟨1, 0, zeroSib⟩]))) h.length (.map (mapI [])) = H3 at *
  have g4 := coordAnswers_eq t3
  have t4 : CAt (hset H3 (h.length + 1) (coordO 3 (0 + 1) h.length [])) (h.length + 1) h.length 3 (0 + 1) [] [] := by
    refine ⟨?_, ?_⟩
    · rw [← List.append_nil (hset H3 _ _)]; exact hgetS (by omega) _ _
    · rw [← List.append_nil (hset H3 _ _), hgetS_ne (by omega) (by omega)]; exact t3.mp
  have k4 : (hset H3 (h.length + 1) (coordO 3 (0 + 1) h.length [])).take h.length = h := by rw [take_hset_le (by omega), k3]
  generalize hset H3 (h.length + 1) (coordO 3 (0 + 1) h.length []) = H4 at *
  have g5 := coordLen_eq t4
  have hz : zeroSib.v = .agg [.int .i64 0, .int .i64 0, .int .i64 0, .int .i64 0, .int .i64 0, .int .i64 0, .int .i64 0, .int .i64 0, .sl []] := rfl
  rw [hz] at g2
  simp only [Int.zero_add, show ((2 : Nat) : Int) = 2 from rfl, show ((0 : Nat) : Int) = 0 from rfl, show ((1 : Nat) : Int) = 1 from rfl, List.nil_append, List.map_cons, List.map_nil, List.length_nil] at g2 g3 g4 g5
  have e0 : (Ans.c ⟨1, 0, zeroSib⟩)[1]? = some (.int .i64 0) := rfl
  have e9 : h.length ≤ h.length + 2 + 2 := by omega
  simp [-getElem?_pos, c_tattlerlaw22_awake, g1, g2, g3, g4, g5, k4, e0, e9]
  done
end Go.Proofs.Ytklmddbnjookiaa.V
