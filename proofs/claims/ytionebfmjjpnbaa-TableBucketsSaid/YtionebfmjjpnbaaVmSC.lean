/- What 'sibs.Put' computes. -/
import Derived.Test.YtionebfmjjpnbaaVmSB
set_option linter.unusedVariables false
set_option linter.unusedSimpArgs false
namespace Go.Proofs.Ytionebfmjjpnbaa.V
open Go.Vm

def _root_.Go.Vm.Vec.at (v : Vec) (n : Nat) : Int := v.l[n]?.getD 0
def _root_.Go.Vm.Vec.put (v : Vec) (n : Nat) (x : Int) : Vec := ⟨v.l.set n x, by simp⟩
theorem Vec.put_c (v : Vec) (n : Nat) (x : Int) : v.c.set n (.int .i64 x) = (v.put n x).c := by unfold Vec.c Vec.put; rw [List.map_set]
theorem Vec.c_at (v : Vec) {n : Nat} (hn : n < 8) : v.c[n]? = some (.int .i64 (v.at n)) := by
  have h : n < v.l.length := by simp; exact hn
  simp [Vec.c, Vec.at, List.getElem?_eq_getElem h]
def zeroDot : Dot := ⟨0, 0⟩
/-! ### a new value -/
def pF (seen : Vec) (out : List Val) (v : Val) : List Val := cnd (seen.covers v.dot) out (out ++ [v])
theorem pF_len (seen : Vec) (out : List Val) (v : Val) : (pF seen out v).length ≤ out.length + 1 := by
  unfold pF
  cases seen.covers v.dot <;> simp
theorem pF_fold (seen : Vec) : ∀ (l out : List Val), l.foldl (pF seen) out = out ++ l.filter fun v => !seen.covers v.dot
  | [], out => by simp
  | v :: l, out => by
    rw [List.foldl_cons, pF_fold seen l, List.filter_cons]
    unfold pF
    cases seen.covers v.dot <;> simp
/-- What is kept. -/
def kept (s : Sib) (seen : Vec) : List Val := s.vals.filter fun v => !seen.covers v.dot
def putS (s : Sib) (seen : Vec) (n : Nat) (data : List UInt8) (dead : Bool) : Sib × Int :=
  cnd (decide (1099511627776 ≤ (s.seen.join seen).at n)) (zeroSib, 11)
    (cnd (decide (16 < (kept s seen).length + 1)) (zeroSib, 11)
      (⟨(s.seen.join seen).put n ((s.seen.join seen).at n + 1), insertV (kept s seen) ⟨⟨n, (s.seen.join seen).at n + 1⟩, data, dead⟩⟩, 0))
theorem may_at0 {v : Vec} (h : v.may = true) {n : Nat} (hn : n < 8) : 0 ≤ v.at n ∧ v.at n ≤ 1099511627776 := by
  unfold Vec.may at h
  have hl : n < v.l.length := by simp; exact hn
  have := List.all_eq_true.1 h _ (List.getElem_mem hl)
  unfold cntOk at this
  simp only [Bool.and_eq_true, decide_eq_true_eq] at this
  unfold Vec.at
  rw [List.getElem?_eq_getElem hl]
  exact this
theorem join_at (a b : Vec) {n : Nat} (hn : n < 8) : (a.join b).at n = max (a.at n) (b.at n) := join_get a b n hn
theorem seen_may {s : Sib} (h : s.may = true) : s.seen.may = true := by
  unfold Sib.may at h
  simp only [Bool.and_eq_true] at h
  exact h.1
theorem kept_srt {s : Sib} (hs : s.may = true) (seen : Vec) : Srt (kept s seen) := ((may_iff s).1 hs).srt.sublist List.filter_sublist
theorem kept_new {s : Sib} (hs : s.may = true) {seen : Vec} {n : Nat} (hn : n < 8) {u : Val} (hu : u ∈ kept s seen) : u.dot ≠ ⟨n, (s.seen.join seen).at n + 1⟩ := by
  intro e
  have hc := valOk_covers (((may_iff s).1 hs).val u ((List.mem_filter.1 hu).1))
  rw [e, covers_iff] at hc
  simp only [Int.toNat_natCast] at hc
  have h1 : (s.seen.join seen).at n + 1 ≤ s.seen.at n := hc.2.2.2
  rw [join_at _ _ hn] at h1
  omega
end Go.Proofs.Ytionebfmjjpnbaa.V
