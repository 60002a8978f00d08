/- What 'tattlerref5.Join' computes. -/
import Derived.Test.YthkfjefoblmbhaaVmR5B
set_option linter.unusedVariables false
set_option linter.unusedSimpArgs false
namespace Go.Proofs.Ythkfjefoblmbhaa.V
open Go.Vm

def zeroVec : Vec := ⟨List.replicate 8 0, rfl⟩
def zeroSib : Sib := ⟨zeroVec, []⟩
theorem zeroSib_c : zeroSib.c = [.int .i64 0, .int .i64 0, .int .i64 0, .int .i64 0, .int .i64 0, .int .i64 0, .int .i64 0, .int .i64 0, .sl []] := rfl
def joinA (b : Sib) (out : List Val) (v : Val) : List Val :=
  match findD b.vals v.dot with
  | some k => insertV out (v.first (b.vals[k]?.getD v))
  | none => cnd (b.seen.covers v.dot) out (insertV out v)
def joinB (a : Sib) (out : List Val) (v : Val) : List Val := cnd ((findD a.vals v.dot).isNone && !a.seen.covers v.dot) (insertV out v) out
def joinVals (a b : Sib) : List Val := (b.vals.foldl (joinB a) (a.vals.foldl (joinA b) [])).take 16
noncomputable def _root_.Go.Vm.Sib.join (a b : Sib) : Sib := cnd (a.may && b.may) ⟨a.seen.join b.seen, joinVals a b⟩ zeroSib
theorem foldl_len {f : List Val → Val → List Val} (hf : ∀ out v, (f out v).length ≤ out.length + 1) : ∀ (l : List Val) (out : List Val), (l.foldl f out).length ≤ out.length + l.length
  | [], out => by simp
  | v :: l, out => by
    have h1 := foldl_len hf l (f out v)
    have h2 := hf out v
    simp only [List.foldl_cons, List.length_cons]
    omega
theorem foldl_take {α β : Type} {f : β → α → β} {l : List α} {i : β} {j : Nat} {x : α} (h : l[j]? = some x) : (l.take (j + 1)).foldl f i = f ((l.take j).foldl f i) x := by
  rw [List.take_add_one, h]; simp
theorem may_len {s : Sib} (h : s.may = true) : s.vals.length ≤ 16 := by
  unfold Sib.may at h
  simp only [Bool.and_eq_true, decide_eq_true_eq] at h
  exact h.2.1
theorem may_at {s : Sib} (h : s.may = true) {j : Nat} {v : Val} (hj : s.vals[j]? = some v) : valOk s.seen v = true ∧ upTo s.vals j v = true := by
  unfold Sib.may at h
  simp only [Bool.and_eq_true, decide_eq_true_eq] at h
  have := h.2.2 j (List.getElem?_eq_some_iff.1 hj).1
  unfold sibAt at this
  rw [getB_at hj] at this
  simpa using this
theorem may_data {s : Sib} (h : s.may = true) {v : Val} (hv : v ∈ s.vals) : v.data.length ≤ 200 := by
  obtain ⟨j, hj, rfl⟩ := List.getElem_of_mem hv
  have := (may_at h (List.getElem?_eq_getElem hj)).1
  unfold valOk at this
  simp only [Bool.and_eq_true, decide_eq_true_eq] at this
  exact this.2.1
theorem findD_some {l : List Val} {d : Dot} {k : Nat} (h : findD l d = some k) : ∃ v, l[k]? = some v ∧ v.dot = d := by
  unfold findD at h
  rw [List.findIdx?_eq_some_iff_getElem] at h
  obtain ⟨h1, h2, _⟩ := h
  exact ⟨l[k], List.getElem?_eq_getElem h1, by simpa using h2⟩

def jH (a b : Sib) (h : Heap) (out : Sib) : Heap := h ++ [.cells a.c [], .cells b.c [], .cells zeroSib.c [], .cells out.c []]
end Go.Proofs.Ythkfjefoblmbhaa.V
