/- What the functions of 'digest' compute. -/
import Derived.Test.YtphlgefkcghopaaVmKS
set_option linter.unusedVariables false
set_option linter.unusedSimpArgs false
namespace Go.Proofs.Ytphlgefkcghopaa.V
open Go.Vm

theorem entWrite_eq {e : Ent} (hs : e.Small) {w : Wr} (hw : w.Ok) {h : Heap} {i : Nat} (hh : hget h i = some w.o) :
    callL E F.sibs_WriteEntry [.ptr (some (i, 0)), e.v] h = some (.tup [], hset h i (w.ent e).o, .w [i]) := by
  refine callL_of rfl fn_sibs_WriteEntry ?_
  obtain ⟨h1, h2⟩ := hs
  have hil := hget_lt hh
  have hne : i ≠ h.length := by omega
  have hA : hget (h ++ [.cells e.c []]) i = some w.o := by rw [hget_app hil]; exact hh
  have g1 := Text_eq hw e.key h1 hA
  have g2 := sibWrite_eq h2 (hw.put (encNum e.key.length ++ e.key)) (hget_hset hA)
  rw [hset_hset] at g2
  have ht := take_hset (l := [.cells e.c []]) (o := (w.ent e).o) hil
  unfold Wr.ent at ht
  unfold bytesV at g1
  simp [-getElem?_pos, c_sibs_WriteEntry, g1, g2, ht, hne, hil, Wr.ent]
/-- How many bytes an entry has. -/
def size (e : Ent) : Nat := let w := Wr.ent ⟨[], 1073741824, false⟩ e; if w.long then 0 else w.b.length
theorem size_le (e : Ent) : size e ≤ 1073741824 := by
  have h := (Wr.Ok.ent (w := ⟨[], 1073741824, false⟩) ⟨by simp, by simp, by simp⟩ e)
  have hm : (Wr.ent ⟨[], 1073741824, false⟩ e).most = 1073741824 := by
    have key : ∀ (l : List Val) (w : Wr), (w.vals l).most = w.most := by
      intro l
      induction l with
      | nil => intro w; rfl
      | cons v l ih => intro w; exact (ih _).trans (by simp [Wr.val, Wr.put_most])
    have kv : ∀ (l : List Int) (w : Wr), (w.vec l).most = w.most := by
      intro l
      induction l with
      | nil => intro w; rfl
      | cons v l ih => intro w; exact (ih _).trans (by simp [Wr.put_most])
    simp [Wr.ent, Wr.sib, key, kv, Wr.put_most]
  have := h.len
  unfold size
  simp only
  split <;> omega
theorem size_eq {e : Ent} (hs : e.Small) (h : Heap) : callL E F.digest_Size [e.v] h = some (.int .i64 (size e), h, .no) := by
  refine callL_of rfl fn_digest_Size ?_
  have g1 := NewWriter_eq 1073741824 (h ++ [.cells e.c []])
  have hW : (⟨[], 1073741824, false⟩ : Wr).Ok := ⟨by simp, by simp, by simp⟩
  have hA : hget (h ++ [.cells e.c [], (⟨[], 1073741824, false⟩ : Wr).o]) (h.length + 1) = some (⟨[], 1073741824, false⟩ : Wr).o := by simp
  have g2 := entWrite_eq hs hW hA
  have g3 := Done_eq (hW.ent e) (hget_hset hA (q := ((⟨[], 1073741824, false⟩ : Wr).ent e).o))
  have hm : max (0 : Int) 1073741824 = 1073741824 := by omega
  rw [hm] at g1
  simp at g1 g2 g3
  have hsz : (size e : Int) = ((if ((⟨[], 1073741824, false⟩ : Wr).ent e).long = true then [] else ((⟨[], 1073741824, false⟩ : Wr).ent e).b).length : Nat) := by
    unfold size
    simp only
    split <;> rfl
  simp [-getElem?_pos, c_digest_Size, g1, g2, g3, bytesV, hsz]
end Go.Proofs.Ytphlgefkcghopaa.V
