/- What 'hints.Set.For', 'First' and the laws' own helpers compute. -/
import Derived.Test.YthkfjefoblmbhaaVmHF
set_option linter.unusedVariables false
set_option linter.unusedSimpArgs false
namespace Go.Proofs.Ythkfjefoblmbhaa.V
open Go.Vm

def forH (l : List Hnt) (n : Int) : List Ent := (l.filter fun x => decide (x.node = n)).map Hnt.ent
theorem forH_take {l : List Hnt} {n : Int} {j : Nat} {x : Hnt} (hx : l[j]? = some x) : forH (l.take (j + 1)) n = forH (l.take j) n ++ cnd (decide (x.node = n)) [x.ent] [] := by
  unfold forH
  rw [List.take_add_one, hx, List.filter_append, List.map_append]
  congr 1
  cases hd : decide (x.node = n) <;> simp [hd]
theorem forH_len (l : List Hnt) (n : Int) : (forH l n).length ≤ l.length := by
  unfold forH
  rw [List.length_map]
  exact List.length_filter_le _ _
def zeroHnt : Hnt := ⟨0, ⟨[], zeroSib⟩⟩
section
variable {h : Heap} {i : Nat} {l : List Hnt} (hi : hget h i = some (hsO l)) (inv : HInv l)
include hi inv
end

theorem wrLt_cnd {n i : Nat} (h : n ≤ i) (b : Bool) : wrLt n (cnd b [i] []) = [] := by
  have : ¬ i < n := by omega
  cases b <;> simp [wrLt, this]
def awH : Hnt := ⟨1, ⟨[107], ⟨⟨[1, 0, 0, 0, 0, 0, 0, 0], rfl⟩, []⟩⟩⟩
theorem zeroSib_may' : zeroSib.may = true := by
  rw [may_iff]
  exact ⟨by decide, by decide, by simp [zeroSib, Srt], by decide⟩
theorem awH_may : mayH awH = true := by
  rw [mayH_iff]
  refine ⟨by decide, by decide, by decide, ?_⟩
  rw [may_iff]
  exact ⟨by decide, by decide, by simp [awH, Hnt.sib, Srt], by decide⟩
theorem awH_leq : awH.sib.leq zeroSib = false := by
  unfold Sib.leq
  have : ¬ awH.sib.join zeroSib = zeroSib := fun e => by
    have h1 := congrArg Sib.seen e
    unfold Sib.join at h1
    rw [mayH_sib awH_may, zeroSib_may'] at h1
    simp only [Bool.and_self, cnd_true] at h1
    revert h1
    decide
  rw [decide_eq_false this]
  simp
theorem awake11_eq (h : Heap) : callL E F.tattlerlaw11_awake [] h = some (.bool true, h, ⟨[], [], true⟩) := by
  refine callL_of rfl fn_tattlerlaw11_awake ?_
  have g0 := hintsNew_eq h
  have h0 : hget (h ++ [hsO []]) h.length = some (hsO []) := by simp
  have g1 := hintsPut_eq h0 HInv.nil awH
  have e1 : putB [] awH = true := by unfold putB; rw [awH_may]; rfl
  have e2 : putE [] awH = 0 := by unfold putE; rw [awH_may]; rfl
  have e3 : putL [] awH = [awH] := by
    unfold putL
    rw [awH_may]
    show putH [] awH = _
    unfold putH
    rw [cpH_self awH_may]
  rw [e1, e2, e3, awH_may] at g1
  have h1 : hget (h ++ [hsO [awH]]) h.length = some (hsO [awH]) := by simp
  have i1 : HInv [awH] := ⟨by simp [HSrt], fun x hx => by simp at hx; subst hx; exact awH_may, by simp⟩
  obtain ⟨w, g2⟩ := hintsDrop_eq h1 i1 1 [107] zeroSib
  have e4 : getH [awH] 1 [107] = some awH.sib := rfl
  rw [e4] at g2
  simp only [awH_leq, cnd_false] at g2
  have g3 := hintsLen_eq h1 i1
  have va : awH.v = .agg [.int .i64 1, .str [107], .int .i64 1, .int .i64 0, .int .i64 0, .int .i64 0, .int .i64 0, .int .i64 0, .int .i64 0, .int .i64 0, .sl []] := rfl
  have vz : zeroSib.v = .agg [.int .i64 0, .int .i64 0, .int .i64 0, .int .i64 0, .int .i64 0, .int .i64 0, .int .i64 0, .int .i64 0, .sl []] := rfl
  rw [va] at g1
  rw [vz] at g2
  have ho : ∀ l n, Vm.Obj.lt n (hsO l) = true := hs_lt
  have hw := fun b => wrLt_cnd (Nat.le_refl h.length) b
  generalize (putW [] awH && decide (h.length < (h ++ [hsO []]).length)) = b1 at g1
  generalize (w && decide (h.length < (h ++ [hsO [awH]]).length)) = b2 at g2
  generalize awH = A at *
  generalize hsO [] = O0 at *
  simp [-getElem?_pos, c_tattlerlaw11_awake, g0, g1, g2, g3, ho, hw]

def hntT : Ty := .st (.cons (.int .i64) (.cons entT .nil))
theorem Hnt.dec {cs : List V} (h : hntT.Has cs) : ∃ x : Hnt, x.Wf ∧ cs = x.c := by
  obtain ⟨_, _, rfl, ⟨x, hx, rfl⟩, _, _, rfl, hb, rfl⟩ := h
  obtain ⟨e, we, rfl⟩ := Ent.dec hb
  exact ⟨⟨x, e⟩, ⟨wf_i64 hx, we⟩, by simp [Hnt.c]⟩
end Go.Proofs.Ythkfjefoblmbhaa.V
