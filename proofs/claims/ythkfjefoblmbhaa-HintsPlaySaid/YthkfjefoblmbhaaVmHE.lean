/- What 'hints.Set.Drop' computes. -/
import Derived.Test.YthkfjefoblmbhaaVmHC
set_option linter.unusedVariables false
set_option linter.unusedSimpArgs false
namespace Go.Proofs.Ythkfjefoblmbhaa.V
open Go.Vm

section
variable {h : Heap} {i : Nat} {l : List Hnt} (hi : hget h i = some (hsO l)) (hl : l.length ≤ 64) (n : Int) (k : List UInt8) (s : Sib)
include hi hl
theorem hintsDrop_none {p : Nat} (hc : CutAt l n k p) (hf : foundAt l n k p = false) :
    callL E F.hints_Set_Drop [.ptr (some (i, 0)), .int .i64 n, .str k, s.v] h = some (.bool false, h, ⟨[], [], true⟩) := by
  refine callL_of rfl fn_hints_Set_Drop ?_
  have hlt := hget_lt hi
  have hg : ∀ L, hget (h ++ L) i = some (hsO l) := fun L => by rw [hget_app hlt]; exact hi
  have g2 := find_eq (hg [.cells s.c []]) hl hc
  rw [hf] at g2
  have g3 := thw_hs (fb := h.length) (hg [.cells s.c []])
  rw [hsf0 hlt, List.length_append, List.length_singleton, List.append_assoc] at g3
  have f1 := fun o L => hsf1 hlt o L
  have f2 := fun o q L => hsf2 hlt o q L
  have f3 := hsf3 hi
  have g5 := set_hs (H := hset h i (.cells [lV (h.length + 1) l.length] []) ++ [.cells s.c [], lO l]) (i := i) (k := h.length + 1) (l := l) (f1 _ _) (by simp)
  have hlo := hs_lt l
  generalize lO l = OL at *
  generalize lV (h.length + 1) l.length = LV at *
  simp [-getElem?_pos, -thwc_ptr, -setc_ptr, c_hints_Set_Drop, g2, g3, f1, f2, f3, g5, hlo, hg, hlt]
theorem hintsDrop_keep {p : Nat} (hc : CutAt l n k p) {e : Hnt} (he : l[p]? = some e) (hf : heq e n k = true) (hq : e.sib.leq s = false) :
    callL E F.hints_Set_Drop [.ptr (some (i, 0)), .int .i64 n, .str k, s.v] h = some (.bool false, h, ⟨[], [], true⟩) := by
  refine callL_of rfl fn_hints_Set_Drop ?_
  have hlt := hget_lt hi
  have hpl : p < l.length := (List.getElem?_eq_some_iff.1 he).1
  have hfa : foundAt l n k p = true := by unfold foundAt; rw [he]; exact hf
  have hg : ∀ L, hget (h ++ L) i = some (hsO l) := fun L => by rw [hget_app hlt]; exact hi
  have g2 := find_eq (hg [.cells s.c []]) hl hc
  rw [hfa] at g2
  have g3 := thw_hs (fb := h.length) (hg [.cells s.c []])
  rw [hsf0 hlt, List.length_append, List.length_singleton, List.append_assoc, lV_pos _ (by omega), lO_pos (by omega)] at g3
  have f1 := fun o L => hsf1 hlt o L
  have f2 := fun o q L => hsf2 hlt o q L
  have f3 := hsf3 hi
  have g6 : setcV 11 true (hset h i (.cells [.msl (h.length + 1) 0 l.length 11] []) ++ [.cells s.c [], .cells (l.flatMap Hnt.c) []]) (.ptr (some (i, 0))) = _ :=
    set_msl (l := l) (k := h.length + 1) (f1 _ _) (by simp) (by omega)
  have hlo := hs_lt l
  have gq := fun H => leq_eq e.ent.sib s H
  have hq' : e.ent.sib.leq s = false := hq
  have hp1 := flat_part (c := Hnt.c) (z := 11) (fun x => by simp) he 2 9 (by omega)
  have hin := flat_in (c := Hnt.c) (z := 11) (fun x => by simp) hpl 2 9 (by omega)
  rw [Hnt.k_drop2, Sib.c_take] at hp1
  generalize l.flatMap Hnt.c = FL at *
  simp [-getElem?_pos, -thwc_ptr, -setc_ptr, c_hints_Set_Drop, g2, g3, f1, f2, f3, g6, hlo, hg, hlt, gq, hq', hp1, hin, hpl]
theorem hintsDrop_ok {p : Nat} (hc : CutAt l n k p) {e : Hnt} (he : l[p]? = some e) (hf : heq e n k = true) (hq : e.sib.leq s = true) :
    callL E F.hints_Set_Drop [.ptr (some (i, 0)), .int .i64 n, .str k, s.v] h = some (.bool true, hset h i (hsO (l.take p ++ l.drop (p + 1))), ⟨cnd (decide (i < h.length)) [i] [], [], true⟩) := by
  refine callL_of rfl fn_hints_Set_Drop ?_
  have hlt := hget_lt hi
  have hpl : p < l.length := (List.getElem?_eq_some_iff.1 he).1
  have hfa : foundAt l n k p = true := by unfold foundAt; rw [he]; exact hf
  have hg : ∀ L, hget (h ++ L) i = some (hsO l) := fun L => by rw [hget_app hlt]; exact hi
  have g2 := find_eq (hg [.cells s.c []]) hl hc
  rw [hfa] at g2
  have g3 := thw_hs (fb := h.length) (hg [.cells s.c []])
  rw [hsf0 hlt, List.length_append, List.length_singleton, List.append_assoc, lV_pos _ (by omega), lO_pos (by omega)] at g3
  have f1 := fun o L => hsf1 hlt o L
  have f2 := fun o q L => hsf2 hlt o q L
  have f3 := hsf3 hi
  have hlo := hs_lt (l.take p ++ l.drop (p + 1))
  have gq := fun H => leq_eq e.ent.sib s H
  have hq' : e.ent.sib.leq s = true := hq
  have hp1 := flat_part (c := Hnt.c) (z := 11) (fun x => by simp) he 2 9 (by omega)
  have hin := flat_in (c := Hnt.c) (z := 11) (fun x => by simp) hpl 2 9 (by omega)
  rw [Hnt.k_drop2, Sib.c_take] at hp1
  have gd := del_eq l hpl (h.length + 1) (hset h i (.cells [lV (h.length + 1) l.length] []) ++ [.cells s.c [], lO l]) (by simp)
  rw [lV_pos _ (by omega), lO_pos (by omega)] at gd
  have hset0 : hset (hset h i (.cells [.msl (h.length + 1) 0 l.length 11] []) ++ [Vm.Obj.cells s.c [], Vm.Obj.cells (l.flatMap Hnt.c) []]) (h.length + 1) .dead = hset h i (.cells [.msl (h.length + 1) 0 l.length 11] []) ++ [Vm.Obj.cells s.c [], .dead] := by simp
  have hlen0 : (hset h i (.cells [.msl (h.length + 1) 0 l.length 11] []) ++ [Vm.Obj.cells s.c [], Vm.Obj.cells (l.flatMap Hnt.c) []]).length = h.length + 2 := by simp
  rw [hset0, hlen0, List.append_assoc] at gd
  have hll : (l.take p ++ l.drop (p + 1)).length = l.length - 1 := by
    rw [List.length_append, List.length_take, List.length_drop]
    omega
  have g6 : setcV 11 true (hset h i (.cells [.msl (h.length + 2) 0 (l.length - 1) 11] []) ++ [.cells s.c [], .dead, .cells ((l.take p ++ l.drop (p + 1)).flatMap Hnt.c) []]) (.ptr (some (i, 0))) = _ :=
    set_msl (l := l.take p ++ l.drop (p + 1)) (k := h.length + 2) (by rw [hll]; exact f1 _ _) (by simp) (by omega)
  have h1 := i64_add1 (n := p) (by omega)
  generalize l.take p ++ l.drop (p + 1) = l' at *
  generalize l'.flatMap Hnt.c = FL' at *
  generalize l.flatMap Hnt.c = FL at *
  simp [-getElem?_pos, -thwc_ptr, -setc_ptr, -Int.natCast_add, c_hints_Set_Drop, g2, g3, f1, f2, f3, g6, hlo, hg, hlt, gq, hq', hp1, hin, hpl, gd, h1]
end

noncomputable def cpH (x : Hnt) : Hnt := x.with (x.sib.join x.sib)
theorem all_round (k j : Nat) (l : List Hnt) (hl : l.length ≤ 64) {x : Hnt} (hx : l[j]? = some x) (h : Heap) (i : Nat) (hih : i < h.length) (hk : hget h k = some (.cells (l.flatMap Hnt.c) [])) (fb : Nat) (hfb : fb ≤ h.length) (es : List Nat) :
    roundV (callL E) loopL fb [0, 3, 11, 12, 13] c_hints_Set_All_l0 ⟨[(0, .ptr (some (i, 0))), (3, .sl ((l.take j).map fun x => (cpH x).v)), (11, .msl k 0 l.length 11), (12, .int .i64 l.length), (13, .int .i64 j)], h, ⟨[], es, true⟩⟩ =
      some (.normal, ⟨[(0, .ptr (some (i, 0))), (3, .sl ((l.take (j + 1)).map fun x => (cpH x).v)), (11, .msl k 0 l.length 11), (12, .int .i64 l.length), (13, .int .i64 (j + 1 : Nat))], h, ⟨[], es, true⟩⟩) := by
  have hj : j < l.length := (List.getElem?_eq_some_iff.1 hx).1
  have hlt : (j : Int) < (l.length : Int) := by omega
  have h1 := i64_add1 (n := j) (by omega)
  have hkl := hget_lt hk
  have hka : ∀ L, hget (h ++ L) k = some (.cells (l.flatMap Hnt.c) []) := fun L => by rw [hget_app hkl]; exact hk
  have hp := flat_part (c := Hnt.c) (z := 11) (fun x => by simp) hx 0 11 (by omega)
  rw [Nat.add_zero, List.drop_zero, Hnt.k_take] at hp
  have hin := flat_in (c := Hnt.c) (z := 11) (fun x => by simp) hj 0 11 (by omega)
  rw [Nat.add_zero] at hin
  have g := fun H => hintsCopied_eq x H
  have ht : (l.take (j + 1)).map (fun x => (cpH x).v) = (l.take j).map (fun x => (cpH x).v) ++ [(cpH x).v] := by
    rw [List.take_add_one, hx]
    simp
  have hb : ((l.take j).length + 1) * 112 ≤ 140737488355328 := by
    have := List.length_take_le j l
    omega
  have hz : sizeOk 11 ((l.take j).map fun x => (cpH x).v) = true := by
    cases l.take j with
    | nil => rfl
    | cons y _ => simp [sizeOk]
  have hlen : ((l.take j).map fun x => (cpH x).v).length = (l.take j).length := by simp
  have hfb' : ¬ h.length < fb := by omega
  rw [s_round, ht]
  have hc : (cpH x) = x.with (x.sib.join x.sib) := rfl
  rw [← hc] at g
  generalize (l.take j).map (fun x => (cpH x).v) = LT at *
  generalize cpH x = y at *
  rw [← hlen] at hb
  generalize l.flatMap Hnt.c = FL at *
  simp [-getElem?_pos, c_hints_Set_All_l0, hlt, hj, h1, hka, hk, hp, hin, g, hb, hz, hih, hkl, hfb']
section
variable {h : Heap} {i : Nat} {l : List Hnt} (hi : hget h i = some (hsO l)) (hl : l.length ≤ 64)
include hi hl
theorem hintsAll_eq : callL E F.hints_Set_All [.ptr (some (i, 0))] h = some (.sl (l.map fun x => (cpH x).v), h, ⟨[], [], true⟩) := by
  refine callL_of rfl fn_hints_Set_All ?_
  have hlt := hget_lt hi
  have hg : ∀ L, hget (h ++ L) i = some (hsO l) := fun L => by rw [hget_app hlt]; exact hi
  have g3 := thw_hs (fb := h.length) hi
  have f1 := fun o L => hsf1 hlt o L
  have f2 := fun o q L => hsf2 hlt o q L
  have f3 := hsf3 hi
  have hlo := hs_lt l
  have g5 := set_hs (H := hset h i (.cells [lV h.length l.length] []) ++ [lO l]) (i := i) (k := h.length) (l := l) (f1 _ _) (by simp)
  have gl : ∀ H, lenV H .sl (lV h.length l.length) = some (.int .i64 l.length) := fun H => by
    unfold lV
    cases hd : decide (l.length = 0)
    · rfl
    · have := of_decide_eq_true hd
      rw [this]; rfl
  have key : loopRun (callL E) loopL h.length [0, 3, 11, 12, 13] c_hints_Set_All_l0 ⟨[(0, .ptr (some (i, 0))), (3, .sl []), (11, lV h.length l.length), (12, .int .i64 l.length), (13, .int .i64 0)], hset h i (.cells [lV h.length l.length] []) ++ [lO l], ⟨[], [i], true⟩⟩ =
      some (.exit 0, ⟨[(0, .ptr (some (i, 0))), (3, .sl (l.map fun x => (cpH x).v)), (11, lV h.length l.length), (12, .int .i64 l.length), (13, .int .i64 l.length), (14, .bool false)], hset h i (.cells [lV h.length l.length] []) ++ [lO l], ⟨[], [i], true⟩⟩) := by
    have k2 := loop_to (C := callL E) (fb := h.length) (live := [0, 3, 11, 12, 13]) (c := c_hints_Set_All_l0)
      (fun j => ⟨[(0, .ptr (some (i, 0))), (3, .sl ((l.take j).map fun x => (cpH x).v)), (11, lV h.length l.length), (12, .int .i64 l.length), (13, .int .i64 j)], hset h i (.cells [lV h.length l.length] []) ++ [lO l], ⟨[], [i], true⟩⟩) l.length
      (r := (.exit 0, ⟨[(0, .ptr (some (i, 0))), (3, .sl (l.map fun x => (cpH x).v)), (11, lV h.length l.length), (12, .int .i64 l.length), (13, .int .i64 l.length), (14, .bool false)], hset h i (.cells [lV h.length l.length] []) ++ [lO l], ⟨[], [i], true⟩⟩)) (fun j hj => ?_) ?_ rfl
    · exact k2
    · obtain ⟨x, hx, _, _⟩ := get_of_lt (l := l) (i := j) hj
      rw [lV_pos _ (by omega), lO_pos (by omega)]
      exact all_round h.length j l hl hx _ i (by simp; omega) (by simp) h.length (by simp) [i]
    · rw [s_round, List.take_length]
      simp [c_hints_Set_All_l0]
  generalize lO l = OL at *
  generalize lV h.length l.length = LV at *
  generalize (l.map fun x => (cpH x).v) = R at *
  simp [-getElem?_pos, -thwc_ptr, -setc_ptr, c_hints_Set_All, g3, f1, f2, f3, g5, gl, key, hlo, hg, hlt]
end
end Go.Proofs.Ythkfjefoblmbhaa.V
