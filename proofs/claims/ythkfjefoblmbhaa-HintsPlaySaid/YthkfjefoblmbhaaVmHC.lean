/- What 'hints.Set.Put' computes. -/
import Derived.Test.YthkfjefoblmbhaaVmHB
set_option linter.unusedVariables false
set_option linter.unusedSimpArgs false
namespace Go.Proofs.Ythkfjefoblmbhaa.V
open Go.Vm

section
variable {h : Heap} {i : Nat} {l : List Hnt} (hi : hget h i = some (hsO l)) (hl : l.length ≤ 64) (x : Hnt) (hx : mayH x = true)
include hi hl hx
theorem hintsPut_there {p : Nat} (hc : CutAt l x.node x.key p) {e : Hnt} (he : l[p]? = some e) (hf : heq e x.node x.key = true) (hv : e.sib.vals.length ≤ 1099511627776) :
    callL E F.hints_Set_Put [.ptr (some (i, 0)), x.v] h = some (.tup [.bool (!decide (e.sib = e.sib.join x.sib)), .int .i64 0], hset h i (hsO (l.set p (e.with (e.sib.join x.sib)))), ⟨[], [], true⟩) := by
  refine callL_of rfl fn_hints_Set_Put ?_
  have hlt := hget_lt hi
  have hpl : p < l.length := (List.getElem?_eq_some_iff.1 he).1
  unfold mayH at hx
  simp only [Bool.and_eq_true, decide_eq_true_eq] at hx
  obtain ⟨h0, h8, hm⟩ := hx
  have e1 : ¬ x.node < 0 := by omega
  have e2 : ¬ 8 ≤ x.node := by omega
  have g1 := fun L => sibsMayEntry_eq x.ent (h ++ L)
  rw [hm] at g1
  have hgB : hget (h ++ [.cells x.c []]) i = some (hsO l) := by rw [hget_app hlt]; exact hi
  have g2 := find_eq hgB hl hc
  have hfa : foundAt l x.node x.key p = true := by unfold foundAt; rw [he]; exact hf
  rw [hfa] at g2
  have g3 := thw_hs (fb := h.length) hgB
  rw [hsf0 hlt, List.length_append, List.length_singleton, List.append_assoc, lV_pos _ (by omega), lO_pos (by omega)] at g3
  have f1 := fun o L => hsf1 hlt o L
  have f2 := fun o q L => hsf2 hlt o q L
  have g4 := fun H => sibsJoin_eq e.ent.sib x.ent.sib H
  have g5 := fun H => sibsSame_eq e.ent.sib (e.ent.sib.join x.ent.sib) hv H
  have hp1 := flat_part (c := Hnt.c) (z := 11) (fun x => by simp) he 2 9 (by omega)
  have hin := flat_in (c := Hnt.c) (z := 11) (fun x => by simp) hpl 2 9 (by omega)
  have he' : (l.set p (e.with (e.ent.sib.join x.ent.sib)))[p]? = some (e.with (e.ent.sib.join x.ent.sib)) := by simp [hpl]
  have hp2 := flat_part (c := Hnt.c) (z := 11) (fun x => by simp) he' 2 9 (by omega)
  have hset1 := flat_set (c := Hnt.c) (z := 11) (fun x => by simp) he 2 9 (by omega) (vs := (e.ent.sib.join x.ent.sib).c) (y := e.with (e.ent.sib.join x.ent.sib)) (by simp) (e.k_with _).symm
  rw [Hnt.k_drop2, Sib.c_take] at hp1 hp2
  have hls : (l.set p (e.with (e.ent.sib.join x.ent.sib))).length = l.length := List.length_set
  have hFL' := hnt_len (l.set p (e.with (e.ent.sib.join x.ent.sib)))
  have g6 : setcV 11 true (hset h i (.cells [.msl (h.length + 1) 0 l.length 11] []) ++ [.cells x.c [], .cells ((l.set p (e.with (e.ent.sib.join x.ent.sib))).flatMap Hnt.c) [], .cells e.ent.sib.c []]) (.ptr (some (i, 0))) = _ :=
    set_msl (l := l.set p (e.with (e.ent.sib.join x.ent.sib))) (k := h.length + 1) (by rw [hls]; exact f1 _ _) (by simp) (by omega)
  have hs : e.sib = e.ent.sib := rfl
  have hs2 : x.sib = x.ent.sib := rfl
  have hkey : x.key = x.ent.key := rfl
  rw [hkey] at g2
  rw [hs, hs2]
  have hlo := hs_lt (l.set p (e.with (e.ent.sib.join x.ent.sib)))
  have hin2 : p * 11 + 2 + 9 ≤ (l.set p (e.with (e.ent.sib.join x.ent.sib))).length * 11 := by rw [hls, ← hnt_len l]; exact hin
  rw [← hFL'] at hin2
  simp only [Hnt.with_esib] at hp2
  generalize (l.set p (e.with (e.ent.sib.join x.ent.sib))) = l' at *
  generalize l'.flatMap Hnt.c = FL' at *
  generalize l.flatMap Hnt.c = FL at *
  simp [-getElem?_pos, -thwc_ptr, -setc_ptr, c_hints_Set_Put, e1, e2, g1, g2, g3, f1, f2, g4, g5, hp1, hp2, hin, hin2, hset1, hpl, g6, hlo]
theorem hintsPut_full {p : Nat} (hc : CutAt l x.node x.key p) (hf : foundAt l x.node x.key p = false) (h64 : l.length = 64) :
    callL E F.hints_Set_Put [.ptr (some (i, 0)), x.v] h = some (.tup [.bool false, .int .i64 11], h, ⟨[], [], true⟩) := by
  refine callL_of rfl fn_hints_Set_Put ?_
  have hlt := hget_lt hi
  unfold mayH at hx
  simp only [Bool.and_eq_true, decide_eq_true_eq] at hx
  obtain ⟨h0, h8, hm⟩ := hx
  have e1 : ¬ x.node < 0 := by omega
  have e2 : ¬ 8 ≤ x.node := by omega
  have g1 := fun L => sibsMayEntry_eq x.ent (h ++ L)
  rw [hm] at g1
  have hgB : hget (h ++ [.cells x.c []]) i = some (hsO l) := by rw [hget_app hlt]; exact hi
  have g2 := find_eq hgB hl hc
  rw [hf] at g2
  have hkey : x.key = x.ent.key := rfl
  rw [hkey] at g2
  have g3 := thw_hs (fb := h.length) hgB
  rw [hsf0 hlt, List.length_append, List.length_singleton, List.append_assoc, lV_pos _ (by omega), lO_pos (by omega)] at g3
  have f1 := fun o L => hsf1 hlt o L
  have f2 := fun o q L => hsf2 hlt o q L
  have f3 := hsf3 hi
  have hg : ∀ L, hget (h ++ L) i = some (hsO l) := fun L => by rw [hget_app hlt]; exact hi
  have g6 : setcV 11 true (hset h i (.cells [.msl (h.length + 1) 0 l.length 11] []) ++ [.cells x.c [], .cells (l.flatMap Hnt.c) []]) (.ptr (some (i, 0))) = _ :=
    set_msl (l := l) (k := h.length + 1) (f1 _ _) (by simp) (by omega)
  have hlo := hs_lt l
  have h64' : (l.length : Int) = 64 := by omega
  generalize l.flatMap Hnt.c = FL at *
  simp [-getElem?_pos, -thwc_ptr, -setc_ptr, c_hints_Set_Put, e1, e2, g1, g2, g3, f1, f2, f3, g6, hlo, hg, h64']
theorem hintsPut_new {p : Nat} (hc : CutAt l x.node x.key p) (hf : foundAt l x.node x.key p = false) (h64 : l.length < 64) :
    callL E F.hints_Set_Put [.ptr (some (i, 0)), x.v] h = some (.tup [.bool true, .int .i64 0], hset h i (hsO (l.take p ++ x.with (x.sib.join x.sib) :: l.drop p)), ⟨cnd (decide (i < h.length)) [i] [], [], true⟩) := by
  refine callL_of rfl fn_hints_Set_Put ?_
  have hlt := hget_lt hi
  unfold mayH at hx
  simp only [Bool.and_eq_true, decide_eq_true_eq] at hx
  obtain ⟨h0, h8, hm⟩ := hx
  have e1 : ¬ x.node < 0 := by omega
  have e2 : ¬ 8 ≤ x.node := by omega
  have g1 := fun L => sibsMayEntry_eq x.ent (h ++ L)
  rw [hm] at g1
  have hgB : hget (h ++ [.cells x.c []]) i = some (hsO l) := by rw [hget_app hlt]; exact hi
  have g2 := find_eq hgB hl hc
  rw [hf] at g2
  have hkey : x.key = x.ent.key := rfl
  rw [hkey] at g2
  have g3 := thw_hs (fb := h.length) hgB
  rw [hsf0 hlt, List.length_append, List.length_singleton, List.append_assoc] at g3
  have f1 := fun o L => hsf1 hlt o L
  have f2 := fun o q L => hsf2 hlt o q L
  have f3 := hsf3 hi
  have f0 := fun o L => hsf0 hlt o L
  have hg : ∀ L, hget (h ++ L) i = some (hsO l) := fun L => by rw [hget_app hlt]; exact hi
  have g5 := set_hs (H := hset h i (.cells [lV (h.length + 1) l.length] []) ++ [.cells x.c [], lO l]) (i := i) (k := h.length + 1) (l := l) (f1 _ _) (by simp)
  have gl : ∀ H, lenV H .sl (lV (h.length + 1) l.length) = some (.int .i64 l.length) := fun H => by
    unfold lV
    cases hd : decide (l.length = 0)
    · rfl
    · have := of_decide_eq_true hd
      rw [this]; rfl
  have gc := fun H => hintsCopied_eq x H
  have hgB2 : hget (h ++ [.cells x.c [], .dead]) i = some (hsO l) := hg _
  have g3b := thw_hs (fb := h.length) hgB2
  rw [hsf0 hlt, List.append_assoc, show (h ++ [Vm.Obj.cells x.c [], .dead]).length = h.length + 2 by simp] at g3b
  have gi := ins_eq l (x.with (x.sib.join x.sib)) hc.le (by omega) (h.length + 2) (hset h i (.cells [lV (h.length + 2) l.length] []) ++ [.cells x.c [], .dead, lO l]) (by simp)
  have hll : (l.take p ++ x.with (x.sib.join x.sib) :: l.drop p).length = l.length + 1 := by
    have := hc.le
    simp
    omega
  have hset0 : hset (hset h i (.cells [lV (h.length + 2) l.length] []) ++ [.cells x.c [], .dead, lO l]) (h.length + 2) .dead = hset h i (.cells [lV (h.length + 2) l.length] []) ++ [.cells x.c [], .dead, .dead] := by simp
  rw [hset0] at gi
  have hlen0 : (hset h i (.cells [lV (h.length + 2) l.length] []) ++ [.cells x.c [], .dead, lO l]).length = h.length + 3 := by simp
  rw [hlen0, List.append_assoc] at gi
  have g6 : setcV 11 true (hset h i (.cells [.msl (h.length + 3) 0 (l.length + 1) 11] []) ++ [.cells x.c [], .dead, .dead, .cells ((l.take p ++ x.with (x.sib.join x.sib) :: l.drop p).flatMap Hnt.c) []]) (.ptr (some (i, 0))) = _ :=
    set_msl (l := l.take p ++ x.with (x.sib.join x.sib) :: l.drop p) (k := h.length + 3) (by rw [hll]; exact f1 _ _) (by simp) (by omega)
  have hlo := hs_lt l
  have hlo' := hs_lt (l.take p ++ x.with (x.sib.join x.sib) :: l.drop p)
  have h64' : ¬ (l.length : Int) = 64 := by omega
  have h64'' : ((l.length : Int) == 64) = false := by simpa using h64'
  have hvl := (x.with (x.sib.join x.sib)).k_len
  generalize (l.take p ++ x.with (x.sib.join x.sib) :: l.drop p) = l' at *
  generalize x.with (x.sib.join x.sib) = x' at *
  generalize l'.flatMap Hnt.c = FL at *
  generalize lO l = OL at *
  generalize lV (h.length + 1) l.length = LV at *
  generalize lV (h.length + 2) l.length = LW at *
  simp [-getElem?_pos, -thwc_ptr, -setc_ptr, c_hints_Set_Put, e1, e2, g1, g2, g3, g3b, f0, f1, f2, f3, g5, g6, hlo, hlo', hg, h64'', gl, gc, gi, hlt]
end
end Go.Proofs.Ythkfjefoblmbhaa.V
