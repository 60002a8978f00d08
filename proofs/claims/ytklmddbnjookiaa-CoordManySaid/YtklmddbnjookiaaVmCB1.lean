/- What 'coord.begin' computes where one answer is enough. -/
import Derived.Test.YtklmddbnjookiaaVmCOW
set_option linter.unusedVariables false
set_option linter.unusedSimpArgs false
set_option linter.unusedSectionVars false
namespace Go.Proofs.Ytklmddbnjookiaa.V
open Go.Vm

theorem findI_app {l : List (Int × Nat)} {n : Int} (h : findI l n = none) (p : Nat) : findI (l ++ [(n, p)]) n = some p := by
  induction l with
  | nil => simp [findI]
  | cons x l ih =>
    simp only [findI] at h
    by_cases hx : n = x.1
    · rw [if_pos hx] at h; cases h
    · rw [if_neg hx] at h
      simp only [List.cons_append, findI]
      rw [if_neg hx]
      exact ih h
theorem delI_app {l : List (Int × Nat)} {n : Int} (h : findI l n = none) (p : Nat) : delI (l ++ [(n, p)]) n = l := by
  induction l with
  | nil => simp [delI]
  | cons x l ih =>
    simp only [findI] at h
    by_cases hx : n = x.1
    · rw [if_pos hx] at h; cases h
    · rw [if_neg hx] at h
      simp only [List.cons_append, delI]
      rw [if_neg hx, ih h]
theorem take_two {h : Heap} {i mi : Nat} (hil : i < h.length) (hml : mi < h.length) (C1 C2 M1 M2 : Vm.Obj) (hne : i ≠ mi) (x : Heap) :
    (hset (hset (hset (hset h i C1) mi M1 ++ x) i C2) mi M2).take h.length = hset (hset h i C2) mi M2 := by
  have e : hset (hset (hset (hset h i C1) mi M1 ++ x) i C2) mi M2 = hset (hset h i C2) mi M2 ++ x := by
    rw [V.hset_app (by rw [hset_len, hset_len]; exact hil), V.hset_app (by rw [hset_len, hset_len, hset_len]; exact hml)]
    congr 1
    unfold hset
    apply List.ext_getElem?
    intro j
    simp only [List.getElem?_set, List.length_set]
    by_cases h1 : mi = j
    · simp [h1]
    · by_cases h2 : i = j
      · simp [h1, h2]
      · simp [h1, h2]
  rw [e]
  exact List.take_left' (by rw [hset_len, hset_len])
section
variable {h : Heap} {i mi : Nat} {wait last : Int} {ans : List Ans} {ops : List (Int × Nat)} (t : CAt h i mi wait last ans ops)
include t
theorem coordBegin_now (n : Nat) (need : Int) (hn : n < 8) (hneed : need ≤ 1) (key : List UInt8) (s : Sib) (wr : Bool)
    (hm : (⟨key, s⟩ : Ent).may = true) (hl : ops.length < 64) (hl0 : 0 ≤ last) (hl1 : last < 1000000000) (hf : findI ops (last + 1) = none) (hbig : ans.length ≤ 1000000) (hpl : ∀ x ∈ ops, x.2 < h.length) :
    ∃ e, (e = [] ∨ e = [mi]) ∧ callL E F.coord_Coord_begin [.ptr (some (i, 0)), .int .i64 n, .int .i64 need, .str key, s.v, .bool wr] h =
      some (.tup [.int .i64 (last + 1), .int .i64 0], hset (hset h i (coordO wait (last + 1) mi (ans ++ [⟨last + 1, 0, s⟩]))) mi (.map (mapI ops)), ⟨[i, mi], e, false⟩) := by
  refine ⟨cnd (!Vm.Obj.lt 0 (.map (mapI ops))) [mi] [], by cases Vm.Obj.lt 0 (.map (mapI ops)) <;> simp, callL_of rfl fn_coord_Coord_begin ?_⟩
  have hsm : s.may = true := by
    unfold Ent.may at hm
    simp only [Bool.and_eq_true] at hm
    exact hm.2
  have h1 := t.co
  have h2 := t.mapOf
  have h2m := t.mp
  have hne := t.ne
  have hil := hget_lt t.co
  have hml := hget_lt t.mp
  have g1 := fun x => sibsMayEntry_eq ⟨key, s⟩ (h ++ x)
  rw [hm] at g1
  have g2 := fun hp => copied22_eq hsm hp
  have g3 := fun hp => qNew_eq need hp
  have hml2 : (mapI ops).length = ops.length := by simp [mapI]
  have e1 : ¬ (64 : Int) ≤ (ops.length : Int) := by omega
  have hw : IntKind.i64.wrap (last + 1) = last + 1 := by rw [wrap_i64] <;> omega
  have a1 : ∀ x C, hset (h ++ x) i C = hset h i C ++ x := fun x C => V.hset_app hil
  have a2 : ∀ x C, hget (hset h i C ++ x) i = some C := fun x C => hgetS hil C x
  have a3 : ∀ x C, hget (hset h i C ++ x) mi = some (.map (mapI ops)) := fun x C => by rw [hgetS_ne hml hne]; exact h2m
  have a4 : ∀ x C M, hset (hset h i C ++ x) mi M = hset (hset h i C) mi M ++ x := fun x C M => V.hset_app (by rw [hset_len]; exact hml)
  have a6 : ∀ C, (hset h i C).length = h.length := fun C => hset_len _ _ _
  have hput := putV_mapI (.ptr (some (h.length + 2, 0))) hf
  have hmapp : mapI ops ++ [(.int .i64 (last + 1), .ptr (some (h.length + 2, 0)))] = mapI (ops ++ [(last + 1, h.length + 2)]) := by simp [mapI]
  rw [hmapp] at hput
  have hd : ∀ (a : V) X, List.drop 10 (s.c ++ a :: X) = X := fun a X => by
    rw [List.drop_append]; simp
  have e4 := fun q => OpS.c_len ⟨key, wr, s, ans8, 0⟩ q rfl
  have e5 := fun q => OpS.c_cell ⟨key, wr, s, ans8, 0⟩ q
  have b1 : ∀ (C M a b c : Vm.Obj), hget (hset (hset h i C) mi M ++ [a, b, c]) (h.length + 1) = some b := fun C M a b c => app3_g1 (by rw [hset_len, hset_len]) a b c
  have b2 : ∀ (C M a b c : Vm.Obj), hget (hset (hset h i C) mi M ++ [a, b, c]) (h.length + 2) = some c := fun C M a b c => app3_g2 (by rw [hset_len, hset_len]) a b c
  have b3 : ∀ (C M a b c d : Vm.Obj), hset (hset (hset h i C) mi M ++ [a, b, c]) (h.length + 1) d = hset (hset h i C) mi M ++ [a, d, c] := fun C M a b c d => app3_s1 (by rw [hset_len, hset_len]) a b c d
  have b4 : ∀ (C M a b c d : Vm.Obj), hset (hset (hset h i C) mi M ++ [a, b, c]) (h.length + 2) d = hset (hset h i C) mi M ++ [a, b, d] := fun C M a b c d => app3_s2 (by rw [hset_len, hset_len]) a b c d
  have b5 : ∀ (C M : Vm.Obj) x, hget (hset (hset h i C) mi M ++ x) i = some C := fun C M x => by rw [hgetS_ne (by rw [hset_len]; exact hil) hne.symm, ← List.append_nil (hset h i C)]; exact hgetS hil C []
  have b6 : ∀ (C M a b c : Vm.Obj), hget (hset (hset h i C) mi M ++ [a, b, c]) h.length = some a := fun C M a b c => app3_g0 (by rw [hset_len, hset_len]) a b c
  have b7 : ∀ (C M : Vm.Obj) x, hget (hset (hset h i C) mi M ++ x) mi = some M := fun C M x => hgetS (by rw [hset_len]; exact hml) M x
  have hz : no8.getD n false = false := by have : ∀ n, n < 8 → no8.getD n false = false := by decide
                                           exact this n hn
  have g4 := fun HH hh => qAdd_yes need no8 rfl n hn hz (h.length + 1) HH hh
  have e6 := fun q => OpS.c_ptr ⟨key, wr, s, ans8, 0⟩ q
  have e7 := fun q => OpS.c_ans ⟨key, wr, s, ans8, 0⟩ q (n := n) (by show n < 8; omega) s
  have n0 : 0 ≤ (n : Int) := by omega
  have n8 : (n : Int) < 8 := by omega
  have n9 : ¬ (h.length ≤ mi) := by omega
  have n76 : 12 + n * 9 ≤ 76 := by omega
  have tX : ∀ a b c, CAt (hset (hset h i (coordO wait (last + 1) mi ans)) mi (.map (mapI (ops ++ [(last + 1, h.length + 2)]))) ++ [a, b, c]) i mi wait (last + 1) ans (ops ++ [(last + 1, h.length + 2)]) := fun a b c => ⟨b5 _ _ _, b7 _ _ _⟩
  have g5 := fun a b => coordEnd_ok (tX a b (.cells (OpS.c ⟨key, wr, s, ans8.set n s, 0⟩ (h.length + 1)) [])) (last + 1) (findI_app hf _) (b2 _ _ _ _ _) (by simp [ans8]) hsm hbig
  rw [delI_app hf] at g5
  simp only at g5
  have k1 := fun C1 C2 M1 M2 x => take_two hil hml C1 C2 M1 M2 hne x
  have k2 : ∀ C1 C2 M1 M2 x, hget (hset (hset (hset (hset h i C1) mi M1 ++ x) i C2) mi M2) mi = some M2 := fun C1 C2 M1 M2 x => by
    rw [← List.append_nil (hset (hset (hset (hset h i C1) mi M1 ++ x) i C2) mi M2)]
    exact hgetS (by rw [hset_len, List.length_append, hset_len, hset_len]; omega) _ _
  have k3 : ∀ C1 C2 M1 M2 x, hget (hset (hset (hset (hset h i C1) mi M1 ++ x) i C2) mi M2) i = some C2 := fun C1 C2 M1 M2 x => by
    rw [← List.append_nil (hset (hset (hset (hset h i C1) mi M1 ++ x) i C2) mi M2), hgetS_ne (by rw [hset_len, List.length_append, hset_len, hset_len]; omega) hne.symm, ← List.append_nil (hset (hset (hset h i C1) mi M1 ++ x) i C2)]
    exact hgetS (by rw [List.length_append, hset_len, hset_len]; omega) _ _
  have k4 : Vm.Obj.lt h.length (.map (mapI ops)) = true := by
    rw [mapI_lt, List.all_eq_true]
    intro x hx
    simpa using hpl x hx
  have hadd : addE [i, mi] [i, mi] = [i, mi] := by simp [addE]
  simp only [Sib.v, Ent.v, Ent.c] at g1 g2
  unfold coordO at *
  simp [-getElem?_pos, b1, b2, b3, b4, b5, b6, b7, g4, g5, k1, k2, k3, k4, e6, e7, n0, n8, n9, hneed, n76, hn, hne.symm, zeros_c, hd, e4, e5, c_coord_Coord_begin, h1, h2, h2m, g1, g2, g3, hml2, e1, hw, hil, hml, isKey, found, hget_app, hne, a1, a2, a3, a4, a6, mapupdV, mapAt, hput, hadd]
  done
end
end Go.Proofs.Ytklmddbnjookiaa.V
