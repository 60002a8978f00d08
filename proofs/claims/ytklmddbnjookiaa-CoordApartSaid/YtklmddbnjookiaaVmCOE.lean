/- What 'coord.end', 'Answers' compute. -/
import Derived.Test.YtklmddbnjookiaaVmCO
set_option linter.unusedVariables false
set_option linter.unusedSimpArgs false
namespace Go.Proofs.Ytklmddbnjookiaa.V
open Go.Vm

theorem OpS.c_len (o : OpS) (q : Nat) (ha : o.ans.length = 8) : (o.c q).length = 85 := by
  have h1 : (o.ans.flatMap Sib.c).length = o.ans.length * 9 := flat_len (c := Sib.c) (z := 9) (fun x => by simp) _
  simp only [OpS.c, List.length_cons, List.length_append, h1, ha, List.length_nil]
  simp
theorem OpS.c_s (o : OpS) (q : Nat) : ((o.c q).drop 2).take 9 = o.s.c := by
  show (o.s.c ++ _).take 9 = _
  exact List.take_left' (by simp)
theorem OpS.c_ptr (o : OpS) (q : Nat) : (o.c q)[11]? = some (.ptr (some (q, 0))) := by
  show (o.s.c ++ _)[9]? = _
  rw [List.getElem?_append_right (by simp)]
  simp
theorem sizeOk_ans (l : List Ans) : sizeOk 11 (l.map Ans.v) = true := by
  induction l with
  | nil => rfl
  | cons a l ih => simp [sizeOk, allSize]
theorem hgetS {h : Heap} {i : Nat} (hi : i < h.length) (o : Vm.Obj) (x : Heap) : hget (hset h i o ++ x) i = some o := by
  rw [hget_app (by rw [hset_len]; exact hi)]
  simp [hget, hset, hi]
theorem hgetS_ne {h : Heap} {i k : Nat} (hk : k < h.length) (hne : i ≠ k) (o : Vm.Obj) (x : Heap) : hget (hset h i o ++ x) k = hget h k := by
  rw [hget_app (by rw [hset_len]; exact hk)]
  simp [hget, hset, hne]
theorem coordEnd_ok {h : Heap} {i mi : Nat} {wait last : Int} {ans : List Ans} {ops : List (Int × Nat)} (t : CAt h i mi wait last ans ops) (n : Int) {p q : Nat} {o : OpS} (hf : findI ops n = some p) (ho : hget h p = some (.cells (o.c q) [])) (ha : o.ans.length = 8) (hs : o.s.may = true) (hb : ans.length ≤ 1000000) :
    callL E F.coord_Coord_end [.ptr (some (i, 0)), .int .i64 n, .int .i64 0] h = some (.tup [], hset (hset h i (coordO wait last mi (ans ++ [⟨n, 0, o.s⟩]))) mi (.map (mapI (delI ops n))), .w [i, mi]) := by
  refine callL_of rfl fn_coord_Coord_end ?_
  have h1 := t.co
  have h2 := t.mapOf
  have h2m := t.mp
  have h3 := findV_mapI n ops
  rw [hf] at h3
  simp only [Option.map_some] at h3
  have h4 := delV_mapI n ops
  have hne := t.ne
  have hil := hget_lt t.co
  have hml := hget_lt t.mp
  have hpl := hget_lt ho
  have e1 := OpS.c_len o q ha
  have e2 := OpS.c_s o q
  have e3 := OpS.c_ptr o q
  have g := fun x => copied22_eq hs (h ++ x)
  simp only [Sib.v] at g
  have hz := sizeOk_ans ans
  have hal : (ans.map Ans.v).length = ans.length := by simp
  have hb2 : (ans.length + 1) * 104 ≤ 140737488355328 := by omega
  have hmap : (ans ++ [(⟨n, 0, o.s⟩ : Ans)]).map Ans.v = ans.map Ans.v ++ [Ans.v ⟨n, 0, o.s⟩] := by simp
  have hni : i ≠ h.length := by omega
  have hnm : mi ≠ h.length := by omega
  have a1 : ∀ x C, hset (h ++ x) i C = hset h i C ++ x := fun x C => V.hset_app hil
  have a2 : ∀ x C, hget (hset h i C ++ x) i = some C := fun x C => hgetS hil C x
  have a3 : ∀ x C, hget (hset h i C ++ x) mi = some (.map (mapI ops)) := fun x C => by rw [hgetS_ne hml hne]; exact h2m
  have a4 : ∀ x C M, hset (hset h i C ++ x) mi M = hset (hset h i C) mi M ++ x := fun x C M => V.hset_app (by rw [hset_len]; exact hml)
  have a5 : ∀ x C M, List.take h.length (hset (hset h i C) mi M ++ x) = hset (hset h i C) mi M := fun x C M => List.take_left' (by rw [hset_len, hset_len])
  unfold coordO at *
  rw [hmap]
  generalize ans.map Ans.v = A at *
  generalize o.c q = O at *
  simp [-getElem?_pos, c_coord_Coord_end, h1, h2, h2m, h3, h4, ho, e1, e2, e3, g, hz, hal, hb2, hil, hml, hpl, isKey, found, hget_app, hni, hnm, hne, a1, a2, a3, a4, a5, deleteV, mapAt, hne.symm]
  done
theorem coordAnswers_eq {h : Heap} {i mi : Nat} {wait last : Int} {ans : List Ans} {ops : List (Int × Nat)} (t : CAt h i mi wait last ans ops) :
    callL E F.coord_Coord_Answers [.ptr (some (i, 0))] h = some (.sl (ans.map Ans.v), hset h i (coordO wait last mi []), .w [i]) := by
  refine callL_of rfl fn_coord_Coord_Answers ?_
  have h1 := t.co
  have hil := hget_lt t.co
  unfold coordO at *
  generalize ans.map Ans.v = A at *
  have hl : (hset h i (.cells [.int .i64 wait, .int .i64 last, .map (some mi), .sl []] [(3, 11)])).length = h.length := hset_len _ _ _
  have htk : ∀ C, List.take h.length (hset h i C) = hset h i C := fun C => List.take_of_length_le (by rw [hset_len]; exact Nat.le_refl _)
  simp [-getElem?_pos, c_coord_Coord_Answers, h1, hil, hl, htk]
  done
def inN (node : Int) : Bool := decide (0 ≤ node) && decide (node < 8)
def has0 (self : Int) : List Bool := if inN self then no8.set self.toNat true else no8
def ans8 : List Sib := [zeroSib, zeroSib, zeroSib, zeroSib, zeroSib, zeroSib, zeroSib, zeroSib]
def ans0 (self : Int) (s : Sib) : List Sib := if inN self then ans8.set self.toNat s else ans8
theorem zeros_c (key : List UInt8) (wr : Bool) (s : Sib) (q : Nat) : V.str key :: .bool wr :: (s.c ++ .ptr (some (q, 0)) :: [V.int .i64 0, V.int .i64 0, V.int .i64 0, V.int .i64 0, V.int .i64 0, V.int .i64 0, V.int .i64 0, V.int .i64 0, V.sl [], V.int .i64 0, V.int .i64 0, V.int .i64 0, V.int .i64 0, V.int .i64 0, V.int .i64 0, V.int .i64 0, V.int .i64 0, V.sl [], V.int .i64 0, V.int .i64 0, V.int .i64 0, V.int .i64 0, V.int .i64 0, V.int .i64 0, V.int .i64 0, V.int .i64 0, V.sl [], V.int .i64 0, V.int .i64 0, V.int .i64 0, V.int .i64 0, V.int .i64 0, V.int .i64 0, V.int .i64 0, V.int .i64 0, V.sl [], V.int .i64 0, V.int .i64 0, V.int .i64 0, V.int .i64 0, V.int .i64 0, V.int .i64 0, V.int .i64 0, V.int .i64 0, V.sl [], V.int .i64 0, V.int .i64 0, V.int .i64 0, V.int .i64 0, V.int .i64 0, V.int .i64 0, V.int .i64 0, V.int .i64 0, V.sl [], V.int .i64 0, V.int .i64 0, V.int .i64 0, V.int .i64 0, V.int .i64 0, V.int .i64 0, V.int .i64 0, V.int .i64 0, V.sl [], V.int .i64 0, V.int .i64 0, V.int .i64 0, V.int .i64 0, V.int .i64 0, V.int .i64 0, V.int .i64 0, V.int .i64 0, V.sl [], V.int .i64 0]) = OpS.c ⟨key, wr, s, ans8, 0⟩ q := rfl
theorem OpS.c_cell (o : OpS) (q : Nat) : (o.c q).all V.isCell = true := by
  have h1 : ∀ l : List Sib, (l.flatMap Sib.c).all V.isCell = true := fun l => by
    induction l with
    | nil => rfl
    | cons a l ih => rw [List.flatMap_cons, List.all_append, ih]; simp
  simp [OpS.c, h1]
theorem OpS.c_ans (o : OpS) (q : Nat) {n : Nat} (hn : n < o.ans.length) (s : Sib) : (o.c q).take (12 + n * 9) ++ (s.c ++ (o.c q).drop (12 + n * 9 + 9)) = OpS.c ⟨o.key, o.wr, o.s, o.ans.set n s, o.age⟩ q := by
  obtain ⟨x, hx, _, _⟩ := get_of_lt hn
  have h1 := flat_set (c := Sib.c) (z := 9) (fun x => by simp) (y := s) hx 0 9 (by omega) (vs := s.c) (by simp) (by simp)
  have e : o.c q = (.str o.key :: .bool o.wr :: (o.s.c ++ [.ptr (some (q, 0))])) ++ (o.ans.flatMap Sib.c ++ [.int .i64 o.age]) := by simp [OpS.c]
  have hl : (V.str o.key :: V.bool o.wr :: (o.s.c ++ [V.ptr (some (q, 0))])).length = 12 := by simp
  have hin := flat_in (c := Sib.c) (z := 9) (fun x => by simp) hn 0 9 (by omega)
  simp only [Nat.add_zero] at h1 hin
  rw [e, List.take_append, hl, List.take_of_length_le (by omega), List.drop_append, hl, List.drop_of_length_le (by omega), show 12 + n * 9 - 12 = n * 9 by omega, show 12 + n * 9 + 9 - 12 = n * 9 + 9 by omega,
    List.take_append_of_le_length (by omega), List.drop_append_of_le_length (by omega), List.nil_append, List.append_assoc]
  show _ = V.str o.key :: V.bool o.wr :: (o.s.c ++ (V.ptr (some (q, 0)) :: ((o.ans.set n s).flatMap Sib.c ++ [.int .i64 o.age])))
  rw [← h1]
  simp
theorem mapI_lt (n : Nat) : ∀ ops : List (Int × Nat), Vm.Obj.lt n (.map (mapI ops)) = ops.all fun x => decide (x.2 < n)
  | [] => rfl
  | x :: l => by
    have ih := mapI_lt n l
    simp only [Vm.Obj.lt] at ih ⊢
    simp only [mapI, List.map_cons, pairsLt, List.all_cons]
    rw [← ih]
    simp [V.lt, mapI]
section
variable {H : Heap} {n : Nat} (hn : H.length = n) (a b c d : Vm.Obj)
include hn
theorem app3_g0 : hget (H ++ [a, b, c]) n = some a := by subst hn; simp
theorem app3_g1 : hget (H ++ [a, b, c]) (n + 1) = some b := by subst hn; simp
theorem app3_g2 : hget (H ++ [a, b, c]) (n + 2) = some c := by subst hn; simp
theorem app3_s1 : hset (H ++ [a, b, c]) (n + 1) d = H ++ [a, d, c] := by subst hn; simp
theorem app3_s2 : hset (H ++ [a, b, c]) (n + 2) d = H ++ [a, b, d] := by subst hn; simp
end
theorem coordBegin_ok {h : Heap} {i mi : Nat} {wait last : Int} {ans : List Ans} {ops : List (Int × Nat)} (t : CAt h i mi wait last ans ops) (n need : Nat) (hn : n < 8) (hneed : 1 < need) (key : List UInt8) (s : Sib) (wr : Bool)
    (hm : (⟨key, s⟩ : Ent).may = true) (hl : ops.length < 64) (hl0 : 0 ≤ last) (hl1 : last < 1000000000) (hf : findI ops (last + 1) = none) :
    callL E F.coord_Coord_begin [.ptr (some (i, 0)), .int .i64 n, .int .i64 need, .str key, s.v, .bool wr] h =
      some (.tup [.int .i64 (last + 1), .int .i64 0], hset (hset h i (coordO wait (last + 1) mi ans)) mi (.map (mapI (ops ++ [(last + 1, h.length + 2)]))) ++ [.cells s.c [], .cells (cntC need (no8.set n true)) [], .cells (OpS.c ⟨key, wr, s, ans8.set n s, 0⟩ (h.length + 1)) []], ⟨[i, mi], [mi], false⟩) := by
  refine callL_of rfl fn_coord_Coord_begin ?_
  have hsm : s.may = true := by
    unfold Ent.may at hm
    simp only [Bool.and_eq_true] at hm
    exact hm.2
  have h1 := t.co
  have h2 := t.mapOf
  have h2m := t.mp
  have hne := t.ne
  have hil := hget_lt t.co
  have hml := hget_lt t.mp
  have g1 := fun x => sibsMayEntry_eq ⟨key, s⟩ (h ++ x)
  rw [hm] at g1
  have g2 := fun hp => copied22_eq hsm hp
  have g3 := fun hp => qNew_eq need hp
  have hml2 : (mapI ops).length = ops.length := by simp [mapI]
  have e1 : ¬ (64 : Int) ≤ (ops.length : Int) := by omega
  have hw : IntKind.i64.wrap (last + 1) = last + 1 := by rw [wrap_i64] <;> omega
  have a1 : ∀ x C, hset (h ++ x) i C = hset h i C ++ x := fun x C => V.hset_app hil
  have a2 : ∀ x C, hget (hset h i C ++ x) i = some C := fun x C => hgetS hil C x
  have a3 : ∀ x C, hget (hset h i C ++ x) mi = some (.map (mapI ops)) := fun x C => by rw [hgetS_ne hml hne]; exact h2m
  have a4 : ∀ x C M, hset (hset h i C ++ x) mi M = hset (hset h i C) mi M ++ x := fun x C M => V.hset_app (by rw [hset_len]; exact hml)
  have a6 : ∀ C, (hset h i C).length = h.length := fun C => hset_len _ _ _
  have hput := putV_mapI (.ptr (some (h.length + 2, 0))) hf
  have hmapp : mapI ops ++ [(.int .i64 (last + 1), .ptr (some (h.length + 2, 0)))] = mapI (ops ++ [(last + 1, h.length + 2)]) := by simp [mapI]
  rw [hmapp] at hput
  have hd : ∀ (a : V) X, List.drop 10 (s.c ++ a :: X) = X := fun a X => by
    rw [List.drop_append]; simp
  have e4 := fun q => OpS.c_len ⟨key, wr, s, ans8, 0⟩ q rfl
  have e5 := fun q => OpS.c_cell ⟨key, wr, s, ans8, 0⟩ q
  have b1 : ∀ (C M a b c : Vm.Obj), hget (hset (hset h i C) mi M ++ [a, b, c]) (h.length + 1) = some b := fun C M a b c => app3_g1 (by rw [hset_len, hset_len]) a b c
  have b2 : ∀ (C M a b c : Vm.Obj), hget (hset (hset h i C) mi M ++ [a, b, c]) (h.length + 2) = some c := fun C M a b c => app3_g2 (by rw [hset_len, hset_len]) a b c
  have b3 : ∀ (C M a b c d : Vm.Obj), hset (hset (hset h i C) mi M ++ [a, b, c]) (h.length + 1) d = hset (hset h i C) mi M ++ [a, d, c] := fun C M a b c d => app3_s1 (by rw [hset_len, hset_len]) a b c d
  have b4 : ∀ (C M a b c d : Vm.Obj), hset (hset (hset h i C) mi M ++ [a, b, c]) (h.length + 2) d = hset (hset h i C) mi M ++ [a, b, d] := fun C M a b c d => app3_s2 (by rw [hset_len, hset_len]) a b c d
  have b5 : ∀ (C M : Vm.Obj) x, hget (hset (hset h i C) mi M ++ x) i = some C := fun C M x => by rw [hgetS_ne (by rw [hset_len]; exact hil) hne.symm, ← List.append_nil (hset h i C)]; exact hgetS hil C []
  have b6 : ∀ (C M a b c : Vm.Obj), hget (hset (hset h i C) mi M ++ [a, b, c]) h.length = some a := fun C M a b c => app3_g0 (by rw [hset_len, hset_len]) a b c
  have hz : no8.getD n false = false := by have : ∀ n, n < 8 → no8.getD n false = false := by decide
                                           exact this n hn
  have g4 := fun HH hh => qAdd_yes need no8 rfl n hn hz (h.length + 1) HH hh
  have e6 := fun q => OpS.c_ptr ⟨key, wr, s, ans8, 0⟩ q
  have e7 := fun q => OpS.c_ans ⟨key, wr, s, ans8, 0⟩ q (n := n) (by show n < 8; omega) s
  have n0 : 0 ≤ (n : Int) := by omega
  have n8 : (n : Int) < 8 := by omega
  have nn : ¬ (need : Int) ≤ 1 := by omega
  have e8 : ∀ k, Vm.Obj.lt h.length (.map (mapI (ops ++ [(k, h.length + 2)]))) = false := fun k => by rw [mapI_lt, List.all_append]; simp
  have n9 : ¬ (h.length ≤ mi) := by omega
  have n76 : 12 + n * 9 ≤ 76 := by omega
  have nlt : ∀ k, ¬ (h.length + k < h.length) := fun k => by omega
  simp only [Sib.v, Ent.v, Ent.c] at g1 g2
  unfold coordO at *
  simp [-getElem?_pos, b1, b2, b3, b4, b5, b6, g4, e6, e7, n0, n8, nn, n76, e8, n9, hn, hne.symm, zeros_c, hd, e4, e5, c_coord_Coord_begin, h1, h2, h2m, g1, g2, g3, hml2, e1, hw, hil, hml, isKey, found, hget_app, hne, a1, a2, a3, a4, a6, mapupdV, mapAt, hput]
  done
end Go.Proofs.Ytklmddbnjookiaa.V
