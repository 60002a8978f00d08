/- What 'hints.New', 'find', 'Put' and 'Drop' compute. -/
import Derived.Test.YthkfjefoblmbhaaVmHA
import Derived.Test.YthkfjefoblmbhaaVmLS
import Derived.Test.YthkfjefoblmbhaaVmTM
set_option linter.unusedVariables false
set_option linter.unusedSimpArgs false
namespace Go.Proofs.Ythkfjefoblmbhaa.V
open Go.Vm

theorem hsf1 {h : Heap} {i : Nat} (hi : i < h.length) (o : Vm.Obj) (L : Heap) : hget (hset h i o ++ L) i = some o := by
  rw [hget_app (by simpa using hi)]
  exact hget_set i h o hi
theorem hsf2 {h : Heap} {i : Nat} (hi : i < h.length) (o q : Vm.Obj) (L : Heap) : hset (hset h i o ++ L) i q = hset h i q ++ L := by
  rw [hset_app (by simpa using hi), hset_hset]
theorem hsf3 {h : Heap} {i : Nat} {o : Vm.Obj} (hi : hget h i = some o) : hset h i o = h := by
  unfold hset
  unfold hget at hi
  obtain ⟨h1, h2⟩ := List.getElem?_eq_some_iff.1 hi
  rw [← h2, List.set_getElem_self]
theorem hsf0 {h : Heap} {i : Nat} (hi : i < h.length) (o : Vm.Obj) (L : Heap) : hset (h ++ L) i o = hset h i o ++ L := hset_app hi
theorem set_msl {H : Heap} {i k : Nat} {l : List Hnt} (h : hget H i = some (.cells [.msl k 0 l.length 11] [])) (hk : hget H k = some (.cells (l.flatMap Hnt.c) [])) (hik : k ≠ i) : setcV 11 true H (.ptr (some (i, 0))) = some (.undef, hset (hset H k .dead) i (hsO l), .no) := by
  have e1 : cellsAt H i = some ([.msl k 0 l.length 11], []) := by unfold cellsAt; rw [h]
  show bnd (cellsAt H i) _ = _
  rw [e1]
  have h1 := hnt_len l
  have h2 := hnt_pure l
  have h3 := hnt_chunks l
  unfold hsO
  generalize l.map Hnt.v = LV at *
  generalize l.flatMap Hnt.c = FL at *
  generalize l.length = n at *
  have ht : FL.take (n * 11) = FL := List.take_of_length_le (by omega)
  have hle : n * 11 ≤ FL.length := by omega
  simp [pureL, mcells, hk, msizeA, msize, ownNot, mnot, mkill, hik, hle, ht, h2, h3]
theorem hintsNew_eq (h : Heap) : callL E F.hints_New [] h = some (.ptr (some (h.length, 0)), h ++ [hsO []], .no) := by
  refine callL_of rfl fn_hints_New ?_
  have hh : hsO [] = .cells [.own []] [(0, 1000011)] := rfl
  simp [-getElem?_pos, c_hints_New, hh, chunks]
section
variable {h : Heap} {i : Nat} {l : List Hnt} (hi : hget h i = some (hsO l)) (hl : l.length ≤ 64)
include hi hl
theorem find_eq {n : Int} {k : List UInt8} {p : Nat} (hc : CutAt l n k p) : callL E F.hints_Set_find [.ptr (some (i, 0)), .int .i64 n, .str k] h = some (.tup [.int .i64 p, .bool (foundAt l n k p)], h, ⟨[], [], true⟩) := by
  refine callL_of rfl fn_hints_Set_find ?_
  have hlt := hget_lt hi
  have f1 := fun o L => hsf1 hlt o L
  have f2 := fun o q L => hsf2 hlt o q L
  have f3 := hsf3 hi
  have g0 := thw_hs (fb := h.length) hi
  have g1 : callL E F.slices_BinarySearchFunc_api_Hint_api_Hint_api_Hint [lV h.length l.length, .agg [.int .i64 n, .str k, .int .i64 0, .int .i64 0, .int .i64 0, .int .i64 0, .int .i64 0, .int .i64 0, .int .i64 0, .int .i64 0, .sl []], .fn F.hints_Set_find_c1 [] []] (hset h i (.cells [lV h.length l.length] []) ++ [lO l]) =
      some (.tup [.int .i64 p, .bool (foundAt l n k p)], hset h i (.cells [lV h.length l.length] []) ++ [lO l], .no) :=
    bsf_any l (by omega) ⟨n, ⟨k, zeroSib⟩⟩ p hc h.length _ (by simp)
  have g2 := set_hs (H := hset h i (.cells [lV h.length l.length] []) ++ [lO l]) (i := i) (k := h.length) (l := l) (f1 _ _) (by simp)
  have hlo : Vm.Obj.lt h.length (hsO l) = true := by simp [hsO, Vm.Obj.lt]
  have hlo0 : Vm.Obj.lt 0 (hsO l) = true := by simp [hsO, Vm.Obj.lt]
  have hg : ∀ L, hget (h ++ L) i = some (hsO l) := fun L => by rw [hget_app hlt]; exact hi
  simp [-getElem?_pos, -thwc_ptr, -setc_ptr, c_hints_Set_find, g0, f1, g1, g2, f2, f3, hlo, hlo0, hg]
end
theorem hs_lt (l : List Hnt) (n : Nat) : Vm.Obj.lt n (hsO l) = true := by simp [hsO, Vm.Obj.lt]
theorem hintsCopied_eq (x : Hnt) (h : Heap) : callL E F.hints_copied [x.v] h = some ((x.with (x.sib.join x.sib)).v, h, .no) := by
  refine callL_of rfl fn_hints_copied ?_
  have g := fun l => sibsJoin_eq x.ent.sib x.ent.sib (h ++ l)
  have hw := x.k_with' (x.ent.sib.join x.ent.sib)
  have hs : x.sib = x.ent.sib := rfl
  simp [-getElem?_pos, c_hints_copied, g, hw, hs]
theorem ins_eq (l : List Hnt) (x : Hnt) {p : Nat} (hp : p ≤ l.length) (hl : l.length ≤ 1000) (k : Nat) (H : Heap) (hk : hget H k = some (lO l)) :
    callL E F.slices_Insert_api_Hint_api_Hint [lV k l.length, .int .i64 p, .sl [x.v]] H = some (.msl H.length 0 (l.length + 1) 11, hset H k .dead ++ [.cells ((l.take p ++ x :: l.drop p).flatMap Hnt.c) []], ⟨[], [], true⟩) := by
  refine callL_prim rfl ?_
  unfold insertP
  have hb : (l.length + 1) * 112 ≤ 140737488355328 := by omega
  have h0 : (0 : Int) ≤ (p : Int) := by omega
  cases l with
  | nil =>
    have : p = 0 := by simpa using hp
    subst this
    have hk' : hget H k = some .emp := hk
    simp [lV, msize, mcells, hk', mkill]
  | cons y l =>
    rw [lO_pos (by simp)] at hk
    rw [lV_pos k (by simp)]
    have h1 := hnt_len (y :: l)
    have h2 := flat_take (c := Hnt.c) (z := 11) (fun x => by simp) (y :: l) p
    have h3 := flat_drop (c := Hnt.c) (z := 11) (fun x => by simp) (y :: l) p
    have h4 : ((y :: l).take p ++ x :: (y :: l).drop p).flatMap Hnt.c = ((y :: l).take p).flatMap Hnt.c ++ (x.c ++ ((y :: l).drop p).flatMap Hnt.c) := by simp
    rw [h4, ← h2, ← h3]
    generalize (y :: l).flatMap Hnt.c = FL at *
    generalize (y :: l).length = n at *
    have ht : FL.take (n * 11) = FL := List.take_of_length_le (by omega)
    have hle : n * 11 ≤ FL.length := by omega
    simp [msize, mcells, hk, mkill, ht, hle, hp, hb]
theorem del_eq (l : List Hnt) {p : Nat} (hp : p < l.length) (k : Nat) (H : Heap) (hk : hget H k = some (lO l)) :
    callL E F.slices_Delete_api_Hint_api_Hint [lV k l.length, .int .i64 p, .int .i64 (p + 1 : Nat)] H = some (.msl H.length 0 (l.length - 1) 11, hset H k .dead ++ [.cells ((l.take p ++ l.drop (p + 1)).flatMap Hnt.c) []], ⟨[], [], true⟩) := by
  refine callL_prim rfl ?_
  unfold deleteP
  rw [lO_pos (by omega)] at hk
  rw [lV_pos k (by omega)]
  have h1 := hnt_len l
  have h2 := flat_take (c := Hnt.c) (z := 11) (fun x => by simp) l p
  have h3 := flat_drop (c := Hnt.c) (z := 11) (fun x => by simp) l (p + 1)
  have h4 : (l.take p ++ l.drop (p + 1)).flatMap Hnt.c = (l.take p).flatMap Hnt.c ++ (l.drop (p + 1)).flatMap Hnt.c := by simp
  rw [h4, ← h2, ← h3]
  generalize l.flatMap Hnt.c = FL at *
  generalize l.length = n at *
  have ht : FL.take (n * 11) = FL := List.take_of_length_le (by omega)
  have hle : n * 11 ≤ FL.length := by omega
  simp [msize, mcells, hk, mkill, ht, hle, hp]

noncomputable def mayH (x : Hnt) : Bool := decide (0 ≤ x.node) && (decide (x.node < 8) && x.ent.may)
theorem hintsPut_bad (x : Hnt) (hx : mayH x = false) (a : Option (Nat × Nat)) (h : Heap) (ha : ∀ y, a = some y → True) : callL E F.hints_Set_Put [.ptr a, x.v] h = some (.tup [.bool false, .int .i64 1], h, .no) := by
  refine callL_of rfl fn_hints_Set_Put ?_
  have g := fun l => sibsMayEntry_eq x.ent (h ++ l)
  unfold mayH at hx
  cases a with
  | none => simp [-getElem?_pos, c_hints_Set_Put]
  | some y =>
    obtain ⟨i, o⟩ := y
    by_cases h0 : 0 ≤ x.node
    · by_cases h8 : x.node < 8
      · rw [decide_eq_true h0, decide_eq_true h8] at hx
        simp only [Bool.true_and] at hx
        rw [hx] at g
        have e1 : ¬ x.node < 0 := by omega
        have e2 : ¬ 8 ≤ x.node := by omega
        simp [-getElem?_pos, c_hints_Set_Put, e1, e2, g]
      · have e1 : ¬ x.node < 0 := by omega
        have e2 : 8 ≤ x.node := by omega
        simp [-getElem?_pos, c_hints_Set_Put, e1, e2]
    · have e1 : x.node < 0 := by omega
      simp [-getElem?_pos, c_hints_Set_Put, e1]
end Go.Proofs.Ythkfjefoblmbhaa.V
