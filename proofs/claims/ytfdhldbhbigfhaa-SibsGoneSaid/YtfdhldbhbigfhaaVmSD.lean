/- What the other functions of 'sibs' compute: live data, dots, reaped; Leq. -/
import Derived.Test.YtfdhldbhbigfhaaVmSC
import Derived.Test.YtfdhldbhbigfhaaVmLS
set_option linter.unusedVariables false
set_option linter.unusedSimpArgs false
namespace Go.Proofs.Ytfdhldbhbigfhaa.V
open Go.Vm

theorem slices_IndexFunc_api_Value_api_Value_loop (l : List Val) (hl : l.length ≤ 4611686018427387904) (f : Nat) (caps : List V) (p : Val → Bool) (h : Heap) (fb : Nat) (hp : ∀ x ∈ l, callL E f (Val.v x :: caps) h = some (.bool (p x), h, .no)) (hcap : V.ltL h.length caps = true) : ∀ (k j : Nat), j + k = l.length →
    loopRun (callL E) loopL fb [0, 1, 7, 8] c_slices_IndexFunc_api_Value_api_Value_l0 ⟨[(0, .sl (l.map Val.v)), (1, .fn f [] caps), (7, .int .i64 l.length), (8, .int .i64 j)], h, .no⟩ =
      match (l.drop j).findIdx? p with
      | some i => some (.ret, ⟨[(4, .int .i64 ((j + i : Nat) : Int))], h, .no⟩)
      | none => some (.exit 0, ⟨[(0, .sl (l.map Val.v)), (1, .fn f [] caps), (7, .int .i64 l.length), (8, .int .i64 l.length), (9, .bool false)], h, .no⟩) := by
  intro k
  induction k with
  | zero =>
    intro j hj
    have : j = l.length := by omega
    subst this
    rw [List.drop_length]
    refine loop_exit ?_
    rw [s_round]
    simp [c_slices_IndexFunc_api_Value_api_Value_l0]
  | succ k ih =>
    intro j hj
    have hlt : (j : Int) < (l.length : Int) := by omega
    obtain ⟨x, hx, hd, hm⟩ := get_of_lt (l := l) (i := j) (by omega)
    have h1 := i64_add1 (n := j) (by omega)
    have h2 := hp x hm
    rw [hd, List.findIdx?_cons]
    cases hb : p x with
    | true =>
      rw [hb] at h2
      refine loop_ret ?_
      rw [s_round]
      simp [-getElem?_pos, c_slices_IndexFunc_api_Value_api_Value_l0, hlt, hx, h2]
    | false =>
      rw [hb] at h2
      have h3 := ih (j + 1) (by omega)
      have h4 : roundV (callL E) loopL fb [0, 1, 7, 8] c_slices_IndexFunc_api_Value_api_Value_l0 ⟨[(0, .sl (l.map Val.v)), (1, .fn f [] caps), (7, .int .i64 l.length), (8, .int .i64 j)], h, .no⟩ =
          some (.normal, ⟨[(0, .sl (l.map Val.v)), (1, .fn f [] caps), (7, .int .i64 l.length), (8, .int .i64 ((j + 1 : Nat) : Int))], h, .no⟩) := by
        rw [s_round]
        simp [-getElem?_pos, c_slices_IndexFunc_api_Value_api_Value_l0, hlt, hx, h2, h1, hcap]
      cases hf : (l.drop (j + 1)).findIdx? p with
      | none => rw [hf] at h3; exact loop_next h4 h3
      | some i =>
        rw [hf] at h3
        refine loop_next h4 (h3.trans ?_)
        have e : j + 1 + i = j + (i + 1) := by omega
        simp only [Option.map_some, e]
theorem slices_IndexFunc_api_Value_api_Value_eq (l : List Val) (hl : l.length ≤ 4611686018427387904) (f : Nat) (caps : List V) (p : Val → Bool) (h : Heap) (hp : ∀ x ∈ l, callL E f (Val.v x :: caps) h = some (.bool (p x), h, .no)) (hcap : V.ltL h.length caps = true) :
    callL E F.slices_IndexFunc_api_Value_api_Value [.sl (l.map Val.v), .fn f [] caps] h = some (idxV (l.findIdx? p), h, .no) := by
  refine callL_of rfl fn_slices_IndexFunc_api_Value_api_Value ?_
  have h1 := slices_IndexFunc_api_Value_api_Value_loop l hl f caps p h h.length hp hcap l.length 0 (by omega)
  rw [List.drop_zero, show ((0 : Nat) : Int) = 0 from rfl] at h1
  cases hf : l.findIdx? p with
  | none => rw [hf] at h1; simp [c_slices_IndexFunc_api_Value_api_Value, h1, idxV]
  | some i => rw [hf] at h1; simp [c_slices_IndexFunc_api_Value_api_Value, h1, idxV]
theorem containsV_eq (l : List Val) (hl : l.length ≤ 4611686018427387904) (f : Nat) (caps : List V) (p : Val → Bool) (h : Heap) (hp : ∀ x ∈ l, callL E f (Val.v x :: caps) h = some (.bool (p x), h, .no)) (hcap : V.ltL h.length caps = true) :
    callL E F.slices_ContainsFunc_api_Value_api_Value [.sl (l.map Val.v), .fn f [] caps] h = some (.bool (l.any p), h, .no) := by
  refine callL_of rfl fn_slices_ContainsFunc_api_Value_api_Value ?_
  have h1 := slices_IndexFunc_api_Value_api_Value_eq l hl f caps p h hp hcap
  have h2 : (l.findIdx? p).isSome = l.any p := by rw [List.findIdx?_isSome]
  simp [c_slices_ContainsFunc_api_Value_api_Value, h1, idx_ge, h2]
theorem reapC_eq (v : Val) (h : Heap) : callL E F.sibs_Reap_c1 [v.v] h = some (.bool (!v.dead), h, .no) := by
  refine callL_of rfl fn_sibs_Reap_c1 ?_
  simp [-getElem?_pos, c_sibs_Reap_c1]
/-! ### live data -/
def lives : List Val → List (List UInt8)
  | [] => []
  | v :: l => cnd v.dead (lives l) (v.data :: lives l)
def liveV (out : List (List UInt8)) (v : Val) : List (List UInt8) := cnd v.dead out (out ++ [v.data])
theorem lives_fold : ∀ (l : List Val) (out : List (List UInt8)), l.foldl liveV out = out ++ lives l
  | [], out => by simp [lives]
  | v :: l, out => by
    rw [List.foldl_cons, lives_fold l]
    simp only [liveV, lives]
    cases v.dead <;> simp
theorem liveV_len (out : List (List UInt8)) (v : Val) : (liveV out v).length ≤ out.length + 1 := by
  unfold liveV
  cases v.dead <;> simp
theorem foldl_takeG {α β : Type} {f : β → α → β} {l : List α} {i : β} {j : Nat} {x : α} (h : l[j]? = some x) : (l.take (j + 1)).foldl f i = f ((l.take j).foldl f i) x := by
  rw [List.take_add_one, h, List.foldl_append]; rfl
theorem foldl_lenG {α β : Type} {f : List β → α → List β} (hf : ∀ out v, (f out v).length ≤ out.length + 1) : ∀ (l : List α) (out : List β), (l.foldl f out).length ≤ out.length + l.length
  | [], out => by simp
  | v :: l, out => by
    have h1 := foldl_lenG hf l (f out v)
    have h2 := hf out v
    simp only [List.foldl_cons, List.length_cons]
    omega
theorem sizeOk_byts (l : List (List UInt8)) : sizeOk 1 (l.map bytesV) = true := by cases l <;> simp [bytesV]
theorem live_loop (s : Sib) (hs : s.may = true) (A : Vm.Obj) (h : Heap) :
    loopRun (callL E) loopL h.length [3, 10, 11, 12] c_sibs_Live_l0 ⟨[(3, .sl []), (10, .sl (s.vals.map Val.v)), (11, .int .i64 s.vals.length), (12, .int .i64 0)], h ++ [A], .no⟩ =
      some (.exit 0, ⟨[(3, .sl ((lives s.vals).map bytesV)), (10, .sl (s.vals.map Val.v)), (11, .int .i64 s.vals.length), (12, .int .i64 s.vals.length), (13, .bool false)], h ++ [A], .no⟩) := by
  have hfin : lives s.vals = s.vals.foldl liveV [] := by rw [lives_fold]; simp
  rw [hfin]
  refine loop_to (C := callL E) (fb := h.length) (live := [3, 10, 11, 12]) (c := c_sibs_Live_l0)
    (fun j => ⟨[(3, .sl (((s.vals.take j).foldl liveV []).map bytesV)), (10, .sl (s.vals.map Val.v)), (11, .int .i64 s.vals.length), (12, .int .i64 j)], h ++ [A], .no⟩) s.vals.length (fun j hj => ?_) ?_ rfl
  · obtain ⟨v, hx, _, hm⟩ := get_of_lt (l := s.vals) (i := j) hj
    have hlt : (j : Int) < (s.vals.length : Int) := by omega
    have hs16 := may_len hs
    have h1 := i64_add1 (n := j) (by omega)
    have hvd := may_data hs hm
    have hlen := foldl_lenG liveV_len (s.vals.take j) []
    simp only [List.length_take, List.length_nil] at hlen
    rw [foldl_takeG hx]
    generalize (s.vals.take j).foldl liveV [] = q at hlen ⊢
    have hq : (q.length + 1) * 24 ≤ 140737488355328 := by omega
    have hql : (q.map bytesV).length = q.length := by simp
    have hqs : sizeOk 1 (q.map bytesV) = true := sizeOk_byts q
    have g3 := fun l => clone_eq v.data (by omega) (h ++ l)
    have hL : liveV q v = cnd v.dead q (q ++ [v.data]) := rfl
    rw [hL, s_round]
    cases hd : v.dead with
    | true =>
      simp only [cnd_true]
      generalize q.map bytesV = Q at *
      simp [-getElem?_pos, c_sibs_Live_l0, hlt, hx, h1, hj, hd]
      done
    | false =>
      simp only [cnd_false, List.map_append, List.map_cons, List.map_nil]
      generalize q.map bytesV = Q at *
      simp [-getElem?_pos, c_sibs_Live_l0, hlt, hx, h1, hj, hd, g3, hql, hqs, hq, bytesV]
      done
  · rw [s_round, List.take_length]
    simp [c_sibs_Live_l0]
noncomputable def liveS (s : Sib) : List (List UInt8) := cnd s.may (lives s.vals) []
theorem live_eq (s : Sib) (h : Heap) : callL E F.sibs_Live [s.v] h = some (.sl ((liveS s).map bytesV), h, .no) := by
  refine callL_of rfl fn_sibs_Live ?_
  have g1 := fun l => sibsMay_eq s (h ++ l)
  simp only [Sib.v] at g1
  unfold liveS
  cases hs : s.may with
  | false =>
    rw [hs] at g1
    simp [-getElem?_pos, c_sibs_Live, g1]
  | true =>
    rw [hs] at g1
    have lp := live_loop s hs (.cells s.c []) h
    simp only [cnd_true]
    generalize (lives s.vals).map bytesV = Q at *
    simp [-getElem?_pos, c_sibs_Live, g1, lp]
    done
/-! ### dots -/
def sdots (s : Sib) : List Dot := s.vals.map Val.dot
noncomputable def dotsS (s : Sib) : List Dot := cnd s.may (sdots s) []
/-! ### reaped -/
theorem scopied_loop (s : Sib) (hs : s.may = true) (B : Vm.Obj) (h : Heap) :
    loopRun (callL E) loopL h.length [1, 2, 3, 7, 8, 9] c_sibs_copied_l0 ⟨[(1, .ptr (some (h.length, 0))), (2, .ptr (some (h.length + 1, 0))), (3, .sl []), (7, .sl (s.vals.map Val.v)), (8, .int .i64 s.vals.length), (9, .int .i64 0)], h ++ [.cells s.c [], B], .no⟩ =
      some (.exit 0, ⟨[(1, .ptr (some (h.length, 0))), (2, .ptr (some (h.length + 1, 0))), (3, .sl (s.vals.map Val.v)), (7, .sl (s.vals.map Val.v)), (8, .int .i64 s.vals.length), (9, .int .i64 s.vals.length), (10, .bool false)], h ++ [.cells s.c [], B], .no⟩) := by
  refine loop_to (C := callL E) (fb := h.length) (live := [1, 2, 3, 7, 8, 9]) (c := c_sibs_copied_l0)
    (fun j => ⟨[(1, .ptr (some (h.length, 0))), (2, .ptr (some (h.length + 1, 0))), (3, .sl ((s.vals.take j).map Val.v)), (7, .sl (s.vals.map Val.v)), (8, .int .i64 s.vals.length), (9, .int .i64 j)], h ++ [.cells s.c [], B], .no⟩) s.vals.length (fun j hj => ?_) ?_ rfl
  · obtain ⟨v, hx, _, hm⟩ := get_of_lt (l := s.vals) (i := j) hj
    have hlt : (j : Int) < (s.vals.length : Int) := by omega
    have hs16 := may_len hs
    have h1 := i64_add1 (n := j) (by omega)
    have hvd := may_data hs hm
    have e1 : (s.vals.take (j + 1)).map Val.v = (s.vals.take j).map Val.v ++ [.agg v.c] := by rw [List.take_add_one, hx]; simp
    have hql : ((s.vals.take j).map Val.v).length = j := by simp; omega
    have hqs : sizeOk 4 ((s.vals.take j).map Val.v) = true := sizeOk_vals _
    have hq : (j + 1) * 48 ≤ 140737488355328 := by omega
    have g3 := fun l => own_eq v (by omega) (h ++ l)
    simp only [Val.v] at g3
    rw [e1]
    generalize (s.vals.take j).map Val.v = Q at *
    rw [s_round]
    simp [-getElem?_pos, c_sibs_copied_l0, hlt, hx, h1, hj, hql, hqs, hq, g3]
    done
  · rw [s_round, List.take_length]
    simp [c_sibs_copied_l0]
theorem scopied_eq (s : Sib) (hs : s.may = true) (h : Heap) : callL E F.sibs_copied [s.v] h = some (s.v, h, .no) := by
  refine callL_of rfl fn_sibs_copied ?_
  have lp := scopied_loop s hs (.cells zeroSib.c []) h
  simp only [zeroSib_c] at lp
  have hcc : s.seen.c ++ [V.sl (s.vals.map Val.v)] = s.c := rfl
  have ht : List.take 8 s.c = s.seen.c := by simp
  have hd9 : ∀ x : V, List.drop 9 (s.seen.c ++ [x]) = [] := fun x => List.drop_of_length_le (by simp)
  simp [-getElem?_pos, c_sibs_copied, lp, hcc, ht, hd9]
  done
noncomputable def reapS (s : Sib) : Sib := cnd s.may (cnd (s.vals.any fun v => !v.dead) s ⟨s.seen, []⟩) zeroSib
theorem reap_eq (s : Sib) (h : Heap) : callL E F.sibs_Reap [s.v] h = some ((reapS s).v, h, .no) := by
  refine callL_of rfl fn_sibs_Reap ?_
  have g1 := fun l => sibsMay_eq s (h ++ l)
  unfold reapS
  cases hs : s.may with
  | false =>
    rw [hs] at g1
    simp only [Sib.v] at g1
    simp [-getElem?_pos, c_sibs_Reap, g1, zeroSib_c]
  | true =>
    rw [hs] at g1
    have hs16 := may_len hs
    have g2 := fun l => containsV_eq s.vals (by omega) F.sibs_Reap_c1 [] (fun v => !v.dead) (h ++ l) (fun x _ => reapC_eq x _) (by simp)
    have g3 := fun l => scopied_eq s hs (h ++ l)
    simp only [Sib.v] at g1 g3
    have hcc : s.seen.c ++ [V.sl []] = Sib.c ⟨s.seen, []⟩ := rfl
    cases ha : s.vals.any fun v => !v.dead with
    | true =>
      rw [ha] at g2
      simp [-getElem?_pos, c_sibs_Reap, g1, g2, g3]
    | false =>
      rw [ha] at g2
      have ht : List.take 8 s.c = s.seen.c := by simp
      simp [-getElem?_pos, c_sibs_Reap, g1, g2, hcc, ht]
      done
noncomputable def _root_.Go.Vm.Sib.leq (a b : Sib) : Bool := a.may && (b.may && decide (a.join b = b))
end Go.Proofs.Ytfdhldbhbigfhaa.V
