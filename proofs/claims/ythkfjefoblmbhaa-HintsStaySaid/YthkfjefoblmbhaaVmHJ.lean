/- HintsStay. -/
import Derived.Test.YthkfjefoblmbhaaVmHI
import Derived.Test.YthkfjefoblmbhaaVmSF
import Derived.Test.YthkfjefoblmbhaaVmTN
set_option linter.unusedVariables false
set_option linter.unusedSimpArgs false
namespace Go.Proofs.Ythkfjefoblmbhaa.V
open Go.Vm

theorem stay_l0 (cs : List Cll) (hcs : cs.length ≤ 140737488355328) (B : Vm.Obj) (h : Heap) :
    loopRun (callL E) loopL h.length [3, 5, 31, 32, 33] c_tattlerlaw11_HintsStay_l0 ⟨[(3, .ptr (some (h.length, 0))), (5, .ptr (some (h.length + 1, 0))), (31, .sl (cs.map Cll.v)), (32, .int .i64 cs.length), (33, .int .i64 0)], h ++ [B, hsO []], .no⟩ =
      some (.exit 0, ⟨[(3, .ptr (some (h.length, 0))), (5, .ptr (some (h.length + 1, 0))), (31, .sl (cs.map Cll.v)), (32, .int .i64 cs.length), (33, .int .i64 cs.length), (34, .bool false)], h ++ [B, hsO (putAll [] cs)], ⟨[], [], putM cs⟩⟩) := by
  have k2 := loop_to (C := callL E) (fb := h.length) (live := [3, 5, 31, 32, 33]) (c := c_tattlerlaw11_HintsStay_l0)
    (fun j => ⟨[(3, .ptr (some (h.length, 0))), (5, .ptr (some (h.length + 1, 0))), (31, .sl (cs.map Cll.v)), (32, .int .i64 cs.length), (33, .int .i64 j)], h ++ [B, hsO (putAll [] (cs.take j))], ⟨[], [], putM (cs.take j)⟩⟩) cs.length
    (r := (.exit 0, ⟨[(3, .ptr (some (h.length, 0))), (5, .ptr (some (h.length + 1, 0))), (31, .sl (cs.map Cll.v)), (32, .int .i64 cs.length), (33, .int .i64 cs.length), (34, .bool false)], h ++ [B, hsO (putAll [] cs)], ⟨[], [], putM cs⟩⟩)) (fun j hj => ?_) ?_ rfl
  · exact k2
  · obtain ⟨c, hc, _, _⟩ := get_of_lt (l := cs) (i := j) hj
    have hlt : (j : Int) < (cs.length : Int) := by omega
    have h1 := i64_add1 (n := j) (by omega)
    have inv := HInv.nil.putAll (cs.take j)
    obtain ⟨b, g⟩ := put_at B inv c.h h [.cells c.c []]
    have hw := wrLt_cnd (n := h.length) (i := h.length + 1) (by omega) b
    rw [s_round, putAll_take hc, putM_take hc]
    generalize putAll [] (cs.take j) = P at *
    have ho := hs_lt (putL P c.h)
    simp [-getElem?_pos, c_tattlerlaw11_HintsStay_l0, hlt, hj, hc, h1, g, hw, ho]
  · rw [s_round, List.take_length]
    simp [c_tattlerlaw11_HintsStay_l0]
theorem stay_l1 (S : List Hnt) (inv : HInv S) (B : Vm.Obj) (h : Heap) (al : Bool) :
    ∃ al', loopRun (callL E) loopL h.length [3, 5, 8, 44, 45, 46] c_tattlerlaw11_HintsStay_l1 ⟨[(3, .ptr (some (h.length, 0))), (5, .ptr (some (h.length + 1, 0))), (8, .sl (S.map Hnt.v)), (44, .sl (S.map Hnt.v)), (45, .int .i64 S.length), (46, .int .i64 0)], h ++ [B, hsO S], ⟨[], [], al⟩⟩ =
      some (.exit 2, ⟨[(3, .ptr (some (h.length, 0))), (5, .ptr (some (h.length + 1, 0))), (8, .sl (S.map Hnt.v)), (44, .sl (S.map Hnt.v)), (45, .int .i64 S.length), (46, .int .i64 S.length), (47, .bool false)], h ++ [B, hsO S], ⟨[], [], al'⟩⟩) := by
  have k2 := loop_to (C := callL E) (fb := h.length) (live := [3, 5, 8, 44, 45, 46]) (c := c_tattlerlaw11_HintsStay_l1)
    (fun j => ⟨[(3, .ptr (some (h.length, 0))), (5, .ptr (some (h.length + 1, 0))), (8, .sl (S.map Hnt.v)), (44, .sl (S.map Hnt.v)), (45, .int .i64 S.length), (46, .int .i64 j)], h ++ [B, hsO S], ⟨[], [], al || decide (0 < j)⟩⟩) S.length
    (r := (.exit 2, ⟨[(3, .ptr (some (h.length, 0))), (5, .ptr (some (h.length + 1, 0))), (8, .sl (S.map Hnt.v)), (44, .sl (S.map Hnt.v)), (45, .int .i64 S.length), (46, .int .i64 S.length), (47, .bool false)], h ++ [B, hsO S], ⟨[], [], al || decide (0 < S.length)⟩⟩)) (fun j hj => ?_) ?_ rfl
  · refine ⟨al || decide (0 < S.length), ?_⟩
    rw [show (al || decide (0 < 0)) = al by simp] at k2
    exact k2
  · obtain ⟨x, hx, _, hm⟩ := get_of_lt (l := S) (i := j) hj
    have hlt : (j : Int) < (S.length : Int) := by omega
    have h1 := i64_add1 (n := j) (by have := inv.len; omega)
    obtain ⟨b, g⟩ := put_at B inv x h [.cells x.c []]
    obtain ⟨p1, p2, p3⟩ := put_again inv hm
    rw [p1, p2, p3, inv.may x hm] at g
    have hw := wrLt_cnd (n := h.length) (i := h.length + 1) (by omega) b
    have ho := hs_lt S
    rw [s_round]
    generalize hsO S = O at *
    simp [-getElem?_pos, c_tattlerlaw11_HintsStay_l1, hlt, hj, hx, h1, g, hw, ho]
  · rw [s_round]
    generalize hsO S = O at *
    simp [c_tattlerlaw11_HintsStay_l1]

/-! ### dropping what is known -/
def cut1 (S : List Hnt) (p : Hnt → Bool) (j : Nat) : List Hnt := (S.take j).filter (fun x => !p x) ++ S.drop j
theorem cut1_inv {S : List Hnt} (inv : HInv S) (p : Hnt → Bool) (j : Nat) : HInv (cut1 S p j) := by
  have hsub : List.Sublist (cut1 S p j) S := by
    unfold cut1
    have h1 : List.Sublist ((S.take j).filter (fun x => !p x) ++ S.drop j) (S.take j ++ S.drop j) := List.Sublist.append List.filter_sublist (List.Sublist.refl _)
    rwa [List.take_append_drop] at h1
  exact ⟨inv.srt.sublist hsub, fun x hx => inv.may x (hsub.subset hx), Nat.le_trans hsub.length_le inv.len⟩
theorem cut1_next {S : List Hnt} (inv : HInv S) (p : Hnt → Bool) {j : Nat} {x : Hnt} (hx : S[j]? = some x) : getH (cut1 S p j) x.node x.key = some x.sib ∧ cut1 S p (j + 1) = cnd (p x) (dropS (cut1 S p j) x.node x.key) (cut1 S p j) := by
  have hj : j < S.length := (List.getElem?_eq_some_iff.1 hx).1
  have hd : S.drop j = x :: S.drop (j + 1) := by
    rw [List.drop_eq_getElem_cons hj]
    congr 1
    exact (List.getElem?_eq_some_iff.1 hx).2
  have hmem : x ∈ cut1 S p j := by unfold cut1; rw [hd]; simp
  have hi := cut1_inv inv p j
  refine ⟨getH_mem hi.srt hmem, ?_⟩
  have ht : S.take (j + 1) = S.take j ++ [x] := by rw [List.take_add_one, hx]; rfl
  cases hp : p x with
  | false =>
    unfold cut1
    rw [ht, hd, List.filter_append]
    simp [hp]
  | true =>
    rw [cnd_true]
    unfold dropS
    have hS : HSrt ((S.take j) ++ x :: S.drop (j + 1)) := by rw [← hd, List.take_append_drop]; exact inv.srt
    rw [HSrt, List.pairwise_append, List.pairwise_cons] at hS
    obtain ⟨_, ⟨h2, _⟩, h3⟩ := hS
    unfold cut1
    rw [ht, hd, List.filter_append, List.filter_append]
    have e1 : [x].filter (fun x => !p x) = [] := by simp [hp]
    have e2 : ((S.take j).filter (fun x => !p x)).filter (fun y => !heq y x.node x.key) = (S.take j).filter (fun x => !p x) := by
      rw [List.filter_eq_self]
      intro y hy
      have hy := (List.mem_filter.1 hy).1
      have h4 := h3 y hy x (by simp)
      cases hq : heq y x.node x.key
      · rfl
      · obtain ⟨e3, e4⟩ := heq_iff.1 hq
        rw [e3, e4, ltK_irrefl] at h4; cases h4
    have e3 : (x :: S.drop (j + 1)).filter (fun y => !heq y x.node x.key) = S.drop (j + 1) := by
      rw [List.filter_cons_of_neg (by simp [heq]), List.filter_eq_self]
      intro y hy
      have h4 := h2 y hy
      cases hq : heq y x.node x.key
      · rfl
      · obtain ⟨e3, e4⟩ := heq_iff.1 hq
        rw [e3, e4, ltK_irrefl] at h4; cases h4
    rw [e1, e2, e3, List.append_nil]
theorem cut1_len {S : List Hnt} (p : Hnt → Bool) : ∀ j, (cut1 S p j).length = ((S.take j).filter (fun x => !p x)).length + (S.length - j) := fun j => by
  unfold cut1
  simp
theorem stay_l2 (S : List Hnt) (inv : HInv S) (seen : Sib) (hseen : seen.vals.length ≤ 1099511627776) (h : Heap) (al : Bool) :
    ∃ al', loopRun (callL E) loopL h.length [3, 5, 8, 13, 62, 63, 64] c_tattlerlaw11_HintsStay_l2 ⟨[(3, .ptr (some (h.length, 0))), (5, .ptr (some (h.length + 1, 0))), (8, .sl (S.map Hnt.v)), (13, .int .i64 0), (62, .sl (S.map Hnt.v)), (63, .int .i64 S.length), (64, .int .i64 0)], h ++ [.cells seen.c [], hsO S], ⟨[], [], al⟩⟩ =
      some (.exit 4, ⟨[(3, .ptr (some (h.length, 0))), (5, .ptr (some (h.length + 1, 0))), (8, .sl (S.map Hnt.v)), (13, .int .i64 (S.filter fun x => x.sib.leq seen).length), (62, .sl (S.map Hnt.v)), (63, .int .i64 S.length), (64, .int .i64 S.length), (65, .bool false)], h ++ [.cells seen.c [], hsO (S.filter fun x => !x.sib.leq seen)], ⟨[], [], al'⟩⟩) := by
  have k2 := loop_to (C := callL E) (fb := h.length) (live := [3, 5, 8, 13, 62, 63, 64]) (c := c_tattlerlaw11_HintsStay_l2)
    (fun j => ⟨[(3, .ptr (some (h.length, 0))), (5, .ptr (some (h.length + 1, 0))), (8, .sl (S.map Hnt.v)), (13, .int .i64 ((S.take j).filter fun x => x.sib.leq seen).length), (62, .sl (S.map Hnt.v)), (63, .int .i64 S.length), (64, .int .i64 j)], h ++ [.cells seen.c [], hsO (cut1 S (fun x => x.sib.leq seen) j)], ⟨[], [], al || decide (0 < j)⟩⟩) S.length
    (r := (.exit 4, ⟨[(3, .ptr (some (h.length, 0))), (5, .ptr (some (h.length + 1, 0))), (8, .sl (S.map Hnt.v)), (13, .int .i64 (S.filter fun x => x.sib.leq seen).length), (62, .sl (S.map Hnt.v)), (63, .int .i64 S.length), (64, .int .i64 S.length), (65, .bool false)], h ++ [.cells seen.c [], hsO (S.filter fun x => !x.sib.leq seen)], ⟨[], [], al || decide (0 < S.length)⟩⟩)) (fun j hj => ?_) ?_ rfl
  · refine ⟨al || decide (0 < S.length), ?_⟩
    rw [show (al || decide (0 < 0)) = al by simp] at k2
    have e0 : cut1 S (fun x => x.sib.leq seen) 0 = S := by simp [cut1]
    rw [e0] at k2
    exact k2
  · obtain ⟨x, hx, _, hm⟩ := get_of_lt (l := S) (i := j) hj
    have hlt : (j : Int) < (S.length : Int) := by omega
    have h1 := i64_add1 (n := j) (by have := inv.len; omega)
    have hi := cut1_inv inv (fun x => x.sib.leq seen) j
    obtain ⟨n1, n2⟩ := cut1_next inv (fun x => x.sib.leq seen) hx
    obtain ⟨b, g⟩ := drop_at (.cells seen.c []) hi x.node x.ent.key seen h [.cells x.c []]
    rw [show x.ent.key = x.key from rfl, n1] at g
    simp only at g n2
    rw [← n2] at g
    have hi2 := cut1_inv inv (fun x => x.sib.leq seen) (j + 1)
    have gl := len_at (.cells seen.c []) hi h [.cells x.c []]
    have gl2 := len_at (.cells seen.c []) hi2 h [.cells x.c []]
    have gq := fun H => r5Leq_eq x.ent.sib seen hseen H
    have hw := wrLt_cnd (n := h.length) (i := h.length + 1) (by omega) b
    have ho := hs_lt (cut1 S (fun x => x.sib.leq seen) (j + 1))
    have hsib : x.sib = x.ent.sib := rfl
    rw [hsib] at g
    have hkey : x.key = x.ent.key := rfl
    rw [hkey] at g
    have hcnt : ((S.take j).filter fun x => x.sib.leq seen).length ≤ 64 := by
      have := List.length_filter_le (fun x : Hnt => x.sib.leq seen) (S.take j)
      have := List.length_take_le j S
      have := inv.len
      omega
    have h2 := i64_add1 (n := ((S.take j).filter fun x => x.sib.leq seen).length) (by omega)
    have ht : S.take (j + 1) = S.take j ++ [x] := by rw [List.take_add_one, hx]; rfl
    rw [s_round]
    cases hq : x.ent.sib.leq seen with
    | true =>
      have hc1 : ((S.take (j + 1)).filter fun x => x.sib.leq seen).length = ((S.take j).filter fun x => x.sib.leq seen).length + 1 := by
        rw [ht, List.filter_append, List.filter_cons_of_pos (by exact hq)]; simp
      rw [hc1]
      rw [hq] at g gq
      have hne : (((cut1 S (fun x => x.sib.leq seen) (j + 1)).length : Int) == ((cut1 S (fun x => x.sib.leq seen) j).length : Int)) = false := by
        have l1 := cut1_len (S := S) (fun x => x.sib.leq seen) (j + 1)
        have l0 := cut1_len (S := S) (fun x => x.sib.leq seen) j
        have l2 : ((S.take (j + 1)).filter fun x => !x.sib.leq seen) = (S.take j).filter fun x => !x.sib.leq seen := by
          rw [ht, List.filter_append, List.filter_cons_of_neg (by show ¬ (!x.ent.sib.leq seen) = true; rw [hq]; simp)]; simp
        rw [l2] at l1
        simp only [beq_eq_false_iff_ne]
        omega
      generalize ((S.take j).filter fun x => x.sib.leq seen).length = cnt at *
      generalize cut1 S (fun x => x.sib.leq seen) (j + 1) = P1 at *
      generalize cut1 S (fun x => x.sib.leq seen) j = P0 at *
      simp [-getElem?_pos, -Int.natCast_add, c_tattlerlaw11_HintsStay_l2, hlt, hj, hx, h1, h2, g, gl, gl2, gq, hw, ho, hne]
    | false =>
      have hc1 : ((S.take (j + 1)).filter fun x => x.sib.leq seen).length = ((S.take j).filter fun x => x.sib.leq seen).length := by
        rw [ht, List.filter_append, List.filter_cons_of_neg (by show ¬ x.ent.sib.leq seen = true; rw [hq]; simp)]; simp
      rw [hc1]
      have n3 : cut1 S (fun x => x.sib.leq seen) (j + 1) = cut1 S (fun x => x.sib.leq seen) j := by
        rw [n2]
        show cnd (x.ent.sib.leq seen) _ _ = _
        rw [hq]; rfl
      rw [n3] at g gl2 ho ⊢
      rw [hq] at g gq
      generalize ((S.take j).filter fun x => x.sib.leq seen).length = cnt at *
      generalize cut1 S (fun x => x.sib.leq seen) j = P0 at *
      simp [-getElem?_pos, -Int.natCast_add, c_tattlerlaw11_HintsStay_l2, hlt, hj, hx, h1, h2, g, gl, gl2, gq, hw, ho]
  · rw [s_round, List.take_length]
    have e0 : cut1 S (fun x => x.sib.leq seen) S.length = S.filter fun x => !x.sib.leq seen := by simp [cut1]
    rw [e0]
    simp [c_tattlerlaw11_HintsStay_l2]
theorem leq_self {s : Sib} (h : s.may = true) : s.leq s = true := leq_of h h (join_self h)
theorem stay_l3 (T : List Hnt) (inv : HInv T) (n0 : Nat) (hn0 : n0 ≤ 64) (A : V) (B : Vm.Obj) (h : Heap) (al : Bool) (hA : ∀ n, A.lt n = true) :
    ∃ al', loopRun (callL E) loopL h.length [5, 8, 13, 100, 101, 102] c_tattlerlaw11_HintsStay_l3 ⟨[(5, .ptr (some (h.length + 1, 0))), (8, A), (13, .int .i64 n0), (100, .sl (T.map Hnt.v)), (101, .int .i64 T.length), (102, .int .i64 0)], h ++ [B, hsO T], ⟨[], [], al⟩⟩ =
      some (.exit 6, ⟨[(5, .ptr (some (h.length + 1, 0))), (8, A), (13, .int .i64 (n0 + T.length : Nat)), (100, .sl (T.map Hnt.v)), (101, .int .i64 T.length), (102, .int .i64 T.length), (103, .bool false)], h ++ [B, hsO []], ⟨[], [], al'⟩⟩) := by
  have k2 := loop_to (C := callL E) (fb := h.length) (live := [5, 8, 13, 100, 101, 102]) (c := c_tattlerlaw11_HintsStay_l3)
    (fun j => ⟨[(5, .ptr (some (h.length + 1, 0))), (8, A), (13, .int .i64 (n0 + j : Nat)), (100, .sl (T.map Hnt.v)), (101, .int .i64 T.length), (102, .int .i64 j)], h ++ [B, hsO (cut1 T (fun _ => true) j)], ⟨[], [], al || decide (0 < j)⟩⟩) T.length
    (r := (.exit 6, ⟨[(5, .ptr (some (h.length + 1, 0))), (8, A), (13, .int .i64 (n0 + T.length : Nat)), (100, .sl (T.map Hnt.v)), (101, .int .i64 T.length), (102, .int .i64 T.length), (103, .bool false)], h ++ [B, hsO []], ⟨[], [], al || decide (0 < T.length)⟩⟩)) (fun j hj => ?_) ?_ rfl
  · refine ⟨al || decide (0 < T.length), ?_⟩
    rw [show (al || decide (0 < 0)) = al by simp] at k2
    have e0 : cut1 T (fun _ => true) 0 = T := by simp [cut1]
    rw [e0] at k2
    exact k2
  · obtain ⟨x, hx, _, hm⟩ := get_of_lt (l := T) (i := j) hj
    have hlt : (j : Int) < (T.length : Int) := by omega
    have h1 := i64_add1 (n := j) (by have := inv.len; omega)
    have h2 := i64_add1 (n := n0 + j) (by have := inv.len; omega)
    have hi := cut1_inv inv (fun _ => true) j
    obtain ⟨n1, n2⟩ := cut1_next inv (fun _ => true) hx
    obtain ⟨b, g⟩ := drop_at B hi x.node x.ent.key x.ent.sib h [.cells x.c []]
    rw [show x.ent.key = x.key from rfl, n1] at g
    have hls := leq_self (mayH_sib (inv.may x hm))
    have hls' : x.sib.leq x.ent.sib = true := hls
    simp only [hls'] at g
    simp only [cnd_true] at g n2
    rw [← n2] at g
    have hkey : x.key = x.ent.key := rfl
    rw [hkey] at g
    have hw := wrLt_cnd (n := h.length) (i := h.length + 1) (by omega) b
    have ho := hs_lt (cut1 T (fun _ => true) (j + 1))
    rw [s_round]
    generalize cut1 T (fun _ => true) (j + 1) = P1 at *
    generalize cut1 T (fun _ => true) j = P0 at *
    rw [← Nat.add_assoc]
    generalize n0 + j = m at *
    simp [-getElem?_pos, -Int.natCast_add, c_tattlerlaw11_HintsStay_l3, hlt, hj, hx, h1, h2, g, hw, ho, hA]
  · rw [s_round]
    have e0 : cut1 T (fun _ => true) T.length = [] := by simp [cut1]
    rw [e0]
    simp [-Int.natCast_add, c_tattlerlaw11_HintsStay_l3]
end Go.Proofs.Ythkfjefoblmbhaa.V
