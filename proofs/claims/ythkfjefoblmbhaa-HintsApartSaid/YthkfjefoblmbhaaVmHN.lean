/- HintsApart. -/
import Derived.Test.YthkfjefoblmbhaaVmHL
set_option linter.unusedVariables false
set_option linter.unusedSimpArgs false
namespace Go.Proofs.Ythkfjefoblmbhaa.V
open Go.Vm

def nodeH (l : List Hnt) (n : Int) : List Hnt := l.filter fun x => decide (x.node = n)
theorem getH_node (l : List Hnt) (n n' : Int) (k : List UInt8) : getH (nodeH l n) n' k = if n' = n then getH l n' k else none := by
  unfold getH nodeH
  rw [List.find?_filter]
  by_cases h : n' = n
  · subst h
    rw [if_pos rfl]
    congr 1
    congr 1
    funext x
    cases h2 : heq x n' k
    · simp
    · obtain ⟨e, _⟩ := heq_iff.1 h2
      simp [e]
  · rw [if_neg h]
    have : l.find? (fun a => decide ((decide (a.node = n)) = true ∧ heq a n' k = true)) = none := by
      rw [List.find?_eq_none]
      intro x _ hx
      simp only [decide_eq_true_eq] at hx
      obtain ⟨e1, e2⟩ := hx
      obtain ⟨e3, _⟩ := heq_iff.1 e2
      exact h (e3.symm.trans e1)
    rw [this]; rfl
theorem node_srt {l : List Hnt} (h : HSrt l) (n : Int) : HSrt (nodeH l n) := h.filter _
theorem node_put {l : List Hnt} (h : HSrt l) {x : Hnt} : nodeH (putH l x) x.node = putH (nodeH l x.node) x :=
  hs_ext_get (node_srt (putH_srt h) _) (putH_srt (node_srt h _)) fun n k => by
    rw [getH_node, getH_putH n k h, getH_putH n k (node_srt h _), getH_node]
    by_cases e : n = x.node
    · subst e
      simp
    · have : ¬ (x.node = n ∧ x.key = k) := fun ⟨e1, _⟩ => e e1.symm
      simp [e, this]
theorem node_other {l : List Hnt} (h : HSrt l) {x : Hnt} {n : Int} (hn : x.node ≠ n) : nodeH (putH l x) n = nodeH l n :=
  hs_ext_get (node_srt (putH_srt h) _) (node_srt h _) fun n' k => by
    rw [getH_node, getH_putH n' k h, getH_node]
    by_cases e : n' = n
    · subst e
      have : ¬ (x.node = n' ∧ x.key = k) := fun ⟨e1, _⟩ => hn e1
      simp [this]
    · simp [e]
theorem putL_room {l : List Hnt} (h : l.length < 64) (x : Hnt) : putL l x = cnd (mayH x) (putH l x) l := by
  unfold putL
  rw [decide_eq_true h]
  cases mayH x <;> simp
theorem putL_len {l : List Hnt} (h : HSrt l) (x : Hnt) : (putL l x).length ≤ l.length + 1 := by
  unfold putL
  cases mayH x && ((getH l x.node x.key).isSome || decide (l.length < 64))
  · simp
  · rw [cnd_true, putH_len h]
    cases (getH l x.node x.key).isSome <;> simp
theorem apart_all (n : Int) : ∀ (cs : List Cll) (A : List Hnt), HInv A → A.length + cs.length ≤ 64 → putAll (nodeH A n) (cs.filter fun c => decide (c.h.node = n)) = nodeH (putAll A cs) n
  | [], _, _, _ => rfl
  | c :: cs, A, inv, hl => by
    have hA : A.length < 64 := by simp at hl; omega
    have hB : (nodeH A n).length < 64 := Nat.lt_of_le_of_lt (List.length_filter_le _ _) hA
    have inv2 := inv.putL c.h
    have hl2 : (putL A c.h).length + cs.length ≤ 64 := by
      have := putL_len inv.srt c.h
      simp at hl
      omega
    have ih := apart_all n cs (putL A c.h) inv2 hl2
    have e : nodeH (putL A c.h) n = cnd (decide (c.h.node = n)) (putL (nodeH A n) c.h) (nodeH A n) := by
      rw [putL_room hA, putL_room hB]
      cases hm : mayH c.h with
      | false => cases decide (c.h.node = n) <;> rfl
      | true =>
        rw [cnd_true, cnd_true]
        by_cases hn : c.h.node = n
        · subst hn
          rw [decide_eq_true rfl, cnd_true, node_put inv.srt]
        · rw [decide_eq_false hn, cnd_false, node_other inv.srt hn]
    rw [e] at ih
    show putAll (nodeH A n) ((c :: cs).filter fun c => decide (c.h.node = n)) = nodeH (putAll (putL A c.h) cs) n
    rw [← ih]
    by_cases hn : c.h.node = n
    · rw [List.filter_cons_of_pos (by simpa using hn), decide_eq_true hn, cnd_true]
      rfl
    · rw [List.filter_cons_of_neg (by simpa using hn), decide_eq_false hn, cnd_false]
theorem forH_node (l : List Hnt) (n : Int) : forH (nodeH l n) n = forH l n := by
  unfold forH nodeH
  rw [List.filter_filter]
  simp

/-! ### the two sets -/
theorem put_at0 {l : List Hnt} (inv : HInv l) (x : Hnt) (h L : Heap) : ∃ b, callL E F.hints_Set_Put [.ptr (some (h.length, 0)), x.v] (h ++ hsO l :: L) =
    some (.tup [.bool (putB l x), .int .i64 (putE l x)], h ++ hsO (putL l x) :: L, ⟨cnd b [h.length] [], [], mayH x⟩) := by
  have hi : hget (h ++ hsO l :: L) h.length = some (hsO l) := by rw [hget_local0]; rfl
  have h1 := hintsPut_eq hi inv x
  rw [hset_local0] at h1
  exact ⟨_, h1⟩
noncomputable def nodeA (cs : List Cll) (n : Int) : List Hnt := putAll [] (cs.filter fun c => decide (c.h.node = n))
theorem nodeA_take {cs : List Cll} {j : Nat} {c : Cll} (hc : cs[j]? = some c) (n : Int) : nodeA (cs.take (j + 1)) n = cnd (decide (c.h.node = n)) (putL (nodeA (cs.take j) n) c.h) (nodeA (cs.take j) n) := by
  unfold nodeA putAll
  rw [List.take_add_one, hc, List.filter_append, List.foldl_append]
  by_cases hn : c.h.node = n
  · simp [hn]
  · simp [hn]
theorem apart_l0 (cs : List Cll) (hcs : cs.length ≤ 140737488355328) (n : Int) (h : Heap) :
    loopRun (callL E) loopL h.length [1, 5, 6, 20, 21, 22] c_tattlerlaw11_HintsApart_l0 ⟨[(1, .int .i64 n), (5, .ptr (some (h.length, 0))), (6, .ptr (some (h.length + 1, 0))), (20, .sl (cs.map Cll.v)), (21, .int .i64 cs.length), (22, .int .i64 0)], h ++ [hsO [], hsO []], .no⟩ =
      some (.exit 0, ⟨[(1, .int .i64 n), (5, .ptr (some (h.length, 0))), (6, .ptr (some (h.length + 1, 0))), (20, .sl (cs.map Cll.v)), (21, .int .i64 cs.length), (22, .int .i64 cs.length), (23, .bool false)], h ++ [hsO (putAll [] cs), hsO (nodeA cs n)], ⟨[], [], putM cs⟩⟩) := by
  have k2 := loop_to (C := callL E) (fb := h.length) (live := [1, 5, 6, 20, 21, 22]) (c := c_tattlerlaw11_HintsApart_l0)
    (fun j => ⟨[(1, .int .i64 n), (5, .ptr (some (h.length, 0))), (6, .ptr (some (h.length + 1, 0))), (20, .sl (cs.map Cll.v)), (21, .int .i64 cs.length), (22, .int .i64 j)], h ++ [hsO (putAll [] (cs.take j)), hsO (nodeA (cs.take j) n)], ⟨[], [], putM (cs.take j)⟩⟩) cs.length
    (r := (.exit 0, ⟨[(1, .int .i64 n), (5, .ptr (some (h.length, 0))), (6, .ptr (some (h.length + 1, 0))), (20, .sl (cs.map Cll.v)), (21, .int .i64 cs.length), (22, .int .i64 cs.length), (23, .bool false)], h ++ [hsO (putAll [] cs), hsO (nodeA cs n)], ⟨[], [], putM cs⟩⟩)) (fun j hj => ?_) ?_ rfl
  · exact k2
  · obtain ⟨c, hc, _, _⟩ := get_of_lt (l := cs) (i := j) hj
    have hlt : (j : Int) < (cs.length : Int) := by omega
    have h1 := i64_add1 (n := j) (by omega)
    have inv := HInv.nil.putAll (cs.take j)
    have inv' : HInv (nodeA (cs.take j) n) := HInv.nil.putAll _
    obtain ⟨b, g⟩ := put_at0 inv c.h h [hsO (nodeA (cs.take j) n), .cells c.c []]
    obtain ⟨b', g'⟩ := put_at (hsO (putL (putAll [] (cs.take j)) c.h)) inv' c.h h [.cells c.c []]
    have hw := wrLt_cnd (n := h.length) (i := h.length) (by omega) b
    have hw' := wrLt_cnd (n := h.length) (i := h.length + 1) (by omega) b'
    rw [s_round, putAll_take hc, putM_take hc, nodeA_take hc]
    generalize putM (cs.take j) = pm at *
    generalize nodeA (cs.take j) n = P' at *
    generalize putAll [] (cs.take j) = P at *
    have ho := hs_lt (putL P c.h)
    have ho' := hs_lt (putL P' c.h)
    have ho2 := hs_lt P'
    by_cases hn : c.h.node = n
    · rw [decide_eq_true hn, cnd_true]
      generalize hsO (putL P c.h) = O1 at *
      generalize hsO (putL P' c.h) = O2 at *
      generalize hsO P = O3 at *
      generalize hsO P' = O4 at *
      simp [-getElem?_pos, c_tattlerlaw11_HintsApart_l0, hlt, hj, hc, h1, g, g', hw, hw', ho, ho', ho2, hn]
    · have hnb : (c.h.node == n) = false := by simpa using hn
      rw [decide_eq_false hn, cnd_false]
      generalize hsO (putL P c.h) = O1 at *
      generalize hsO P = O3 at *
      generalize hsO P' = O4 at *
      simp [-getElem?_pos, c_tattlerlaw11_HintsApart_l0, hlt, hj, hc, h1, g, hw, ho, ho2, hnb]
  · rw [s_round, List.take_length]
    simp [c_tattlerlaw11_HintsApart_l0]
theorem for_at0 {l : List Hnt} (inv : HInv l) (n : Int) (h L : Heap) : callL E F.hints_Set_For [.ptr (some (h.length, 0)), .int .i64 n] (h ++ hsO l :: L) = some (.sl ((forH l n).map Ent.v), h ++ hsO l :: L, ⟨[], [], true⟩) :=
  hintsFor_eq (by rw [hget_local0]; rfl) inv n
theorem for_at (B : Vm.Obj) {l : List Hnt} (inv : HInv l) (n : Int) (h L : Heap) : callL E F.hints_Set_For [.ptr (some (h.length + 1, 0)), .int .i64 n] (h ++ B :: hsO l :: L) = some (.sl ((forH l n).map Ent.v), h ++ B :: hsO l :: L, ⟨[], [], true⟩) :=
  hintsFor_eq (by rw [hget_local]; rfl) inv n
theorem forH_vals {l : List Hnt} (inv : HInv l) (n : Int) : ∀ x ∈ forH l n, x.sib.vals.length ≤ 1099511627776 := fun x hx => by
  unfold forH at hx
  obtain ⟨y, hy, rfl⟩ := List.mem_map.1 hx
  exact inv.vals y (List.mem_filter.1 hy).1
theorem HintsApart_eq (cs : List Cll) (hcs : cs.length ≤ 140737488355328) (n : Int) (h : Heap) : ∃ fl, callL E F.tattlerlaw11_HintsApart [.sl (cs.map Cll.v), .int .i64 n] h = some (.bool true, h, fl) := by
  obtain ⟨b, g1, _⟩ := light11_eq cs hcs h
  have g2 := awake11_eq h
  have g2' := fun L => awake11_eq (h ++ L)
  cases hb : b && decide (cs.length ≤ 60) with
  | false =>
    refine ⟨⟨[], [], true⟩, callL_of rfl fn_tattlerlaw11_HintsApart ?_⟩
    cases b with
    | false => simp [-getElem?_pos, c_tattlerlaw11_HintsApart, g1, g2]
    | true =>
      have e1 : (60 : Int) < (cs.length : Int) := by
        rw [Bool.true_and, decide_eq_false_iff_not] at hb
        omega
      simp [-getElem?_pos, c_tattlerlaw11_HintsApart, g1, g2, e1]
  | true =>
    simp only [Bool.and_eq_true, decide_eq_true_eq] at hb
    obtain ⟨rfl, hs60⟩ := hb
    have e1 : ¬ (60 : Int) < (cs.length : Int) := by omega
    have inv := HInv.nil.putAll cs
    have inv' : HInv (nodeA cs n) := HInv.nil.putAll _
    have g3 := hintsNew_eq h
    have g4 := hintsNew_eq (h ++ [hsO []])
    have k0 := apart_l0 cs hcs n h
    have heq : nodeA cs n = nodeH (putAll [] cs) n := apart_all n cs [] HInv.nil (by simp; omega)
    have gf := for_at0 inv n h [hsO (nodeA cs n)]
    have gf' := for_at (hsO (putAll [] cs)) inv' n h []
    rw [heq, forH_node] at gf'
    rw [heq] at gf k0
    have gs := fun H => sameEnts_self (forH (putAll [] cs) n) (by have := forH_len (putAll [] cs) n; have := inv.len; omega) (forH_vals inv n) H
    refine ⟨⟨[], [], true⟩, callL_of rfl fn_tattlerlaw11_HintsApart ?_⟩
    generalize (forH (putAll [] cs) n).map Ent.v = R at *
    generalize hsO (nodeH (putAll [] cs) n) = O2 at *
    generalize hsO (putAll [] cs) = OS at *
    generalize hsO [] = O0 at *
    simp [-getElem?_pos, -Int.natCast_add, c_tattlerlaw11_HintsApart, g1, g2', g3, g4, e1, k0, gf, gf', gs]
theorem tattlerlaw11_HintsApart_top {c0 c1 : List V} (h0 : Ty.Has (.sl (.st (.cons (.int .i64) (.cons hntT (.cons sibT .nil))))) c0) (h1 : Ty.Has (.int .i64) c1) : ∃ h fl, callL E F.tattlerlaw11_HintsApart [Ty.el (.sl (.st (.cons (.int .i64) (.cons hntT (.cons sibT .nil))))) c0, Ty.el (.int .i64) c1] [] = some (.bool true, h, fl) := by
  obtain ⟨l, wl, _, rfl⟩ := Clls.dec h0
  obtain ⟨n, hn, rfl⟩ := h1
  obtain ⟨fl, hf⟩ := HintsApart_eq l (by unfold reachLen at wl; omega) n []
  exact ⟨_, fl, hf⟩
end Go.Proofs.Ythkfjefoblmbhaa.V
