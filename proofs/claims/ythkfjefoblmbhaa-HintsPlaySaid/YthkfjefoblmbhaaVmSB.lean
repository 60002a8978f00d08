/- What 'sibs.Join' computes: what the document's own one does. -/
import Derived.Test.YthkfjefoblmbhaaVmSA
import Derived.Test.YthkfjefoblmbhaaVmTJ
set_option linter.unusedVariables false
set_option linter.unusedSimpArgs false
namespace Go.Proofs.Ythkfjefoblmbhaa.V
open Go.Vm

def jA (b : Sib) (out : List Val) (v : Val) : List Val :=
  cnd (findD b.vals v.dot).isSome (out ++ [v.first (findV b.vals v.dot)]) (cnd (b.seen.covers v.dot) out (out ++ [v]))
def jB (a : Sib) (out : List Val) (v : Val) : List Val := cnd (a.seen.covers v.dot) out (out ++ [v])
def jAll (a b : Sib) : List Val := b.vals.foldl (jB a) (a.vals.foldl (jA b) [])
theorem insertV_perm (v : Val) : ∀ l : List Val, (insertV l v).Perm (l ++ [v])
  | [] => .refl _
  | u :: l => by
    simp only [insertV]
    split
    · exact (insertV_perm v l).cons u
    · exact (List.perm_append_singleton v (u :: l)).symm
theorem jA_perm {b : Sib} {o o' : List Val} (v : Val) (h : o.Perm o') : (jA b o v).Perm (joinA b o' v) := by
  unfold jA joinA findV
  cases hf : findD b.vals v.dot with
  | some k =>
    obtain ⟨u, hu, _⟩ := findD_some hf
    simp only [Option.isSome_some, cnd_true, hu, Option.getD_some]
    exact (h.append_right _).trans (insertV_perm _ _).symm
  | none =>
    simp only [Option.isSome_none, cnd_false]
    cases b.seen.covers v.dot
    · exact (h.append_right _).trans (insertV_perm _ _).symm
    · exact h
theorem jB_perm {a : Sib} (ha : a.may = true) {o o' : List Val} (v : Val) (h : o.Perm o') : (jB a o v).Perm (joinB a o' v) := by
  unfold jB joinB
  cases hc : a.seen.covers v.dot with
  | true => simp only [Bool.not_true, Bool.and_false, cnd_true, cnd_false]; exact h
  | false =>
    have hn : findD a.vals v.dot = none := by
      rw [findD_none_iff]
      intro u hu e
      have := valOk_covers (((may_iff a).1 ha).val u hu)
      rw [e, hc] at this
      cases this
    simp only [hn, Option.isNone_none, Bool.not_false, Bool.and_true, cnd_true, cnd_false]
    exact (h.append_right _).trans (insertV_perm _ _).symm
theorem fold_perm {f g : List Val → Val → List Val} (hf : ∀ o o' v, o.Perm o' → (f o v).Perm (g o' v)) : ∀ (l o o' : List Val), o.Perm o' → (l.foldl f o).Perm (l.foldl g o')
  | [], _, _, h => h
  | v :: l, o, o', h => fold_perm hf l _ _ (hf o o' v h)
theorem jAll_perm {a : Sib} (b : Sib) (ha : a.may = true) : (jAll a b).Perm (joinAll a b) :=
  fold_perm (fun o o' v h => jB_perm ha v h) b.vals _ _ (fold_perm (fun o o' v h => jA_perm v h) a.vals [] [] (.refl _))
theorem jA_len (b : Sib) (out : List Val) (v : Val) : (jA b out v).length ≤ out.length + 1 := by
  unfold jA
  cases (findD b.vals v.dot).isSome <;> cases b.seen.covers v.dot <;> simp
theorem jB_len (a : Sib) (out : List Val) (v : Val) : (jB a out v).length ≤ out.length + 1 := by
  unfold jB
  cases a.seen.covers v.dot <;> simp
theorem keyVal (v : Val) : keyV v.v = some (v.dot.node, v.dot.n) := rfl
theorem distV_of : ∀ {l : List Val}, (l.map Val.dot).Nodup → distV (l.map Val.v) = true
  | [], _ => rfl
  | v :: l, h => by
    simp only [List.map_cons, List.nodup_cons] at h
    simp only [List.map_cons, distV, keyVal, Option.isSome_some, Bool.true_and, Bool.and_eq_true, List.all_eq_true]
    refine ⟨fun x hx => ?_, distV_of h.2⟩
    obtain ⟨u, hu, rfl⟩ := List.mem_map.1 hx
    simp only [keyVal, Option.some.injEq, Prod.mk.injEq, Bool.not_eq_true', decide_eq_false_iff_not]
    rintro ⟨e1, e2⟩
    refine h.1 (List.mem_map.2 ⟨u, hu, ?_⟩)
    cases hv : v.dot; cases hw : u.dot
    rw [hv, hw] at e1 e2
    simp only at e1 e2
    rw [e1, e2]
theorem Srt.nodup : ∀ {l : List Val}, Srt l → (l.map Val.dot).Nodup
  | [], _ => .nil
  | v :: l, h => by
    rw [Srt, List.pairwise_cons] at h
    rw [List.map_cons, List.nodup_cons]
    refine ⟨fun hm => ?_, Srt.nodup h.2⟩
    obtain ⟨u, hu, e⟩ := List.mem_map.1 hm
    have := h.1 u hu
    rw [e, less_irrefl] at this
    cases this
theorem Srt.asym {l : List Val} (h : Srt l) : l.Pairwise fun u v => v.dot.less u.dot = false := by
  refine h.imp fun {u v} huv => ?_
  cases hv : v.dot.less u.dot
  · rfl
  · have := less_trans huv hv
    rw [less_irrefl] at this
    cases this
theorem sort_vals {l r : List Val} (hp : l.Perm r) (hs : Srt r) (hl : l.length < 4611686018427387904) : sortV (l.map Val.v) [] = some (r.map Val.v) := by
  have hn : (l.map Val.dot).Nodup := ((hp.map Val.dot).nodup_iff).2 hs.nodup
  have hd := distV_of hn
  have hu : r.map Val.v = sortL (l.map Val.v) := sort_unique hd (hp.symm.map Val.v) (by
    rw [List.pairwise_map]
    exact hs.asym)
  simp only [sortV, hd, List.length_map, decide_eq_true hl, Bool.and_self, cnd_true, hu]
theorem sjoin0 (a b : Sib) (ha : a.may = true) (hb : b.may = true) (O : Vm.Obj) (h : Heap) :
    loopRun (callL E) loopL h.length [2, 3, 4, 5, 22, 23, 24] c_sibs_Join_l0 ⟨[(2, .ptr (some (h.length, 0))), (3, .ptr (some (h.length + 1, 0))), (4, .ptr (some (h.length + 2, 0))), (5, .lst []), (22, .sl (a.vals.map Val.v)), (23, .int .i64 a.vals.length), (24, .int .i64 0)], h ++ [.cells a.c [], .cells b.c [], O], .no⟩ =
      some (.exit 0, ⟨[(2, .ptr (some (h.length, 0))), (3, .ptr (some (h.length + 1, 0))), (4, .ptr (some (h.length + 2, 0))), (5, .lst ((a.vals.foldl (jA b) []).map Val.v)), (22, .sl (a.vals.map Val.v)), (23, .int .i64 a.vals.length), (24, .int .i64 a.vals.length), (25, .bool false)], h ++ [.cells a.c [], .cells b.c [], O], .no⟩) := by
  refine loop_to (C := callL E) (fb := h.length) (live := [2, 3, 4, 5, 22, 23, 24]) (c := c_sibs_Join_l0)
    (fun j => ⟨[(2, .ptr (some (h.length, 0))), (3, .ptr (some (h.length + 1, 0))), (4, .ptr (some (h.length + 2, 0))), (5, .lst (((a.vals.take j).foldl (jA b) []).map Val.v)), (22, .sl (a.vals.map Val.v)), (23, .int .i64 a.vals.length), (24, .int .i64 j)], h ++ [.cells a.c [], .cells b.c [], O], .no⟩) a.vals.length (fun j hj => ?_) ?_ rfl
  · obtain ⟨v, hx, _, hm⟩ := get_of_lt (l := a.vals) (i := j) hj
    have hlt : (j : Int) < (a.vals.length : Int) := by omega
    have ha16 := may_len ha
    have hb16 := may_len hb
    have h1 := i64_add1 (n := j) (by omega)
    have hvd := may_data ha hm
    have hlen := foldl_len (jA_len b) (a.vals.take j) []
    simp only [List.length_take, List.length_nil] at hlen
    rw [foldl_take hx]
    generalize (a.vals.take j).foldl (jA b) [] = q at hlen ⊢
    have hq : (q.length + 1) * 48 ≤ 140737488355328 := by omega
    have g1 := fun l => sfind_eq b (by omega) v.dot (h ++ l)
    simp only [Sib.v, Dot.v] at g1
    have hz : [V.int .i64 0, .int .i64 0, .sl [], .bool false] = zeroVal.c := rfl
    have hql : (q.map Val.v).length = q.length := by simp
    have hqs : sizeOk 4 (q.map Val.v) = true := sizeOk_vals q
    have hjA : jA b q v = cnd (findD b.vals v.dot).isSome (q ++ [v.first (findV b.vals v.dot)]) (cnd (b.seen.covers v.dot) q (q ++ [v])) := rfl
    rw [hjA]
    rw [s_round]
    cases hf : findD b.vals v.dot with
    | some k =>
      rw [hf] at g1
      obtain ⟨u, hu, hud⟩ := findD_some hf
      have hum : u ∈ b.vals := List.mem_of_getElem? hu
      have hud' := may_data hb hum
      have hfv : findV b.vals v.dot = u := by unfold findV; rw [hf]; simp [hu]
      rw [hfv] at g1 ⊢
      have g2 := fun l => better_eq v u (h ++ l)
      have hfd : (v.first u).data.length ≤ 200 := by unfold Val.first; split <;> split <;> assumption
      have g3 := fun l => own_eq (v.first u) (by omega) (h ++ l)
      simp only [Val.v, Option.isSome_some, cnd_true, List.map_append, List.map_cons, List.map_nil] at g1 g2 g3 ⊢
      have hqs : sizeOk 4 (q.map fun v => V.agg v.c) = true := hqs
      have hql : (q.map fun v => V.agg v.c).length = q.length := hql
      generalize (q.map fun v => V.agg v.c) = Q at *
      simp [-getElem?_pos, c_sibs_Join_l0, hlt, hx, h1, g1, g2, g3, hj, hql, hqs, hq]
      done
    | none =>
      rw [hf] at g1
      have g2 := fun l => covers_eq b.seen v.dot (h ++ l)
      simp only [Vec.v, Dot.v] at g2
      have g3 := fun l => own_eq v (by omega) (h ++ l)
      cases hc : b.seen.covers v.dot with
      | true =>
        rw [hc] at g2
        simp only [Val.v, Option.isSome_none, cnd_false, cnd_true] at g1 g3 ⊢
        generalize (q.map fun v => V.agg v.c) = Q at *
        simp [-getElem?_pos, c_sibs_Join_l0, hlt, hx, h1, g1, g2, hj]
        done
      | false =>
        rw [hc] at g2
        simp only [Val.v, Option.isSome_none, cnd_false, List.map_append, List.map_cons, List.map_nil] at g1 g3 ⊢
        have hqs : sizeOk 4 (q.map fun v => V.agg v.c) = true := hqs
        have hql : (q.map fun v => V.agg v.c).length = q.length := hql
        generalize (q.map fun v => V.agg v.c) = Q at *
        simp [-getElem?_pos, c_sibs_Join_l0, hlt, hx, h1, g1, g2, g3, hj, hql, hqs, hq]
        done
  · rw [s_round, List.take_length]
    simp [c_sibs_Join_l0]
theorem sjoin1 (a b : Sib) (ha : a.may = true) (hb : b.may = true) (O : Vm.Obj) (q0 : List Val) (hq0 : q0.length ≤ 16) (h : Heap) :
    loopRun (callL E) loopL h.length [2, 3, 4, 5, 56, 57, 58] c_sibs_Join_l1 ⟨[(2, .ptr (some (h.length, 0))), (3, .ptr (some (h.length + 1, 0))), (4, .ptr (some (h.length + 2, 0))), (5, .lst (q0.map Val.v)), (56, .sl (b.vals.map Val.v)), (57, .int .i64 b.vals.length), (58, .int .i64 0)], h ++ [.cells a.c [], .cells b.c [], O], .no⟩ =
      some (.exit 2, ⟨[(2, .ptr (some (h.length, 0))), (3, .ptr (some (h.length + 1, 0))), (4, .ptr (some (h.length + 2, 0))), (5, .lst ((b.vals.foldl (jB a) q0).map Val.v)), (56, .sl (b.vals.map Val.v)), (57, .int .i64 b.vals.length), (58, .int .i64 b.vals.length), (59, .bool false)], h ++ [.cells a.c [], .cells b.c [], O], .no⟩) := by
  refine loop_to (C := callL E) (fb := h.length) (live := [2, 3, 4, 5, 56, 57, 58]) (c := c_sibs_Join_l1)
    (fun j => ⟨[(2, .ptr (some (h.length, 0))), (3, .ptr (some (h.length + 1, 0))), (4, .ptr (some (h.length + 2, 0))), (5, .lst (((b.vals.take j).foldl (jB a) q0).map Val.v)), (56, .sl (b.vals.map Val.v)), (57, .int .i64 b.vals.length), (58, .int .i64 j)], h ++ [.cells a.c [], .cells b.c [], O], .no⟩) b.vals.length (fun j hj => ?_) ?_ rfl
  · obtain ⟨v, hx, _, hm⟩ := get_of_lt (l := b.vals) (i := j) hj
    have hlt : (j : Int) < (b.vals.length : Int) := by omega
    have hb16 := may_len hb
    have h1 := i64_add1 (n := j) (by omega)
    have hvd := may_data hb hm
    have hlen := foldl_len (jB_len a) (b.vals.take j) q0
    simp only [List.length_take] at hlen
    rw [foldl_take hx]
    generalize (b.vals.take j).foldl (jB a) q0 = q at hlen ⊢
    have hq : (q.length + 1) * 48 ≤ 140737488355328 := by omega
    have hql : (q.map Val.v).length = q.length := by simp
    have hqs : sizeOk 4 (q.map Val.v) = true := sizeOk_vals q
    have hjB : jB a q v = cnd (a.seen.covers v.dot) q (q ++ [v]) := rfl
    rw [hjB]
    have g2 := fun l => covers_eq a.seen v.dot (h ++ l)
    simp only [Vec.v, Dot.v] at g2
    have g3 := fun l => own_eq v (by omega) (h ++ l)
    rw [s_round]
    cases hc : a.seen.covers v.dot with
    | true =>
      rw [hc] at g2
      simp only [Val.v, cnd_true] at g3 ⊢
      generalize (q.map fun v => V.agg v.c) = Q at *
      simp [-getElem?_pos, c_sibs_Join_l1, hlt, hx, h1, g2, hj]
      done
    | false =>
      rw [hc] at g2
      simp only [Val.v, cnd_false, List.map_append, List.map_cons, List.map_nil] at g3 ⊢
      have hqs : sizeOk 4 (q.map fun v => V.agg v.c) = true := hqs
      have hql : (q.map fun v => V.agg v.c).length = q.length := hql
      generalize (q.map fun v => V.agg v.c) = Q at *
      simp [-getElem?_pos, c_sibs_Join_l1, hlt, hx, h1, g2, g3, hj, hql, hqs, hq]
      done
  · rw [s_round, List.take_length]
    simp [c_sibs_Join_l1]
set_option maxRecDepth 4000 in
theorem sibsJoin_eq (a b : Sib) (h : Heap) : callL E F.sibs_Join [a.v, b.v] h = some ((a.join b).v, h, .no) := by
  refine callL_of rfl fn_sibs_Join ?_
  have g1 := fun l => sibsMay_eq a (h ++ l)
  have g2 := fun l => sibsMay_eq b (h ++ l)
  simp only [Sib.v] at g1 g2
  unfold Sib.join
  have hzv : zeroSib.v = .agg zeroSib.c := rfl
  cases ha : a.may with
  | false =>
    rw [ha] at g1
    simp [-getElem?_pos, c_sibs_Join, g1, zeroSib_c]
    done
  | true =>
    rw [ha] at g1
    cases hb : b.may with
    | false =>
      rw [hb] at g2
      simp [-getElem?_pos, c_sibs_Join, g1, g2, zeroSib_c]
      done
    | true =>
      rw [hb] at g2
      have g3 := fun l => vecJoin_eq a.seen b.seen (h ++ l)
      have hl1 := foldl_len (jA_len b) a.vals []
      have hl2 := foldl_len (jB_len a) b.vals (a.vals.foldl (jA b) [])
      have ha16 := may_len ha
      have hb16 := may_len hb
      simp only [List.length_nil] at hl1
      have g4 := sjoin0 a b ha hb (.cells zeroSib.c []) h
      have g5 := sjoin1 a b ha hb (.cells zeroSib.c []) (a.vals.foldl (jA b) []) (by omega) h
      have hs := sort_vals (jAll_perm b ha) (joinAll_srt ((may_iff a).1 ha).srt ((may_iff b).1 hb).srt) (by unfold jAll; omega)
      rw [joinVals_all]
      unfold jAll at hs
      generalize b.vals.foldl (jB a) (a.vals.foldl (jA b) []) = q at g5 hs ⊢
      generalize a.vals.foldl (jA b) [] = q0 at g4 g5
      generalize hr : joinAll a b = r at hs ⊢
      simp only [zeroSib_c] at g4 g5
      simp only [Vec.v] at g3
      have hcc : ∀ l : List Val, (a.seen.join b.seen).c ++ [V.sl (l.map Val.v)] = Sib.c ⟨a.seen.join b.seen, l⟩ := fun _ => rfl
      have hd9 : ∀ x : V, List.drop 9 ((a.seen.join b.seen).c ++ [x]) = [] := fun x => List.drop_of_length_le (by simp)
      have e5 : List.take r.length (r.map Val.v) = r.map Val.v := List.take_of_length_le (by simp)
      by_cases hq : r.length ≤ 16
      · have e1 : ¬ (16 : Int) < (r.length : Int) := by omega
        have e2 : r.take 16 = r := List.take_of_length_le hq
        simp [-getElem?_pos, c_sibs_Join, g1, g2, g3, g4, g5, hs, e1, e2, hcc, hd9, e5]
        done
      · have e1 : (16 : Int) < (r.length : Int) := by omega
        have e3 : 16 ≤ r.length := by omega
        have e4 : ((r.map Val.v).take 16) = (r.take 16).map Val.v := by rw [List.map_take]
        simp [-getElem?_pos, -List.map_take, c_sibs_Join, g1, g2, g3, g4, g5, hs, e1, e3, e4, hcc, hd9]
        done
end Go.Proofs.Ythkfjefoblmbhaa.V
