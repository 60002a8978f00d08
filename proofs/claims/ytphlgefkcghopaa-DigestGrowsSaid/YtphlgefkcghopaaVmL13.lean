/- What digest.Of, sibs.Same and the helpers of the digest laws compute. -/
import Derived.Test.YtphlgefkcghopaaVmR5E
import Derived.Test.YtphlgefkcghopaaVmLP
set_option linter.unusedVariables false
set_option linter.unusedSimpArgs false
namespace Go.Proofs.Ytphlgefkcghopaa.V
open Go.Vm

theorem may13_eq (l : List Ent) (hl : l.length ≤ 1099511627776) (h : Heap) : callL E F.tattlerlaw13_may [.sl (l.map Ent.v)] h = some (.bool (l.all Ent.may), h, .no) := by
  refine callL_of rfl fn_tattlerlaw13_may ?_
  have key := loop_scan (C := callL E) (fb := h.length) (live := [5, 6, 7]) (c := c_tattlerlaw13_may_l0)
    (fun j => ⟨[(5, .sl (l.map Ent.v)), (6, .int .i64 l.length), (7, .int .i64 j)], h, .no⟩) l.length (getB l Ent.may)
    (.exit 0, ⟨[(5, .sl (l.map Ent.v)), (6, .int .i64 l.length), (7, .int .i64 l.length), (8, .bool false)], h, .no⟩)
    (fun j => (.ret, ⟨[(2, .bool false)], h ++ [.cells (match l[j]? with | some v => v.c | none => []) []], .no⟩)) ?_ ?_ (fun _ => rfl) ?_ rfl
  · rw [show ((0 : Nat) : Int) = 0 from rfl] at key
    rcases key with ⟨h1, h2⟩ | ⟨j, h1, h2, h3, h4⟩
    · have : l.all Ent.may = true := all_getB h1
      simp only [this]
      simp [-getElem?_pos, c_tattlerlaw13_may, h2]
    · have : l.all Ent.may = false := not_all_getB h1 h2
      simp only [this]
      simp [-getElem?_pos, c_tattlerlaw13_may, h4]
  · intro j hj hp
    obtain ⟨e, hx, _, _⟩ := get_of_lt (l := l) (i := j) hj
    have hlt : (j : Int) < (l.length : Int) := by omega
    have h1 := i64_add1 (n := j) (by omega)
    rw [getB_at hx] at hp
    have g1 := r5MayEntry_eq e (h ++ [.cells e.c []])
    rw [hp] at g1
    simp only [Ent.v] at g1
    rw [s_round]
    simp [-getElem?_pos, c_tattlerlaw13_may_l0, hlt, hj, hx, h1, g1]
  · intro j hj hp
    obtain ⟨e, hx, _, _⟩ := get_of_lt (l := l) (i := j) hj
    have hlt : (j : Int) < (l.length : Int) := by omega
    rw [getB_at hx] at hp
    have g1 := r5MayEntry_eq e (h ++ [.cells e.c []])
    rw [hp] at g1
    simp only [Ent.v] at g1
    rw [s_round]
    simp [-getElem?_pos, c_tattlerlaw13_may_l0, hlt, hj, hx, g1]
  · rw [s_round]
    simp [c_tattlerlaw13_may_l0]
def dOf (e : Ent) : Dig := ⟨e.key, e.sib.seen, dotsOf e.sib.vals⟩
theorem dOf_c (e : Ent) : V.str e.key :: (e.sib.seen.c ++ [.sl ((dotsOf e.sib.vals).map Dot.v)]) = (dOf e).c := rfl
theorem digestOf_eq (l : List Ent) (hl : l.length ≤ 1099511627776) (hv : ∀ e ∈ l, e.sib.vals.length ≤ 1099511627776) (h : Heap) : callL E F.digest_Of [.sl (l.map Ent.v)] h = some (.sl ((l.map dOf).map Dig.v), h, .no) := by
  refine callL_of rfl fn_digest_Of ?_
  have key := loop_to (C := callL E) (fb := h.length) (live := [3, 6, 7, 8]) (c := c_digest_Of_l0)
    (fun j => ⟨[(3, .sl (((l.take j).map dOf).map Dig.v)), (6, .sl (l.map Ent.v)), (7, .int .i64 l.length), (8, .int .i64 j)], h, .no⟩) l.length
    (r := (.exit 0, ⟨[(3, .sl ((l.map dOf).map Dig.v)), (6, .sl (l.map Ent.v)), (7, .int .i64 l.length), (8, .int .i64 l.length), (9, .bool false)], h, .no⟩)) ?_ ?_ rfl
  · rw [show ((0 : Nat) : Int) = 0 from rfl] at key
    simp only [List.take_zero, List.map_nil] at key
    simp [-getElem?_pos, -List.map_map, c_digest_Of, key]
  · intro j hj
    obtain ⟨e, hx, _, hm⟩ := get_of_lt (l := l) (i := j) hj
    have hlt : (j : Int) < (l.length : Int) := by omega
    have h1 := i64_add1 (n := j) (by omega)
    have g1 := dots_eq e.sib (hv e hm) (h ++ [.cells e.c []])
    simp only [Sib.v] at g1
    have h4 : ((l.take (j + 1)).map dOf).map Dig.v = ((l.take j).map dOf).map Dig.v ++ [.agg (dOf e).c] := by rw [List.take_add_one, hx]; simp
    have h5 : (((l.take j).map dOf).map Dig.v).length = j := by simp; omega
    have h6 : (j + 1) * 104 ≤ 140737488355328 := by omega
    have hsz : sizeOk 10 (((l.take j).map dOf).map Dig.v) = true := sizeOk_digs _
    rw [h4]
    generalize ((l.take j).map dOf).map Dig.v = q at h5 hsz ⊢
    have hd := dOf_c e
    have hr : List.drop 9 (e.sib.seen.c ++ [V.sl []]) = [] := List.drop_eq_nil_of_le (by simp)
    rw [s_round]
    simp [-getElem?_pos, c_digest_Of_l0, hlt, hj, hx, h1, g1, h5, h6, hsz, hr]
    exact hd
  · rw [s_round, List.take_length]
    simp [c_digest_Of_l0]
theorem bytesEqual_eq (a b : List UInt8) (h : Heap) : callL E F.bytes_Equal [.sl (a.map byteV), .sl (b.map byteV)] h = some (.bool (a == b), h, .no) := by
  refine callL_of rfl fn_bytes_Equal ?_
  simp [c_bytes_Equal]
theorem sameC_eq (v w : Val) (h : Heap) : callL E F.sibs_Same_c1 [v.v, w.v] h = some (.bool (decide (v = w)), h, .no) := by
  refine callL_of rfl fn_sibs_Same_c1 ?_
  have g1 := bytesEqual_eq v.data w.data (h ++ [.cells v.c [], .cells w.c []])
  by_cases h1 : v.dot = w.dot
  · cases h2 : (v.dead == w.dead) with
    | false =>
      have h3 : ¬ v = w := fun e => by subst e; simp at h2
      simp [-getElem?_pos, c_sibs_Same_c1, Dot.eq_cells, h1, h2, h3]
    | true =>
      have h3 : decide (v = w) = (v.data == w.data) := by
        have h2 : v.dead = w.dead := by simpa using h2
        rw [Bool.eq_iff_iff]
        simp only [decide_eq_true_eq, beq_iff_eq]
        exact ⟨fun e => by rw [e], fun e => by cases v; cases w; simp_all⟩
      rw [h3]
      simp [-getElem?_pos, c_sibs_Same_c1, Dot.eq_cells, h1, h2, g1]
  · have h3 : ¬ v = w := fun e => h1 (by rw [e])
    simp [-getElem?_pos, c_sibs_Same_c1, Dot.eq_cells, h1, h3]
theorem equalFunc_eq (a b : List Val) (ha : a.length ≤ 1099511627776) (h : Heap) : callL E F.slices_EqualFunc_api_Value_api_Value_api_Value_api_Value [.sl (a.map Val.v), .sl (b.map Val.v), .fn F.sibs_Same_c1 [] []] h = some (.bool (decide (a = b)), h, .no) := by
  refine callL_of rfl fn_slices_EqualFunc_api_Value_api_Value_api_Value_api_Value ?_
  by_cases hl : a.length = b.length
  · have key := loop_scan (C := callL E) (fb := h.length) (live := [1, 2, 15, 16, 17]) (c := c_slices_EqualFunc_api_Value_api_Value_api_Value_api_Value_l0)
      (fun j => ⟨[(1, .sl (b.map Val.v)), (2, .fn F.sibs_Same_c1 [] []), (15, .sl (a.map Val.v)), (16, .int .i64 a.length), (17, .int .i64 j)], h, .no⟩) a.length (fun j => decide (a[j]? = b[j]?))
      (.exit 0, ⟨[(1, .sl (b.map Val.v)), (2, .fn F.sibs_Same_c1 [] []), (15, .sl (a.map Val.v)), (16, .int .i64 a.length), (17, .int .i64 a.length), (18, .bool false)], h, .no⟩)
      (fun j => (.ret, ⟨[(6, .bool false)], h ++ [.cells (match a[j]? with | some v => v.c | none => []) [], .cells (match b[j]? with | some v => v.c | none => []) []], .no⟩)) ?_ ?_ (fun _ => rfl) ?_ rfl
    · rw [show ((0 : Nat) : Int) = 0 from rfl] at key
      have hle : ((a.length : Int) == (b.length : Int)) = true := by simp [hl]
      rcases key with ⟨h1, h2⟩ | ⟨j, h1, h2, h3, h4⟩
      · have : a = b := by
          apply List.ext_getElem?
          intro j
          by_cases hj : j < a.length
          · simpa using h1 j hj
          · rw [List.getElem?_eq_none (by omega), List.getElem?_eq_none (by omega)]
        simp only [this, decide_true]
        rw [this] at h2 hle
        simp [-getElem?_pos, c_slices_EqualFunc_api_Value_api_Value_api_Value_api_Value, h2]
      · have : ¬ a = b := fun e => by rw [e] at h2; simp at h2
        simp [-getElem?_pos, c_slices_EqualFunc_api_Value_api_Value_api_Value_api_Value, h4, hle, this]
    · intro j hj hp
      obtain ⟨x, hx, _, _⟩ := get_of_lt (l := a) (i := j) hj
      obtain ⟨y, hy, _, _⟩ := get_of_lt (l := b) (i := j) (by omega)
      have hlt : (j : Int) < (a.length : Int) := by omega
      have h1 := i64_add1 (n := j) (by omega)
      rw [hx, hy] at hp
      have hxy : x = y := by simpa using hp
      have g1 := sameC_eq x y (h ++ [.cells x.c [], .cells y.c []])
      rw [decide_eq_true hxy] at g1
      simp only [Val.v] at g1
      rw [s_round]
      simp [-getElem?_pos, c_slices_EqualFunc_api_Value_api_Value_api_Value_api_Value_l0, hlt, hj, hx, hy, h1, g1]
    · intro j hj hp
      obtain ⟨x, hx, _, _⟩ := get_of_lt (l := a) (i := j) hj
      obtain ⟨y, hy, _, _⟩ := get_of_lt (l := b) (i := j) (by omega)
      have hlt : (j : Int) < (a.length : Int) := by omega
      rw [hx, hy] at hp
      have hxy : ¬ x = y := by simpa using hp
      have g1 := sameC_eq x y (h ++ [.cells x.c [], .cells y.c []])
      rw [decide_eq_false hxy] at g1
      simp only [Val.v] at g1
      rw [s_round]
      simp [-getElem?_pos, c_slices_EqualFunc_api_Value_api_Value_api_Value_api_Value_l0, hlt, hj, hx, hy, g1]
    · rw [s_round]
      simp [c_slices_EqualFunc_api_Value_api_Value_api_Value_api_Value_l0]
  · have h1 : ((a.length : Int) == (b.length : Int)) = false := by simp; omega
    have h2 : a ≠ b := fun h => hl (by rw [h])
    simp [-getElem?_pos, c_slices_EqualFunc_api_Value_api_Value_api_Value_api_Value, h1, h2]
theorem sibsSame_eq (a b : Sib) (ha : a.vals.length ≤ 1099511627776) (h : Heap) : callL E F.sibs_Same [a.v, b.v] h = some (.bool (decide (a = b)), h, .no) := by
  refine callL_of rfl fn_sibs_Same ?_
  have g1 := equalFunc_eq a.vals b.vals ha (h ++ [.cells a.c [], .cells b.c []])
  by_cases h1 : a.seen = b.seen
  · have h2 : decide (a = b) = decide (a.vals = b.vals) := by
      rw [Bool.eq_iff_iff]
      simp only [decide_eq_true_eq]
      exact ⟨fun e => by rw [e], fun e => by cases a; cases b; simp_all⟩
    rw [h2]
    simp [-getElem?_pos, c_sibs_Same, Vec.eq_cells, h1, g1]
  · have h2 : ¬ a = b := fun e => h1 (by rw [e])
    simp [-getElem?_pos, c_sibs_Same, Vec.eq_cells, h1, h2]
end Go.Proofs.Ytphlgefkcghopaa.V
