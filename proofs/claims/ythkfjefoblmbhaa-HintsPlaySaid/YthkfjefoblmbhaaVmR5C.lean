/- What 'tattlerref5.Join' computes. -/
import Derived.Test.YthkfjefoblmbhaaVmR5B
set_option linter.unusedVariables false
set_option linter.unusedSimpArgs false
namespace Go.Proofs.Ythkfjefoblmbhaa.V
open Go.Vm

def zeroVec : Vec := ⟨List.replicate 8 0, rfl⟩
def zeroSib : Sib := ⟨zeroVec, []⟩
theorem zeroSib_c : zeroSib.c = [.int .i64 0, .int .i64 0, .int .i64 0, .int .i64 0, .int .i64 0, .int .i64 0, .int .i64 0, .int .i64 0, .sl []] := rfl
def joinA (b : Sib) (out : List Val) (v : Val) : List Val :=
  match findD b.vals v.dot with
  | some k => insertV out (v.first (b.vals[k]?.getD v))
  | none => cnd (b.seen.covers v.dot) out (insertV out v)
def joinB (a : Sib) (out : List Val) (v : Val) : List Val := cnd ((findD a.vals v.dot).isNone && !a.seen.covers v.dot) (insertV out v) out
def joinVals (a b : Sib) : List Val := (b.vals.foldl (joinB a) (a.vals.foldl (joinA b) [])).take 16
noncomputable def _root_.Go.Vm.Sib.join (a b : Sib) : Sib := cnd (a.may && b.may) ⟨a.seen.join b.seen, joinVals a b⟩ zeroSib
theorem joinA_len (b : Sib) (out : List Val) (v : Val) : (joinA b out v).length ≤ out.length + 1 := by
  unfold joinA
  split
  · rw [insertV_len]; exact Nat.le_refl _
  · cases b.seen.covers v.dot
    · show (insertV out v).length ≤ _; rw [insertV_len]; exact Nat.le_refl _
    · exact Nat.le_succ _
theorem joinB_len (a : Sib) (out : List Val) (v : Val) : (joinB a out v).length ≤ out.length + 1 := by
  unfold joinB
  cases ((findD a.vals v.dot).isNone && !a.seen.covers v.dot)
  · exact Nat.le_succ _
  · show (insertV out v).length ≤ _; rw [insertV_len]; exact Nat.le_refl _
theorem foldl_len {f : List Val → Val → List Val} (hf : ∀ out v, (f out v).length ≤ out.length + 1) : ∀ (l : List Val) (out : List Val), (l.foldl f out).length ≤ out.length + l.length
  | [], out => by simp
  | v :: l, out => by
    have h1 := foldl_len hf l (f out v)
    have h2 := hf out v
    simp only [List.foldl_cons, List.length_cons]
    omega
theorem foldl_take {α β : Type} {f : β → α → β} {l : List α} {i : β} {j : Nat} {x : α} (h : l[j]? = some x) : (l.take (j + 1)).foldl f i = f ((l.take j).foldl f i) x := by
  rw [List.take_add_one, h]; simp
theorem may_len {s : Sib} (h : s.may = true) : s.vals.length ≤ 16 := by
  unfold Sib.may at h
  simp only [Bool.and_eq_true, decide_eq_true_eq] at h
  exact h.2.1
theorem may_at {s : Sib} (h : s.may = true) {j : Nat} {v : Val} (hj : s.vals[j]? = some v) : valOk s.seen v = true ∧ upTo s.vals j v = true := by
  unfold Sib.may at h
  simp only [Bool.and_eq_true, decide_eq_true_eq] at h
  have := h.2.2 j (List.getElem?_eq_some_iff.1 hj).1
  unfold sibAt at this
  rw [getB_at hj] at this
  simpa using this
theorem may_data {s : Sib} (h : s.may = true) {v : Val} (hv : v ∈ s.vals) : v.data.length ≤ 200 := by
  obtain ⟨j, hj, rfl⟩ := List.getElem_of_mem hv
  have := (may_at h (List.getElem?_eq_getElem hj)).1
  unfold valOk at this
  simp only [Bool.and_eq_true, decide_eq_true_eq] at this
  exact this.2.1
theorem findD_some {l : List Val} {d : Dot} {k : Nat} (h : findD l d = some k) : ∃ v, l[k]? = some v ∧ v.dot = d := by
  unfold findD at h
  rw [List.findIdx?_eq_some_iff_getElem] at h
  obtain ⟨h1, h2, _⟩ := h
  exact ⟨l[k], List.getElem?_eq_getElem h1, by simpa using h2⟩

def jH (a b : Sib) (h : Heap) (out : Sib) : Heap := h ++ [.cells a.c [], .cells b.c [], .cells zeroSib.c [], .cells out.c []]
set_option maxRecDepth 4000 in
theorem joinA_loop (a b : Sib) (ha : a.may = true) (hb : b.may = true) (s : Vec) (h : Heap) :
    loopRun (callL E) loopL h.length [2, 3, 4, 5, 27, 28, 29] c_tattlerref5_Join_l0 ⟨[(2, .ptr (some (h.length, 0))), (3, .ptr (some (h.length + 1, 0))), (4, .ptr (some (h.length + 2, 0))), (5, .ptr (some (h.length + 3, 0))), (27, .sl (a.vals.map Val.v)), (28, .int .i64 a.vals.length), (29, .int .i64 0)], jH a b h ⟨s, []⟩, .no⟩ =
      some (.exit 0, ⟨[(2, .ptr (some (h.length, 0))), (3, .ptr (some (h.length + 1, 0))), (4, .ptr (some (h.length + 2, 0))), (5, .ptr (some (h.length + 3, 0))), (27, .sl (a.vals.map Val.v)), (28, .int .i64 a.vals.length), (29, .int .i64 a.vals.length), (30, .bool false)], jH a b h ⟨s, a.vals.foldl (joinA b) []⟩, .no⟩) := by
  refine loop_to (C := callL E) (fb := h.length) (live := [2, 3, 4, 5, 27, 28, 29]) (c := c_tattlerref5_Join_l0)
    (fun j => ⟨[(2, .ptr (some (h.length, 0))), (3, .ptr (some (h.length + 1, 0))), (4, .ptr (some (h.length + 2, 0))), (5, .ptr (some (h.length + 3, 0))), (27, .sl (a.vals.map Val.v)), (28, .int .i64 a.vals.length), (29, .int .i64 j)], jH a b h ⟨s, (a.vals.take j).foldl (joinA b) []⟩, .no⟩) a.vals.length (fun j hj => ?_) ?_ rfl
  · obtain ⟨v, hx, _, hm⟩ := get_of_lt (l := a.vals) (i := j) hj
    have hlt : (j : Int) < (a.vals.length : Int) := by omega
    have ha16 := may_len ha
    have hb16 := may_len hb
    have h1 := i64_add1 (n := j) (by omega)
    have hvd := may_data ha hm
    have hlen := foldl_len (joinA_len b) (a.vals.take j) []
    simp only [List.length_take, List.length_nil] at hlen
    rw [foldl_take hx]
    generalize hq : (a.vals.take j).foldl (joinA b) [] = q at hlen ⊢
    have g1 := r5find_eq b (by omega) v.dot (h ++ [.cells a.c [], .cells b.c [], .cells zeroSib.c [], .cells (Sib.c ⟨s, q⟩) [], .cells v.c []])
    simp only [Sib.v, Dot.v] at g1
    rw [s_round]
    simp only [jH]
    unfold joinA
    cases hf : findD b.vals v.dot with
    | some k =>
      rw [hf] at g1
      obtain ⟨u, hu, hud⟩ := findD_some hf
      have hk : k < b.vals.length := (List.getElem?_eq_some_iff.1 hu).1
      have hum : u ∈ b.vals := List.mem_of_getElem? hu
      have hud' := may_data hb hum
      have g2 := r5first_eq v u (h ++ [.cells a.c [], .cells b.c [], .cells zeroSib.c [], .cells (Sib.c ⟨s, q⟩) [], .cells v.c []])
      have hfd : (v.first u).data.length ≤ 200 := by unfold Val.first; split <;> split <;> assumption
      have g3 := r5copied_eq (v.first u) (by omega) (h ++ [.cells a.c [], .cells b.c [], .cells zeroSib.c [], .cells (Sib.c ⟨s, q⟩) [], .cells v.c []])
      have g4 := r5insert_eq q (by omega) (v.first u) (h ++ [.cells a.c [], .cells b.c [], .cells zeroSib.c [], .cells (Sib.c ⟨s, q⟩) [], .cells v.c []])
      simp only [Val.v] at g2 g3 g4
      have hu' : b.vals[k]?.getD v = u := by rw [hu]; rfl
      simp only [hu']
      have hz : (Sib.c ⟨s, q⟩).set 8 (.sl ((insertV q (v.first u)).map Val.v)) = Sib.c ⟨s, insertV q (v.first u)⟩ := Sib.c_set8 ⟨s, q⟩ _
      simp [-getElem?_pos, c_tattlerref5_Join_l0, hlt, hx, h1, g1, g2, g3, g4, hu, hj, idxV, hz]
    | none =>
      rw [hf] at g1
      have g2 := r1Covers_eq b.seen v.dot (h ++ [.cells a.c [], .cells b.c [], .cells zeroSib.c [], .cells (Sib.c ⟨s, q⟩) [], .cells v.c []])
      simp only [Vec.v, Dot.v] at g2
      cases hc : b.seen.covers v.dot with
      | true =>
        rw [hc] at g2
        simp [-getElem?_pos, c_tattlerref5_Join_l0, hlt, hx, h1, g1, g2, hj, idxV]
      | false =>
        rw [hc] at g2
        have g3 := r5copied_eq v (by omega) (h ++ [.cells a.c [], .cells b.c [], .cells zeroSib.c [], .cells (Sib.c ⟨s, q⟩) [], .cells v.c []])
        have g4 := r5insert_eq q (by omega) v (h ++ [.cells a.c [], .cells b.c [], .cells zeroSib.c [], .cells (Sib.c ⟨s, q⟩) [], .cells v.c []])
        simp only [Val.v] at g3 g4
        have hz : (Sib.c ⟨s, q⟩).set 8 (.sl ((insertV q v).map Val.v)) = Sib.c ⟨s, insertV q v⟩ := Sib.c_set8 ⟨s, q⟩ _
        simp [-getElem?_pos, c_tattlerref5_Join_l0, hlt, hx, h1, g1, g2, g3, g4, hj, idxV, hz]
  · rw [s_round, List.take_length]
    simp [c_tattlerref5_Join_l0]
set_option maxRecDepth 4000 in
theorem joinB_loop (a b : Sib) (ha : a.may = true) (hb : b.may = true) (s : Vec) (l : List Val) (hl : l.length ≤ 16) (h : Heap) :
    loopRun (callL E) loopL h.length [2, 4, 5, 65, 66, 67] c_tattlerref5_Join_l1 ⟨[(2, .ptr (some (h.length, 0))), (4, .ptr (some (h.length + 2, 0))), (5, .ptr (some (h.length + 3, 0))), (65, .sl (b.vals.map Val.v)), (66, .int .i64 b.vals.length), (67, .int .i64 0)], jH a b h ⟨s, l⟩, .no⟩ =
      some (.exit 2, ⟨[(2, .ptr (some (h.length, 0))), (4, .ptr (some (h.length + 2, 0))), (5, .ptr (some (h.length + 3, 0))), (65, .sl (b.vals.map Val.v)), (66, .int .i64 b.vals.length), (67, .int .i64 b.vals.length), (68, .bool false)], jH a b h ⟨s, b.vals.foldl (joinB a) l⟩, .no⟩) := by
  refine loop_to (C := callL E) (fb := h.length) (live := [2, 4, 5, 65, 66, 67]) (c := c_tattlerref5_Join_l1)
    (fun j => ⟨[(2, .ptr (some (h.length, 0))), (4, .ptr (some (h.length + 2, 0))), (5, .ptr (some (h.length + 3, 0))), (65, .sl (b.vals.map Val.v)), (66, .int .i64 b.vals.length), (67, .int .i64 j)], jH a b h ⟨s, (b.vals.take j).foldl (joinB a) l⟩, .no⟩) b.vals.length (fun j hj => ?_) ?_ rfl
  · obtain ⟨v, hx, _, hm⟩ := get_of_lt (l := b.vals) (i := j) hj
    have hlt : (j : Int) < (b.vals.length : Int) := by omega
    have ha16 := may_len ha
    have hb16 := may_len hb
    have h1 := i64_add1 (n := j) (by omega)
    have hvd := may_data hb hm
    have hlen := foldl_len (joinB_len a) (b.vals.take j) l
    simp only [List.length_take] at hlen
    rw [foldl_take hx]
    generalize hq : (b.vals.take j).foldl (joinB a) l = q at hlen ⊢
    have g1 := r5find_eq a (by omega) v.dot (h ++ [.cells a.c [], .cells b.c [], .cells zeroSib.c [], .cells (Sib.c ⟨s, q⟩) [], .cells v.c []])
    simp only [Sib.v, Dot.v] at g1
    rw [s_round]
    simp only [jH]
    unfold joinB
    cases hf : findD a.vals v.dot with
    | some k =>
      rw [hf] at g1
      have hneg : ¬ ((k : Int) < 0) := by omega
      simp [-getElem?_pos, c_tattlerref5_Join_l1, hlt, hx, h1, g1, hj, idxV, hneg]
    | none =>
      rw [hf] at g1
      have g2 := r1Covers_eq a.seen v.dot (h ++ [.cells a.c [], .cells b.c [], .cells zeroSib.c [], .cells (Sib.c ⟨s, q⟩) [], .cells v.c []])
      simp only [Vec.v, Dot.v] at g2
      cases hc : a.seen.covers v.dot with
      | true =>
        rw [hc] at g2
        simp [-getElem?_pos, c_tattlerref5_Join_l1, hlt, hx, h1, g1, g2, hj, idxV]
      | false =>
        rw [hc] at g2
        have g3 := r5copied_eq v (by omega) (h ++ [.cells a.c [], .cells b.c [], .cells zeroSib.c [], .cells (Sib.c ⟨s, q⟩) [], .cells v.c []])
        have g4 := r5insert_eq q (by omega) v (h ++ [.cells a.c [], .cells b.c [], .cells zeroSib.c [], .cells (Sib.c ⟨s, q⟩) [], .cells v.c []])
        simp only [Val.v] at g3 g4
        have hz : (Sib.c ⟨s, q⟩).set 8 (.sl ((insertV q v).map Val.v)) = Sib.c ⟨s, insertV q v⟩ := Sib.c_set8 ⟨s, q⟩ _
        simp [-getElem?_pos, c_tattlerref5_Join_l1, hlt, hx, h1, g1, g2, g3, g4, hj, idxV, hz]
  · rw [s_round, List.take_length]
    simp [c_tattlerref5_Join_l1]
theorem r5Join_eq (a b : Sib) (h : Heap) : callL E F.tattlerref5_Join [a.v, b.v] h = some ((a.join b).v, h, .no) := by
  refine callL_of rfl fn_tattlerref5_Join ?_
  have g1 := r5May_eq a (h ++ [.cells a.c [], .cells b.c [], .cells zeroSib.c []])
  have g2 := r5May_eq b (h ++ [.cells a.c [], .cells b.c [], .cells zeroSib.c []])
  simp only [Sib.v, zeroSib_c] at g1 g2
  unfold Sib.join
  have hzv : zeroSib.v = .agg zeroSib.c := rfl
  cases ha : a.may with
  | false =>
    rw [ha] at g1
    simp [-getElem?_pos, c_tattlerref5_Join, g1, zeroSib_c]
  | true =>
    rw [ha] at g1
    cases hb : b.may with
    | false =>
      rw [hb] at g2
      simp [-getElem?_pos, c_tattlerref5_Join, g1, g2, zeroSib_c]
    | true =>
      rw [hb] at g2
      have g3 := r1Join_eq a.seen b.seen (h ++ [.cells a.c [], .cells b.c [], .cells zeroSib.c []])
      have hl1 := foldl_len (joinA_len b) a.vals []
      have ha16 := may_len ha
      have g4 := joinA_loop a b ha hb (a.seen.join b.seen) h
      have g5 := joinB_loop a b ha hb (a.seen.join b.seen) (a.vals.foldl (joinA b) []) (by simp at hl1; omega) h
      unfold joinVals
      generalize b.vals.foldl (joinB a) (a.vals.foldl (joinA b) []) = q at g5 ⊢
      generalize a.vals.foldl (joinA b) [] = q0 at g4 g5
      simp only [jH, zeroSib_c] at g4 g5
      simp only [Vec.v, zeroSib_c] at g3
      by_cases hq : q.length ≤ 16
      · have e1 : ¬ (16 : Int) < (q.length : Int) := by omega
        have e2 : q.take 16 = q := List.take_of_length_le hq
        have hnil : (a.seen.join b.seen).c ++ [V.sl []] = Sib.c ⟨a.seen.join b.seen, []⟩ := rfl
        simp [-getElem?_pos, c_tattlerref5_Join, g1, g2, g3, g4, g5, e1, e2, hnil]
      · have e1 : (16 : Int) < (q.length : Int) := by omega
        have e3 : 16 ≤ q.length := by omega
        have hnil : (a.seen.join b.seen).c ++ [V.sl []] = Sib.c ⟨a.seen.join b.seen, []⟩ := rfl
        have hs8 : (Sib.c ⟨a.seen.join b.seen, q⟩).set 8 (.sl ((q.take 16).map Val.v)) = Sib.c ⟨a.seen.join b.seen, q.take 16⟩ := Sib.c_set8 _ _
        rw [List.map_take] at hs8
        simp [-getElem?_pos, c_tattlerref5_Join, g1, g2, g3, g4, g5, e1, e3, hnil, hs8]
end Go.Proofs.Ythkfjefoblmbhaa.V
