/- What 'tattlerref5.Put' computes. -/
import Derived.Test.YtfdhldbhbigfhaaVmSC
import Derived.Test.YtfdhldbhbigfhaaVmG4
set_option linter.unusedVariables false
set_option linter.unusedSimpArgs false
namespace Go.Proofs.Ytfdhldbhbigfhaa.V
open Go.Vm

theorem r1Next_eq (v : Vec) {n : Nat} (hn : n < 8) (h0 : 0 ≤ v.at n) (h : Heap) : callL E F.tattlerref1_Next [v.v, .int .i64 n] h =
    some (cnd (decide (1099511627776 ≤ v.at n)) (.tup [zeroDot.v, .int .i64 11]) (.tup [(⟨n, v.at n + 1⟩ : Dot).v, .int .i64 0]), h, .no) := by
  refine callL_of rfl fn_tattlerref1_Next ?_
  have e1 : ¬ (n : Int) < 0 := by omega
  have e3 : ¬ (8 : Int) ≤ (n : Int) := by omega
  have hc := Vec.c_at v hn
  have e2 : (n : Int) < 8 := by omega
  have hz : zeroDot.v = .agg [.int .i64 0, .int .i64 0] := rfl
  by_cases hm : 1099511627776 ≤ v.at n
  · simp [-getElem?_pos, c_tattlerref1_Next, e1, e3, hc, hn, e2, hm, hz]
  · have hw : IntKind.wrap .i64 (v.at n + 1) = v.at n + 1 := by rw [wrap_i64] <;> omega
    simp [-getElem?_pos, c_tattlerref1_Next, e1, e3, hc, hn, e2, hm, hz, hw, Dot.v, Dot.c]
theorem r1With_eq (v : Vec) {n : Nat} (hn : n < 8) (x : Int) (h : Heap) : callL E F.tattlerref1_With [v.v, (⟨n, x⟩ : Dot).v] h = some ((v.put n (max (v.at n) x)).v, h, .no) := by
  refine callL_of rfl fn_tattlerref1_With ?_
  have hc := Vec.c_at v hn
  have e2 : (n : Int) < 8 := by omega
  have hp := Vec.put_c v n
  have hm : (if v.at n < x then x else v.at n) = max (v.at n) x := by split <;> omega
  simp [-getElem?_pos, c_tattlerref1_With, hc, hn, e2, hm, hp]
def sbC (v : Vec) (x : V) : List V := v.c ++ [x]
def sbO (v : Vec) (l : List Val) : Vm.Obj := .cells (sbC v (.own (l.map Val.v))) [(8, 1000004)]
section
variable (v : Vec) (x y : V)
@[simp] theorem sbC_len : (sbC v x).length = 9 := by simp [sbC]
@[simp] theorem sbC8 : (sbC v x)[8]? = some x := by simp [sbC]
@[simp] theorem sbC_lt (n : Nat) : V.ltL n (sbC v x) = x.lt n := by simp [sbC, Sib.ltL_append]
@[simp] theorem sbC_set8 : (sbC v x).set 8 y = sbC v y := by simp [sbC]
end
theorem r5put_round (s : Sib) (seen : Vec) (w : Vec) (l : List Val) (hl : l.length ≤ 16) (hs : s.vals.length ≤ 16) (j : Nat) (hj : j < s.vals.length) (v : Val) (hx : s.vals[j]? = some v) (hvd : v.data.length ≤ 200) (data : List UInt8) (dead al : Bool) (A B C D : Vm.Obj) (h : Heap) :
    roundV (callL E) loopL h.length [3, 4, 6, 10, 13, 15, 67, 68, 69] c_tattlerref5_Put_l0 ⟨[(3, .sl (data.map byteV)), (4, .bool dead), (6, .ptr (some (h.length + 1, 0))), (10, .ptr (some (h.length + 2, 0))), (13, .ptr (some (h.length + 4, 0))), (15, .ptr (some (h.length + 5, 0))), (67, .sl (s.vals.map Val.v)), (68, .int .i64 s.vals.length), (69, .int .i64 j)], h ++ [A, .cells seen.c [], B, C, D, sbO w l], ⟨[], [], al⟩⟩ =
      some (.normal, ⟨[(3, .sl (data.map byteV)), (4, .bool dead), (6, .ptr (some (h.length + 1, 0))), (10, .ptr (some (h.length + 2, 0))), (13, .ptr (some (h.length + 4, 0))), (15, .ptr (some (h.length + 5, 0))), (67, .sl (s.vals.map Val.v)), (68, .int .i64 s.vals.length), (69, .int .i64 (j + 1 : Nat))], h ++ [A, .cells seen.c [], B, C, D, sbO w (pF seen l v)], ⟨[], [], true⟩⟩) := by
  have hlt : (j : Int) < (s.vals.length : Int) := by omega
  have h1 := i64_add1 (n := j) (by omega)
  have g2 := fun l => r1Covers_eq seen v.dot (h ++ l)
  have g3 := fun l => r5copied_eq v (by omega) (h ++ l)
  simp only [Vec.v, Dot.v, Val.v] at g2 g3
  unfold sbO
  have hpF : pF seen l v = cnd (seen.covers v.dot) l (l ++ [v]) := rfl
  rw [hpF, s_round]
  have hLl : (l.map Val.v).length = l.length := by simp
  have hF : (l.map Val.v).flatMap V.flat = l.flatMap Val.c := by rw [List.flatMap_map]; rfl
  have hFl : (l.flatMap Val.c).length = l.length * 4 := flat_len (z := 4) (fun x => rfl) l
  have hFp : (l.flatMap Val.c).all V.pureCell = true := flat_pure (c := Val.c) (fun x => rfl) l
  have hFc0 : chunks true 4 l.length (l.flatMap Val.c) = l.map Val.v := flat_chunks (c := Val.c) (z := 4) (fun x => rfl) (by omega) l
  have hFc : chunks true 4 (l.length + 1) (l.flatMap Val.c ++ v.c) = l.map Val.v ++ [.agg v.c] := by
    have := flat_chunks (c := Val.c) (z := 4) (fun x => rfl) (by omega) (l ++ [v])
    simp only [List.flatMap_append, List.flatMap_cons, List.flatMap_nil, List.append_nil, List.length_append, List.length_singleton, List.map_append, List.map_cons, List.map_nil] at this
    exact this
  have hL : (l.map Val.v = []) = (l = []) := by simp
  cases hc : seen.covers v.dot with
  | true =>
    rw [hc] at g2
    simp only [cnd_true]
    by_cases hl0 : l = []
    · subst hl0
      simp only [List.map_nil] at *
      simp [-getElem?_pos, c_tattlerref5_Put_l0, hlt, hj, hx, h1, g2, g3, chunks]
      done
    · have hL : l.map Val.v ≠ [] := by simpa using hl0
      generalize l.map Val.v = L at *
      generalize l.flatMap Val.c = FL at *
      have hFt : List.take (l.length * 4) FL = FL := List.take_of_length_le (by omega)
      simp [-getElem?_pos, -List.length_flatMap, c_tattlerref5_Put_l0, hlt, hj, hx, h1, g2, g3, hL, hLl, hF, hFl, hFc0, hFp, hFt]
      done
  | false =>
    rw [hc] at g2
    simp only [cnd_false, List.map_append, List.map_cons, List.map_nil]
    by_cases hl0 : l = []
    · subst hl0
      simp only [List.map_nil] at *
      simp [-getElem?_pos, c_tattlerref5_Put_l0, hlt, hj, hx, h1, g2, g3, chunks]
      done
    · have hL : l.map Val.v ≠ [] := by simpa using hl0
      generalize l.map Val.v = L at *
      generalize l.flatMap Val.c = FL at *
      have hFt : List.take (l.length * 4) FL = FL := List.take_of_length_le (by omega)
      have hFt2 : List.take ((l.length + 1) * 4) (FL ++ v.c) = FL ++ v.c := List.take_of_length_le (by simp; omega)
      have hF2 : (l.length + 1) * 4 ≤ l.length * 4 + 4 := by omega
      have hll : (l.length + 1) * 48 ≤ 140737488355328 := by omega
      simp [-getElem?_pos, -List.length_flatMap, c_tattlerref5_Put_l0, hlt, hj, hx, h1, g2, g3, hL, hLl, hF, hFl, hFc, hFp, hFt, hFt2, hF2, hll]
      done
theorem r5put_loop (s : Sib) (hs : s.may = true) (seen : Vec) (w : Vec) (data : List UInt8) (dead : Bool) (A B C D : Vm.Obj) (h : Heap) :
    loopRun (callL E) loopL h.length [3, 4, 6, 10, 13, 15, 67, 68, 69] c_tattlerref5_Put_l0 ⟨[(3, .sl (data.map byteV)), (4, .bool dead), (6, .ptr (some (h.length + 1, 0))), (10, .ptr (some (h.length + 2, 0))), (13, .ptr (some (h.length + 4, 0))), (15, .ptr (some (h.length + 5, 0))), (67, .sl (s.vals.map Val.v)), (68, .int .i64 s.vals.length), (69, .int .i64 0)], h ++ [A, .cells seen.c [], B, C, D, sbO w []], .no⟩ =
      some (.exit 0, ⟨[(3, .sl (data.map byteV)), (4, .bool dead), (6, .ptr (some (h.length + 1, 0))), (10, .ptr (some (h.length + 2, 0))), (13, .ptr (some (h.length + 4, 0))), (15, .ptr (some (h.length + 5, 0))), (67, .sl (s.vals.map Val.v)), (68, .int .i64 s.vals.length), (69, .int .i64 s.vals.length), (70, .bool false)], h ++ [A, .cells seen.c [], B, C, D, sbO w (kept s seen)], ⟨[], [], decide (0 < s.vals.length)⟩⟩) := by
  have hk : s.vals.foldl (pF seen) [] = kept s seen := by rw [pF_fold]; rfl
  have key := loop_to (C := callL E) (fb := h.length) (live := [3, 4, 6, 10, 13, 15, 67, 68, 69]) (c := c_tattlerref5_Put_l0)
    (fun j => ⟨[(3, .sl (data.map byteV)), (4, .bool dead), (6, .ptr (some (h.length + 1, 0))), (10, .ptr (some (h.length + 2, 0))), (13, .ptr (some (h.length + 4, 0))), (15, .ptr (some (h.length + 5, 0))), (67, .sl (s.vals.map Val.v)), (68, .int .i64 s.vals.length), (69, .int .i64 j)], h ++ [A, .cells seen.c [], B, C, D, sbO w ((s.vals.take j).foldl (pF seen) [])], ⟨[], [], decide (0 < j)⟩⟩) s.vals.length
    (r := (.exit 0, ⟨[(3, .sl (data.map byteV)), (4, .bool dead), (6, .ptr (some (h.length + 1, 0))), (10, .ptr (some (h.length + 2, 0))), (13, .ptr (some (h.length + 4, 0))), (15, .ptr (some (h.length + 5, 0))), (67, .sl (s.vals.map Val.v)), (68, .int .i64 s.vals.length), (69, .int .i64 s.vals.length), (70, .bool false)], h ++ [A, .cells seen.c [], B, C, D, sbO w (kept s seen)], ⟨[], [], decide (0 < s.vals.length)⟩⟩)) (fun j hj => ?_) ?_ rfl
  · rw [show ((0 : Nat) : Int) = 0 from rfl, List.take_zero] at key
    exact key
  · obtain ⟨v, hx, _, hm⟩ := get_of_lt (l := s.vals) (i := j) hj
    have hs16 := may_len hs
    have hlen := foldl_len (pF_len seen) (s.vals.take j) []
    simp only [List.length_take, List.length_nil] at hlen
    have h1 := r5put_round s seen w ((s.vals.take j).foldl (pF seen) []) (by omega) hs16 j hj v hx (may_data hs hm) data dead (decide (0 < j)) A B C D h
    rw [h1, foldl_take hx]
    simp
  · rw [s_round, List.take_length, hk]
    simp [c_tattlerref5_Put_l0]
theorem r5Put_no (s : Sib) (seen : Vec) (node : Int) (data : List UInt8) (dead : Bool) (hno : (s.may && (seen.may && (decide (0 ≤ node) && (decide (node < 8) && mayV ⟨zeroDot, data, dead⟩)))) = false) (h : Heap) :
    callL E F.tattlerref5_Put [s.v, seen.v, .int .i64 node, bytesV data, .bool dead] h = some (.tup [zeroSib.v, .int .i64 1], h, .no) := by
  refine callL_of rfl fn_tattlerref5_Put ?_
  have g1 := fun l => r5May_eq s (h ++ l)
  have g2 := fun l => r1May_eq seen (h ++ l)
  have hz : zeroSib.v = .agg zeroSib.c := rfl
  simp only [Sib.v, Vec.v] at g1 g2
  unfold bytesV
  cases hs : s.may with
  | false =>
    rw [hs] at g1
    simp [-getElem?_pos, c_tattlerref5_Put, g1, hz, zeroSib_c]
  | true =>
    rw [hs] at g1 hno
    cases hse : seen.may with
    | false =>
      rw [hse] at g2
      simp [-getElem?_pos, c_tattlerref5_Put, g1, g2, hz, zeroSib_c]
    | true =>
      rw [hse] at g2 hno
      by_cases hn0 : 0 ≤ node
      · by_cases hn8 : node < 8
        · rw [decide_eq_true hn0, decide_eq_true hn8] at hno
          simp only [Bool.true_and] at hno
          have e1 : ¬ node < 0 := by omega
          have e2 : ¬ 8 ≤ node := by omega
          unfold mayV at hno
          by_cases h200 : data.length ≤ 200
          · have e3 : ¬ (200 : Int) < (data.length : Int) := by omega
            simp only [decide_eq_true h200, Bool.true_and, Bool.or_eq_false_iff, decide_eq_false_iff_not] at hno
            have hd : dead = true := by simpa using hno.1
            have e4 : (0 : Int) < (data.length : Int) := by omega
            have e5 : 0 < data.length := by omega
            simp [-getElem?_pos, c_tattlerref5_Put, g1, g2, e1, e2, e3, hd, e4, e5, hz, zeroSib_c]
          · have e3 : (200 : Int) < (data.length : Int) := by omega
            simp [-getElem?_pos, c_tattlerref5_Put, g1, g2, e1, e2, e3, hz, zeroSib_c]
        · have e1 : ¬ node < 0 := by omega
          have e2 : 8 ≤ node := by omega
          simp [-getElem?_pos, c_tattlerref5_Put, g1, g2, e1, e2, hz, zeroSib_c]
      · have e1 : node < 0 := by omega
        simp [-getElem?_pos, c_tattlerref5_Put, g1, g2, e1, hz, zeroSib_c]
set_option maxRecDepth 4000 in
theorem r5Put_eq (s : Sib) (hs : s.may = true) (seen : Vec) (hse : seen.may = true) {n : Nat} (hn : n < 8) (data : List UInt8) (dead : Bool) (hx : mayV ⟨zeroDot, data, dead⟩ = true) (h : Heap) :
    ∃ al, callL E F.tattlerref5_Put [s.v, seen.v, .int .i64 n, bytesV data, .bool dead] h = some (.tup [(putS s seen n data dead).1.v, .int .i64 (putS s seen n data dead).2], h, ⟨[], [], al⟩) := by
  have hd : data.length ≤ 200 ∧ (dead = true → data.length = 0) := by
    unfold mayV at hx
    simp only [Bool.and_eq_true, decide_eq_true_eq, Bool.or_eq_true] at hx
    refine ⟨hx.1, fun e => ?_⟩
    rcases hx.2 with h | h
    · rw [e] at h; cases h
    · exact h
  have g1 := fun l => r5May_eq s (h ++ l)
  have g2 := fun l => r1May_eq seen (h ++ l)
  rw [hs] at g1
  rw [hse] at g2
  have e1 : ¬ (n : Int) < 0 := by omega
  have e2 : ¬ (8 : Int) ≤ (n : Int) := by omega
  have e3 : ¬ (200 : Int) < (data.length : Int) := by omega
  have hdl : ∀ x : Bool, dead = true → ¬ (0 : Int) < (data.length : Int) := fun _ e => by have := hd.2 e; omega
  have hdl' : dead = true → ¬ 0 < data.length := fun e => by have := hd.2 e; omega
  have g4 := fun l => r1Join_eq s.seen seen (h ++ l)
  have hpos : 0 ≤ (s.seen.join seen).at n := by
    rw [join_at _ _ hn]
    have := (may_at0 (seen_may hs) hn).1
    omega
  have g5 := fun l => r1Next_eq (s.seen.join seen) hn hpos (h ++ l)
  have hz : zeroSib.v = .agg zeroSib.c := rfl
  unfold putS
  unfold bytesV
  by_cases hmx : 1099511627776 ≤ (s.seen.join seen).at n
  · refine ⟨false, callL_of rfl fn_tattlerref5_Put ?_⟩
    rw [decide_eq_true hmx] at g5 ⊢
    simp only [cnd_true] at g5 ⊢
    simp only [Sib.v, Vec.v, Val.v, Dot.v] at g1 g2 g4 g5 ⊢
    cases hdd : dead with
    | false =>
      simp [-getElem?_pos, c_tattlerref5_Put, g1, g2, g4, g5, e1, e2, e3, zeroSib_c]
      done
    | true =>
      have e4 := hdl true hdd
      have e4' := hdl' hdd
      simp [-getElem?_pos, c_tattlerref5_Put, g1, g2, g4, g5, e1, e2, e3, e4, e4', zeroSib_c]
      done
  · refine ⟨true, callL_of rfl fn_tattlerref5_Put ?_⟩
    rw [decide_eq_false hmx] at g5 ⊢
    have g6 := fun l => r1With_eq (s.seen.join seen) hn ((s.seen.join seen).at n + 1) (h ++ l)
    have hmax : max ((s.seen.join seen).at n) ((s.seen.join seen).at n + 1) = (s.seen.join seen).at n + 1 := by omega
    rw [hmax] at g6
    have lp := fun A B C D => r5put_loop s hs seen ((s.seen.join seen).put n ((s.seen.join seen).at n + 1)) data dead A B C D h
    unfold sbO at lp
    have hkl : (kept s seen).length ≤ 16 := Nat.le_trans (List.length_filter_le _ _) (may_len hs)
    have i1 := fun l => r5insert_eq (kept s seen) (by omega) ⟨⟨n, (s.seen.join seen).at n + 1⟩, data, dead⟩ (h ++ l)
    have hil := insertV_len (kept s seen) ⟨⟨n, (s.seen.join seen).at n + 1⟩, data, dead⟩
    have hxd : (⟨⟨n, (s.seen.join seen).at n + 1⟩, data, dead⟩ : Val).c = [.int .i64 n, .int .i64 ((s.seen.join seen).at n + 1), .sl (data.map byteV), .bool dead] := rfl
    have hdd : (⟨n, (s.seen.join seen).at n + 1⟩ : Dot).c = [.int .i64 n, .int .i64 ((s.seen.join seen).at n + 1)] := rfl
    have hcc : ∀ l : List Val, ((s.seen.join seen).put n ((s.seen.join seen).at n + 1)).c ++ [V.sl (l.map Val.v)] = Sib.c ⟨(s.seen.join seen).put n ((s.seen.join seen).at n + 1), l⟩ := fun _ => rfl
    have hKl : ((kept s seen).map Val.v).length = (kept s seen).length := by simp
    have hKF : ((kept s seen).map Val.v).flatMap V.flat = (kept s seen).flatMap Val.c := by rw [List.flatMap_map]; rfl
    have hKFl : ((kept s seen).flatMap Val.c).length = (kept s seen).length * 4 := flat_len (z := 4) (fun x => rfl) _
    have hKFp : ((kept s seen).flatMap Val.c).all V.pureCell = true := flat_pure (c := Val.c) (fun x => rfl) _
    have hKFc : chunks true 4 (kept s seen).length ((kept s seen).flatMap Val.c) = (kept s seen).map Val.v := flat_chunks (c := Val.c) (z := 4) (fun x => rfl) (by omega) _
    have hKt : List.take ((kept s seen).length * 4) ((kept s seen).flatMap Val.c) = (kept s seen).flatMap Val.c := List.take_of_length_le (by omega)
    have hKn : ((kept s seen).map Val.v = []) = (kept s seen = []) := by simp
    simp only [Sib.v, Vec.v, Val.v, Dot.v, hxd, hdd, cnd_false] at g1 g2 g4 g5 g6 lp hcc i1 ⊢
    have hins : ∀ l : Heap, callL E F.tattlerref5_insert [.sl ((kept s seen).map fun v => V.agg v.c), .agg [.int .i64 n, .int .i64 ((s.seen.join seen).at n + 1), .sl (data.map byteV), .bool dead]] (h ++ l) = some (.sl ((insertV (kept s seen) ⟨⟨n, (s.seen.join seen).at n + 1⟩, data, dead⟩).map fun v => V.agg v.c), h ++ l, .no) := i1
    clear i1
    generalize insertV (kept s seen) ⟨⟨n, (s.seen.join seen).at n + 1⟩, data, dead⟩ = I at *
    have hIl : (I.map fun v => V.agg v.c).length = I.length := by simp
    have hb8 : ∀ x : V, (((s.seen.join seen).put n ((s.seen.join seen).at n + 1)).c ++ [x])[8]? = some x := fun x => sbC8 _ x
    have hbs : ∀ x y : V, (((s.seen.join seen).put n ((s.seen.join seen).at n + 1)).c ++ [x]).set 8 y = ((s.seen.join seen).put n ((s.seen.join seen).at n + 1)).c ++ [y] := fun x y => sbC_set8 _ x y
    have hblt : ∀ (m : Nat) (x : V), V.ltL m (((s.seen.join seen).put n ((s.seen.join seen).at n + 1)).c ++ [x]) = x.lt m := fun m x => sbC_lt _ x m
    unfold sbC at lp
    simp only [List.map_nil] at lp
    have hch0 : chunks true 4 0 [] = [] := rfl
    have hd140 : data.length ≤ 140737488355328 := by omega
    have hd9 : ∀ x : V, List.drop 9 (((s.seen.join seen).put n ((s.seen.join seen).at n + 1)).c ++ [x]) = [] := fun x => List.drop_of_length_le (by simp)
    generalize kept s seen = K at *
    by_cases h0 : K = []
    · subst h0
      simp only [List.map_nil, List.length_nil] at *
      have e6 : ¬ 16 < 0 + 1 := by omega
      simp only [decide_eq_false e6, cnd_false]
      cases hdd2 : dead with
      | false =>
        subst hdd2
        simp [-getElem?_pos, c_tattlerref5_Put, g1, g2, g4, g5, g6, e1, e2, e3, zeroSib_c, lp, hins, hcc, hd9, hil, hIl, hd140, chunks, hb8, hbs, hblt]
        done
      | true =>
        have e4 := hdl true hdd2
        have e4' := hdl' hdd2
        subst hdd2
        simp [-getElem?_pos, c_tattlerref5_Put, g1, g2, g4, g5, g6, e1, e2, e3, e4, e4', zeroSib_c, lp, hins, hcc, hd9, hil, hIl, hd140, chunks, hb8, hbs, hblt]
        done
    · have hL : K.map Val.v ≠ [] := by simpa using h0
      have hKv : (K.map fun v => V.agg v.c) = K.map Val.v := rfl
      rw [hKv] at hins
      generalize K.map Val.v = L at *
      generalize K.flatMap Val.c = FL at *
      by_cases hk16 : 16 < K.length + 1
      · have e6 : (16 : Int) < (K.length : Int) + 1 := by omega
        simp only [decide_eq_true hk16, cnd_true]
        cases hdd2 : dead with
        | false =>
          subst hdd2
          simp [-getElem?_pos, -List.length_flatMap, c_tattlerref5_Put, g1, g2, g4, g5, g6, e1, e2, e3, e6, zeroSib_c, lp, hins, hcc, hd9, hil, hIl, hd140, hch0, hb8, hbs, hblt, hL, hKl, hKF, hKFl, hKFp, hKFc, hKt]
          done
        | true =>
          have e4 := hdl true hdd2
          have e4' := hdl' hdd2
          subst hdd2
          simp [-getElem?_pos, -List.length_flatMap, c_tattlerref5_Put, g1, g2, g4, g5, g6, e1, e2, e3, e4, e4', e6, zeroSib_c, lp, hins, hcc, hd9, hil, hIl, hd140, hch0, hb8, hbs, hblt, hL, hKl, hKF, hKFl, hKFp, hKFc, hKt]
          done
      · have e6 : ¬ (16 : Int) < (K.length : Int) + 1 := by omega
        simp only [decide_eq_false hk16, cnd_false]
        cases hdd2 : dead with
        | false =>
          subst hdd2
          simp [-getElem?_pos, -List.length_flatMap, c_tattlerref5_Put, g1, g2, g4, g5, g6, e1, e2, e3, e6, zeroSib_c, lp, hins, hcc, hd9, hil, hIl, hd140, hch0, hb8, hbs, hblt, hL, hKl, hKF, hKFl, hKFp, hKFc, hKt]
          done
        | true =>
          have e4 := hdl true hdd2
          have e4' := hdl' hdd2
          subst hdd2
          simp [-getElem?_pos, -List.length_flatMap, c_tattlerref5_Put, g1, g2, g4, g5, g6, e1, e2, e3, e4, e4', e6, zeroSib_c, lp, hins, hcc, hd9, hil, hIl, hd140, hch0, hb8, hbs, hblt, hL, hKl, hKF, hKFl, hKFp, hKFc, hKt]
          done
end Go.Proofs.Ytfdhldbhbigfhaa.V
