/- What 'sibs.Put' computes. -/
import Derived.Test.YtfdhldbhbigfhaaVmSB
set_option linter.unusedVariables false
set_option linter.unusedSimpArgs false
namespace Go.Proofs.Ytfdhldbhbigfhaa.V
open Go.Vm

def _root_.Go.Vm.Vec.at (v : Vec) (n : Nat) : Int := v.l[n]?.getD 0
def _root_.Go.Vm.Vec.put (v : Vec) (n : Nat) (x : Int) : Vec := ⟨v.l.set n x, by simp⟩
theorem Vec.put_c (v : Vec) (n : Nat) (x : Int) : v.c.set n (.int .i64 x) = (v.put n x).c := by unfold Vec.c Vec.put; rw [List.map_set]
theorem Vec.c_at (v : Vec) {n : Nat} (hn : n < 8) : v.c[n]? = some (.int .i64 (v.at n)) := by
  have h : n < v.l.length := by simp; exact hn
  simp [Vec.c, Vec.at, List.getElem?_eq_getElem h]
def zeroDot : Dot := ⟨0, 0⟩
theorem next_eq (v : Vec) {n : Nat} (hn : n < 8) (h0 : 0 ≤ v.at n) (h : Heap) : callL E F.vector_Next [v.v, .int .i64 n] h =
    some (cnd (decide (1099511627776 ≤ v.at n)) (.tup [zeroDot.v, .int .i64 11]) (.tup [(⟨n, v.at n + 1⟩ : Dot).v, .int .i64 0]), h, .no) := by
  refine callL_of rfl fn_vector_Next ?_
  have g1 := fun l => is_eq n (h ++ l)
  have e1 : (decide ((0 : Int) ≤ (n : Int)) && decide ((n : Int) < 8)) = true := by simp; omega
  rw [e1] at g1
  have hc := Vec.c_at v hn
  have e2 : (n : Int) < 8 := by omega
  have hz : zeroDot.v = .agg [.int .i64 0, .int .i64 0] := rfl
  by_cases hm : 1099511627776 ≤ v.at n
  · simp [-getElem?_pos, c_vector_Next, g1, hc, hn, e2, hm, hz]
  · have hw : IntKind.wrap .i64 (v.at n + 1) = v.at n + 1 := by rw [wrap_i64] <;> omega
    simp [-getElem?_pos, c_vector_Next, g1, hc, hn, e2, hm, hz, hw, Dot.v, Dot.c]
theorem with_eq (v : Vec) {n : Nat} (hn : n < 8) (x : Int) (h : Heap) : callL E F.vector_With [v.v, (⟨n, x⟩ : Dot).v] h = some ((v.put n (max (v.at n) x)).v, h, .no) := by
  refine callL_of rfl fn_vector_With ?_
  have g1 := fun l => is_eq n (h ++ l)
  have e1 : (decide ((0 : Int) ≤ (n : Int)) && decide ((n : Int) < 8)) = true := by simp; omega
  rw [e1] at g1
  have hc := Vec.c_at v hn
  have e2 : (n : Int) < 8 := by omega
  have hp := Vec.put_c v n
  have hm : (if v.at n < x then x else v.at n) = max (v.at n) x := by split <;> omega
  simp [-getElem?_pos, c_vector_With, g1, hc, hn, e2, hm, hp]
/-! ### a new value -/
def pF (seen : Vec) (out : List Val) (v : Val) : List Val := cnd (seen.covers v.dot) out (out ++ [v])
theorem pF_len (seen : Vec) (out : List Val) (v : Val) : (pF seen out v).length ≤ out.length + 1 := by
  unfold pF
  cases seen.covers v.dot <;> simp
theorem pF_fold (seen : Vec) : ∀ (l out : List Val), l.foldl (pF seen) out = out ++ l.filter fun v => !seen.covers v.dot
  | [], out => by simp
  | v :: l, out => by
    rw [List.foldl_cons, pF_fold seen l, List.filter_cons]
    unfold pF
    cases seen.covers v.dot <;> simp
/-- What is kept. -/
def kept (s : Sib) (seen : Vec) : List Val := s.vals.filter fun v => !seen.covers v.dot
def putS (s : Sib) (seen : Vec) (n : Nat) (data : List UInt8) (dead : Bool) : Sib × Int :=
  cnd (decide (1099511627776 ≤ (s.seen.join seen).at n)) (zeroSib, 11)
    (cnd (decide (16 < (kept s seen).length + 1)) (zeroSib, 11)
      (⟨(s.seen.join seen).put n ((s.seen.join seen).at n + 1), insertV (kept s seen) ⟨⟨n, (s.seen.join seen).at n + 1⟩, data, dead⟩⟩, 0))
theorem may_at0 {v : Vec} (h : v.may = true) {n : Nat} (hn : n < 8) : 0 ≤ v.at n ∧ v.at n ≤ 1099511627776 := by
  unfold Vec.may at h
  have hl : n < v.l.length := by simp; exact hn
  have := List.all_eq_true.1 h _ (List.getElem_mem hl)
  unfold cntOk at this
  simp only [Bool.and_eq_true, decide_eq_true_eq] at this
  unfold Vec.at
  rw [List.getElem?_eq_getElem hl]
  exact this
theorem join_at (a b : Vec) {n : Nat} (hn : n < 8) : (a.join b).at n = max (a.at n) (b.at n) := join_get a b n hn
theorem seen_may {s : Sib} (h : s.may = true) : s.seen.may = true := by
  unfold Sib.may at h
  simp only [Bool.and_eq_true] at h
  exact h.1
theorem kept_srt {s : Sib} (hs : s.may = true) (seen : Vec) : Srt (kept s seen) := ((may_iff s).1 hs).srt.sublist List.filter_sublist
theorem kept_new {s : Sib} (hs : s.may = true) {seen : Vec} {n : Nat} (hn : n < 8) {u : Val} (hu : u ∈ kept s seen) : u.dot ≠ ⟨n, (s.seen.join seen).at n + 1⟩ := by
  intro e
  have hc := valOk_covers (((may_iff s).1 hs).val u ((List.mem_filter.1 hu).1))
  rw [e, covers_iff] at hc
  simp only [Int.toNat_natCast] at hc
  have h1 : (s.seen.join seen).at n + 1 ≤ s.seen.at n := hc.2.2.2
  rw [join_at _ _ hn] at h1
  omega
theorem sput_loop (s : Sib) (hs : s.may = true) (seen : Vec) (x : Val) (A B C D : Vm.Obj) (h : Heap) :
    loopRun (callL E) loopL h.length [6, 10, 13, 14, 16, 64, 65, 66] c_sibs_Put_l0 ⟨[(6, .ptr (some (h.length + 1, 0))), (10, .ptr (some (h.length + 2, 0))), (13, .ptr (some (h.length + 4, 0))), (14, .ptr (some (h.length + 5, 0))), (16, .lst [x.v]), (64, .sl (s.vals.map Val.v)), (65, .int .i64 s.vals.length), (66, .int .i64 0)], h ++ [A, .cells seen.c [], B, .cells x.c [], C, D], .no⟩ =
      some (.exit 0, ⟨[(6, .ptr (some (h.length + 1, 0))), (10, .ptr (some (h.length + 2, 0))), (13, .ptr (some (h.length + 4, 0))), (14, .ptr (some (h.length + 5, 0))), (16, .lst ((s.vals.foldl (pF seen) [x]).map Val.v)), (64, .sl (s.vals.map Val.v)), (65, .int .i64 s.vals.length), (66, .int .i64 s.vals.length), (67, .bool false)], h ++ [A, .cells seen.c [], B, .cells x.c [], C, D], .no⟩) := by
  refine loop_to (C := callL E) (fb := h.length) (live := [6, 10, 13, 14, 16, 64, 65, 66]) (c := c_sibs_Put_l0)
    (fun j => ⟨[(6, .ptr (some (h.length + 1, 0))), (10, .ptr (some (h.length + 2, 0))), (13, .ptr (some (h.length + 4, 0))), (14, .ptr (some (h.length + 5, 0))), (16, .lst (((s.vals.take j).foldl (pF seen) [x]).map Val.v)), (64, .sl (s.vals.map Val.v)), (65, .int .i64 s.vals.length), (66, .int .i64 j)], h ++ [A, .cells seen.c [], B, .cells x.c [], C, D], .no⟩) s.vals.length (fun j hj => ?_) ?_ rfl
  · obtain ⟨v, hx, _, hm⟩ := get_of_lt (l := s.vals) (i := j) hj
    have hlt : (j : Int) < (s.vals.length : Int) := by omega
    have hs16 := may_len hs
    have h1 := i64_add1 (n := j) (by omega)
    have hvd := may_data hs hm
    have hlen := foldl_len (pF_len seen) (s.vals.take j) [x]
    simp only [List.length_take, List.length_singleton] at hlen
    rw [foldl_take hx]
    generalize (s.vals.take j).foldl (pF seen) [x] = q at hlen ⊢
    have hq : (q.length + 1) * 48 ≤ 140737488355328 := by omega
    have hql : (q.map Val.v).length = q.length := by simp
    have hqs : sizeOk 4 (q.map Val.v) = true := sizeOk_vals q
    have hpF : pF seen q v = cnd (seen.covers v.dot) q (q ++ [v]) := rfl
    rw [hpF]
    have g2 := fun l => covers_eq seen v.dot (h ++ l)
    simp only [Vec.v, Dot.v] at g2
    have g3 := fun l => own_eq v (by omega) (h ++ l)
    rw [s_round]
    cases hc : seen.covers v.dot with
    | true =>
      rw [hc] at g2
      simp only [Val.v, cnd_true] at g3 ⊢
      generalize (q.map fun v => V.agg v.c) = Q at *
      simp [-getElem?_pos, c_sibs_Put_l0, hlt, hx, h1, g2, hj]
      done
    | false =>
      rw [hc] at g2
      simp only [Val.v, cnd_false, List.map_append, List.map_cons, List.map_nil] at g3 ⊢
      have hqs : sizeOk 4 (q.map fun v => V.agg v.c) = true := hqs
      have hql : (q.map fun v => V.agg v.c).length = q.length := hql
      generalize (q.map fun v => V.agg v.c) = Q at *
      simp [-getElem?_pos, c_sibs_Put_l0, hlt, hx, h1, g2, g3, hj, hql, hqs, hq]
      done
  · rw [s_round, List.take_length]
    simp [c_sibs_Put_l0]
/-- What may not be put is refused. -/
theorem sibsPut_no (s : Sib) (seen : Vec) (node : Int) (data : List UInt8) (hd : data.length ≤ 140737488355328) (dead : Bool) (hno : (s.may && (seen.may && (decide (0 ≤ node) && (decide (node < 8) && mayV ⟨zeroDot, data, dead⟩)))) = false) (h : Heap) :
    callL E F.sibs_Put [s.v, seen.v, .int .i64 node, bytesV data, .bool dead] h = some (.tup [zeroSib.v, .int .i64 1], h, .no) := by
  refine callL_of rfl fn_sibs_Put ?_
  have g0 := fun hh => clone_eq data hd hh
  have g1 := fun l => sibsMay_eq s (h ++ l)
  have g2 := fun l => vecMay_eq seen (h ++ l)
  have g3 := fun l => mayValue_eq ⟨zeroDot, data, dead⟩ (h ++ l)
  have hxc : (⟨zeroDot, data, dead⟩ : Val).c = [.int .i64 0, .int .i64 0, .sl (data.map byteV), .bool dead] := rfl
  have hz : zeroSib.v = .agg zeroSib.c := rfl
  simp only [Sib.v, Vec.v, Val.v, hxc] at g1 g2 g3
  unfold bytesV
  cases hs : s.may with
  | false =>
    rw [hs] at g1
    simp [-getElem?_pos, c_sibs_Put, g0, g1, hz, zeroSib_c]
  | true =>
    rw [hs] at g1 hno
    cases hse : seen.may with
    | false =>
      rw [hse] at g2
      simp [-getElem?_pos, c_sibs_Put, g0, g1, g2, hz, zeroSib_c]
    | true =>
      rw [hse] at g2 hno
      by_cases hn0 : 0 ≤ node
      · by_cases hn8 : node < 8
        · rw [decide_eq_true hn0, decide_eq_true hn8] at hno
          simp only [Bool.true_and] at hno
          rw [hno] at g3
          have e1 : ¬ node < 0 := by omega
          have e2 : ¬ 8 ≤ node := by omega
          simp [-getElem?_pos, c_sibs_Put, g0, g1, g2, g3, e1, e2, hz, zeroSib_c]
        · have e1 : ¬ node < 0 := by omega
          have e2 : 8 ≤ node := by omega
          simp [-getElem?_pos, c_sibs_Put, g0, g1, g2, e1, e2, hz, zeroSib_c]
      · have e1 : node < 0 := by omega
        simp [-getElem?_pos, c_sibs_Put, g0, g1, g2, e1, hz, zeroSib_c]
set_option maxRecDepth 4000 in
theorem sibsPut_eq (s : Sib) (hs : s.may = true) (seen : Vec) (hse : seen.may = true) {n : Nat} (hn : n < 8) (data : List UInt8) (dead : Bool) (hx : mayV ⟨zeroDot, data, dead⟩ = true) (h : Heap) :
    callL E F.sibs_Put [s.v, seen.v, .int .i64 n, bytesV data, .bool dead] h = some (.tup [(putS s seen n data dead).1.v, .int .i64 (putS s seen n data dead).2], h, .no) := by
  refine callL_of rfl fn_sibs_Put ?_
  have hd : data.length ≤ 140737488355328 := by
    unfold mayV at hx
    simp only [Bool.and_eq_true, decide_eq_true_eq] at hx
    have := hx.1
    omega
  have g0 := fun hh => clone_eq data hd hh
  have g1 := fun l => sibsMay_eq s (h ++ l)
  have g2 := fun l => vecMay_eq seen (h ++ l)
  have g3 := fun l => mayValue_eq ⟨zeroDot, data, dead⟩ (h ++ l)
  rw [hs] at g1
  rw [hse] at g2
  rw [hx] at g3
  have hxc : (⟨zeroDot, data, dead⟩ : Val).c = [.int .i64 0, .int .i64 0, .sl (data.map byteV), .bool dead] := rfl
  have e1 : ¬ (n : Int) < 0 := by omega
  have e2 : ¬ (8 : Int) ≤ (n : Int) := by omega
  have g4 := fun l => vecJoin_eq s.seen seen (h ++ l)
  have hpos : 0 ≤ (s.seen.join seen).at n := by
    rw [join_at _ _ hn]
    have := (may_at0 (seen_may hs) hn).1
    omega
  have g5 := fun l => next_eq (s.seen.join seen) hn hpos (h ++ l)
  have hz : zeroSib.v = .agg zeroSib.c := rfl
  unfold putS
  unfold bytesV
  by_cases hmx : 1099511627776 ≤ (s.seen.join seen).at n
  · rw [decide_eq_true hmx] at g5 ⊢
    simp only [cnd_true] at g5 ⊢
    simp only [Sib.v, Vec.v, Val.v, Dot.v, hxc] at g1 g2 g3 g4 g5 ⊢
    simp [-getElem?_pos, c_sibs_Put, g0, g1, g2, g3, g4, g5, e1, e2, zeroSib_c]
    done
  · rw [decide_eq_false hmx] at g5 ⊢
    have g6 := fun l => with_eq (s.seen.join seen) hn ((s.seen.join seen).at n + 1) (h ++ l)
    have hmax : max ((s.seen.join seen).at n) ((s.seen.join seen).at n + 1) = (s.seen.join seen).at n + 1 := by omega
    rw [hmax] at g6
    have lp := fun A B C D => sput_loop s hs seen ⟨⟨n, (s.seen.join seen).at n + 1⟩, data, dead⟩ A B C D h
    have hk : s.vals.foldl (pF seen) [⟨⟨n, (s.seen.join seen).at n + 1⟩, data, dead⟩] = ⟨⟨n, (s.seen.join seen).at n + 1⟩, data, dead⟩ :: kept s seen := pF_fold seen s.vals _
    rw [hk] at lp
    have hkl : (kept s seen).length ≤ 16 := Nat.le_trans (List.length_filter_le _ _) (may_len hs)
    have hsrt := insertV_srt (v := ⟨⟨n, (s.seen.join seen).at n + 1⟩, data, dead⟩) (kept_srt hs seen) (fun u hu => kept_new hs hn hu)
    have hperm := ((insertV_perm ⟨⟨n, (s.seen.join seen).at n + 1⟩, data, dead⟩ (kept s seen)).trans (List.perm_append_singleton _ _)).symm
    have hs5 := sort_vals hperm hsrt (by simp; omega)
    have hll : ((⟨⟨n, (s.seen.join seen).at n + 1⟩, data, dead⟩ :: kept s seen).map Val.v).length = (kept s seen).length + 1 := by simp
    have hxd : (⟨⟨n, (s.seen.join seen).at n + 1⟩, data, dead⟩ : Val).c = [.int .i64 n, .int .i64 ((s.seen.join seen).at n + 1), .sl (data.map byteV), .bool dead] := rfl
    have hdd : (⟨n, (s.seen.join seen).at n + 1⟩ : Dot).c = [.int .i64 n, .int .i64 ((s.seen.join seen).at n + 1)] := rfl
    have hcc : ∀ l : List Val, ((s.seen.join seen).put n ((s.seen.join seen).at n + 1)).c ++ [V.sl (l.map Val.v)] = Sib.c ⟨(s.seen.join seen).put n ((s.seen.join seen).at n + 1), l⟩ := fun _ => rfl
    simp only [Sib.v, Vec.v, Val.v, Dot.v, hxc, hxd, hdd, cnd_false] at g1 g2 g3 g4 g5 g6 lp hcc ⊢
    by_cases hk16 : 16 < (kept s seen).length + 1
    · have e3 : (16 : Int) < ((kept s seen).length : Int) + 1 := by omega
      simp only [decide_eq_true hk16, cnd_true]
      simp [-getElem?_pos, c_sibs_Put, g0, g1, g2, g3, g4, g5, e1, e2, zeroSib_c, lp, e3]
      done
    · have e3 : ¬ (16 : Int) < ((kept s seen).length : Int) + 1 := by omega
      simp only [decide_eq_false hk16, cnd_false]
      simp only [List.map_cons] at hs5
      have hd9 : ∀ x : V, List.drop 9 (((s.seen.join seen).put n ((s.seen.join seen).at n + 1)).c ++ [x]) = [] := fun x => List.drop_of_length_le (by simp)
      simp [-getElem?_pos, c_sibs_Put, g0, g1, g2, g3, g4, g5, g6, e1, e2, zeroSib_c, lp, e3, hs5, hcc, hd9]
      done
end Go.Proofs.Ytfdhldbhbigfhaa.V
