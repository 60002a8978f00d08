/- SibsGrow. -/
import Derived.Test.YtfdhldbhbigfhaaVmSE
import Derived.Test.YtfdhldbhbigfhaaVmTP
set_option linter.unusedVariables false
set_option linter.unusedSimpArgs false
namespace Go.Proofs.Ytfdhldbhbigfhaa.V
open Go.Vm

theorem leq_reap {s : Sib} (hs : s.may = true) : s.leq (reapS s) = true := by
  refine leq_of hs (reap_may hs) ?_
  rcases reap_cases hs with ⟨e, _⟩ | ⟨e, _⟩
  · rw [e]; exact join_self hs
  · rw [e]
    refine join_eq_of hs (empty_may hs) (empty_may hs) ?_ (Vec_join_self _) ?_
    · intro v hv w hw; cases hw
    · intro v
      constructor
      · intro hv; cases hv
      · rintro (⟨hv, hr | hc⟩ | ⟨hv, _⟩)
        · cases hr
        · have := valOk_covers (((may_iff s).1 hs).val v hv)
          rw [show (⟨s.seen, []⟩ : Sib).seen = s.seen from rfl, this] at hc
          cases hc
        · cases hv
theorem vecLeq_at {a b : Vec} (h : ∀ k, k < 8 → a.at k ≤ b.at k) : a.leq b = true := by
  have : a.join b = b := by
    apply Vec.ext_at
    intro k hk
    rw [join_at _ _ hk]
    have := h k hk
    omega
  unfold Vec.leq
  rw [this]
  simp
def cntL {α : Type} (f : α → Bool) (l : List α) : Nat := (l.filter f).length
theorem cntL_take {α : Type} {f : α → Bool} {l : List α} {j : Nat} {v : α} (h : l[j]? = some v) : cntL f (l.take (j + 1)) = cntL f (l.take j) + cnd (f v) 1 0 := by
  unfold cntL
  rw [List.take_add_one, h, List.filter_append, List.length_append]
  cases hf : f v <;> simp [hf]
theorem cntL_le {α : Type} (f : α → Bool) (l : List α) : cntL f l ≤ l.length := List.length_filter_le _ _
def oldV (s : Sib) (v : Val) : Bool := s.vals.any fun w => decide (v.dot = w.dot)
theorem any_take {α : Type} {f : α → Bool} {l : List α} {j : Nat} {v : α} (h : l[j]? = some v) : (l.take (j + 1)).any f = ((l.take j).any f || f v) := by
  rw [List.take_add_one, h, List.any_append]
  simp
theorem grow0 (s t : Sib) (seen : Vec) (v : Val) (hl : s.vals.length ≤ 16) (node n i : Int) (data : List UInt8) (h : Heap) :
    loopRun (callL E) loopL h.length [2, 3, 4, 5, 9, 11, 13, 14, 76, 77, 78, 83, 84, 85] c_tattlerlaw5_SibsGrow_l0 ⟨[(2, .int .i64 node), (3, bytesV data), (4, .ptr (some (h.length, 0))), (5, .ptr (some (h.length + 1, 0))), (9, .ptr (some (h.length + 2, 0))), (11, .int .i64 n), (13, .ptr (some (h.length + 3, 0))), (14, .bool false), (76, .sl (t.vals.map Val.v)), (77, .int .i64 t.vals.length), (78, .int .i64 i), (83, .sl (s.vals.map Val.v)), (84, .int .i64 s.vals.length), (85, .int .i64 0)], h ++ [.cells s.c [], .cells seen.c [], .cells t.c [], .cells v.c []], .no⟩ =
      some (.exit 2, ⟨[(2, .int .i64 node), (3, bytesV data), (4, .ptr (some (h.length, 0))), (5, .ptr (some (h.length + 1, 0))), (9, .ptr (some (h.length + 2, 0))), (11, .int .i64 n), (13, .ptr (some (h.length + 3, 0))), (14, .bool (oldV s v)), (76, .sl (t.vals.map Val.v)), (77, .int .i64 t.vals.length), (78, .int .i64 i), (83, .sl (s.vals.map Val.v)), (84, .int .i64 s.vals.length), (85, .int .i64 s.vals.length), (86, .bool false)], h ++ [.cells s.c [], .cells seen.c [], .cells t.c [], .cells v.c []], .no⟩) := by
  have key := loop_to (C := callL E) (fb := h.length) (live := [2, 3, 4, 5, 9, 11, 13, 14, 76, 77, 78, 83, 84, 85]) (c := c_tattlerlaw5_SibsGrow_l0)
    (fun j => ⟨[(2, .int .i64 node), (3, bytesV data), (4, .ptr (some (h.length, 0))), (5, .ptr (some (h.length + 1, 0))), (9, .ptr (some (h.length + 2, 0))), (11, .int .i64 n), (13, .ptr (some (h.length + 3, 0))), (14, .bool ((s.vals.take j).any fun w => decide (v.dot = w.dot))), (76, .sl (t.vals.map Val.v)), (77, .int .i64 t.vals.length), (78, .int .i64 i), (83, .sl (s.vals.map Val.v)), (84, .int .i64 s.vals.length), (85, .int .i64 j)], h ++ [.cells s.c [], .cells seen.c [], .cells t.c [], .cells v.c []], .no⟩) s.vals.length (r := (.exit 2, ⟨[(2, .int .i64 node), (3, bytesV data), (4, .ptr (some (h.length, 0))), (5, .ptr (some (h.length + 1, 0))), (9, .ptr (some (h.length + 2, 0))), (11, .int .i64 n), (13, .ptr (some (h.length + 3, 0))), (14, .bool (oldV s v)), (76, .sl (t.vals.map Val.v)), (77, .int .i64 t.vals.length), (78, .int .i64 i), (83, .sl (s.vals.map Val.v)), (84, .int .i64 s.vals.length), (85, .int .i64 s.vals.length), (86, .bool false)], h ++ [.cells s.c [], .cells seen.c [], .cells t.c [], .cells v.c []], .no⟩)) (fun j hj => ?_) ?_ rfl
  · rw [List.take_zero, show ((0 : Nat) : Int) = 0 from rfl] at key
    exact key
  · obtain ⟨w, hx, _, hm⟩ := get_of_lt (l := s.vals) (i := j) hj
    have hlt : (j : Int) < (s.vals.length : Int) := by omega
    have h1 := i64_add1 (n := j) (by omega)
    rw [any_take hx]
    generalize ((s.vals.take j).any fun w => decide (v.dot = w.dot)) = q
    rw [s_round]
    cases q with
    | true => simp [-getElem?_pos, bytesV, c_tattlerlaw5_SibsGrow_l0, hlt, hx, h1, hj]
    | false =>
      by_cases hd : v.dot = w.dot
      · simp [-getElem?_pos, bytesV, c_tattlerlaw5_SibsGrow_l0, hlt, hx, h1, hj, Dot.eq_cells, hd]
      · simp [-getElem?_pos, bytesV, c_tattlerlaw5_SibsGrow_l0, hlt, hx, h1, hj, Dot.eq_cells, hd]
  · rw [s_round, List.take_length]
    simp [c_tattlerlaw5_SibsGrow_l0, oldV]
def fineV (s : Sib) (seen : Vec) (node : Int) (data : List UInt8) (v : Val) : Prop :=
  (oldV s v = true ∧ seen.covers v.dot = false) ∨ (oldV s v = false ∧ v.dot.node = node ∧ v.data = data ∧ s.seen.covers v.dot = false)
theorem grow1 (s t : Sib) (seen : Vec) (hl : s.vals.length ≤ 16) (ht : t.vals.length ≤ 16) (node : Int) (data : List UInt8) (hf : ∀ v ∈ t.vals, fineV s seen node data v) (h : Heap) :
    loopRun (callL E) loopL h.length [2, 3, 4, 5, 9, 11, 76, 77, 78] c_tattlerlaw5_SibsGrow_l1 ⟨[(2, .int .i64 node), (3, bytesV data), (4, .ptr (some (h.length, 0))), (5, .ptr (some (h.length + 1, 0))), (9, .ptr (some (h.length + 2, 0))), (11, .int .i64 0), (76, .sl (t.vals.map Val.v)), (77, .int .i64 t.vals.length), (78, .int .i64 0)], h ++ [.cells s.c [], .cells seen.c [], .cells t.c []], .no⟩ =
      some (.exit 0, ⟨[(2, .int .i64 node), (3, bytesV data), (4, .ptr (some (h.length, 0))), (5, .ptr (some (h.length + 1, 0))), (9, .ptr (some (h.length + 2, 0))), (11, .int .i64 (cntL (fun v => !oldV s v) t.vals)), (76, .sl (t.vals.map Val.v)), (77, .int .i64 t.vals.length), (78, .int .i64 t.vals.length), (79, .bool false)], h ++ [.cells s.c [], .cells seen.c [], .cells t.c []], .no⟩) := by
  have key := loop_to (C := callL E) (fb := h.length) (live := [2, 3, 4, 5, 9, 11, 76, 77, 78]) (c := c_tattlerlaw5_SibsGrow_l1)
    (fun j => ⟨[(2, .int .i64 node), (3, bytesV data), (4, .ptr (some (h.length, 0))), (5, .ptr (some (h.length + 1, 0))), (9, .ptr (some (h.length + 2, 0))), (11, .int .i64 (cntL (fun v => !oldV s v) (t.vals.take j))), (76, .sl (t.vals.map Val.v)), (77, .int .i64 t.vals.length), (78, .int .i64 j)], h ++ [.cells s.c [], .cells seen.c [], .cells t.c []], .no⟩) t.vals.length (r := (.exit 0, ⟨[(2, .int .i64 node), (3, bytesV data), (4, .ptr (some (h.length, 0))), (5, .ptr (some (h.length + 1, 0))), (9, .ptr (some (h.length + 2, 0))), (11, .int .i64 (cntL (fun v => !oldV s v) t.vals)), (76, .sl (t.vals.map Val.v)), (77, .int .i64 t.vals.length), (78, .int .i64 t.vals.length), (79, .bool false)], h ++ [.cells s.c [], .cells seen.c [], .cells t.c []], .no⟩)) (fun j hj => ?_) ?_ rfl
  · rw [List.take_zero, show ((0 : Nat) : Int) = 0 from rfl] at key
    exact key
  · obtain ⟨v, hx, _, hm⟩ := get_of_lt (l := t.vals) (i := j) hj
    have hlt : (j : Int) < (t.vals.length : Int) := by omega
    have h1 := i64_add1 (n := j) (by omega)
    rw [cntL_take hx]
    have hq := cntL_le (fun v => !oldV s v) (t.vals.take j)
    generalize cntL (fun v => !oldV s v) (t.vals.take j) = q at hq
    have hq2 : (t.vals.take j).length ≤ 16 := by simp; omega
    have h2 := i64_add1 (n := q) (by omega)
    have lp := grow0 s t seen v hl node q j data h
    have g1 := fun l => r1Covers_eq seen v.dot (h ++ l)
    have g2 := fun l => r1Covers_eq s.seen v.dot (h ++ l)
    have hl2 : List.take 8 t.c = t.seen.c := Sib.c_seen _
    have ts : t.seen = t.seen := rfl
    have g3 := fun l => r1Covers_eq t.seen v.dot (h ++ l)
    simp only [Vec.v, Dot.v] at g1 g2 g3
    simp only [bytesV] at lp ⊢
    rw [s_round]
    rcases hf v hm with ⟨ho, hc⟩ | ⟨ho, hn, hd, hc⟩
    · rw [ho] at lp
      rw [hc] at g1
      simp [-getElem?_pos, c_tattlerlaw5_SibsGrow_l1, hlt, hx, h1, hj, lp, g1, ho]
      done
    · rw [ho] at lp
      rw [hc] at g2
      simp [-getElem?_pos, c_tattlerlaw5_SibsGrow_l1, hlt, hx, h1, h2, hj, lp, g1, g2, g3, ho, hn, hd]
      done
  · rw [s_round, List.take_length]
    simp [c_tattlerlaw5_SibsGrow_l1]
theorem grow2 (s t : Sib) (seen : Vec) (hl : s.vals.length ≤ 16) (n : Nat) (hn : n ≤ 1000) (h : Heap) :
    loopRun (callL E) loopL h.length [5, 9, 11, 137, 138, 139] c_tattlerlaw5_SibsGrow_l2 ⟨[(5, .ptr (some (h.length + 1, 0))), (9, .ptr (some (h.length + 2, 0))), (11, .int .i64 n), (137, .sl (s.vals.map Val.v)), (138, .int .i64 s.vals.length), (139, .int .i64 0)], h ++ [.cells s.c [], .cells seen.c [], .cells t.c []], .no⟩ =
      some (.exit 4, ⟨[(5, .ptr (some (h.length + 1, 0))), (9, .ptr (some (h.length + 2, 0))), (11, .int .i64 (n + cntL (fun w => !seen.covers w.dot) s.vals : Nat)), (137, .sl (s.vals.map Val.v)), (138, .int .i64 s.vals.length), (139, .int .i64 s.vals.length), (140, .bool false)], h ++ [.cells s.c [], .cells seen.c [], .cells t.c []], .no⟩) := by
  have key := loop_to (C := callL E) (fb := h.length) (live := [5, 9, 11, 137, 138, 139]) (c := c_tattlerlaw5_SibsGrow_l2)
    (fun j => ⟨[(5, .ptr (some (h.length + 1, 0))), (9, .ptr (some (h.length + 2, 0))), (11, .int .i64 (n + cntL (fun w => !seen.covers w.dot) (s.vals.take j) : Nat)), (137, .sl (s.vals.map Val.v)), (138, .int .i64 s.vals.length), (139, .int .i64 j)], h ++ [.cells s.c [], .cells seen.c [], .cells t.c []], .no⟩) s.vals.length
    (r := (.exit 4, ⟨[(5, .ptr (some (h.length + 1, 0))), (9, .ptr (some (h.length + 2, 0))), (11, .int .i64 (n + cntL (fun w => !seen.covers w.dot) s.vals : Nat)), (137, .sl (s.vals.map Val.v)), (138, .int .i64 s.vals.length), (139, .int .i64 s.vals.length), (140, .bool false)], h ++ [.cells s.c [], .cells seen.c [], .cells t.c []], .no⟩)) (fun j hj => ?_) ?_ rfl
  · rw [List.take_zero, show ((0 : Nat) : Int) = 0 from rfl] at key
    exact key
  · obtain ⟨w, hx, _, hm⟩ := get_of_lt (l := s.vals) (i := j) hj
    have hlt : (j : Int) < (s.vals.length : Int) := by omega
    have h1 := i64_add1 (n := j) (by omega)
    rw [cntL_take hx]
    have hq := cntL_le (fun w => !seen.covers w.dot) (s.vals.take j)
    have hq2 : (s.vals.take j).length ≤ 16 := by simp; omega
    generalize cntL (fun w => !seen.covers w.dot) (s.vals.take j) = q at hq
    obtain ⟨m, hm⟩ : ∃ m, m = n + q := ⟨_, rfl⟩
    have h2 := i64_add1 (n := m) (by omega)
    have g1 := fun l => r1Covers_eq seen w.dot (h ++ l)
    simp only [Vec.v, Dot.v] at g1
    rw [s_round, ← Nat.add_assoc, ← hm]
    cases hc : seen.covers w.dot with
    | true =>
      rw [hc] at g1
      simp [-getElem?_pos, c_tattlerlaw5_SibsGrow_l2, hlt, hx, h1, hj, g1]
    | false =>
      rw [hc] at g1
      simp [-getElem?_pos, c_tattlerlaw5_SibsGrow_l2, hlt, hx, h1, h2, hj, g1]
  · rw [s_round, List.take_length]
    simp [c_tattlerlaw5_SibsGrow_l2]
theorem cntL_perm {α : Type} {f : α → Bool} {l r : List α} (h : l.Perm r) : cntL f l = cntL f r := (h.filter f).length_eq
theorem not_old {s : Sib} (hs : s.may = true) {v : Val} (h : s.seen.covers v.dot = false) : oldV s v = false := by
  unfold oldV
  rw [List.any_eq_false]
  intro w hw
  simp only [decide_eq_true_eq]
  intro e
  rw [e, valOk_covers (((may_iff s).1 hs).val w hw)] at h
  cases h
theorem old_of {s : Sib} {v : Val} (h : v ∈ s.vals) : oldV s v = true := by
  unfold oldV
  rw [List.any_eq_true]
  exact ⟨v, h, by simp⟩
set_option maxRecDepth 4000 in
theorem SibsGrow_eq (s : Sib) (seen : Vec) (node : Int) (data : List UInt8) (hd : data.length ≤ 140737488355328) (h : Heap) : callL E F.tattlerlaw5_SibsGrow [s.v, seen.v, .int .i64 node, bytesV data] h = some (.bool true, h, .no) := by
  refine callL_of rfl fn_tattlerlaw5_SibsGrow ?_
  have g1 := fun l => r5May_eq s (h ++ l)
  have g5 := fun l => awake5_eq (h ++ l)
  simp only [Sib.v] at g1
  cases hs : s.may with
  | false =>
    rw [hs] at g1
    simp [-getElem?_pos, c_tattlerlaw5_SibsGrow, g1, g5, bytesV]
    done
  | true =>
    rw [hs] at g1
    have hl16 := may_len hs
    have g2 := fun l => light5_eq [s] (by simp) (h ++ l)
    have hlt : lightL [s] = true := by
      unfold lightL
      simp only [List.all_cons, List.all_nil, Bool.and_true, decide_eq_true_eq]
      omega
    rw [hlt] at g2
    simp only [Sib.v, List.map_cons, List.map_nil] at g2
    cases hno : s.may && (seen.may && (decide (0 ≤ node) && (decide (node < 8) && mayV ⟨zeroDot, data, false⟩))) with
    | false =>
      have p1 := fun l => sibsPut_no s seen node data hd false hno (h ++ l)
      have hz : zeroSib.v = .agg zeroSib.c := rfl
      simp only [Sib.v, Vec.v, bytesV] at p1
      simp [-getElem?_pos, c_tattlerlaw5_SibsGrow, g1, g2, g5, p1, bytesV, zeroSib_c]
      done
    | true =>
      simp only [Bool.and_eq_true, decide_eq_true_eq] at hno
      obtain ⟨_, hse, hn0, hn8, hx⟩ := hno
      obtain ⟨n, rfl⟩ := Int.eq_ofNat_of_zero_le hn0
      have hn : n < 8 := by omega
      have p1 := fun l => sibsPut_eq s hs seen hse hn data false hx (h ++ l)
      rcases putS_cases s seen n data false with e | ⟨e, ha, hk⟩
      · rw [e] at p1
        simp only [Sib.v, Vec.v, bytesV] at p1
        simp [-getElem?_pos, c_tattlerlaw5_SibsGrow, g1, g2, g5, p1, bytesV, zeroSib_c]
        done
      · rw [e] at p1
        have hm := new_may (data := data) (dead := false) hs hse hn hx ha hk
        have hleq := new_leq (data := data) (dead := false) hs hse hn hx ha hk
        have hsl : seen.leq (newS s seen n data false).seen = true := vecLeq_at fun k hk => by
          have h3 := congrArg (fun v => Vec.at v k) (new_join_seen (data := data) (dead := false) hs hse hn)
          simp only [join_at _ _ hk] at h3
          omega
        have hnc := not_covered hs hse hn
        have hf : ∀ v ∈ (newS s seen n data false).vals, fineV s seen n data v := fun v hv => by
          rcases (new_mem hs hse hn).1 hv with e2 | ⟨hw, hc⟩
          · subst e2
            exact .inr ⟨not_old hs hnc, rfl, rfl, hnc⟩
          · exact .inl ⟨old_of hw, hc⟩
        have hc1 : cntL (fun v => !oldV s v) (newS s seen n data false).vals = 1 := by
          unfold newS
          rw [cntL_perm (insertV_perm _ _)]
          unfold cntL
          rw [List.filter_append, List.length_append]
          have e1 : (kept s seen).filter (fun v => !oldV s v) = [] := by
            rw [List.filter_eq_nil_iff]
            intro v hv
            rw [old_of ((List.mem_filter.1 hv).1)]
            simp
          have e2 : oldV s ⟨⟨n, (s.seen.join seen).at n + 1⟩, data, false⟩ = false := not_old hs hnc
          rw [e1]
          simp [e2]
        have hc2 : cntL (fun w => !seen.covers w.dot) s.vals = (kept s seen).length := rfl
        have hlen : (newS s seen n data false).vals.length = (kept s seen).length + 1 := insertV_len _ _
        generalize newS s seen n data false = T at *
        have m1 := fun l => sibsMay_eq T (h ++ l)
        have q1 := fun l => leq_eq s T (h ++ l)
        have q2 := fun l => vecLeq_eq seen T.seen (h ++ l)
        have r1 := fun l => reap_eq T (h ++ l)
        have m2 := fun l => sibsMay_eq (reapS T) (h ++ l)
        have r2 := fun l => reap_eq s (h ++ l)
        have q3 := fun l => leq_eq s (reapS s) (h ++ l)
        rw [hm] at m1
        rw [hleq] at q1
        rw [hsl] at q2
        rw [reap_may hm] at m2
        rw [leq_reap hs] at q3
        have hT16 := may_len hm
        have lp1 := grow1 s T seen hl16 hT16 n data hf h
        have lp2 := grow2 s T seen hl16 1 (by omega) h
        rw [hc1] at lp1
        rw [hc2, show 1 + (kept s seen).length = T.vals.length by omega] at lp2
        have ht8 : List.take 8 T.c = T.seen.c := Sib.c_seen _
        simp only [Sib.v, Vec.v, bytesV] at p1 m1 q1 q2 r1 m2 r2 q3 lp1 lp2
        rw [show ((1 : Nat) : Int) = 1 from rfl] at lp1 lp2
        generalize reapS T = RT at *
        generalize reapS s = RS at *
        simp [-getElem?_pos, c_tattlerlaw5_SibsGrow, g1, g2, g5, p1, m1, q1, q2, r1, m2, r2, q3, lp1, lp2, bytesV, ht8]
        done
theorem tattlerlaw5_SibsGrow_top {c0 c1 c2 c3 : List V} (h0 : Ty.Has sibT c0) (h1 : Ty.Has vecT c1) (h2 : Ty.Has (.int .i64) c2) (h3 : Ty.Has bytT c3) : ∃ h fl, callL E F.tattlerlaw5_SibsGrow [Ty.el sibT c0, Ty.el vecT c1, Ty.el (.int .i64) c2, Ty.el bytT c3] [] = some (.bool true, h, fl) := by
  obtain ⟨s, ws, rfl⟩ := Sib.dec h0
  obtain ⟨v, wv, rfl⟩ := Vec.dec h1
  obtain ⟨n, wn, rfl⟩ := i64_dec h2
  obtain ⟨x, wx, rfl⟩ := bytes_dec h3
  exact ⟨_, _, SibsGrow_eq s v n x (by unfold reachLen at wx; omega) []⟩
end Go.Proofs.Ytfdhldbhbigfhaa.V
