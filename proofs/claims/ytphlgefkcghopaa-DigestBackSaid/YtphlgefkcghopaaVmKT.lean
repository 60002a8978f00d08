/- What the functions of 'digest' compute: what is sent. -/
import Derived.Test.YtphlgefkcghopaaVmKL
set_option linter.unusedVariables false
set_option linter.unusedSimpArgs false
namespace Go.Proofs.Ytphlgefkcghopaa.V
open Go.Vm

theorem copied_loop (l : List Val) (hl : l.length ≤ 1099511627776) (hs : ∀ v ∈ l, v.data.length ≤ 1099511627776) (r1 r2 : V) (h : Heap) (fb : Nat) (hfb : fb ≤ h.length) (h1' : r1.lt h.length = true) (h2' : r2.lt h.length = true) : ∀ (k j : Nat), j + k = l.length →
    loopRun (callL E) loopL fb [1, 2, 3, 8, 9, 10] c_digest_copied_l0 ⟨[(1, r1), (2, r2), (3, .sl ((l.take j).map Val.v)), (8, .sl (l.map Val.v)), (9, .int .i64 l.length), (10, .int .i64 j)], h, .no⟩ =
      some (.exit 0, ⟨[(1, r1), (2, r2), (3, .sl (l.map Val.v)), (8, .sl (l.map Val.v)), (9, .int .i64 l.length), (10, .int .i64 l.length), (11, .bool false)], h, .no⟩) := by
  intro k
  induction k with
  | zero =>
    intro j hj
    have : j = l.length := by omega
    subst this
    rw [List.take_length]
    refine loop_exit ?_
    rw [s_round]
    simp [c_digest_copied_l0]
  | succ k ih =>
    intro j hj
    have hlt : (j : Int) < (l.length : Int) := by omega
    obtain ⟨x, hx, hd, hm⟩ := get_of_lt (l := l) (i := j) (by omega)
    have h1 := i64_add1 (n := j) (by omega)
    have h3 := ih (j + 1) (by omega)
    have h4 : (l.take (j + 1)).map Val.v = (l.take j).map Val.v ++ [.agg x.c] := by rw [List.take_add_one, hx]; simp
    have h5 : ((l.take j).map Val.v).length = j := by simp; omega
    have h6 : (j + 1) * 48 ≤ 140737488355328 := by omega
    have hdr : x.c.drop 4 = [] := rfl
    have hset2 : x.c.set 2 (.sl (x.data.map byteV)) = x.c := rfl
    have hcl := clone_eq x.data (by have := hs x hm; omega) (h ++ [.cells x.c []])
    rw [h4] at h3
    have hsz : sizeOk 4 ((l.take j).map Val.v) = true := sizeOk_vals _
    generalize (l.take j).map Val.v = q at h3 h5 hsz ⊢
    refine loop_next ?_ h3
    rw [s_round]
    simp [-getElem?_pos, c_digest_copied_l0, hlt, hx, h1, h5, h6, hsz, hfb, hcl, h1', h2', hset2]
theorem copied_eq (e : Ent) (hl : e.sib.vals.length ≤ 1099511627776) (hs : ∀ v ∈ e.sib.vals, v.data.length ≤ 1099511627776) (h : Heap) : callL E F.digest_copied [e.v] h = some (e.v, h, .no) := by
  refine callL_of rfl fn_digest_copied ?_
  have h1 := copied_loop e.sib.vals hl hs (.ptr (some (h.length, 0))) (.ptr (some (h.length + 1, 0))) (h ++ [.cells e.c [], .cells [(.str []), (.int .i64 0), (.int .i64 0), (.int .i64 0), (.int .i64 0), (.int .i64 0), (.int .i64 0), (.int .i64 0), (.int .i64 0), (.sl [])] []]) h.length (by simp) (by simp) (by simp) e.sib.vals.length 0 (by omega)
  rw [List.take_zero, show ((0 : Nat) : Int) = 0 from rfl, List.map_nil] at h1
  simp [-getElem?_pos, c_digest_copied, h1]

theorem same_loop (a b : List Val) (hl : a.length = b.length) (hb : a.length ≤ 1099511627776) (s : Vec) (i : Nat) (h : Heap) (fb : Nat) (hfb : fb ≤ h.length) (hi : hget h i = some (.cells (Sib.c ⟨s, b⟩) [])) : ∀ (k j : Nat), j + k = a.length →
    (a.drop j = b.drop j ∧ loopRun (callL E) loopL fb [3, 23, 24, 25] c_tattlerref5_Same_l0 ⟨[(3, .ptr (some (i, 0))), (23, .sl (a.map Val.v)), (24, .int .i64 a.length), (25, .int .i64 j)], h, .no⟩ =
      some (.exit 0, ⟨[(3, .ptr (some (i, 0))), (23, .sl (a.map Val.v)), (24, .int .i64 a.length), (25, .int .i64 a.length), (26, .bool false)], h, .no⟩)) ∨
    (a.drop j ≠ b.drop j ∧ ∃ l, loopRun (callL E) loopL fb [3, 23, 24, 25] c_tattlerref5_Same_l0 ⟨[(3, .ptr (some (i, 0))), (23, .sl (a.map Val.v)), (24, .int .i64 a.length), (25, .int .i64 j)], h, .no⟩ = some (.ret, ⟨[(4, .bool false)], h ++ l, .no⟩)) := by
  intro k
  induction k with
  | zero =>
    intro j hj
    have : j = a.length := by omega
    subst this
    refine .inl ⟨by rw [List.drop_length, hl, List.drop_length], loop_exit ?_⟩
    rw [s_round]
    simp [c_tattlerref5_Same_l0]
  | succ k ih =>
    intro j hj
    have hlt : (j : Int) < (a.length : Int) := by omega
    obtain ⟨x, hx, hdx, _⟩ := get_of_lt (l := a) (i := j) (by omega)
    obtain ⟨y, hy, hdy, _⟩ := get_of_lt (l := b) (i := j) (by omega)
    have h1 := i64_add1 (n := j) (by omega)
    have hil := hget_lt hi
    have hfb' : fb ≤ h.length + 1 := by omega
    have gi : hget (h ++ [.cells x.c []]) i = some (.cells (Sib.c ⟨s, b⟩) []) := by rw [hget_app hil]; exact hi
    have hdr : x.c.drop 4 = [] := rfl
    have hdr' : y.c.drop 4 = [] := rfl
    by_cases hxy : x = y
    · subst hxy
      have h4 : roundV (callL E) loopL fb [3, 23, 24, 25] c_tattlerref5_Same_l0 ⟨[(3, .ptr (some (i, 0))), (23, .sl (a.map Val.v)), (24, .int .i64 a.length), (25, .int .i64 j)], h, .no⟩ =
          some (.normal, ⟨[(3, .ptr (some (i, 0))), (23, .sl (a.map Val.v)), (24, .int .i64 a.length), (25, .int .i64 ((j + 1 : Nat) : Int))], h, .no⟩) := by
        rw [s_round]
        simp [-getElem?_pos, c_tattlerref5_Same_l0, hlt, hx, hy, gi, h1, hfb, hfb', Dot.eq_cells, hil]
      rw [hdx, hdy]
      rcases ih (j + 1) (by omega) with ⟨h5, h6⟩ | ⟨h5, l, h6⟩
      · exact .inl ⟨by rw [h5], loop_next h4 h6⟩
      · exact .inr ⟨fun h => h5 (List.cons.inj h).2, l, loop_next h4 h6⟩
    · refine .inr ⟨fun h => hxy (by rw [hdx, hdy] at h; exact (List.cons.inj h).1), [.cells x.c [], .cells y.c []], loop_ret ?_⟩
      rw [s_round]
      by_cases e1 : x.dot = y.dot
      · by_cases e2 : x.dead = y.dead
        · have e3 : (x.data == y.data) = false := by
            by_cases e : x.data = y.data
            · exact absurd (by cases x; cases y; simp_all) hxy
            · simpa using e
          simp [-getElem?_pos, c_tattlerref5_Same_l0, hlt, hx, hy, gi, h1, hfb, hfb', Dot.eq_cells, e1, e2, e3]
        · have e3 : (x.dead == y.dead) = false := by simpa using e2
          simp [-getElem?_pos, c_tattlerref5_Same_l0, hlt, hx, hy, gi, h1, hfb, hfb', Dot.eq_cells, e1, e3]
      · simp [-getElem?_pos, c_tattlerref5_Same_l0, hlt, hx, hy, gi, h1, hfb, hfb', Dot.eq_cells, e1]
theorem same_eq (a b : Sib) (hb : a.vals.length ≤ 1099511627776) (h : Heap) : callL E F.tattlerref5_Same [a.v, b.v] h = some (.bool (decide (a = b)), h, .no) := by
  refine callL_of rfl fn_tattlerref5_Same ?_
  obtain ⟨s, a⟩ := a
  obtain ⟨t, b⟩ := b
  by_cases hs : s = t
  · subst hs
    by_cases hl : a.length = b.length
    · rcases same_loop a b hl hb s (h.length + 1) (h ++ [.cells (Sib.c ⟨s, a⟩) [], .cells (Sib.c ⟨s, b⟩) []]) h.length (by simp) (by simp) a.length 0 (by omega) with ⟨h1, h2⟩ | ⟨h1, l, h2⟩
      · have : a = b := by simpa using h1
        subst this
        rw [show ((0 : Nat) : Int) = 0 from rfl] at h2
        simp [-getElem?_pos, c_tattlerref5_Same, h2, Vec.eq_cells]
      · have : a ≠ b := by simpa using h1
        rw [show ((0 : Nat) : Int) = 0 from rfl] at h2
        have hle : ((a.length : Int) == (b.length : Int)) = true := by simp [hl]
        simp [-getElem?_pos, c_tattlerref5_Same, h2, Vec.eq_cells, hle, this]
    · have h1 : ((a.length : Int) == (b.length : Int)) = false := by simp; omega
      have h2 : a ≠ b := fun h => hl (by rw [h])
      simp [-getElem?_pos, c_tattlerref5_Same, Vec.eq_cells, h1, h2]
  · simp [-getElem?_pos, c_tattlerref5_Same, Vec.eq_cells, hs]
theorem sameEntries_loop (a b : List Ent) (hl : a.length = b.length) (hb : a.length ≤ 1099511627776) (hs : ∀ e ∈ a, e.sib.vals.length ≤ 1099511627776) (h : Heap) (fb : Nat) : ∀ (k j : Nat), j + k = a.length →
    (a.drop j = b.drop j ∧ loopRun (callL E) loopL fb [0, 1, 12, 13] c_tattlerref5_SameEntries_l0 ⟨[(0, .sl (a.map Ent.v)), (1, .sl (b.map Ent.v)), (12, .int .i64 a.length), (13, .int .i64 j)], h, .no⟩ =
      some (.exit 0, ⟨[(0, .sl (a.map Ent.v)), (1, .sl (b.map Ent.v)), (12, .int .i64 a.length), (13, .int .i64 a.length), (14, .bool false)], h, .no⟩)) ∨
    (a.drop j ≠ b.drop j ∧ loopRun (callL E) loopL fb [0, 1, 12, 13] c_tattlerref5_SameEntries_l0 ⟨[(0, .sl (a.map Ent.v)), (1, .sl (b.map Ent.v)), (12, .int .i64 a.length), (13, .int .i64 j)], h, .no⟩ = some (.ret, ⟨[(4, .bool false)], h, .no⟩)) := by
  intro k
  induction k with
  | zero =>
    intro j hj
    have : j = a.length := by omega
    subst this
    refine .inl ⟨by rw [List.drop_length, hl, List.drop_length], loop_exit ?_⟩
    rw [s_round]
    simp [c_tattlerref5_SameEntries_l0]
  | succ k ih =>
    intro j hj
    have hlt : (j : Int) < (a.length : Int) := by omega
    obtain ⟨x, hx, hdx, hm⟩ := get_of_lt (l := a) (i := j) (by omega)
    obtain ⟨y, hy, hdy, _⟩ := get_of_lt (l := b) (i := j) (by omega)
    have h1 := i64_add1 (n := j) (by omega)
    have h2 := same_eq x.sib y.sib (hs x hm) h
    by_cases hxy : x = y
    · subst hxy
      have h4 : roundV (callL E) loopL fb [0, 1, 12, 13] c_tattlerref5_SameEntries_l0 ⟨[(0, .sl (a.map Ent.v)), (1, .sl (b.map Ent.v)), (12, .int .i64 a.length), (13, .int .i64 j)], h, .no⟩ =
          some (.normal, ⟨[(0, .sl (a.map Ent.v)), (1, .sl (b.map Ent.v)), (12, .int .i64 a.length), (13, .int .i64 ((j + 1 : Nat) : Int))], h, .no⟩) := by
        rw [s_round]
        simp [-getElem?_pos, c_tattlerref5_SameEntries_l0, hlt, hx, hy, h1, h2]
      rw [hdx, hdy]
      rcases ih (j + 1) (by omega) with ⟨h5, h6⟩ | ⟨h5, h6⟩
      · exact .inl ⟨by rw [h5], loop_next h4 h6⟩
      · exact .inr ⟨fun h => h5 (List.cons.inj h).2, loop_next h4 h6⟩
    · refine .inr ⟨fun h => hxy (by rw [hdx, hdy] at h; exact (List.cons.inj h).1), loop_ret ?_⟩
      rw [s_round]
      by_cases e1 : x.key = y.key
      · have e2 : ¬ x.sib = y.sib := fun e => hxy (by cases x; cases y; simp_all)
        simp [-getElem?_pos, c_tattlerref5_SameEntries_l0, hlt, hx, hy, h1, h2, e1, e2]
      · have e3 : (x.key == y.key) = false := by simpa using e1
        simp [-getElem?_pos, c_tattlerref5_SameEntries_l0, hlt, hx, hy, h1, h2, e3]
theorem sameEntries_eq (a b : List Ent) (hb : a.length ≤ 1099511627776) (hs : ∀ e ∈ a, e.sib.vals.length ≤ 1099511627776) (h : Heap) :
    callL E F.tattlerref5_SameEntries [.sl (a.map Ent.v), .sl (b.map Ent.v)] h = some (.bool (decide (a = b)), h, .no) := by
  refine callL_of rfl fn_tattlerref5_SameEntries ?_
  by_cases hl : a.length = b.length
  · rcases sameEntries_loop a b hl hb hs h h.length a.length 0 (by omega) with ⟨h1, h2⟩ | ⟨h1, h2⟩
    · have : a = b := by simpa using h1
      subst this
      rw [show ((0 : Nat) : Int) = 0 from rfl] at h2
      simp [-getElem?_pos, c_tattlerref5_SameEntries, h2]
    · have : a ≠ b := by simpa using h1
      rw [show ((0 : Nat) : Int) = 0 from rfl] at h2
      have hle : ((a.length : Int) == (b.length : Int)) = true := by simp [hl]
      simp [-getElem?_pos, c_tattlerref5_SameEntries, h2, hle, this]
  · have h1 : ((a.length : Int) == (b.length : Int)) = false := by simp; omega
    have h2 : a ≠ b := fun h => hl (by rw [h])
    simp [-getElem?_pos, c_tattlerref5_SameEntries, h1, h2]

/-- The entries that are sent. -/
def sendL (lk : Ent → Bool) : List Ent → List Ent → Int → List Ent
  | [], out, _ => out
  | e :: r, out, left => if lk e = false then sendL lk r out left else if out ≠ [] ∧ left < (size e : Int) then out else sendL lk r (out ++ [e]) (left - min (size e : Int) (max left 0))
structure EntsOk (l : List Ent) : Prop where
  len : l.length ≤ 1099511627776
  small : ∀ e ∈ l, e.Small
structure DigsOk (l : List Dig) : Prop where
  len : l.length ≤ 1099511627776
  dots : ∀ d ∈ l, d.dots.length ≤ 1099511627776
theorem min_if (a b : Int) : (if b < a then b else a) = min a b := by split <;> omega
theorem max_if (a b : Int) : (if a < b then b else a) = max a b := by split <;> omega
theorem send_loop (mine : List Ent) (ds : List Dig) (hm : EntsOk mine) (hds : DigsOk ds) (h : Heap) (fb : Nat) (hfb : fb ≤ h.length) : ∀ (k j : Nat) (out : List Ent) (left : Int), j + k = mine.length → out.length ≤ j → I64 left →
    ∃ rs h', loopRun (callL E) loopL fb [1, 7, 8, 13, 14, 15] c_digest_Send_l0 ⟨[(1, .sl (ds.map Dig.v)), (7, .sl (out.map Ent.v)), (8, .int .i64 left), (13, .sl (mine.map Ent.v)), (14, .int .i64 mine.length), (15, .int .i64 j)], h, .no⟩ =
      some (.exit 0, ⟨rs, h ++ h', .no⟩) ∧ get rs 7 = .sl ((sendL (fun e => lacked e ds) (mine.drop j) out left).map Ent.v) := by
  intro k
  induction k with
  | zero =>
    intro j out left hj ho hleft
    have : j = mine.length := by omega
    subst this
    refine ⟨[(1, .sl (ds.map Dig.v)), (7, .sl (out.map Ent.v)), (8, .int .i64 left), (13, .sl (mine.map Ent.v)), (14, .int .i64 mine.length), (15, .int .i64 mine.length), (16, .bool false)], [], loop_exit ?_, ?_⟩
    · rw [s_round]
      simp [c_digest_Send_l0]
    · simp [sendL]
  | succ k ih =>
    intro j out left hj ho hleft
    have hlt : (j : Int) < (mine.length : Int) := by omega
    obtain ⟨e, hx, hd, hem⟩ := get_of_lt (l := mine) (i := j) (by omega)
    have hes := hm.small e hem
    have hfb2 : ¬ h.length < fb := by omega
    obtain ⟨hk, hv, hl, hvs⟩ := hes
    have hlen := hm.len
    have h1 := i64_add1 (n := j) (by omega)
    have h2 := lacked_eq e ds hl hds.len hds.dots (h ++ [.cells e.c []])
    have h3 := size_eq (hm.small e hem) (h ++ [.cells e.c []])
    have h4 := copied_eq e hl (fun v hv => (hvs v hv).2) (h ++ [.cells e.c []])
    have hsz := size_le e
    rw [hd]
    cases hlk : lacked e ds with
    | false =>
      rw [hlk] at h2
      obtain ⟨rs, h', h5, h6⟩ := ih (j + 1) out left (by omega) (by omega) hleft
      refine ⟨rs, h', loop_next ?_ h5, by rw [h6]; simp [sendL, hlk]⟩
      rw [s_round]
      simp [-getElem?_pos, c_digest_Send_l0, hlt, hx, h1, h2, hfb, hfb2]
    | true =>
      rw [hlk] at h2
      have happ : (out.length + 1) * 104 ≤ 140737488355328 := by omega
      obtain ⟨hl1, hl2⟩ := hleft
      have hw : IntKind.wrap .i64 (left - min (size e : Int) (max left 0)) = left - min (size e : Int) (max left 0) := by rw [wrap_i64] <;> omega
      obtain ⟨rs, h', h5, h6⟩ := ih (j + 1) (out ++ [e]) (left - min (size e : Int) (max left 0)) (by omega) (by simp; omega) ⟨by omega, by omega⟩
      have hmap : (out ++ [e]).map Ent.v = out.map Ent.v ++ [.agg e.c] := by simp
      rw [hmap] at h5
      by_cases hc : out ≠ [] ∧ left < (size e : Int)
      · have ho' : (0 : Int) < (out.length : Int) := by have := List.length_pos_iff.2 hc.1; omega
        have ho2 : 0 < out.length := by omega
        refine ⟨[(1, .sl (ds.map Dig.v)), (7, .sl (out.map Ent.v)), (8, .int .i64 left), (10, .ptr (some (h.length, 0))), (11, .int .i64 (size e)), (13, .sl (mine.map Ent.v)), (14, .int .i64 mine.length), (15, .int .i64 j), (32, .bool true)], [.cells e.c []], loop_exit ?_, ?_⟩
        · rw [s_round]
          simp [-getElem?_pos, c_digest_Send_l0, hlt, hx, h1, h2, h3, h4, hfb, hfb2, ho', ho2, hc.2]
        · simp [sendL, hlk, hc.1, hc.2]
      · have hsend : sendL (fun e => lacked e ds) (e :: mine.drop (j + 1)) out left = sendL (fun e => lacked e ds) (mine.drop (j + 1)) (out ++ [e]) (left - min (size e : Int) (max left 0)) := by
          simp only [sendL, hlk]; rw [if_neg (by simp), if_neg hc]
        refine ⟨rs, h', loop_next ?_ h5, by rw [h6, hsend]⟩
        rw [s_round]
        by_cases ho0 : out = []
        · subst ho0
          simp [-getElem?_pos, c_digest_Send_l0, hlt, hx, h1, h2, h3, h4, hfb, hfb2, max_if, min_if, hw]
        · have hle : ¬ left < (size e : Int) := fun h => hc ⟨ho0, h⟩
          have ho2 : 0 < out.length := List.length_pos_iff.2 ho0
          have ho' : (0 : Int) < (out.length : Int) := by omega
          simp [-getElem?_pos, c_digest_Send_l0, hlt, hx, h1, h2, h3, h4, hfb, hfb2, max_if, min_if, hw, hle, ho2, ho', happ]
/-- What is sent. -/
def send (mine : List Ent) (ds : List Dig) (most : Int) : List Ent := sendL (fun e => lacked e ds) mine [] most
theorem send_eq (mine : List Ent) (ds : List Dig) (most : Int) (hm : EntsOk mine) (hds : DigsOk ds) (hmost : I64 most) (h : Heap) :
    callL E F.digest_Send [.sl (mine.map Ent.v), .sl (ds.map Dig.v), .int .i64 most] h = some (.sl ((send mine ds most).map Ent.v), h, .no) := by
  obtain ⟨rs, h', h1, h2⟩ := send_loop mine ds hm hds h h.length (Nat.le_refl _) mine.length 0 [] most (by omega) (by simp) hmost
  refine callL_of rfl fn_digest_Send ?_
  rw [show ((0 : Nat) : Int) = 0 from rfl, List.map_nil] at h1
  rw [List.drop_zero] at h2
  simp [-getElem?_pos, c_digest_Send, h1, h2, send]
end Go.Proofs.Ytphlgefkcghopaa.V
