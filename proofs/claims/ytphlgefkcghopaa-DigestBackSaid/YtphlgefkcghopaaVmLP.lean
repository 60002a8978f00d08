/- DigestPart: what the law computes. -/
import Derived.Test.YtphlgefkcghopaaVmKT
set_option linter.unusedVariables false
set_option linter.unusedSimpArgs false
namespace Go.Proofs.Ytphlgefkcghopaa.V
open Go.Vm

theorem light_in (l : List Val) (hl : l.length ≤ 1099511627776) (q10 q11 q12 : V) (h : Heap) (fb : Nat) (hfb : fb ≤ h.length) (g1 : q10.lt h.length = true) (g2 : q11.lt h.length = true) (g3 : q12.lt h.length = true) : ∀ (k j : Nat), j + k = l.length →
    ((∀ v ∈ l.drop j, v.data.length ≤ 4000) ∧ loopRun (callL E) loopL fb [10, 11, 12, 29, 30, 31] c_tattlerlaw13_light_l0 ⟨[(10, q10), (11, q11), (12, q12), (29, .sl (l.map Val.v)), (30, .int .i64 l.length), (31, .int .i64 j)], h, .no⟩ =
      some (.exit 2, ⟨[(10, q10), (11, q11), (12, q12), (29, .sl (l.map Val.v)), (30, .int .i64 l.length), (31, .int .i64 l.length), (32, .bool false)], h, .no⟩)) ∨
    ((¬ ∀ v ∈ l.drop j, v.data.length ≤ 4000) ∧ ∃ x, loopRun (callL E) loopL fb [10, 11, 12, 29, 30, 31] c_tattlerlaw13_light_l0 ⟨[(10, q10), (11, q11), (12, q12), (29, .sl (l.map Val.v)), (30, .int .i64 l.length), (31, .int .i64 j)], h, .no⟩ = some (.ret, ⟨[(2, .bool false)], h ++ x, .no⟩)) := by
  intro k
  induction k with
  | zero =>
    intro j hj
    have : j = l.length := by omega
    subst this
    refine .inl ⟨by simp, loop_exit ?_⟩
    rw [s_round]
    simp [c_tattlerlaw13_light_l0]
  | succ k ih =>
    intro j hj
    have hlt : (j : Int) < (l.length : Int) := by omega
    obtain ⟨x, hx, hd, _⟩ := get_of_lt (l := l) (i := j) (by omega)
    have h1 := i64_add1 (n := j) (by omega)
    have hdr : x.c.drop 4 = [] := rfl
    have hfb' : ¬ h.length < fb := by omega
    rw [hd]
    by_cases hc : x.data.length ≤ 4000
    · have hc' : ¬ (4000 : Int) < (x.data.length : Int) := by omega
      have hc2 : ¬ 4000 < x.data.length := by omega
      have h4 : roundV (callL E) loopL fb [10, 11, 12, 29, 30, 31] c_tattlerlaw13_light_l0 ⟨[(10, q10), (11, q11), (12, q12), (29, .sl (l.map Val.v)), (30, .int .i64 l.length), (31, .int .i64 j)], h, .no⟩ =
          some (.normal, ⟨[(10, q10), (11, q11), (12, q12), (29, .sl (l.map Val.v)), (30, .int .i64 l.length), (31, .int .i64 ((j + 1 : Nat) : Int))], h, .no⟩) := by
        rw [s_round]
        simp [-getElem?_pos, c_tattlerlaw13_light_l0, hlt, hx, h1, hfb, hfb', g1, g2, g3, hc', hc2]
      rcases ih (j + 1) (by omega) with ⟨h5, h6⟩ | ⟨h5, y, h6⟩
      · exact .inl ⟨fun v hv => by rcases List.mem_cons.1 hv with rfl | hv; exact hc; exact h5 v hv, loop_next h4 h6⟩
      · exact .inr ⟨fun h => h5 (fun v hv => h v (List.mem_cons_of_mem _ hv)), y, loop_next h4 h6⟩
    · have hc' : (4000 : Int) < (x.data.length : Int) := by omega
      have hc2 : 4000 < x.data.length := by omega
      refine .inr ⟨fun h => hc (h x (by simp)), [.cells x.c []], loop_ret ?_⟩
      rw [s_round]
      simp [-getElem?_pos, c_tattlerlaw13_light_l0, hlt, hx, h1, hfb, hfb', hc', hc2]
def Light1 (e : Ent) : Prop := e.sib.vals.length ≤ 20 ∧ e.key.length ≤ 100 ∧ ∀ v ∈ e.sib.vals, v.data.length ≤ 4000
theorem light_loop (l : List Ent) (hl : l.length ≤ 1099511627776) (h : Heap) (fb : Nat) (hfb : fb ≤ h.length) : ∀ (k j : Nat), j + k = l.length →
    ((∀ e ∈ l.drop j, Light1 e) ∧ loopRun (callL E) loopL fb [10, 11, 12] c_tattlerlaw13_light_l1 ⟨[(10, .sl (l.map Ent.v)), (11, .int .i64 l.length), (12, .int .i64 j)], h, .no⟩ =
      some (.exit 0, ⟨[(10, .sl (l.map Ent.v)), (11, .int .i64 l.length), (12, .int .i64 l.length), (13, .bool false)], h, .no⟩)) ∨
    ((¬ ∀ e ∈ l.drop j, Light1 e) ∧ ∃ x, loopRun (callL E) loopL fb [10, 11, 12] c_tattlerlaw13_light_l1 ⟨[(10, .sl (l.map Ent.v)), (11, .int .i64 l.length), (12, .int .i64 j)], h, .no⟩ = some (.ret, ⟨[(2, .bool false)], h ++ x, .no⟩)) := by
  intro k
  induction k with
  | zero =>
    intro j hj
    have : j = l.length := by omega
    subst this
    refine .inl ⟨by simp, loop_exit ?_⟩
    rw [s_round]
    simp [c_tattlerlaw13_light_l1]
  | succ k ih =>
    intro j hj
    have hlt : (j : Int) < (l.length : Int) := by omega
    obtain ⟨e, hx, hd, _⟩ := get_of_lt (l := l) (i := j) (by omega)
    have h1 := i64_add1 (n := j) (by omega)
    have hfb' : ¬ h.length < fb := by omega
    rw [hd]
    by_cases c1 : e.sib.vals.length ≤ 20
    · have c1' : ¬ (20 : Int) < (e.sib.vals.length : Int) := by omega
      have c1'' : ¬ 20 < e.sib.vals.length := by omega
      by_cases c2 : e.key.length ≤ 100
      · have c2' : ¬ (100 : Int) < (e.key.length : Int) := by omega
        have c2'' : ¬ 100 < e.key.length := by omega
        rcases light_in e.sib.vals (by omega) (.sl (l.map Ent.v)) (.int .i64 l.length) (.int .i64 j) (h ++ [.cells e.c []]) fb (by simp; omega) (by simp) (by simp) (by simp) e.sib.vals.length 0 (by omega) with ⟨i1, i2⟩ | ⟨i1, y, i2⟩
        · rw [show ((0 : Nat) : Int) = 0 from rfl] at i2
          rw [List.drop_zero] at i1
          have h4 : roundV (callL E) loopL fb [10, 11, 12] c_tattlerlaw13_light_l1 ⟨[(10, .sl (l.map Ent.v)), (11, .int .i64 l.length), (12, .int .i64 j)], h, .no⟩ =
              some (.normal, ⟨[(10, .sl (l.map Ent.v)), (11, .int .i64 l.length), (12, .int .i64 ((j + 1 : Nat) : Int))], h, .no⟩) := by
            rw [s_round]
            simp [-getElem?_pos, c_tattlerlaw13_light_l1, hlt, hx, h1, hfb, hfb', c1', c2', c1'', c2'', i2]
          rcases ih (j + 1) (by omega) with ⟨h5, h6⟩ | ⟨h5, y, h6⟩
          · exact .inl ⟨fun v hv => by rcases List.mem_cons.1 hv with rfl | hv; exact ⟨c1, c2, i1⟩; exact h5 v hv, loop_next h4 h6⟩
          · exact .inr ⟨fun h => h5 (fun v hv => h v (List.mem_cons_of_mem _ hv)), y, loop_next h4 h6⟩
        · rw [show ((0 : Nat) : Int) = 0 from rfl] at i2
          rw [List.drop_zero] at i1
          refine .inr ⟨fun h => i1 (h e (by simp)).2.2, .cells e.c [] :: y, loop_ret ?_⟩
          rw [s_round]
          simp [-getElem?_pos, c_tattlerlaw13_light_l1, hlt, hx, h1, hfb, hfb', c1', c2', c1'', c2'', i2]
      · have c2' : (100 : Int) < (e.key.length : Int) := by omega
        have c2'' : 100 < e.key.length := by omega
        refine .inr ⟨fun h => c2 (h e (by simp)).2.1, [.cells e.c []], loop_ret ?_⟩
        rw [s_round]
        simp [-getElem?_pos, c_tattlerlaw13_light_l1, hlt, hx, h1, hfb, hfb', c1', c2', c1'', c2'']
    · have c1' : (20 : Int) < (e.sib.vals.length : Int) := by omega
      have c1'' : 20 < e.sib.vals.length := by omega
      refine .inr ⟨fun h => c1 (h e (by simp)).1, [.cells e.c []], loop_ret ?_⟩
      rw [s_round]
      simp [-getElem?_pos, c_tattlerlaw13_light_l1, hlt, hx, h1, hfb, hfb', c1', c1'']
def LightP (l : List Ent) : Prop := l.length ≤ 40 ∧ ∀ e ∈ l, Light1 e
open Classical in
theorem light_eq (l : List Ent) (h : Heap) : callL E F.tattlerlaw13_light [.sl (l.map Ent.v)] h = some (.bool (decide (LightP l)), h, .no) := by
  refine callL_of rfl fn_tattlerlaw13_light ?_
  by_cases hl : l.length ≤ 40
  · have hl' : ¬ (40 : Int) < (l.length : Int) := by omega
    have hl'' : ¬ 40 < l.length := by omega
    rcases light_loop l (by omega) h h.length (Nat.le_refl _) l.length 0 (by omega) with ⟨h1, h2⟩ | ⟨h1, y, h2⟩
    · have : LightP l := ⟨hl, by simpa using h1⟩
      rw [show ((0 : Nat) : Int) = 0 from rfl] at h2
      simp [-getElem?_pos, c_tattlerlaw13_light, h2, this, hl', hl'']
    · have : ¬ LightP l := fun h => h1 (by simpa using h.2)
      rw [show ((0 : Nat) : Int) = 0 from rfl] at h2
      simp [-getElem?_pos, c_tattlerlaw13_light, h2, this, hl', hl'']
  · have : ¬ LightP l := fun h => hl h.1
    have hl' : (40 : Int) < (l.length : Int) := by omega
    have hl'' : 40 < l.length := by omega
    simp [-getElem?_pos, c_tattlerlaw13_light, this, hl', hl'']

theorem thin_loop (l : List Dig) (hl : l.length ≤ 1099511627776) (h : Heap) (fb : Nat) (hfb : fb ≤ h.length) : ∀ (k j : Nat), j + k = l.length →
    ((∀ e ∈ l.drop j, e.dots.length ≤ 30) ∧ loopRun (callL E) loopL fb [8, 9, 10] c_tattlerlaw13_thin_l0 ⟨[(8, .sl (l.map Dig.v)), (9, .int .i64 l.length), (10, .int .i64 j)], h, .no⟩ =
      some (.exit 0, ⟨[(8, .sl (l.map Dig.v)), (9, .int .i64 l.length), (10, .int .i64 l.length), (11, .bool false)], h, .no⟩)) ∨
    ((¬ ∀ e ∈ l.drop j, e.dots.length ≤ 30) ∧ ∃ x, loopRun (callL E) loopL fb [8, 9, 10] c_tattlerlaw13_thin_l0 ⟨[(8, .sl (l.map Dig.v)), (9, .int .i64 l.length), (10, .int .i64 j)], h, .no⟩ = some (.ret, ⟨[(2, .bool false)], h ++ x, .no⟩)) := by
  intro k
  induction k with
  | zero =>
    intro j hj
    have : j = l.length := by omega
    subst this
    refine .inl ⟨by simp, loop_exit ?_⟩
    rw [s_round]
    simp [c_tattlerlaw13_thin_l0]
  | succ k ih =>
    intro j hj
    have hlt : (j : Int) < (l.length : Int) := by omega
    obtain ⟨e, hx, hd, _⟩ := get_of_lt (l := l) (i := j) (by omega)
    have h1 := i64_add1 (n := j) (by omega)
    have hfb' : ¬ h.length < fb := by omega
    rw [hd]
    by_cases c1 : e.dots.length ≤ 30
    · have c1' : ¬ (30 : Int) < (e.dots.length : Int) := by omega
      have c1'' : ¬ 30 < e.dots.length := by omega
      have h4 : roundV (callL E) loopL fb [8, 9, 10] c_tattlerlaw13_thin_l0 ⟨[(8, .sl (l.map Dig.v)), (9, .int .i64 l.length), (10, .int .i64 j)], h, .no⟩ =
          some (.normal, ⟨[(8, .sl (l.map Dig.v)), (9, .int .i64 l.length), (10, .int .i64 ((j + 1 : Nat) : Int))], h, .no⟩) := by
        rw [s_round]
        simp [-getElem?_pos, c_tattlerlaw13_thin_l0, hlt, hx, h1, hfb, hfb', c1', c1'']
      rcases ih (j + 1) (by omega) with ⟨h5, h6⟩ | ⟨h5, y, h6⟩
      · exact .inl ⟨fun v hv => by rcases List.mem_cons.1 hv with rfl | hv; exact c1; exact h5 v hv, loop_next h4 h6⟩
      · exact .inr ⟨fun h => h5 (fun v hv => h v (List.mem_cons_of_mem _ hv)), y, loop_next h4 h6⟩
    · have c1' : (30 : Int) < (e.dots.length : Int) := by omega
      have c1'' : 30 < e.dots.length := by omega
      refine .inr ⟨fun h => c1 (h e (by simp)), [.cells e.c []], loop_ret ?_⟩
      rw [s_round]
      simp [-getElem?_pos, c_tattlerlaw13_thin_l0, hlt, hx, h1, hfb, hfb', c1', c1'']
def ThinP (l : List Dig) : Prop := l.length ≤ 40 ∧ ∀ e ∈ l, e.dots.length ≤ 30
open Classical in
theorem thin_eq (l : List Dig) (h : Heap) : callL E F.tattlerlaw13_thin [.sl (l.map Dig.v)] h = some (.bool (decide (ThinP l)), h, .no) := by
  refine callL_of rfl fn_tattlerlaw13_thin ?_
  by_cases hl : l.length ≤ 40
  · have hl' : ¬ (40 : Int) < (l.length : Int) := by omega
    have hl'' : ¬ 40 < l.length := by omega
    rcases thin_loop l (by omega) h h.length (Nat.le_refl _) l.length 0 (by omega) with ⟨h1, h2⟩ | ⟨h1, y, h2⟩
    · have : ThinP l := ⟨hl, by simpa using h1⟩
      rw [show ((0 : Nat) : Int) = 0 from rfl] at h2
      simp [-getElem?_pos, c_tattlerlaw13_thin, h2, this, hl', hl'']
    · have : ¬ ThinP l := fun h => h1 (by simpa using h.2)
      rw [show ((0 : Nat) : Int) = 0 from rfl] at h2
      simp [-getElem?_pos, c_tattlerlaw13_thin, h2, this, hl', hl'']
  · have : ¬ ThinP l := fun h => hl h.1
    have hl' : (40 : Int) < (l.length : Int) := by omega
    have hl'' : 40 < l.length := by omega
    simp [-getElem?_pos, c_tattlerlaw13_thin, this, hl', hl'']

def v1 : Vec := ⟨[1, 0, 0, 0, 0, 0, 0, 0], rfl⟩
def e1 : Ent := ⟨[107], ⟨v1, []⟩⟩
theorem awake_eq (h : Heap) : callL E F.tattlerlaw13_awake [] h = some (.bool true, h, .no) := by
  refine callL_of rfl fn_tattlerlaw13_awake ?_
  have h1 := lacks_eq e1 ⟨[107], v1, [⟨0, 1⟩]⟩ (by simp [e1]) (by simp) (h ++ [.cells e1.c []])
  have h2 := lacks_eq e1 ⟨[107], v1, []⟩ (by simp [e1]) (by simp) (h ++ [.cells e1.c []])
  have l1 : lacks e1 ⟨[107], v1, [⟨0, 1⟩]⟩ = true := by decide
  have l2 : lacks e1 ⟨[107], v1, []⟩ = false := by decide
  rw [l1] at h1
  rw [l2] at h2
  simp [e1, v1, Ent.c, Sib.c, Vec.c, Dig.c, Dot.c, Dot.v, Ent.v, Dig.v] at h1 h2
  simp [c_tattlerlaw13_awake, h1, h2]

/-! ### the plain law -/
def sum : List Ent → Int
  | [] => 0
  | e :: l => size e + sum l
theorem sum_append (a b : List Ent) : sum (a ++ b) = sum a + sum b := by
  induction a with
  | nil => simp [sum]
  | cons e a ih => simp [sum, ih]; omega
theorem sum_nonneg (l : List Ent) : 0 ≤ sum l := by
  induction l with
  | nil => simp [sum]
  | cons e l ih => simp [sum]; omega
theorem sum_le (l : List Ent) : sum l ≤ 1073741824 * l.length := by
  induction l with
  | nil => simp [sum]
  | cons e l ih => have := size_le e; simp [sum]; omega
/-- The state of sending: what is out, and what is left. -/
def SInv (most : Int) (out : List Ent) (left : Int) : Prop := (out = [] ∧ left = most) ∨ (out ≠ [] ∧ ((sum out ≤ most ∧ left = most - sum out) ∨ (most < sum out ∧ left ≤ 0 ∧ out.length = 1)))
/-- What is sent is a beginning of what is lacked, as far as there is room. -/
theorem sendL_spec (lk : Ent → Bool) (most : Int) : ∀ (r out : List Ent) (left : Int), (∀ e ∈ r, 1 ≤ size e) → SInv most out left →
    ∃ x y, r.filter lk = x ++ y ∧ sendL lk r out left = out ++ x ∧ ((out ++ x).length ≤ 1 ∨ sum (out ++ x) ≤ most) ∧ (y = [] ∨ ∃ e y', y = e :: y' ∧ out ++ x ≠ [] ∧ most < sum (out ++ x) + size e)
  | [], out, left, _, hi => ⟨[], [], rfl, by simp [sendL], by
      rw [List.append_nil]
      rcases hi with ⟨rfl, _⟩ | ⟨_, ⟨h, _⟩ | ⟨_, _, h⟩⟩
      · simp
      · exact .inr h
      · exact .inl (by omega), .inl rfl⟩
  | e :: r, out, left, hs, hi => by
    have he := hs e (by simp)
    have hr : ∀ e ∈ r, 1 ≤ size e := fun x hx => hs x (by simp [hx])
    cases hlk : lk e with
    | false =>
      obtain ⟨x, y, h1, h2, h3⟩ := sendL_spec lk most r out left hr hi
      exact ⟨x, y, by rw [List.filter_cons, hlk]; exact h1, by simp only [sendL, hlk, if_true]; exact h2, h3⟩
    | true =>
      by_cases hc : out ≠ [] ∧ left < (size e : Int)
      · refine ⟨[], e :: r.filter lk, by rw [List.filter_cons, hlk]; rfl, by simp only [sendL, hlk]; rw [if_neg (by simp), if_pos hc]; simp, ?_, .inr ⟨e, _, rfl, by simpa using hc.1, ?_⟩⟩
        · rw [List.append_nil]
          rcases hi with ⟨h, _⟩ | ⟨_, ⟨h, _⟩ | ⟨_, _, h⟩⟩
          · exact absurd h hc.1
          · exact .inr h
          · exact .inl (by omega)
        · rw [List.append_nil]
          have h := hc.2
          rcases hi with ⟨h', _⟩ | ⟨_, ⟨h1, h2⟩ | ⟨h1, _, _⟩⟩
          · exact absurd h' hc.1
          · omega
          · omega
      · have hinv : SInv most (out ++ [e]) (left - min (size e : Int) (max left 0)) := by
          refine .inr ⟨by simp, ?_⟩
          have hsum : sum (out ++ [e]) = sum out + size e := by rw [sum_append]; simp [sum]
          rw [hsum]
          rcases hi with ⟨h1, h2⟩ | ⟨h1, h2⟩
          · subst h1
            subst h2
            have : sum [] = 0 := rfl
            rw [this]
            by_cases hle : (size e : Int) ≤ left
            · exact .inl ⟨by omega, by omega⟩
            · exact .inr ⟨by omega, by omega, by simp⟩
          · have h3 : ¬ left < (size e : Int) := fun h => hc ⟨h1, h⟩
            rcases h2 with ⟨h4, h5⟩ | ⟨h4, h5, _⟩
            · exact .inl ⟨by omega, by omega⟩
            · omega
        obtain ⟨x, y, h1, h2, h3⟩ := sendL_spec lk most r (out ++ [e]) _ hr hinv
        refine ⟨e :: x, y, by rw [List.filter_cons, hlk, if_pos rfl, h1]; rfl, ?_, ?_⟩
        · simp only [sendL, hlk]
          rw [if_neg (by simp), if_neg hc, h2]
          simp
        · simpa using h3

/-- Room for so many bytes more. -/
def Wr.Fit (w : Wr) (n : Nat) : Prop := w.long = false ∧ (w.b.length : Int) + n ≤ w.most
theorem Wr.Fit.put {w : Wr} {n : Nat} {x : List UInt8} {m : Nat} (h : w.Fit (m + n)) (hx : x.length ≤ m) : (w.put x).Fit n ∧ (w.put x).b = w.b ++ x := by
  obtain ⟨h1, h2⟩ := h
  have : w.put x = { w with b := w.b ++ x } := by
    unfold Wr.put
    rw [if_neg]
    rintro (h | h)
    · rw [h1] at h; cases h
    · omega
  rw [this]
  exact ⟨⟨h1, by simp; omega⟩, rfl⟩
theorem Wr.Fit.vec {n : Nat} : ∀ {l : List Int} {w : Wr}, (∀ x ∈ l, I64 x) → w.Fit (10 * l.length + n) → (w.vec l).Fit n ∧ ∃ q, (w.vec l).b = w.b ++ q
  | [], w, _, h => ⟨by simpa [Wr.vec] using h, [], by simp [Wr.vec]⟩
  | x :: l, w, hx, h => by
    have h' : w.Fit (10 + (10 * l.length + n)) := ⟨h.1, by have := h.2; simp at this; omega⟩
    obtain ⟨h1, h2⟩ := h'.put (x := encNum (zig x)) (encNum_10 (zig_lt (hx x (by simp))))
    obtain ⟨h3, q, h4⟩ := Wr.Fit.vec (fun y hy => hx y (by simp [hy])) h1
    exact ⟨h3, encNum (zig x) ++ q, by show (Wr.vec (w.put _) l).b = _; rw [h4, h2, List.append_assoc]⟩
theorem Wr.Fit.vals {n : Nat} : ∀ {l : List Val} {w : Wr}, (∀ v ∈ l, v.dot.Wf ∧ v.data.length ≤ 4000) → w.Fit (4031 * l.length + n) → (w.vals l).Fit n ∧ ∃ q, (w.vals l).b = w.b ++ q
  | [], w, _, h => ⟨by simpa [Wr.vals] using h, [], by simp [Wr.vals]⟩
  | v :: l, w, hv, h => by
    obtain ⟨hv1, hv2⟩ := hv v (by simp)
    have h' : w.Fit (10 + (10 + (1 + (4010 + (4031 * l.length + n))))) := ⟨h.1, by have := h.2; simp at this; omega⟩
    obtain ⟨a1, b1⟩ := h'.put (x := encNum (u64 v.dot.node)) (encNum_10 (u64_lt _))
    obtain ⟨a2, b2⟩ := a1.put (x := encNum (zig v.dot.n)) (encNum_10 (zig_lt hv1.2))
    obtain ⟨a3, b3⟩ := a2.put (x := [if v.dead then 1 else 0]) (by simp)
    obtain ⟨a4, b4⟩ := a3.put (x := encNum v.data.length ++ v.data) (by have := encNum_10 (n := v.data.length) (by omega); simp; omega)
    obtain ⟨a5, q, b5⟩ := Wr.Fit.vals (w := w.val v) (fun y hy => hv y (by simp [hy])) a4
    refine ⟨a5, encNum (u64 v.dot.node) ++ (encNum (zig v.dot.n) ++ ([if v.dead then 1 else 0] ++ ((encNum v.data.length ++ v.data) ++ q))), ?_⟩
    have b6 : (w.val v).b = _ := b4
    show (Wr.vals (w.val v) l).b = _
    rw [b5, b6, b3, b2, b1]
    simp only [List.append_assoc]
theorem size_pos {e : Ent} (hw : e.Wf) (hl : Light1 e) : 1 ≤ size e := by
  obtain ⟨h1, h2, h3⟩ := hl
  have h0 : (⟨[], 1073741824, false⟩ : Wr).Fit (110 + (10 * e.sib.seen.l.length + (10 + (4031 * e.sib.vals.length + 0)))) := ⟨rfl, by simp; omega⟩
  obtain ⟨a1, b1⟩ := h0.put (x := encNum e.key.length ++ e.key) (by have := encNum_10 (n := e.key.length) (by omega); simp; omega)
  obtain ⟨a2, q2, b2⟩ := Wr.Fit.vec (l := e.sib.seen.l) hw.2.1 a1
  obtain ⟨a3, b3⟩ := a2.put (x := encNum e.sib.vals.length) (encNum_10 (by omega))
  obtain ⟨a4, q4, b4⟩ := Wr.Fit.vals (l := e.sib.vals) (fun v hv => ⟨(hw.2.2.2 v hv).1, h3 v hv⟩) a3
  have hb : (Wr.ent ⟨[], 1073741824, false⟩ e).b = _ := b4
  have hlong : (Wr.ent ⟨[], 1073741824, false⟩ e).long = false := a4.1
  unfold size
  simp only [hlong]
  rw [if_neg (by simp), hb, b3, b2, b1]
  have := List.length_pos_iff.2 (encNum_ne e.key.length)
  simp
  omega
theorem light_small {e : Ent} (hw : e.Wf) (hl : Light1 e) : e.Small := ⟨by have := hl.2.1; omega, hw.2.1, by have := hl.1; omega, fun v hv => ⟨(hw.2.2.2 v hv).1, by have := hl.2.2 v hv; omega⟩⟩
end Go.Proofs.Ytphlgefkcghopaa.V
