/- DigestPart: the law's own function answers true. -/
import Derived.Test.YtphlgefkcghopaaVmLP
set_option linter.unusedVariables false
set_option linter.unusedSimpArgs false
namespace Go.Proofs.Ytphlgefkcghopaa.V
open Go.Vm

theorem part_loop (l : List Ent) (hl : l.length ≤ 1000) (hs : ∀ e ∈ l, e.Small) (q2 q7 : V) (h : Heap) (fb : Nat) (hfb : fb ≤ h.length) (g2 : q2.lt h.length = true) (g7 : q7.lt h.length = true) : ∀ (k j : Nat) (b : Bool), j + k = l.length →
    ∃ b', loopRun (callL E) loopL fb [2, 7, 8, 9, 52, 53, 54] c_tattlerlaw13_DigestPart_l0 ⟨[(2, q2), (7, q7), (8, .sl (l.map Ent.v)), (9, .int .i64 (sum (l.take j))), (52, .sl (l.map Ent.v)), (53, .int .i64 l.length), (54, .int .i64 j)], h, ⟨b, false⟩⟩ =
      some (.exit 0, ⟨[(2, q2), (7, q7), (8, .sl (l.map Ent.v)), (9, .int .i64 (sum l)), (52, .sl (l.map Ent.v)), (53, .int .i64 l.length), (54, .int .i64 l.length), (55, .bool false)], h, ⟨b', false⟩⟩) := by
  intro k
  induction k with
  | zero =>
    intro j b hj
    have : j = l.length := by omega
    subst this
    rw [List.take_length]
    refine ⟨b, loop_exit ?_⟩
    rw [s_round]
    simp [c_tattlerlaw13_DigestPart_l0]
  | succ k ih =>
    intro j b hj
    have hlt : (j : Int) < (l.length : Int) := by omega
    obtain ⟨e, hx, hd, hm⟩ := get_of_lt (l := l) (i := j) (by omega)
    have h1 := i64_add1 (n := j) (by omega)
    have hfb' : ¬ h.length < fb := by omega
    have h2 := size_eq (hs e hm) (h ++ [.cells e.c []])
    obtain ⟨b', h3⟩ := ih (j + 1) true (by omega)
    have h4 : sum (l.take (j + 1)) = sum (l.take j) + size e := by rw [List.take_add_one, hx, sum_append]; simp [sum]
    have h5 := sum_le (l.take j)
    have h6 := sum_nonneg (l.take j)
    have h7 := size_le e
    have h8 : (l.take j).length ≤ 1000 := by simp; omega
    have hw : IntKind.wrap .i64 (sum (l.take j) + size e) = sum (l.take j) + size e := by rw [wrap_i64] <;> omega
    rw [h4] at h3
    generalize sum (l.take j) = s at h3 hw ⊢
    refine ⟨b', loop_next ?_ h3⟩
    rw [s_round]
    simp [-getElem?_pos, c_tattlerlaw13_DigestPart_l0, hlt, hx, h1, hfb, hfb', h2, hw, g2, g7]
theorem DigestPart_eq (l : List Ent) (hl : ∀ e ∈ l, e.Wf) (ds : List Dig) (most : Int) (hm : I64 most) (h : Heap) :
    ∃ h' fl, callL E F.tattlerlaw13_DigestPart [.sl (l.map Ent.v), .sl (ds.map Dig.v), .int .i64 most] h = some (.bool true, h', fl) := by
  refine top_of rfl fn_tattlerlaw13_DigestPart ?_
  have a0 := light_eq l h
  have a1 := thin_eq ds h
  have aw := awake_eq h
  by_cases hL : LightP l
  · simp only [hL, decide_true] at a0
    by_cases hT : ThinP ds
    · simp only [hT, decide_true] at a1
      have hO : EntsOk l := ⟨by have := hL.1; omega, fun e he => light_small (hl e he) (hL.2 e he)⟩
      have hD : DigsOk ds := ⟨by have := hT.1; omega, fun e he => by have := hT.2 e he; omega⟩
      have hpos : ∀ e ∈ l, 1 ≤ size e := fun e he => size_pos (hl e he) (hL.2 e he)
      obtain ⟨b1, s1⟩ := send_eq l ds 1099511627776 hO hD ⟨by omega, by omega⟩ h
      obtain ⟨b2, s2⟩ := send_eq l ds most hO hD hm h
      obtain ⟨xa, ya, p1, p2, p3, p4⟩ := sendL_spec (fun e => lacked e ds) 1099511627776 l [] 1099511627776 hpos (.inl ⟨rfl, rfl⟩)
      obtain ⟨x, y, q1, q2, q3, q4⟩ := sendL_spec (fun e => lacked e ds) most l [] most hpos (.inl ⟨rfl, rfl⟩)
      have hflen : (l.filter fun e => lacked e ds).length ≤ 40 := Nat.le_trans (List.length_filter_le _ _) hL.1
      have hya : ya = [] := by
        rcases p4 with h | ⟨e, y', h, _, h2⟩
        · exact h
        · exfalso
          have h3 := sum_le (l.filter fun e => lacked e ds)
          rw [p1, h, sum_append] at h3
          have h4 := sum_nonneg y'
          have h5 : sum (e :: y') = size e + sum y' := rfl
          rw [p1, h] at hflen
          simp at h2
          omega
      subst hya
      rw [List.append_nil] at p1
      have hall : send l ds 1099511627776 = xa := p2
      have hpart : send l ds most = x := q2
      rw [hall] at s1
      rw [hpart] at s2
      have hxa : xa = x ++ y := p1.symm.trans q1
      simp only [List.nil_append] at q3 q4
      have hmem : ∀ e ∈ xa, e ∈ l := fun e he => (List.mem_filter.1 (p1 ▸ he)).1
      have hxlen : xa.length ≤ 40 := p1 ▸ hflen
      have hsm : ∀ e ∈ xa, e.Small := fun e he => hO.small e (hmem e he)
      subst hxa
      rw [List.length_append] at hxlen
      obtain ⟨b3, s3⟩ := part_loop x (by omega) (fun e he => hsm e (by simp [he])) (.int .i64 most) (.sl ((x ++ y).map Ent.v)) h h.length (Nat.le_refl _) (by simp) (by simp) x.length 0 (b1 || b2) (by omega)
      rw [show ((0 : Nat) : Int) = 0 from rfl, List.take_zero, show sum [] = 0 from rfl] at s3
      have s4 := sameEntries_eq x x (by omega) (fun e he => by have := (hsm e (by simp [he])).2.2.1; exact this) h
      have htake : ((x ++ y).map Ent.v).take x.length = x.map Ent.v := by rw [← List.map_take, List.take_left]
      have hsz : sizeOk 10 ((x ++ y).map Ent.v) = true := sizeOk_ents _
      have hlen : ((x ++ y).map Ent.v).length = (x ++ y).length := List.length_map _
      have hlen' : (x.map Ent.v).length = x.length := List.length_map _
      have c2 : (x ++ y).length ≠ 0 → x.length ≠ 0 := by
        intro h1 h2
        have : x = [] := List.length_eq_zero_iff.1 h2
        rcases q4 with h | ⟨e, y', h, h3, _⟩
        · simp [this, h] at h1
        · exact h3 this
      have c3 : ∀ e y', y = e :: y' → most < sum x + size e := fun e y' h => by
        rcases q4 with h' | ⟨e', y'', h', _, h3⟩
        · rw [h'] at h; cases h
        · rw [h'] at h; cases h; exact h3
      have h9 := sum_le x
      have h10 := sum_nonneg x
      have hn : (x.length ≤ 1 ∨ sum x ≤ most) := q3
      have hNn : x.length ≤ (x ++ y).length := by simp
      have hN40 : (x ++ y).length ≤ 40 := by simp; omega
      -- the next one, if there is one
      have hnext : x.length ≠ (x ++ y).length → ∃ e, ((x ++ y).map Ent.v)[x.length]? = some (Ent.v e) ∧ most < sum x + size e ∧ e.Small := by
        intro hne
        rcases y with _ | ⟨e, y'⟩
        · simp at hne
        · exact ⟨e, by simp, c3 e y' rfl, hsm e (by simp)⟩
      generalize hA : (x ++ y).map Ent.v = A at *
      generalize hB : x.map Ent.v = B at *
      generalize (x ++ y).length = N at *
      generalize x.length = n at *
      generalize sum x = S at *
      have e0 : ¬ (N : Int) < (n : Int) := by omega
      have e0' : ¬ N < n := by omega
      have f1 : decide ((n : Int) ≤ 1) = true ∨ (decide ((n : Int) ≤ 1) = false ∧ decide (S ≤ most) = true) := by
        by_cases h : n ≤ 1
        · exact .inl (by simp; omega)
        · exact .inr ⟨by simp; omega, by rcases hn with h' | h'; exact absurd h' h; simpa using h'⟩
      have main : ∀ (z1 : Bool), decide (0 < N) = z1 → (z1 = true → ((n : Int) == 0) = false) → ∃ h' fl, runV (callL E) loopL c_tattlerlaw13_DigestPart [.sl (l.map Ent.v), .sl (ds.map Dig.v), .int .i64 most] h = some (.bool true, h', fl) := by
        intro z1 hz1 hz2
        by_cases hnN : n = N
        · subst hnN
          have g2 : ((n : Int) == (n : Int)) = true := by simp
          rcases f1 with g1 | ⟨g1, g1'⟩ <;> cases z1
          · simp [-getElem?_pos, -decide_eq_true_eq, -decide_eq_false_iff_not, c_tattlerlaw13_DigestPart, a0, a1, aw, s1, s2, hlen, hlen', hz1, hsz, htake, s3, s4, g1]
          · have hz2 := hz2 rfl
            simp [-getElem?_pos, -decide_eq_true_eq, -decide_eq_false_iff_not, c_tattlerlaw13_DigestPart, a0, a1, aw, s1, s2, hlen, hlen', hz1, hz2, hsz, htake, s3, s4, g1]
          · simp [-getElem?_pos, -decide_eq_true_eq, -decide_eq_false_iff_not, c_tattlerlaw13_DigestPart, a0, a1, aw, s1, s2, hlen, hlen', hz1, hsz, htake, s3, s4, g1, g1']
          · have hz2 := hz2 rfl
            simp [-getElem?_pos, -decide_eq_true_eq, -decide_eq_false_iff_not, c_tattlerlaw13_DigestPart, a0, a1, aw, s1, s2, hlen, hlen', hz1, hz2, hsz, htake, s3, s4, g1, g1']
        · obtain ⟨e, n1, n2, n3⟩ := hnext hnN
          have g2 : ((n : Int) == (N : Int)) = false := by simp; omega
          have n4 := size_eq n3 h
          have hw : IntKind.wrap .i64 (S + size e) = S + size e := by have := size_le e; rw [wrap_i64] <;> omega
          rcases f1 with g1 | ⟨g1, g1'⟩ <;> cases z1
          · simp [-getElem?_pos, -decide_eq_true_eq, -decide_eq_false_iff_not, c_tattlerlaw13_DigestPart, a0, a1, aw, s1, s2, hlen, hlen', hz1, hsz, htake, s3, s4, g1, g2, n1, n2, n4, hw, e0, e0', hNn]
          · have hz2 := hz2 rfl
            simp [-getElem?_pos, -decide_eq_true_eq, -decide_eq_false_iff_not, c_tattlerlaw13_DigestPart, a0, a1, aw, s1, s2, hlen, hlen', hz1, hz2, hsz, htake, s3, s4, g1, g2, n1, n2, n4, hw, e0, e0', hNn]
          · simp [-getElem?_pos, -decide_eq_true_eq, -decide_eq_false_iff_not, c_tattlerlaw13_DigestPart, a0, a1, aw, s1, s2, hlen, hlen', hz1, hsz, htake, s3, s4, g1, g1', g2, n1, n2, n4, hw, e0, e0', hNn]
          · have hz2 := hz2 rfl
            simp [-getElem?_pos, -decide_eq_true_eq, -decide_eq_false_iff_not, c_tattlerlaw13_DigestPart, a0, a1, aw, s1, s2, hlen, hlen', hz1, hz2, hsz, htake, s3, s4, g1, g1', g2, n1, n2, n4, hw, e0, e0', hNn]
      by_cases hz : 0 < N
      · exact main true (by simpa using hz) (fun _ => by have := c2 (by omega); simp; omega)
      · exact main false (by simpa using hz) (fun h => by cases h)
    · simp only [hT, decide_false] at a1
      simp [-getElem?_pos, c_tattlerlaw13_DigestPart, a0, a1, aw]
  · simp only [hL, decide_false] at a0
    simp [-getElem?_pos, c_tattlerlaw13_DigestPart, a0, a1, aw]
theorem tattlerlaw13_DigestPart_top {c0 c1 c2 : List V} (h0 : Ty.Has (.sl entT) c0) (h1 : Ty.Has (.sl digT) c1) (h2 : Ty.Has (.int .i64) c2) :
    ∃ h fl, callL E F.tattlerlaw13_DigestPart [Ty.el (.sl entT) c0, Ty.el (.sl digT) c1, Ty.el (.int .i64) c2] [] = some (.bool true, h, fl) := by
  obtain ⟨l, _, hl, rfl⟩ := Ents.dec h0
  obtain ⟨ds, _, _, rfl⟩ := Digs.dec h1
  obtain ⟨n, hn, rfl⟩ := i64_dec h2
  exact DigestPart_eq l hl ds n hn []
end Go.Proofs.Ytphlgefkcghopaa.V
