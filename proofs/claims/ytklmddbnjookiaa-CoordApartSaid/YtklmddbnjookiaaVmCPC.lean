/- CoordApart: the loops. -/
import Derived.Test.YtklmddbnjookiaaVmCPB
set_option linter.unusedVariables false
set_option linter.unusedSimpArgs false
set_option linter.unusedSectionVars false
namespace Go.Proofs.Ytklmddbnjookiaa.V
open Go.Vm

theorem sameInts_eq (N : List Nat) (hN : N.length ≤ 1000) (h : Heap) : callL E F.tattlerref5_SameInts [.sl (N.map natV), .sl (N.map natV)] h = some (.bool true, h, .no) := by
  refine callL_of rfl fn_tattlerref5_SameInts ?_
  have key := loop_to (C := callL E) (fb := h.length) (live := [0, 1, 12, 13]) (c := c_tattlerref5_SameInts_l0)
    (fun j => ⟨[(0, .sl (N.map natV)), (1, .sl (N.map natV)), (12, .int .i64 N.length), (13, .int .i64 j)], h, .no⟩) N.length
    (r := (.exit 0, ⟨[(0, .sl (N.map natV)), (1, .sl (N.map natV)), (12, .int .i64 N.length), (13, .int .i64 N.length), (14, .bool false)], h, .no⟩)) (fun j hj => ?_) ?_ rfl
  · rw [show ((0 : Nat) : Int) = 0 from rfl] at key
    have hml : (N.map natV).length = N.length := by simp
    generalize N.map natV = L at *
    simp [-getElem?_pos, c_tattlerref5_SameInts, hml, key]
    done
  · obtain ⟨x, hx, _, _⟩ := get_of_lt hj
    have hlt : (j : Int) < (N.length : Int) := by omega
    have h1 := i64_add1 (n := j) (by omega)
    rw [s_round]
    simp [-getElem?_pos, c_tattlerref5_SameInts_l0, hlt, hj, hx, h1, natV]
    done
  · rw [s_round]
    simp [c_tattlerref5_SameInts_l0]
theorem gotR_nat (key : List UInt8) (l : List Sib) (need j : Nat) : ∃ N : List Nat, (gotR key l need j).1 = N.map natV ∧ N.length ≤ 8 := by
  unfold gotR
  by_cases h : j + 2 = need
  · rw [if_pos h]; exact ⟨_, rfl, gotN_len _ _ _ _⟩
  · rw [if_neg h]; exact ⟨[], rfl, by simp⟩
theorem apart_rounds (b nA nB : Nat) (h : Heap) (la lb : List Sib) (hla : la.length ≤ 7) (hlb : lb.length ≤ 7) (hma : ∀ s ∈ la, s.may = true) (hmb : ∀ s ∈ lb, s.may = true) (H0 : Heap) (y0 : PAt b nA nB h H0 la lb 0 0 [] []) :
    ∃ r, loopRun (callL E) loopL b [0, 1, 13, 14, 15, 17, 19, 90] c_tattlerlaw22_CoordApart_l2 ⟨[(0, .sl (la.map Sib.v)), (1, .sl (lb.map Sib.v)), (13, .ptr (some (b + 1, 0))), (14, .ptr (some (b + 3, 0))), (15, .int .i64 1), (17, .int .i64 2), (19, .int .i64 1), (90, .int .i64 0)], H0, ⟨[], [b, b + 2], false⟩⟩ = some r ∧
      ∃ H ansC ansD jA jB, jA ≤ 7 ∧ jB ≤ 7 ∧ PAt b nA nB h H la lb jA jB ansC ansD ∧ r = (.exit 4, ⟨[(0, .sl (la.map Sib.v)), (1, .sl (lb.map Sib.v)), (13, .ptr (some (b + 1, 0))), (14, .ptr (some (b + 3, 0))), (15, .int .i64 1), (17, .int .i64 2), (19, .int .i64 1), (90, .int .i64 7), (91, .bool false)], H, ⟨[], [b, b + 2], false⟩⟩) := by
  refine loop_inv0 (C := callL E) (fb := b) (live := [0, 1, 13, 14, 15, 17, 19, 90]) (c := c_tattlerlaw22_CoordApart_l2)
    (fun j s => ∃ H ansC ansD, PAt b nA nB h H la lb (min j la.length) (min j lb.length) ansC ansD ∧ s = ⟨[(0, .sl (la.map Sib.v)), (1, .sl (lb.map Sib.v)), (13, .ptr (some (b + 1, 0))), (14, .ptr (some (b + 3, 0))), (15, .int .i64 1), (17, .int .i64 2), (19, .int .i64 1), (90, .int .i64 j)], H, ⟨[], [b, b + 2], false⟩⟩) _ 7 (fun j hj s hs => ?_) (fun s hs => ?_) ⟨H0, [], [], by simpa using y0, rfl⟩
  · obtain ⟨H, ansC, ansD, y, rfl⟩ := hs
    left
    have hlt : (j : Int) < 7 := by omega
    have h1 := i64_add1 (n := j) (by omega)
    have hlen := y.len
    have lb1 : b + 1 < H.length := by omega
    have lb3 : b + 3 < H.length := by omega
    have e11 : ((j + 1 : Nat) : Int) = (j : Int) + 1 := by omega
    -- b's answer
    have stepB : ∃ H1, H1.length = b + 16 ∧ (∃ ansC', PAt b nA nB h H1 la lb (min j la.length) (min (j + 1) lb.length) ansC' ansD) ∧
        (if j < lb.length then ∃ x r fl, lb[j]? = some x ∧ callL E F.coord_Coord_Got [.ptr (some (b + 1, 0)), .int .i64 2, .int .i64 ((j : Int) + 1), .agg (.str [98] :: x.c)] H = some (r, H1, fl) ∧ Fl.cut b fl = .no else H1 = H) := by
      by_cases hb : j < lb.length
      · obtain ⟨x, hx, _, _⟩ := get_of_lt hb
        rw [show min j lb.length = j by omega] at y
        obtain ⟨H1, fl, r, ansC', g, c, y1⟩ := apart_b y hb hj (by omega) hmb hx
        rw [e11] at g
        refine ⟨H1, y1.len, ⟨ansC', by rw [show min (j + 1) lb.length = j + 1 by omega]; exact y1⟩, ?_⟩
        rw [if_pos hb]
        exact ⟨x, r, fl, hx, g, c⟩
      · refine ⟨H, hlen, ⟨ansC, by rw [show min (j + 1) lb.length = min j lb.length by omega]; exact y⟩, ?_⟩
        rw [if_neg hb]
    obtain ⟨H1, hl1, ⟨ansC1, y1⟩, hB⟩ := stepB
    by_cases ha : j < la.length
    · obtain ⟨x, hx, _, _⟩ := get_of_lt ha
      rw [show min j la.length = j by omega] at y1
      obtain ⟨H2, f2, H3, f3, ansC', ansD', g2, c2, g3, c3, hl2, y3⟩ := apart_a y1 ha hj (by omega) hma hx
      obtain ⟨N, hN, hNl⟩ := gotR_nat kA la nA j
      rw [e11] at g2 g3
      rw [hN] at g2 g3
      have hl3 := y3.len
      have g4 := sameInts_eq N (by omega) H3
      refine ⟨⟨[(0, .sl (la.map Sib.v)), (1, .sl (lb.map Sib.v)), (13, .ptr (some (b + 1, 0))), (14, .ptr (some (b + 3, 0))), (15, .int .i64 1), (17, .int .i64 2), (19, .int .i64 1), (90, .int .i64 ((j + 1 : Nat) : Int))], H3, ⟨[], [b, b + 2], false⟩⟩, ?_, H3, ansC', ansD', by rw [show min (j + 1) la.length = j + 1 by omega]; exact y3, rfl⟩
      have ha' : (j : Int) < (la.length : Int) := by omega
      have hmla : (la.map Sib.v).length = la.length := by simp
      have hmlb : (lb.map Sib.v).length = lb.length := by simp
      have hxm : (la.map Sib.v)[j]? = some x.v := by rw [List.getElem?_map, hx]; rfl
      have tk : List.take H.length H3 = H3 := List.take_of_length_le (by omega)
      have f13 : b + 1 < H.length ∧ b + 3 < H.length := ⟨lb1, lb3⟩
      generalize (gotR kA la nA j).2 = ok at *
      simp only [Ent.v, Ent.c, kA] at g2 g3
      generalize N.map natV = NV at *
      by_cases hb : j < lb.length
      · rw [if_pos hb] at hB
        obtain ⟨xb, r, fl, hxb, g1, c1⟩ := hB
        have hxbm : (lb.map Sib.v)[j]? = some xb.v := by rw [List.getElem?_map, hxb]; rfl
        have hb' : (j : Int) < (lb.length : Int) := by omega
        generalize la.map Sib.v = LA at *
        generalize lb.map Sib.v = LB at *
        rw [s_round]
        simp [-getElem?_pos, c_tattlerlaw22_CoordApart_l2, hlt, h1, hmla, hmlb, ha, ha', hb, hb', hxm, hxbm, g1, g2, g3, g4, c1, c2, c3, tk, lb1, lb3]
        done
      · rw [if_neg hb] at hB
        subst hB
        have hb' : ¬ (j : Int) < (lb.length : Int) := by omega
        generalize la.map Sib.v = LA at *
        generalize lb.map Sib.v = LB at *
        rw [s_round]
        simp [-getElem?_pos, c_tattlerlaw22_CoordApart_l2, hlt, h1, hmla, hmlb, ha, ha', hb, hb', hxm, g2, g3, g4, c2, c3, tk, lb1, lb3]
        done
    · refine ⟨⟨[(0, .sl (la.map Sib.v)), (1, .sl (lb.map Sib.v)), (13, .ptr (some (b + 1, 0))), (14, .ptr (some (b + 3, 0))), (15, .int .i64 1), (17, .int .i64 2), (19, .int .i64 1), (90, .int .i64 ((j + 1 : Nat) : Int))], H1, ⟨[], [b, b + 2], false⟩⟩, ?_, H1, ansC1, ansD, by rw [show min (j + 1) la.length = min j la.length by omega]; exact y1, rfl⟩
      have ha' : ¬ (j : Int) < (la.length : Int) := by omega
      have hmla : (la.map Sib.v).length = la.length := by simp
      have hmlb : (lb.map Sib.v).length = lb.length := by simp
      have tk : List.take H.length H1 = H1 := List.take_of_length_le (by omega)
      by_cases hb : j < lb.length
      · rw [if_pos hb] at hB
        obtain ⟨xb, r, fl, hxb, g1, c1⟩ := hB
        have hxbm : (lb.map Sib.v)[j]? = some xb.v := by rw [List.getElem?_map, hxb]; rfl
        have hb' : (j : Int) < (lb.length : Int) := by omega
        generalize la.map Sib.v = LA at *
        generalize lb.map Sib.v = LB at *
        rw [s_round]
        simp [-getElem?_pos, c_tattlerlaw22_CoordApart_l2, hlt, h1, hmla, hmlb, ha, ha', hb, hb', hxbm, g1, c1, tk, lb1, lb3]
        done
      · rw [if_neg hb] at hB
        subst hB
        have hb' : ¬ (j : Int) < (lb.length : Int) := by omega
        generalize la.map Sib.v = LA at *
        generalize lb.map Sib.v = LB at *
        rw [s_round]
        simp [-getElem?_pos, c_tattlerlaw22_CoordApart_l2, hlt, h1, hmla, hmlb, ha, ha', hb, hb', tk, lb1, lb3]
        done
  · obtain ⟨H, ansC, ansD, y, rfl⟩ := hs
    refine ⟨_, ?_, ?_, H, ansC, ansD, _, _, Nat.min_le_left _ _, Nat.min_le_left _ _, y, rfl⟩
    · rw [s_round]
      simp [c_tattlerlaw22_CoordApart_l2]
    · rfl
end Go.Proofs.Ytklmddbnjookiaa.V
