/- What 'coord.Got' computes. -/
import Derived.Test.YtklmddbnjookiaaVmCOA
set_option linter.unusedVariables false
set_option linter.unusedSimpArgs false
namespace Go.Proofs.Ytklmddbnjookiaa.V
open Go.Vm

theorem OpS.c_sets (o : OpS) (q : Nat) (s : Sib) : (o.c q).take 2 ++ (s.c ++ (o.c q).drop 11) = OpS.c ⟨o.key, o.wr, s, o.ans, o.age⟩ q := by
  have h : (o.c q).drop 11 = .ptr (some (q, 0)) :: (o.ans.flatMap Sib.c ++ [.int .i64 o.age]) := by
    show (o.s.c ++ _).drop 9 = _
    exact List.drop_left' (by simp)
  rw [h]
  rfl
theorem OpS.c_all (o : OpS) (q : Nat) (ha : o.ans.length = 8) : ((o.c q).drop 12).take 72 = o.ans.flatMap Sib.c := by
  have h1 : (o.ans.flatMap Sib.c).length = o.ans.length * 9 := flat_len (c := Sib.c) (z := 9) (fun x => by simp) _
  have h : (o.c q).drop 12 = o.ans.flatMap Sib.c ++ [.int .i64 o.age] := by
    show (o.s.c ++ _).drop 10 = _
    rw [List.drop_append]
    simp
  rw [h]
  exact List.take_left' (by omega)
def gotB (has : List Bool) (ans : List Sib) (s : Sib) (j : Nat) : Bool := has.getD j false && !decide (ans.getD j zeroSib = s)
/-- Who knows less, or more. -/
def gotN (has : List Bool) (ans : List Sib) (s : Sib) (m : Nat) : List Nat := (List.range m).filter (gotB has ans s)
theorem gotN_succ (has : List Bool) (ans : List Sib) (s : Sib) (m : Nat) : gotN has ans s (m + 1) = gotN has ans s m ++ cnd (gotB has ans s m) [m] [] := by
  unfold gotN
  rw [List.range_succ, List.filter_append]
  cases h : gotB has ans s m <;> simp [h]
theorem gotN_len (has : List Bool) (ans : List Sib) (s : Sib) (m : Nat) : (gotN has ans s m).length ≤ m := by
  have := List.length_filter_le (gotB has ans s) (List.range m)
  simpa [gotN] using this
def natV (n : Nat) : V := .int .i64 n
theorem ltL_nats (n : Nat) : ∀ l : List Nat, V.ltL n (l.map natV) = true
  | [] => rfl
  | b :: l => by simp [V.ltL, V.lt, natV, ltL_nats n l]
theorem sizeOk_nats : ∀ l : List Nat, sizeOk 1 (l.map natV) = true
  | [] => rfl
  | b :: l => by simp [sizeOk, natV]
theorem ltL_app (n : Nat) : ∀ a b : List V, V.ltL n (a ++ b) = (V.ltL n a && V.ltL n b)
  | [], b => by simp [V.ltL]
  | x :: a, b => by simp only [List.cons_append, V.ltL, ltL_app n a b, Bool.and_assoc]
theorem ltL_sibs (n : Nat) : ∀ l : List Sib, V.ltL n (l.flatMap Sib.c) = true
  | [] => rfl
  | b :: l => by
    rw [List.flatMap_cons, ltL_app, ltL_sibs n l]
    simp
theorem got_loop (HH : Heap) (fb i p q : Nat) (n : Int) (o : OpS) (need : Int) (has : List Bool) (ws : List Nat) (hfb : fb ≤ HH.length) (hp : hget HH p = some (.cells (o.c q) [])) (hq : hget HH q = some (.cells (cntC need has) [])) (ha : o.ans.length = 8) (hl : has.length = 8)
    (hs : o.s.vals.length ≤ 1099511627776) (hi : i < HH.length) (hall : ∀ s ∈ o.ans, s.vals.length ≤ 1099511627776) :
    loopRun (callL E) loopL fb [0, 1, 10, 11, 77, 78] c_coord_Coord_Got_l0 ⟨[(0, .ptr (some (i, 0))), (1, .int .i64 n), (10, .ptr (some (p, 0))), (11, .sl []), (77, .agg (o.ans.flatMap Sib.c)), (78, .int .i64 0)], HH, .w ws⟩ =
      some (.exit 0, ⟨[(0, .ptr (some (i, 0))), (1, .int .i64 n), (10, .ptr (some (p, 0))), (11, .sl ((gotN has o.ans o.s 8).map natV)), (77, .agg (o.ans.flatMap Sib.c)), (78, .int .i64 8), (79, .bool false)], HH, .w ws⟩) := by
  have key := loop_to (C := callL E) (fb := fb) (live := [0, 1, 10, 11, 77, 78]) (c := c_coord_Coord_Got_l0)
    (fun j => ⟨[(0, .ptr (some (i, 0))), (1, .int .i64 n), (10, .ptr (some (p, 0))), (11, .sl ((gotN has o.ans o.s j).map natV)), (77, .agg (o.ans.flatMap Sib.c)), (78, .int .i64 j)], HH, .w ws⟩) 8
    (r := (.exit 0, ⟨[(0, .ptr (some (i, 0))), (1, .int .i64 n), (10, .ptr (some (p, 0))), (11, .sl ((gotN has o.ans o.s 8).map natV)), (77, .agg (o.ans.flatMap Sib.c)), (78, .int .i64 8), (79, .bool false)], HH, .w ws⟩)) (fun j hj => ?_) ?_ rfl
  · exact key
  · obtain ⟨x, hx, _, hxm⟩ := get_of_lt (l := o.ans) (i := j) (by omega)
    obtain ⟨b, hbx, _, _⟩ := get_of_lt (l := has) (i := j) (by omega)
    have hlt : (j : Int) < 8 := by omega
    have hj8 : j < 8 := hj
    have h1 := i64_add1 (n := j) (by omega)
    have hpl := hget_lt hp
    have hgb : gotB has o.ans o.s j = (b && !decide (x = o.s)) := by
      unfold gotB
      rw [List.getD_eq_getElem?_getD, hbx, List.getD_eq_getElem?_getD, hx]
      rfl
    have hpart := flat_part (c := Sib.c) (z := 9) (fun x => by simp) hx 0 9 (by omega)
    have hin := flat_in (c := Sib.c) (z := 9) (fun x => by simp) (l := o.ans) (i := j) (by omega) 0 9 (by omega)
    have hx9 : List.take 9 x.c = x.c := List.take_of_length_le (by simp)
    simp only [Nat.add_zero, List.drop_zero, hx9] at hpart hin
    have hfl : (o.ans.flatMap Sib.c).length = 72 := by rw [flat_len (c := Sib.c) (z := 9) (fun x => by simp), ha]
    have hqa : ∀ y, hget (HH ++ y) q = some (.cells (cntC need has) []) := fun y => by rw [hget_app (hget_lt hq)]; exact hq
    have hpa : ∀ y, hget (HH ++ y) p = some (.cells (o.c q) []) := fun y => by rw [hget_app hpl]; exact hp
    have g1 := fun y => qHas_eq need has hl j q (HH ++ y) (hqa y)
    have hhq : hasQ has (j : Int) = b := by
      unfold hasQ
      rw [show ((j : Int).toNat) = j from rfl, List.getD_eq_getElem?_getD, hbx]
      have e0 : (0 : Int) ≤ (j : Int) := by omega
      simp [e0, hlt]
    rw [hhq] at g1
    have g2 := fun y => sibsSame_eq x o.s (hall x hxm) (HH ++ y)
    have e1 := OpS.c_len o q ha
    have e2 := OpS.c_s o q
    have e3 := OpS.c_ptr o q
    rw [gotN_succ, hgb]
    have hsz := sizeOk_nats (gotN has o.ans o.s j)
    have hnl := gotN_len has o.ans o.s j
    have hml : ((gotN has o.ans o.s j).map natV).length ≤ j := by simpa using hnl
    have hA := fun n => ltL_sibs n o.ans
    rw [List.map_append]
    have hNl := fun n => ltL_nats n (gotN has o.ans o.s j)
    generalize (gotN has o.ans o.s j).map natV = N at *
    generalize o.ans.flatMap Sib.c = A at *
    generalize o.c q = O at *
    have hb8 : (N.length + 1) * 8 ≤ 140737488355328 := by omega
    have n1 : ¬ HH.length < fb := by omega
    have n63 : j * 9 ≤ 63 := by omega
    simp only [Sib.v] at g2
    rw [s_round]
    cases b with
    | false =>
      simp [-getElem?_pos, c_coord_Coord_Got_l0, hlt, hj8, h1, hpart, hin, hfl, hpa, g1, e1, e2, e3, hfb, n1, hpl, hi, n63, hA, hNl]
      done
    | true =>
      by_cases hxs : x = o.s
      · rw [decide_eq_true hxs] at g2
        rw [hxs] at hpart g2
        simp [-getElem?_pos, c_coord_Coord_Got_l0, hlt, hj8, h1, hpart, hin, hfl, hpa, g1, g2, e1, e2, e3, hfb, n1, hpl, hi, n63, hA, hNl, hxs]
        done
      · rw [decide_eq_false hxs] at g2
        simp [-getElem?_pos, c_coord_Coord_Got_l0, hlt, hj8, h1, hpart, hin, hfl, hpa, g1, g2, e1, e2, e3, hfb, n1, hpl, hi, n63, hA, hNl, hxs, hsz, hb8, natV]
        done
  · rw [s_round]
    simp [c_coord_Coord_Got_l0]
end Go.Proofs.Ytklmddbnjookiaa.V
