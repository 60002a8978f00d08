/- DigestGrows: the law's own function answers true. -/
import Derived.Test.YtphlgefkcghopaaVmT3
import Derived.Test.YtphlgefkcghopaaVmLG
set_option linter.unusedVariables false
set_option linter.unusedSimpArgs false
namespace Go.Proofs.Ytphlgefkcghopaa.V
open Go.Vm

theorem valSum_le : ∀ {l : List Ent}, (∀ e ∈ l, Light1 e) → valSum l ≤ 20 * l.length
  | [], _ => by simp [valSum]
  | e :: l, h => by
    have h1 := (h e (by simp)).1
    have h2 := valSum_le (l := l) (fun x hx => h x (by simp [hx]))
    rw [valSum_cons, List.length_cons]; omega
theorem valSum_take {l : List Ent} {j : Nat} {e : Ent} (h : l[j]? = some e) : valSum (l.take (j + 1)) = valSum (l.take j) + e.sib.vals.length := by
  rw [List.take_add_one, h]; simp [valSum]
theorem TOk.nil : TOk [] 0 := ⟨Nat.le_refl _, by simp, by simp⟩
theorem fold_take_ok {l t : List Ent} {n : Nat} (h : TOk t n) (hw : DotsWf l) (j : Nat) : TOk (tabFold t (l.take j)) (n + l.length) := by
  have h := tabFold_ok h (l := l.take j) (fun e he => hw e (List.mem_of_mem_take he))
  exact ⟨by have := h.len; simp at this; omega, h.good, h.keys⟩
theorem grow0 (a : List Ent) (ha : LightP a) (hw : DotsWf a) (B : List V) (O : Vm.Obj) (h : Heap) :
    loopRun (callL E) loopL h.length [1, 5, 6, 7, 43, 44, 45] c_tattlerlaw13_DigestGrows_l0 ⟨[(1, .sl B), (5, .ptr (some (h.length, 0))), (6, .ptr (some (h.length + 1, 0))), (7, .int .i64 0), (43, .sl (a.map Ent.v)), (44, .int .i64 a.length), (45, .int .i64 0)], h ++ [tabO [], O], .no⟩ =
      some (.exit 0, ⟨[(1, .sl B), (5, .ptr (some (h.length, 0))), (6, .ptr (some (h.length + 1, 0))), (7, .int .i64 (valSum a)), (43, .sl (a.map Ent.v)), (44, .int .i64 a.length), (45, .int .i64 a.length), (46, .bool false)], h ++ [tabO (tabFold [] a), O], .no⟩) := by
  refine loop_to (C := callL E) (fb := h.length) (live := [1, 5, 6, 7, 43, 44, 45]) (c := c_tattlerlaw13_DigestGrows_l0)
    (fun j => ⟨[(1, .sl B), (5, .ptr (some (h.length, 0))), (6, .ptr (some (h.length + 1, 0))), (7, .int .i64 (valSum (a.take j))), (43, .sl (a.map Ent.v)), (44, .int .i64 a.length), (45, .int .i64 j)], h ++ [tabO (tabFold [] (a.take j)), O], .no⟩) a.length (fun j hj => ?_) ?_ rfl
  · have ha40 := ha.1
    obtain ⟨e, hx, _, hm⟩ := get_of_lt (l := a) (i := j) hj
    have hlt : (j : Int) < (a.length : Int) := by omega
    have h1 := i64_add1 (n := j) (by omega)
    have hok := fold_take_ok TOk.nil hw j
    have hs0 := valSum_le (l := a.take j) (fun e he => ha.2 e (List.mem_of_mem_take he))
    have hs2 : (a.take j).length ≤ 40 := by simp; omega
    have he20 := (ha.2 e hm).1
    have hs := valSum_take hx
    have hw1 : IntKind.wrap .i64 ((valSum (a.take j) : Int) + (e.sib.vals.length : Int)) = (valSum (a.take (j + 1)) : Int) := by rw [wrap_i64] <;> omega
    rw [tabFold_take hx]
    generalize valSum (a.take (j + 1)) = n2 at *
    generalize valSum (a.take j) = n1 at *
    generalize tabFold [] (a.take j) = t at hok ⊢
    obtain ⟨ws, hws, g1⟩ := tabJoin_eq t (by have := hok.len; omega) (fun x hx => by have := (hok.good x hx).len; omega) e h.length (h ++ [tabO t, O, .cells e.c []]) (by simp)
    simp only [Ent.v] at g1
    have hz : hset (h ++ [tabO t, O, .cells e.c []]) h.length (tabO (tabJoin t e).1) = h ++ [tabO (tabJoin t e).1, O, .cells e.c []] := by simp [hset]
    rw [hz] at g1
    rw [s_round]
    rcases hws with rfl | rfl <;> simp [-getElem?_pos, c_tattlerlaw13_DigestGrows_l0, hlt, hj, hx, h1, g1, hw1]
  · rw [s_round, List.take_length]
    simp [c_tattlerlaw13_DigestGrows_l0]
theorem grow1 (a : List Ent) (ha : LightP a) (hw : DotsWf a) (n : Nat) (hn : n ≤ 1000) (O : Vm.Obj) (h : Heap) :
    loopRun (callL E) loopL h.length [5, 6, 7, 59, 60, 61] c_tattlerlaw13_DigestGrows_l1 ⟨[(5, .ptr (some (h.length, 0))), (6, .ptr (some (h.length + 1, 0))), (7, .int .i64 n), (59, .sl (a.map Ent.v)), (60, .int .i64 a.length), (61, .int .i64 0)], h ++ [O, tabO []], .no⟩ =
      some (.exit 2, ⟨[(5, .ptr (some (h.length, 0))), (6, .ptr (some (h.length + 1, 0))), (7, .int .i64 (n + valSum a : Nat)), (59, .sl (a.map Ent.v)), (60, .int .i64 a.length), (61, .int .i64 a.length), (62, .bool false)], h ++ [O, tabO (tabFold [] a)], .no⟩) := by
  have hz0 : ((n + valSum ([] : List Ent) : Nat) : Int) = (n : Int) := by simp [valSum]
  have key := loop_to (C := callL E) (fb := h.length) (live := [5, 6, 7, 59, 60, 61]) (c := c_tattlerlaw13_DigestGrows_l1)
    (fun j => ⟨[(5, .ptr (some (h.length, 0))), (6, .ptr (some (h.length + 1, 0))), (7, .int .i64 (n + valSum (a.take j) : Nat)), (59, .sl (a.map Ent.v)), (60, .int .i64 a.length), (61, .int .i64 j)], h ++ [O, tabO (tabFold [] (a.take j))], .no⟩) a.length
    (r := (.exit 2, ⟨[(5, .ptr (some (h.length, 0))), (6, .ptr (some (h.length + 1, 0))), (7, .int .i64 (n + valSum a : Nat)), (59, .sl (a.map Ent.v)), (60, .int .i64 a.length), (61, .int .i64 a.length), (62, .bool false)], h ++ [O, tabO (tabFold [] a)], .no⟩)) (fun j hj => ?_) ?_ rfl
  · rw [List.take_zero, hz0, show ((0 : Nat) : Int) = 0 from rfl] at key
    exact key
  · have ha40 := ha.1
    obtain ⟨e, hx, _, hm⟩ := get_of_lt (l := a) (i := j) hj
    have hlt : (j : Int) < (a.length : Int) := by omega
    have h1 := i64_add1 (n := j) (by omega)
    have hok := fold_take_ok TOk.nil hw j
    have hs0 := valSum_le (l := a.take j) (fun e he => ha.2 e (List.mem_of_mem_take he))
    have hs2 : (a.take j).length ≤ 40 := by simp; omega
    have he20 := (ha.2 e hm).1
    have hs := valSum_take hx
    have hw1 : IntKind.wrap .i64 (((n + valSum (a.take j) : Nat) : Int) + (e.sib.vals.length : Int)) = ((n + valSum (a.take (j + 1)) : Nat) : Int) := by rw [wrap_i64] <;> omega
    rw [tabFold_take hx]
    generalize n + valSum (a.take (j + 1)) = n2 at *
    generalize n + valSum (a.take j) = n1 at *
    generalize tabFold [] (a.take j) = t at hok ⊢
    obtain ⟨ws, hws, g1⟩ := tabJoin_eq t (by have := hok.len; omega) (fun x hx => by have := (hok.good x hx).len; omega) e (h.length + 1) (h ++ [O, tabO t, .cells e.c []]) (by simp)
    simp only [Ent.v] at g1
    have hz : hset (h ++ [O, tabO t, .cells e.c []]) (h.length + 1) (tabO (tabJoin t e).1) = h ++ [O, tabO (tabJoin t e).1, .cells e.c []] := by simp [hset]
    rw [hz] at g1
    rw [s_round]
    rcases hws with rfl | rfl <;> simp [-getElem?_pos, c_tattlerlaw13_DigestGrows_l1, hlt, hj, hx, h1, g1, hw1]
  · rw [s_round, List.take_length]
    simp [c_tattlerlaw13_DigestGrows_l1]
def agT (Y : List Ent) (e : Ent) : Bool := match tabGet Y e.key with | some s => agB e.sib s | none => true
theorem grow2 (X Y : List Ent) (hX : TOk X 40) (hY : TOk Y 40) (n : Nat) (h : Heap) :
    (X.all (agT Y) = true ∧ loopRun (callL E) loopL h.length [5, 6, 7, 78, 79, 80] c_tattlerlaw13_DigestGrows_l2 ⟨[(5, .ptr (some (h.length, 0))), (6, .ptr (some (h.length + 1, 0))), (7, .int .i64 n), (78, .sl (X.map Ent.v)), (79, .int .i64 X.length), (80, .int .i64 0)], h ++ [tabO X, tabO Y], .no⟩ =
      some (.exit 4, ⟨[(5, .ptr (some (h.length, 0))), (6, .ptr (some (h.length + 1, 0))), (7, .int .i64 n), (78, .sl (X.map Ent.v)), (79, .int .i64 X.length), (80, .int .i64 X.length), (81, .bool false)], h ++ [tabO X, tabO Y], .no⟩)) ∨
    ∃ hs, loopRun (callL E) loopL h.length [5, 6, 7, 78, 79, 80] c_tattlerlaw13_DigestGrows_l2 ⟨[(5, .ptr (some (h.length, 0))), (6, .ptr (some (h.length + 1, 0))), (7, .int .i64 n), (78, .sl (X.map Ent.v)), (79, .int .i64 X.length), (80, .int .i64 0)], h ++ [tabO X, tabO Y], .no⟩ = some (.ret, ⟨[(4, .bool true)], h ++ hs, .no⟩) := by
  have key := loop_scanE (C := callL E) (fb := h.length) (live := [5, 6, 7, 78, 79, 80]) (c := c_tattlerlaw13_DigestGrows_l2)
    (fun j => ⟨[(5, .ptr (some (h.length, 0))), (6, .ptr (some (h.length + 1, 0))), (7, .int .i64 n), (78, .sl (X.map Ent.v)), (79, .int .i64 X.length), (80, .int .i64 j)], h ++ [tabO X, tabO Y], .no⟩) X.length (getB X (agT Y))
    (.exit 4, ⟨[(5, .ptr (some (h.length, 0))), (6, .ptr (some (h.length + 1, 0))), (7, .int .i64 n), (78, .sl (X.map Ent.v)), (79, .int .i64 X.length), (80, .int .i64 X.length), (81, .bool false)], h ++ [tabO X, tabO Y], .no⟩)
    (fun r => ∃ hs, r = (.ret, ⟨[(4, .bool true)], h ++ hs, .no⟩)) ?_ ?_ ?_ rfl
  · rw [show ((0 : Nat) : Int) = 0 from rfl] at key
    rcases key with ⟨h1, h2⟩ | ⟨j, h1, h2, r, ⟨hs, rfl⟩, h3⟩
    · exact .inl ⟨all_getB h1, h2⟩
    · exact .inr ⟨hs, h3⟩
  · intro j hj hp
    have hX40 := hX.len
    obtain ⟨e, hx, _, hm⟩ := get_of_lt (l := X) (i := j) hj
    have hlt : (j : Int) < (X.length : Int) := by omega
    have h1 := i64_add1 (n := j) (by omega)
    have hel := (hX.good e hm).len
    rw [getB_at hx] at hp
    have g1 := tabGet_eq Y (by have := hY.len; omega) e.key (h.length + 1) (h ++ [tabO X, tabO Y, .cells e.c []]) (by simp)
    unfold agT at hp
    rw [s_round]
    generalize tabO X = OX at *
    cases hg : tabGet Y e.key with
    | none =>
      rw [hg] at g1
      simp only [Option.getD_none, Option.isSome_none, Sib.v] at g1
      generalize tabO Y = OY at *
      simp [-getElem?_pos, c_tattlerlaw13_DigestGrows_l2, hlt, hj, hx, h1, g1]
    | some s =>
      rw [hg] at g1 hp
      have hp : agB e.sib s = true := hp
      have hsY := (hY.good _ ((tabGet_iff hY.keys).1 hg)).len
      have hsl : s.vals.length ≤ 16 := hsY
      simp only [Option.getD_some, Option.isSome_some, Sib.v] at g1
      generalize tabO Y = OY at *
      have g2 := agree_eq e.sib s (by omega) (by omega) (h ++ [OX, OY, .cells e.c [], .cells s.c []])
      rw [hp] at g2
      simp only [Sib.v] at g2
      simp [-getElem?_pos, c_tattlerlaw13_DigestGrows_l2, hlt, hj, hx, h1, g1, g2]
  · intro j hj hp
    have hX40 := hX.len
    obtain ⟨e, hx, _, hm⟩ := get_of_lt (l := X) (i := j) hj
    have hlt : (j : Int) < (X.length : Int) := by omega
    have hel := (hX.good e hm).len
    rw [getB_at hx] at hp
    have g1 := tabGet_eq Y (by have := hY.len; omega) e.key (h.length + 1) (h ++ [tabO X, tabO Y, .cells e.c []]) (by simp)
    unfold agT at hp
    generalize tabO X = OX at *
    cases hg : tabGet Y e.key with
    | none => rw [hg] at hp; cases hp
    | some s =>
      rw [hg] at g1 hp
      have hp : agB e.sib s = false := hp
      have hsY := (hY.good _ ((tabGet_iff hY.keys).1 hg)).len
      have hsl : s.vals.length ≤ 16 := hsY
      simp only [Option.getD_some, Option.isSome_some, Sib.v] at g1
      generalize tabO Y = OY at *
      have g2 := agree_eq e.sib s (by omega) (by omega) (h ++ [OX, OY, .cells e.c [], .cells s.c []])
      rw [hp] at g2
      simp only [Sib.v] at g2
      have g3 := awake_eq (h ++ [OX, OY, .cells e.c [], .cells s.c []])
      refine ⟨(.ret, ⟨[(4, .bool true)], h ++ [OX, OY, .cells e.c [], .cells s.c []], .no⟩), rfl, ⟨_, rfl⟩, ?_⟩
      rw [s_round]
      simp [-getElem?_pos, c_tattlerlaw13_DigestGrows_l2, hlt, hj, hx, g1, g2, g3]
  · rw [s_round]
    simp [c_tattlerlaw13_DigestGrows_l2]
theorem grow3 (t0 : List Ent) {n : Nat} (h0 : TOk t0 n) (a : List Ent) (hn : n + a.length ≤ 200) (hw : DotsWf a) (O : Vm.Obj) (h : Heap) :
    loopRun (callL E) loopL h.length [5, 6, 113, 114, 115] c_tattlerlaw13_DigestGrows_l3 ⟨[(5, .ptr (some (h.length, 0))), (6, .ptr (some (h.length + 1, 0))), (113, .sl (a.map Ent.v)), (114, .int .i64 a.length), (115, .int .i64 0)], h ++ [O, tabO t0], .no⟩ =
      some (.exit 6, ⟨[(5, .ptr (some (h.length, 0))), (6, .ptr (some (h.length + 1, 0))), (113, .sl (a.map Ent.v)), (114, .int .i64 a.length), (115, .int .i64 a.length), (116, .bool false)], h ++ [O, tabO (tabFold t0 a)], .no⟩) := by
  refine loop_to (C := callL E) (fb := h.length) (live := [5, 6, 113, 114, 115]) (c := c_tattlerlaw13_DigestGrows_l3)
    (fun j => ⟨[(5, .ptr (some (h.length, 0))), (6, .ptr (some (h.length + 1, 0))), (113, .sl (a.map Ent.v)), (114, .int .i64 a.length), (115, .int .i64 j)], h ++ [O, tabO (tabFold t0 (a.take j))], .no⟩) a.length (fun j hj => ?_) ?_ rfl
  · obtain ⟨e, hx, _, hm⟩ := get_of_lt (l := a) (i := j) hj
    have hlt : (j : Int) < (a.length : Int) := by omega
    have h1 := i64_add1 (n := j) (by omega)
    have hok := fold_take_ok h0 hw j
    rw [tabFold_take hx]
    generalize tabFold t0 (a.take j) = t at hok ⊢
    obtain ⟨ws, hws, g1⟩ := tabJoin_eq t (by have := hok.len; omega) (fun x hx => by have := (hok.good x hx).len; omega) e (h.length + 1) (h ++ [O, tabO t, .cells e.c []]) (by simp)
    simp only [Ent.v] at g1
    have hz : hset (h ++ [O, tabO t, .cells e.c []]) (h.length + 1) (tabO (tabJoin t e).1) = h ++ [O, tabO (tabJoin t e).1, .cells e.c []] := by simp [hset]
    rw [hz] at g1
    rw [s_round]
    rcases hws with rfl | rfl <;> simp [-getElem?_pos, c_tattlerlaw13_DigestGrows_l3, hlt, hj, hx, h1, g1]
  · rw [s_round, List.take_length]
    simp [c_tattlerlaw13_DigestGrows_l3]
theorem grow4 (t0 : List Ent) {n : Nat} (h0 : TOk t0 n) (a : List Ent) (hn : n + a.length ≤ 200) (hw : DotsWf a) (O : Vm.Obj) (h : Heap) :
    loopRun (callL E) loopL h.length [5, 6, 132, 133, 134] c_tattlerlaw13_DigestGrows_l4 ⟨[(5, .ptr (some (h.length, 0))), (6, .ptr (some (h.length + 1, 0))), (132, .sl (a.map Ent.v)), (133, .int .i64 a.length), (134, .int .i64 0)], h ++ [tabO t0, O], .no⟩ =
      some (.exit 8, ⟨[(5, .ptr (some (h.length, 0))), (6, .ptr (some (h.length + 1, 0))), (132, .sl (a.map Ent.v)), (133, .int .i64 a.length), (134, .int .i64 a.length), (135, .bool false)], h ++ [tabO (tabFold t0 a), O], .no⟩) := by
  refine loop_to (C := callL E) (fb := h.length) (live := [5, 6, 132, 133, 134]) (c := c_tattlerlaw13_DigestGrows_l4)
    (fun j => ⟨[(5, .ptr (some (h.length, 0))), (6, .ptr (some (h.length + 1, 0))), (132, .sl (a.map Ent.v)), (133, .int .i64 a.length), (134, .int .i64 j)], h ++ [tabO (tabFold t0 (a.take j)), O], .no⟩) a.length (fun j hj => ?_) ?_ rfl
  · obtain ⟨e, hx, _, hm⟩ := get_of_lt (l := a) (i := j) hj
    have hlt : (j : Int) < (a.length : Int) := by omega
    have h1 := i64_add1 (n := j) (by omega)
    have hok := fold_take_ok h0 hw j
    rw [tabFold_take hx]
    generalize tabFold t0 (a.take j) = t at hok ⊢
    obtain ⟨ws, hws, g1⟩ := tabJoin_eq t (by have := hok.len; omega) (fun x hx => by have := (hok.good x hx).len; omega) e h.length (h ++ [tabO t, O, .cells e.c []]) (by simp)
    simp only [Ent.v] at g1
    have hz : hset (h ++ [tabO t, O, .cells e.c []]) h.length (tabO (tabJoin t e).1) = h ++ [tabO (tabJoin t e).1, O, .cells e.c []] := by simp [hset]
    rw [hz] at g1
    rw [s_round]
    rcases hws with rfl | rfl <;> simp [-getElem?_pos, c_tattlerlaw13_DigestGrows_l4, hlt, hj, hx, h1, g1]
  · rw [s_round, List.take_length]
    simp [c_tattlerlaw13_DigestGrows_l4]
end Go.Proofs.Ytphlgefkcghopaa.V
