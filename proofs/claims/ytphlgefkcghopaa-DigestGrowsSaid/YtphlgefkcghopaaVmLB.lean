/- DigestBelow: the law's own function answers true. -/
import Derived.Test.YtphlgefkcghopaaVmT1
set_option linter.unusedVariables false
set_option linter.unusedSimpArgs false
namespace Go.Proofs.Ytphlgefkcghopaa.V
open Go.Vm

theorem light_wf {l : List Ent} (hl : ∀ e ∈ l, e.Wf) : ∀ e ∈ l, ∀ v ∈ e.sib.vals, v.dot.Wf := fun e he v hv => ((hl e he).2.2.2 v hv).1
theorem tabAll_take {l : List Ent} {j : Nat} {e : Ent} (h : l[j]? = some e) : tabAll (l.take (j + 1)) = (tabJoin (tabAll (l.take j)) e).1 := by
  unfold tabAll; rw [foldl_take h]
theorem take_ok {l : List Ent} (hw : ∀ e ∈ l, ∀ v ∈ e.sib.vals, v.dot.Wf) (j : Nat) : TOk (tabAll (l.take j)) l.length := by
  have h := tabAll_ok (l.take j) (fun e he => hw e (List.mem_of_mem_take he))
  exact ⟨by have := h.len; simp at this; omega, h.good, h.keys⟩
theorem below_loop (l : List Ent) (hl : l.length ≤ 40) (hw : ∀ e ∈ l, ∀ v ∈ e.sib.vals, v.dot.Wf) (h : Heap) :
    loopRun (callL E) loopL h.length [3, 17, 18, 19] c_tattlerlaw13_DigestBelow_l0 ⟨[(3, .ptr (some (h.length, 0))), (17, .sl (l.map Ent.v)), (18, .int .i64 l.length), (19, .int .i64 0)], h ++ [tabO []], .no⟩ =
      some (.exit 0, ⟨[(3, .ptr (some (h.length, 0))), (17, .sl (l.map Ent.v)), (18, .int .i64 l.length), (19, .int .i64 l.length), (20, .bool false)], h ++ [tabO (tabAll l)], .no⟩) := by
  refine loop_to (C := callL E) (fb := h.length) (live := [3, 17, 18, 19]) (c := c_tattlerlaw13_DigestBelow_l0)
    (fun j => ⟨[(3, .ptr (some (h.length, 0))), (17, .sl (l.map Ent.v)), (18, .int .i64 l.length), (19, .int .i64 j)], h ++ [tabO (tabAll (l.take j))], .no⟩) l.length (fun j hj => ?_) ?_ rfl
  · obtain ⟨e, hx, _, _⟩ := get_of_lt (l := l) (i := j) hj
    have hlt : (j : Int) < (l.length : Int) := by omega
    have h1 := i64_add1 (n := j) (by omega)
    have hok := take_ok hw j
    rw [tabAll_take hx]
    generalize tabAll (l.take j) = t at hok ⊢
    obtain ⟨ws, hws, g1⟩ := tabJoin_eq t (by have := hok.len; omega) (fun x hx => by have := (hok.good x hx).len; omega) e h.length (h ++ [tabO t, .cells e.c []]) (by simp)
    simp only [Ent.v] at g1
    have hz : hset (h ++ [tabO t, .cells e.c []]) h.length (tabO (tabJoin t e).1) = h ++ [tabO (tabJoin t e).1, .cells e.c []] := by simp [hset]
    rw [hz] at g1
    rw [s_round]
    rcases hws with rfl | rfl <;> simp [-getElem?_pos, c_tattlerlaw13_DigestBelow_l0, hlt, hj, hx, h1, g1]
  · rw [s_round, List.take_length]
    simp [c_tattlerlaw13_DigestBelow_l0]
theorem DigestBelow_eq (l : List Ent) (hl : ∀ e ∈ l, e.Wf) (h : Heap) : callL E F.tattlerlaw13_DigestBelow [.sl (l.map Ent.v)] h = some (.bool true, h, .no) := by
  refine callL_of rfl fn_tattlerlaw13_DigestBelow ?_
  have a0 := light_eq l h
  have aw := awake_eq h
  by_cases hL : LightP l
  · simp only [hL, decide_true] at a0
    have a1 := may13_eq l (by have := hL.1; omega) h
    cases hm : l.all Ent.may with
    | false =>
      rw [hm] at a1
      simp [-getElem?_pos, c_tattlerlaw13_DigestBelow, a0, a1, aw]
    | true =>
      rw [hm] at a1
      have key := below_loop l hL.1 (light_wf hl) h
      have hok := tabAll_ok l (light_wf hl)
      have h40 := hL.1
      generalize tabAll l = t at key hok
      have hT := hok.ents (by omega)
      have hD := hok.digs (by omega)
      have ht : t.length ≤ 40 := by have := hok.len; omega
      have g1 := digestOf_eq t (by omega) (fun x hx => by have := (hok.good x hx).len; omega) (h ++ [tabO t])
      have g2 := send_eq t (t.map dOf) 1099511627776 hT hD ⟨by omega, by omega⟩ (h ++ [tabO t])
      rw [send_self hok.keys] at g2
      have g3 := send_eq t [] 1099511627776 hT ⟨by simp, by simp⟩ ⟨by omega, by omega⟩ (h ++ [tabO t])
      rw [send_nil (by omega)] at g3
      have g4 := sameEntries_eq t t (by omega) (fun x hx => by have := (hok.good x hx).len; omega) (h ++ [tabO t])
      have aw2 := awake_eq (h ++ [tabO t])
      simp only [List.map_nil, decide_true] at g2 g3 g4
      unfold tabO at key g1 g2 g3 g4 aw2
      simp only [List.map_nil] at key
      generalize (t.map dOf).map Dig.v = D at g1 g2
      simp [-getElem?_pos, c_tattlerlaw13_DigestBelow, a0, a1, key, g1, g2, g3, g4, aw2]
  · simp only [hL, decide_false] at a0
    simp [-getElem?_pos, c_tattlerlaw13_DigestBelow, a0, aw]
theorem tattlerlaw13_DigestBelow_top {c0 : List V} (h0 : Ty.Has (.sl entT) c0) :
    ∃ h fl, callL E F.tattlerlaw13_DigestBelow [Ty.el (.sl entT) c0] [] = some (.bool true, h, fl) := by
  obtain ⟨l, hn, hl, rfl⟩ := Ents.dec h0
  exact ⟨_, _, DigestBelow_eq l hl []⟩
end Go.Proofs.Ytphlgefkcghopaa.V
