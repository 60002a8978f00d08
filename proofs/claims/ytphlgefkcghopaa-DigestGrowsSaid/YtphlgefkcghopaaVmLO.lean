/- DigestOrder: the law's own function answers true. -/
import Derived.Test.YtphlgefkcghopaaVmLB
set_option linter.unusedVariables false
set_option linter.unusedSimpArgs false
namespace Go.Proofs.Ytphlgefkcghopaa.V
open Go.Vm

theorem tabGet_mem {l : List Ent} (hk : (l.map Ent.key).Pairwise (fun a b => bytesLess a b = true)) {e : Ent} (he : e ∈ l) : tabGet l e.key = some e.sib := by
  unfold tabGet
  cases hf : tabAt l e.key with
  | none => exact absurd rfl (tabAt_none hf e he)
  | some i =>
    obtain ⟨x, hx, hk'⟩ := tabAt_some hf
    have := key_inj hk (List.mem_of_getElem? hx) he hk'
    simp [hx, this]
theorem order_loop (l : List Ent) (hl : l.length ≤ 40) (hw : ∀ e ∈ l, ∀ v ∈ e.sib.vals, v.dot.Wf) (ds : List Dig) (h : Heap) :
    loopRun (callL E) loopL h.length [1, 5, 31, 32, 33] c_tattlerlaw13_DigestOrder_l0 ⟨[(1, .sl (ds.map Dig.v)), (5, .ptr (some (h.length, 0))), (31, .sl (l.map Ent.v)), (32, .int .i64 l.length), (33, .int .i64 0)], h ++ [tabO []], .no⟩ =
      some (.exit 0, ⟨[(1, .sl (ds.map Dig.v)), (5, .ptr (some (h.length, 0))), (31, .sl (l.map Ent.v)), (32, .int .i64 l.length), (33, .int .i64 l.length), (34, .bool false)], h ++ [tabO (tabAll l)], .no⟩) := by
  refine loop_to (C := callL E) (fb := h.length) (live := [1, 5, 31, 32, 33]) (c := c_tattlerlaw13_DigestOrder_l0)
    (fun j => ⟨[(1, .sl (ds.map Dig.v)), (5, .ptr (some (h.length, 0))), (31, .sl (l.map Ent.v)), (32, .int .i64 l.length), (33, .int .i64 j)], h ++ [tabO (tabAll (l.take j))], .no⟩) l.length (fun j hj => ?_) ?_ rfl
  · obtain ⟨e, hx, _, _⟩ := get_of_lt (l := l) (i := j) hj
    have hlt : (j : Int) < (l.length : Int) := by omega
    have h1 := i64_add1 (n := j) (by omega)
    have hok := take_ok hw j
    rw [tabAll_take hx]
    generalize tabAll (l.take j) = t at hok ⊢
    obtain ⟨ws, hws, g1⟩ := tabJoin_eq t (by have := hok.len; omega) (fun x hx => by have := (hok.good x hx).len; omega) e h.length (h ++ [tabO t, .cells e.c []]) (by simp)
    simp only [Ent.v] at g1
    have hz : hset (h ++ [tabO t, .cells e.c []]) h.length (tabO (tabJoin t e).1) = h ++ [tabO (tabJoin t e).1, .cells e.c []] := by simp [hset]
    rw [hz] at g1
    rw [s_round]
    rcases hws with rfl | rfl <;> simp [-getElem?_pos, c_tattlerlaw13_DigestOrder_l0, hlt, hj, hx, h1, g1]
  · rw [s_round, List.take_length]
    simp [c_tattlerlaw13_DigestOrder_l0]
theorem orderIn (e : Ent) (he : e.sib.vals.length ≤ 1099511627776) (ds : List Dig) (hds : ds.length ≤ 40) (hdd : ∀ d ∈ ds, d.dots.length ≤ 1099511627776) (hlk : lacked e ds = true) (G : List V) (n i : Nat) (hG : ∀ m, V.ltL m G = true) (T S : Vm.Obj) (h : Heap) :
    ∃ r, (r = (⟨[(1, .sl (ds.map Dig.v)), (5, .ptr (some (h.length, 0))), (8, .sl G), (10, .ptr (some (h.length + 1, 0))), (47, .sl G), (48, .int .i64 n), (49, .int .i64 i), (83, .sl (ds.map Dig.v)), (84, .int .i64 ds.length), (85, .int .i64 ds.length), (86, .bool false)], h ++ [T, .cells e.c [], S], .no⟩ : St) ∨
      ∃ d ∈ ds, r = ⟨[(1, .sl (ds.map Dig.v)), (5, .ptr (some (h.length, 0))), (8, .sl G), (47, .sl G), (48, .int .i64 n), (49, .int .i64 i), (97, .bool false)], h ++ [T, .cells e.c [], S, .cells d.c []], .no⟩) ∧
      loopRun (callL E) loopL h.length [1, 5, 8, 10, 47, 48, 49, 83, 84, 85] c_tattlerlaw13_DigestOrder_l1 ⟨[(1, .sl (ds.map Dig.v)), (5, .ptr (some (h.length, 0))), (8, .sl G), (10, .ptr (some (h.length + 1, 0))), (47, .sl G), (48, .int .i64 n), (49, .int .i64 i), (83, .sl (ds.map Dig.v)), (84, .int .i64 ds.length), (85, .int .i64 0)], h ++ [T, .cells e.c [], S], .no⟩ = some (.exit 4, r) := by
  have key := loop_scan (C := callL E) (fb := h.length) (live := [1, 5, 8, 10, 47, 48, 49, 83, 84, 85]) (c := c_tattlerlaw13_DigestOrder_l1)
    (fun j => ⟨[(1, .sl (ds.map Dig.v)), (5, .ptr (some (h.length, 0))), (8, .sl G), (10, .ptr (some (h.length + 1, 0))), (47, .sl G), (48, .int .i64 n), (49, .int .i64 i), (83, .sl (ds.map Dig.v)), (84, .int .i64 ds.length), (85, .int .i64 j)], h ++ [T, .cells e.c [], S], .no⟩) ds.length (getB ds fun d => !(d.key == e.key))
    (.exit 4, ⟨[(1, .sl (ds.map Dig.v)), (5, .ptr (some (h.length, 0))), (8, .sl G), (10, .ptr (some (h.length + 1, 0))), (47, .sl G), (48, .int .i64 n), (49, .int .i64 i), (83, .sl (ds.map Dig.v)), (84, .int .i64 ds.length), (85, .int .i64 ds.length), (86, .bool false)], h ++ [T, .cells e.c [], S], .no⟩)
    (fun j => cnd (getB ds (lacks e) j) (.exit 4, ⟨[(1, .sl (ds.map Dig.v)), (5, .ptr (some (h.length, 0))), (8, .sl G), (47, .sl G), (48, .int .i64 n), (49, .int .i64 i), (97, .bool false)], h ++ [T, .cells e.c [], S, .cells (match ds[j]? with | some v => v.c | none => []) []], .no⟩)
      (.ret, ⟨[(4, .bool false)], h ++ [T, .cells e.c [], S, .cells (match ds[j]? with | some v => v.c | none => []) []], .no⟩)) ?_ ?_ (fun j => by cases getB ds (lacks e) j <;> rfl) ?_ rfl
  · rw [show ((0 : Nat) : Int) = 0 from rfl] at key
    rcases key with ⟨h1, h2⟩ | ⟨j, h1, h2, h3, h4⟩
    · exact ⟨_, .inl rfl, h2⟩
    · have hf : ds.findIdx? (fun d => d.key == e.key) = some j := findIdx_at h1 h2 h3
      obtain ⟨d, hx, _, hm⟩ := get_of_lt (l := ds) (i := j) h1
      unfold lacked at hlk
      rw [hf] at hlk
      have hlk : lacks e (ds[j]?.getD _) = true := hlk
      rw [hx] at hlk
      rw [getB_at hx, show lacks e d = true from hlk] at h4
      simp only [hx] at h4
      exact ⟨_, .inr ⟨d, hm, rfl⟩, h4⟩
  · intro j hj hp
    obtain ⟨d, hx, _, _⟩ := get_of_lt (l := ds) (i := j) hj
    have hlt : (j : Int) < (ds.length : Int) := by omega
    have h1 := i64_add1 (n := j) (by omega)
    rw [getB_at hx] at hp
    have hp' : (d.key == e.key) = false := by simpa using hp
    rw [s_round]
    simp [-getElem?_pos, c_tattlerlaw13_DigestOrder_l1, hlt, hj, hx, h1, hp']
  · intro j hj hp
    obtain ⟨d, hx, _, hm⟩ := get_of_lt (l := ds) (i := j) hj
    have hlt : (j : Int) < (ds.length : Int) := by omega
    rw [getB_at hx] at hp
    have hp' : d.key = e.key := by simpa using hp
    have g1 := lacks_eq e d he (hdd d hm) (h ++ [T, .cells e.c [], S, .cells d.c []])
    rw [getB_at hx]
    rw [s_round]
    cases hlk' : lacks e d <;> rw [hlk'] at g1 <;> simp [-getElem?_pos, c_tattlerlaw13_DigestOrder_l1, hlt, hj, hx, hp', g1, hG]
  · rw [s_round]
    simp [c_tattlerlaw13_DigestOrder_l1]
theorem ents_lt (m : Nat) : ∀ l : List Ent, V.ltL m (l.map Ent.v) = true
  | [] => by simp
  | e :: l => by have := ents_lt m l; simp only [List.map_cons, V.ltL, Ent.v_lt, this, Bool.and_self]
theorem orderOut (t : List Ent) (ht : TOk t 40) (got : List Ent) (hsub : got.Sublist t) (ds : List Dig) (hds : ds.length ≤ 40) (hdd : ∀ d ∈ ds, d.dots.length ≤ 1099511627776) (hlk : ∀ e ∈ got, lacked e ds = true) (h : Heap) :
    loopRun (callL E) loopL h.length [1, 5, 8, 47, 48, 49] c_tattlerlaw13_DigestOrder_l2 ⟨[(1, .sl (ds.map Dig.v)), (5, .ptr (some (h.length, 0))), (8, .sl (got.map Ent.v)), (47, .sl (got.map Ent.v)), (48, .int .i64 got.length), (49, .int .i64 0)], h ++ [tabO t], .no⟩ =
      some (.exit 2, ⟨[(1, .sl (ds.map Dig.v)), (5, .ptr (some (h.length, 0))), (8, .sl (got.map Ent.v)), (47, .sl (got.map Ent.v)), (48, .int .i64 got.length), (49, .int .i64 got.length), (50, .bool false)], h ++ [tabO t], .no⟩) := by
  have hgl : got.length ≤ 40 := Nat.le_trans hsub.length_le ht.len
  refine loop_to (C := callL E) (fb := h.length) (live := [1, 5, 8, 47, 48, 49]) (c := c_tattlerlaw13_DigestOrder_l2)
    (fun i => ⟨[(1, .sl (ds.map Dig.v)), (5, .ptr (some (h.length, 0))), (8, .sl (got.map Ent.v)), (47, .sl (got.map Ent.v)), (48, .int .i64 got.length), (49, .int .i64 i)], h ++ [tabO t], .no⟩) got.length (fun i hi => ?_) ?_ rfl
  · obtain ⟨e, hx, _, hm⟩ := get_of_lt (l := got) (i := i) hi
    have hlt : (i : Int) < (got.length : Int) := by omega
    have h1 := i64_add1 (n := i) (by omega)
    have het := hsub.subset hm
    have hel := (ht.good e het).len
    have hG : ∀ m, V.ltL m (got.map Ent.v) = true := fun m => ents_lt m got
    obtain ⟨r, hr, hin⟩ := orderIn e (by omega) ds hds hdd (hlk e hm) (got.map Ent.v) got.length i hG (tabO t) (.cells e.sib.c []) h
    have g1 := tabGet_eq t (by have := ht.len; omega) e.key h.length (h ++ [tabO t, .cells e.c []]) (by simp)
    rw [tabGet_mem ht.keys het] at g1
    have g2 := sibsSame_eq e.sib e.sib (by omega) (h ++ [tabO t, .cells e.c [], .cells e.sib.c []])
    simp only [decide_true, Option.getD_some, Option.isSome_some, Sib.v] at g1 g2
    have hcmp : 0 < i → ∃ u, got[i - 1]? = some u ∧ bytesLess u.key e.key = true := fun h0 => by
      obtain ⟨u, hu, _, _⟩ := get_of_lt (l := got) (i := i - 1) (by omega)
      refine ⟨u, hu, ?_⟩
      have hp : (got.map Ent.key).Pairwise (fun a b => bytesLess a b = true) := ht.keys.sublist (hsub.map Ent.key)
      rw [List.pairwise_iff_getElem] at hp
      have := hp (i - 1) i (by simp; omega) (by simpa using hi) (by omega)
      obtain ⟨a1, a2⟩ := List.getElem?_eq_some_iff.1 hu
      obtain ⟨b1, b2⟩ := List.getElem?_eq_some_iff.1 hx
      simp only [List.getElem_map, a2, b2] at this
      exact this
    rw [s_round]
    generalize tabO t = T at *
    by_cases h0 : 0 < i
    · obtain ⟨u, hu, hue⟩ := hcmp h0
      have e1 : (0 : Int) < (i : Int) := by omega
      have e2 : IntKind.wrap .i64 ((i : Int) - 1) = ((i - 1 : Nat) : Int) := by rw [wrap_i64] <;> omega
      rcases hr with rfl | ⟨d, hd, rfl⟩ <;> simp [-getElem?_pos, c_tattlerlaw13_DigestOrder_l2, hlt, hi, hx, h0, e1, e2, hu, hue, g1, g2, hin, h1]
    · have e1 : ¬ (0 : Int) < (i : Int) := by omega
      have : i = 0 := by omega
      subst this
      rw [show ((0 : Nat) : Int) = 0 from rfl] at hin hlt ⊢
      have w1 : IntKind.wrap .i64 1 = 1 := by rw [wrap_i64] <;> omega
      rcases hr with rfl | ⟨d, hd, rfl⟩ <;> simp [-getElem?_pos, c_tattlerlaw13_DigestOrder_l2, hlt, hi, hx, h0, e1, g1, g2, hin, w1]
  · rw [s_round]
    simp [c_tattlerlaw13_DigestOrder_l2]
theorem DigestOrder_eq (l : List Ent) (hl : ∀ e ∈ l, e.Wf) (ds : List Dig) (h : Heap) : callL E F.tattlerlaw13_DigestOrder [.sl (l.map Ent.v), .sl (ds.map Dig.v)] h = some (.bool true, h, .no) := by
  refine callL_of rfl fn_tattlerlaw13_DigestOrder ?_
  have a0 := light_eq l h
  have a1 := thin_eq ds h
  have aw := awake_eq h
  by_cases hL : LightP l
  · simp only [hL, decide_true] at a0
    have a2 := may13_eq l (by have := hL.1; omega) h
    by_cases hT : ThinP ds
    · simp only [hT, decide_true] at a1
      cases hm : l.all Ent.may with
      | false =>
        rw [hm] at a2
        simp [-getElem?_pos, c_tattlerlaw13_DigestOrder, a0, a1, a2, aw]
      | true =>
        rw [hm] at a2
        have key := order_loop l hL.1 (light_wf hl) ds h
        have hok := tabAll_ok l (light_wf hl)
        have h40 := hL.1
        generalize tabAll l = t at key hok
        have hTE := hok.ents (by omega)
        have ht : t.length ≤ 40 := by have := hok.len; omega
        have hD : DigsOk ds := ⟨by have := hT.1; omega, fun e he => by have := hT.2 e he; omega⟩
        have g1 := send_eq t ds 1099511627776 hTE hD ⟨by omega, by omega⟩ (h ++ [tabO t])
        rw [send_all (by omega)] at g1
        have key2 := orderOut t ⟨ht, hok.good, hok.keys⟩ (t.filter fun e => lacked e ds) List.filter_sublist ds hT.1 hD.dots (fun e he => (List.mem_filter.1 he).2) h
        have aw2 := awake_eq (h ++ [tabO t])
        have hlen : ((t.filter fun e => lacked e ds).map Ent.v).length = (t.filter fun e => lacked e ds).length := by simp
        unfold tabO at key key2 g1 aw2
        simp only [List.map_nil] at key
        generalize (t.filter fun e => lacked e ds) = got at *
        generalize got.map Ent.v = G at *
        simp [-getElem?_pos, c_tattlerlaw13_DigestOrder, a0, a1, a2, key, key2, g1, aw2, hlen]
    · simp only [hT, decide_false] at a1
      simp [-getElem?_pos, c_tattlerlaw13_DigestOrder, a0, a1, aw]
  · simp only [hL, decide_false] at a0
    simp [-getElem?_pos, c_tattlerlaw13_DigestOrder, a0, aw]
theorem tattlerlaw13_DigestOrder_top {c0 c1 : List V} (h0 : Ty.Has (.sl entT) c0) (h1 : Ty.Has (.sl digT) c1) :
    ∃ h fl, callL E F.tattlerlaw13_DigestOrder [Ty.el (.sl entT) c0, Ty.el (.sl digT) c1] [] = some (.bool true, h, fl) := by
  obtain ⟨l, _, hl, rfl⟩ := Ents.dec h0
  obtain ⟨ds, _, _, rfl⟩ := Digs.dec h1
  exact ⟨_, _, DigestOrder_eq l hl ds []⟩
end Go.Proofs.Ytphlgefkcghopaa.V
