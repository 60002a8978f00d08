/- What 'tattlerref5.Table.Join' computes. -/
import Derived.Test.YtionebfmjjpnbaaGreatVmR5D
import Derived.Test.YtionebfmjjpnbaaGreatVmKQ
set_option linter.unusedVariables false
set_option linter.unusedSimpArgs false
namespace Go.Proofs.YtionebfmjjpnbaaGreat.V
open Go.Vm

theorem setEnt (x : Ent) (s : Sib) : Ent.c ⟨x.key, s⟩ = x.c.take 1 ++ (s.c ++ x.c.drop (1 + 9)) := by
  have : x.c.drop 10 = [] := by simp
  simp only [Nat.reduceAdd, this, List.append_nil]
  rfl
set_option maxRecDepth 4000 in
theorem tabJoin_eq (l : List Ent) (hl : l.length ≤ 256) (hvs : ∀ x ∈ l, x.sib.vals.length ≤ 1099511627776) (e : Ent) (t : Nat) (h : Heap) (hh : hget h t = some (tabO l)) :
    ∃ ws, (ws = [] ∨ ws = [t]) ∧ callL E F.tattlerref5_Table_Join [.ptr (some (t, 0)), e.v] h = some (.tup [(tabJoin l e).2.1.v, .bool (tabJoin l e).2.2.1, .int .i64 (tabJoin l e).2.2.2], hset h t (tabO (tabJoin l e).1), .w ws) := by
  have htl := hget_lt hh
  have htn : t ≠ h.length := by omega
  have g1 := r5MayEntry_eq e (h ++ [.cells e.c [], .cells zeroSib.c []])
  have h0 : hget (h ++ [.cells e.c [], .cells zeroSib.c []]) t = some (tabO l) := by rw [hget_app htl]; exact hh
  have g2 := tabAt_eq l (by omega) e.key t _ h0
  have hsame := hset_same hh
  have hh' := hh
  unfold tabO at hh'
  rw [zeroSib_c] at g1 g2 h0
  cases hm : e.may with
  | false =>
    rw [hm] at g1
    refine ⟨[], .inl rfl, callL_of rfl fn_tattlerref5_Table_Join ?_⟩
    have ht : tabJoin l e = (l, zeroSib, false, 1) := by unfold tabJoin; rw [hm]; rfl
    rw [ht, hsame]
    simp [-getElem?_pos, c_tattlerref5_Table_Join, g1, zeroSib_c]
  | true =>
    rw [hm] at g1
    cases hf : tabAt l e.key with
    | none =>
      rw [hf] at g2
      by_cases h256 : 256 ≤ l.length
      · have e1 : (256 : Int) ≤ (l.length : Int) := by omega
        refine ⟨[], .inl rfl, callL_of rfl fn_tattlerref5_Table_Join ?_⟩
        have ht : tabJoin l e = (l, zeroSib, false, 11) := by unfold tabJoin; rw [hm, hf]; simp [h256]
        rw [ht, hsame]
        unfold tabO at h0
        simp [-getElem?_pos, c_tattlerref5_Table_Join, g1, g2, hget_app htl, hh', zeroSib_c, idxV, e1]
      · have e1 : ¬ (256 : Int) ≤ (l.length : Int) := by omega
        have ht : tabJoin l e = (insertE l ⟨e.key, zeroSib.join e.sib⟩, zeroSib.join e.sib, false, 0) := by unfold tabJoin; rw [hm, hf]; simp [h256]
        refine ⟨[t], .inr rfl, callL_of rfl fn_tattlerref5_Table_Join ?_⟩
        rw [ht]
        unfold tabO at h0
        by_cases hnil : l = []
        · subst hnil
          obtain ⟨j, hj, hins, hloop⟩ := tabIns_loop [] (by simp) e t h.length (h.length + 1) (h ++ [.cells e.c [], .cells zeroSib.c []]) h.length (by simp) (by simp) (by simp) (by simp; omega)
          have : j = 0 := by simpa using hj
          subst this
          have g3 := r5Join_eq zeroSib e.sib (h ++ [.cells e.c [], .cells zeroSib.c []])
          simp only [Sib.v] at g3
          rw [zeroSib_c] at hloop g3
          simp only [List.map_nil] at hloop
          have hz : (insertE [] ⟨e.key, zeroSib.join e.sib⟩) = [⟨e.key, zeroSib.join e.sib⟩] := rfl
          have hee : V.str e.key :: (zeroSib.join e.sib).c = Ent.c ⟨e.key, zeroSib.join e.sib⟩ := rfl
          simp [-getElem?_pos, c_tattlerref5_Table_Join, g1, g2, g3, hget_app htl, hh', idxV, hloop, hz, htl, htn, tabO, hee, hset_app, take_hset]
        · obtain ⟨j, hj, hins, hloop⟩ := tabIns_loop l (by omega) e t h.length (h.length + 1) (h ++ [.cells e.c [], .cells zeroSib.c [], .dead]) h.length (by simp) (by simp) (by simp) (by simp; omega)
          have g3 := r5Join_eq zeroSib e.sib (h ++ [.cells e.c [], .cells zeroSib.c [], .dead])
          simp only [Sib.v] at g3
          rw [zeroSib_c] at hloop g3
          have hpos : ¬ l.length = 0 := fun e => hnil (List.length_eq_zero_iff.1 e)
          have b0 : l.length * 104 ≤ 140737488355328 := by omega
          have b1 : j * 104 ≤ 140737488355328 := by omega
          have b2 : (j + 1) * 104 ≤ 140737488355328 := by omega
          have b3 : (j + (1 + (l.length - j))) * 104 ≤ 140737488355328 := by omega
          have b4 : (j + 1 + (l.length - j)) * 104 ≤ 140737488355328 := by omega
          have hm' : min j l.length = j := by omega
          have hml : (l.map Ent.v).length = l.length := by simp
          have hfl : (l.map Ent.v).flatMap V.flat = l.flatMap Ent.c := flat_ents l
          have hs1 : sizeOk 10 ((l.map Ent.v).take j) = true := by rw [← List.map_take]; exact sizeOk_ents _
          have hs2 : sizeOk 10 ((l.map Ent.v).drop j) = true := by rw [← List.map_drop]; exact sizeOk_ents _
          have hs3 : sizeOk 10 ((l.map Ent.v).take j ++ [.agg (Ent.c (Ent.mk e.key (zeroSib.join e.sib)))]) = true := by
            have : (l.map Ent.v).take j ++ [.agg (Ent.c (Ent.mk e.key (zeroSib.join e.sib)))] = (l.take j ++ [(Ent.mk e.key (zeroSib.join e.sib))]).map Ent.v := by simp
            rw [this]; exact sizeOk_ents _
          have hs0 : sizeOk 10 (l.map Ent.v) = true := sizeOk_ents _
          have hres : (insertE l (Ent.mk e.key (zeroSib.join e.sib))).map Ent.v = (l.map Ent.v).take j ++ (V.agg (Ent.c (Ent.mk e.key (zeroSib.join e.sib))) :: (l.map Ent.v).drop j) := by rw [hins]; simp
          have htk : List.take l.length (l.map Ent.v) = l.map Ent.v := List.take_of_length_le (by omega)
          have hee : V.str e.key :: (zeroSib.join e.sib).c = Ent.c (Ent.mk e.key (zeroSib.join e.sib)) := rfl
          have hch : chunks true 10 l.length (l.flatMap Ent.c) = l.map Ent.v := chunks_ents l _ rfl
          have hct : List.take (l.length * 10) (l.flatMap Ent.c) = l.flatMap Ent.c := List.take_of_length_le (by rw [flat_ents_len]; exact Nat.le_refl _)
          have hpu := flat_ents_pure l
          have hFl := flat_ents_len l
          have hFt := flat_ents_lt h.length l
          unfold tabO
          rw [hres]
          generalize l.flatMap Ent.c = FF at *
          generalize l.map Ent.v = q at *
          simp [-getElem?_pos, -List.length_flatMap, c_tattlerref5_Table_Join, g1, g2, g3, hget_app htl, hh', idxV, e1, hloop, htl, htn, hee, hset_app, take_hset, hml, hfl, hs0, hs1, hs2, hs3, b0, b1, b2, b3, b4, hm', htk, hpos, hj, hch, hct, hpu, hFl, hFt]
    | some i =>
      rw [hf] at g2
      obtain ⟨x, hx, hxk⟩ := tabAt_some hf
      have hi := (List.getElem?_eq_some_iff.1 hx).1
      have hnil : ¬ l.length = 0 := by omega
      have hxv := hvs x (List.mem_of_getElem? hx)
      have ht : tabJoin l e = (l.set i ⟨x.key, x.sib.join e.sib⟩, x.sib.join e.sib, decide (x.sib.join e.sib = x.sib), 0) := by unfold tabJoin; rw [hm, hf]; simp only [cnd_true, hx]
      refine ⟨[t], .inr rfl, callL_of rfl fn_tattlerref5_Table_Join ?_⟩
      rw [ht]
      have hfl : (l.map Ent.v).flatMap V.flat = l.flatMap Ent.c := flat_ents l
      have hpu := flat_ents_pure l
      have hpu2 := flat_ents_pure (l.set i ⟨x.key, x.sib.join e.sib⟩)
      have hFl := flat_ents_len l
      have hFl2 := flat_ents_len (l.set i ⟨x.key, x.sib.join e.sib⟩)
      have hFt := flat_ents_lt h.length l
      have hFt0 := flat_ents_lt 0 (l.set i ⟨x.key, x.sib.join e.sib⟩)
      have hFt1 := flat_ents_lt h.length (l.set i ⟨x.key, x.sib.join e.sib⟩)
      have hs0 : sizeOk 10 (l.map Ent.v) = true := sizeOk_ents _
      have hml : (l.map Ent.v).length = l.length := by simp
      have b0 : l.length * 104 ≤ 140737488355328 := by omega
      have hsl : (l.set i ⟨x.key, x.sib.join e.sib⟩).length = l.length := by simp
      have hch : chunks true 10 l.length ((l.set i ⟨x.key, x.sib.join e.sib⟩).flatMap Ent.c) = (l.set i ⟨x.key, x.sib.join e.sib⟩).map Ent.v := chunks_ents _ _ hsl.symm
      have hin := flat_in (c := Ent.c) (fun x => Ent.c_len x) hi 1 9 (by omega)
      rw [flat_ents_len] at hin
      have hpart := flat_part (c := Ent.c) (fun x => Ent.c_len x) hx 1 9 (by omega)
      have hset := flat_set (c := Ent.c) (fun x => Ent.c_len x) (y := ⟨x.key, x.sib.join e.sib⟩) hx 1 9 (by omega) (vs := (x.sib.join e.sib).c) (by simp) (setEnt x _)
      have hpart' : (x.c.drop 1).take 9 = x.sib.c := by simp
      rw [hpart'] at hpart
      have g3 : ∀ hp, callL E F.tattlerref5_Join [.agg x.sib.c, .agg e.sib.c] hp = some (.agg (x.sib.join e.sib).c, hp, .no) := fun hp => r5Join_eq x.sib e.sib hp
      have hjl : (x.sib.join e.sib).vals.length ≤ 1099511627776 := by
        unfold Sib.join
        cases (x.sib.may && e.sib.may)
        · simp [zeroSib]
        · simp only [cnd_true, joinVals, List.length_take]; omega
      have g4 : ∀ hp, callL E F.tattlerref5_Same [.agg (x.sib.join e.sib).c, .agg x.sib.c] hp = some (.bool (decide (x.sib.join e.sib = x.sib)), hp, .no) := fun hp => same_eq (x.sib.join e.sib) x.sib hjl hp
      have hneg : ¬ ((i : Int) < 0) := by omega
      unfold tabO
      generalize hM : (l.set i ⟨x.key, x.sib.join e.sib⟩).map Ent.v = M at *
      generalize (l.set i ⟨x.key, x.sib.join e.sib⟩).flatMap Ent.c = F2 at *
      generalize l.map Ent.v = q at *
      generalize l.flatMap Ent.c = FF at *
      rw [hsl] at hFl2
      have hct : List.take (l.length * 10) F2 = F2 := List.take_of_length_le (by omega)
      simp [-getElem?_pos, c_tattlerref5_Table_Join, g1, g2, g3, g4, hget_app htl, hh', idxV, htl, htn, hset_app, take_hset, hml, hfl, hs0, b0, hnil, hneg, hi, hin, hpart, hset, hch, hct, hpu, hpu2, hFl, hFl2, hFt, hFt0, hFt1]
end Go.Proofs.YtionebfmjjpnbaaGreat.V
