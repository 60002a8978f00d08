/- What 'tattlerref5.Table.Reap' and 'tattlerref5.Table.Bucket' compute. -/
import Derived.Test.YtionebfmjjpnbaaGreatVmR5E
import Derived.Test.YtionebfmjjpnbaaGreatVmTBA
import Derived.Test.YtionebfmjjpnbaaGreatVmSF
import Derived.Test.YtionebfmjjpnbaaGreatVmTN
set_option linter.unusedVariables false
set_option linter.unusedSimpArgs false
namespace Go.Proofs.YtionebfmjjpnbaaGreat.V
open Go.Vm

/-- A key reaped; did that change something? -/
noncomputable def tabReapR (l : List Ent) (k : List UInt8) : List Ent × Bool :=
  match tabAt l k with
  | some i => match l[i]? with
    | some x => cnd (decide (reapS x.sib = x.sib)) (l, false) (l.set i ⟨x.key, reapS x.sib⟩, true)
    | none => (l, false)
  | none => (l, false)
set_option maxRecDepth 4000 in
theorem tabReapR_eq (l : List Ent) (hl : l.length ≤ 256) (hvs : ∀ x ∈ l, x.sib.may = true) (k : List UInt8) (t : Nat) (h : Heap) (hh : hget h t = some (tabO l)) :
    ∃ ws, (ws = [] ∨ ws = [t]) ∧ callL E F.tattlerref5_Table_Reap [.ptr (some (t, 0)), .str k] h = some (.bool (tabReapR l k).2, hset h t (tabO (tabReapR l k).1), .w ws) := by
  have htl := hget_lt hh
  have htn : t ≠ h.length := by omega
  have g2 := tabAt_eq l (by omega) k t h hh
  have hsame := Vm.hset_same hh
  have hh' := hh
  unfold tabO at hh'
  cases hf : tabAt l k with
  | none =>
    rw [hf] at g2
    have ht : tabReapR l k = (l, false) := by unfold tabReapR; rw [hf]
    refine ⟨[], .inl rfl, callL_of rfl fn_tattlerref5_Table_Reap ?_⟩
    rw [ht, hsame]
    simp [-getElem?_pos, c_tattlerref5_Table_Reap, g2, idxV]
    done
  | some i =>
    rw [hf] at g2
    obtain ⟨x, hx, hxk⟩ := tabAt_some hf
    have hi := (List.getElem?_eq_some_iff.1 hx).1
    have hnil : ¬ l.length = 0 := by omega
    have hxm := hvs x (List.mem_of_getElem? hx)
    have hrl := may_len (reap_may hxm)
    have hneg : ¬ ((i : Int) < 0) := by omega
    have g3 : ∀ hp, callL E F.tattlerref5_Reap [.agg x.sib.c] hp = some (.agg (reapS x.sib).c, hp, .no) := fun hp => r5Reap_eq x.sib hp
    have g4 : ∀ hp, callL E F.tattlerref5_Same [.agg (reapS x.sib).c, .agg x.sib.c] hp = some (.bool (decide (reapS x.sib = x.sib)), hp, .no) := fun hp => same_eq (reapS x.sib) x.sib (by have := may_len hxm; omega) hp
    have hpx : (x.c.drop 1).take 9 = x.sib.c := by simp
    by_cases hs : reapS x.sib = x.sib
    · have ht : tabReapR l k = (l, false) := by unfold tabReapR; rw [hf]; simp only [hx, decide_eq_true hs, cnd_true]
      rw [decide_eq_true hs] at g4
      refine ⟨[], .inl rfl, callL_of rfl fn_tattlerref5_Table_Reap ?_⟩
      rw [ht, hsame]
      simp [-getElem?_pos, c_tattlerref5_Table_Reap, g2, g3, g4, idxV, hneg, hh', hx, hpx]
      done
    · have ht : tabReapR l k = (l.set i ⟨x.key, reapS x.sib⟩, true) := by unfold tabReapR; rw [hf]; simp only [hx, decide_eq_false hs, cnd_false]
      rw [decide_eq_false hs] at g4
      refine ⟨[t], .inr rfl, callL_of rfl fn_tattlerref5_Table_Reap ?_⟩
      rw [ht]
      have hfl : (l.map Ent.v).flatMap V.flat = l.flatMap Ent.c := flat_ents l
      have hpu := flat_ents_pure l
      have hpu2 := flat_ents_pure (l.set i ⟨x.key, reapS x.sib⟩)
      have hFl := flat_ents_len l
      have hFl2 := flat_ents_len (l.set i ⟨x.key, reapS x.sib⟩)
      have hFt := flat_ents_lt h.length l
      have hFt0 := flat_ents_lt 0 (l.set i ⟨x.key, reapS x.sib⟩)
      have hFt1 := flat_ents_lt h.length (l.set i ⟨x.key, reapS x.sib⟩)
      have hs0 : sizeOk 10 (l.map Ent.v) = true := sizeOk_ents _
      have hml : (l.map Ent.v).length = l.length := by simp
      have b0 : l.length * 104 ≤ 140737488355328 := by omega
      have hsl : (l.set i ⟨x.key, reapS x.sib⟩).length = l.length := by simp
      have hch : chunks true 10 l.length ((l.set i ⟨x.key, reapS x.sib⟩).flatMap Ent.c) = (l.set i ⟨x.key, reapS x.sib⟩).map Ent.v := chunks_ents _ _ hsl.symm
      have hin := flat_in (c := Ent.c) (fun x => Ent.c_len x) hi 1 9 (by omega)
      rw [flat_ents_len] at hin
      have hpart := flat_part (c := Ent.c) (fun x => Ent.c_len x) hx 1 9 (by omega)
      have hset := flat_set (c := Ent.c) (fun x => Ent.c_len x) (y := ⟨x.key, reapS x.sib⟩) hx 1 9 (by omega) (vs := (reapS x.sib).c) (by simp) (setEnt x _)
      rw [hpx] at hpart
      unfold tabO
      have hxq : (l.map Ent.v)[i]? = some (.agg x.c) := by rw [List.getElem?_map, hx]; rfl
      generalize hM : (l.set i ⟨x.key, reapS x.sib⟩).map Ent.v = M at *
      generalize (l.set i ⟨x.key, reapS x.sib⟩).flatMap Ent.c = F2 at *
      generalize l.map Ent.v = q at *
      generalize l.flatMap Ent.c = FF at *
      rw [hsl] at hFl2
      have hct : List.take (l.length * 10) F2 = F2 := List.take_of_length_le (by omega)
      simp [-getElem?_pos, c_tattlerref5_Table_Reap, g2, g3, g4, hget_app htl, hh', idxV, htl, htn, V.hset_app, take_hset, hml, hfl, hs0, b0, hnil, hneg, hi, hin, hpart, hset, hch, hct, hpu, hpu2, hFl, hFl2, hFt, hFt0, hFt1, hxq, hpx]
      done
theorem r5bucket_eq (l : List Ent) (hl : l.length ≤ 1000000) (hk : ∀ x ∈ l, x.key.length ≤ 1000000) (b : Int) (t : Nat) (h : Heap) (hh : hget h t = some (tabO l)) :
    callL E F.tattlerref5_Table_Bucket [.ptr (some (t, 0)), .int .i64 b] h = some (.sl ((l.filter fun e => decide ((bkt e.key : Int) = b)).map Ent.v), h, .no) := by
  refine callL_of rfl fn_tattlerref5_Table_Bucket ?_
  have hh' := hh
  unfold tabO at hh'
  have key := loop_to (C := callL E) (fb := h.length) (live := [1, 5, 11, 12, 13]) (c := c_tattlerref5_Table_Bucket_l0)
    (fun j => ⟨[(1, .int .i64 b), (5, .sl (((l.take j).filter fun e => decide ((bkt e.key : Int) = b)).map Ent.v)), (11, .sl (l.map Ent.v)), (12, .int .i64 l.length), (13, .int .i64 j)], h, .no⟩) l.length
    (r := (.exit 0, ⟨[(1, .int .i64 b), (5, .sl ((l.filter fun e => decide ((bkt e.key : Int) = b)).map Ent.v)), (11, .sl (l.map Ent.v)), (12, .int .i64 l.length), (13, .int .i64 l.length), (14, .bool false)], h, .no⟩)) (fun j hj => ?_) ?_ rfl
  · rw [show ((0 : Nat) : Int) = 0 from rfl, List.take_zero] at key
    simp only [List.filter_nil, List.map_nil] at key
    have hml : (l.map Ent.v).length = l.length := by simp
    rw [← hml] at key
    generalize (l.filter fun e => decide ((bkt e.key : Int) = b)).map Ent.v = R at *
    generalize l.map Ent.v = Q at *
    simp [-getElem?_pos, c_tattlerref5_Table_Bucket, hh', key]
    done
  · obtain ⟨x, hx, _, hxm⟩ := get_of_lt (l := l) (i := j) hj
    have hlt : (j : Int) < (l.length : Int) := by omega
    have h1 := i64_add1 (n := j) (by omega)
    have g1 := fun y => r5Bucket_eq x.key (hk x hxm) (h ++ y)
    have ke : x.c[0]? = some (.str x.key) := rfl
    have hlen := List.length_filter_le (fun e : Ent => decide ((bkt e.key : Int) = b)) (l.take j)
    have hlt2 : (l.take j).length ≤ j := by simp; omega
    have hft : (l.take (j + 1)).filter (fun e => decide ((bkt e.key : Int) = b)) = (l.take j).filter (fun e => decide ((bkt e.key : Int) = b)) ++ [x].filter fun e => decide ((bkt e.key : Int) = b) := by
      rw [List.take_add_one, hx, List.filter_append]; rfl
    rw [hft, List.map_append]
    have hsz : sizeOk 10 (((l.take j).filter fun e => decide ((bkt e.key : Int) = b)).map Ent.v) = true := sizeOk_ents _
    have h5 : (((l.take j).filter fun e => decide ((bkt e.key : Int) = b)).map Ent.v).length ≤ j := by rw [List.length_map]; omega
    generalize ((l.take j).filter fun e => decide ((bkt e.key : Int) = b)).map Ent.v = Q at *
    have h6 : (Q.length + 1) * 104 ≤ 140737488355328 := by omega
    rw [s_round]
    by_cases hb : (bkt x.key : Int) = b
    · have hbb : ((bkt x.key : Int) == b) = true := by simpa using hb
      simp [-getElem?_pos, c_tattlerref5_Table_Bucket_l0, hlt, hj, hx, h1, g1, ke, hb, hbb, hsz, h6]
      done
    · have hbb : ((bkt x.key : Int) == b) = false := by simpa using hb
      simp [-getElem?_pos, c_tattlerref5_Table_Bucket_l0, hlt, hj, hx, h1, g1, ke, hb, hbb]
      done
  · rw [s_round, List.take_length]
    simp [c_tattlerref5_Table_Bucket_l0]
end Go.Proofs.YtionebfmjjpnbaaGreat.V
