/- TableReaps. -/
import Derived.Test.YtionebfmjjpnbaaVmTL
import Derived.Test.YtionebfmjjpnbaaVmTN
import Derived.Test.YtionebfmjjpnbaaVmSF
set_option linter.unusedVariables false
set_option linter.unusedSimpArgs false
namespace Go.Proofs.Ytionebfmjjpnbaa.V
open Go.Vm

/-- An entry joined to a table with room. -/
noncomputable def joinT (l : List Ent) (e : Ent) : List Ent := cnd e.may (putT l e.key (nowT l e)) l
theorem putT_len (l : List Ent) (k : List UInt8) (s : Sib) : (putT l k s).length ≤ l.length + 1 ∧ l.length ≤ (putT l k s).length := by
  induction l with
  | nil => simp [putT]
  | cons e l ih =>
    unfold putT
    split
    · simp
    · simp; omega
theorem joinT_len (l : List Ent) (e : Ent) : (joinT l e).length ≤ l.length + 1 := by
  unfold joinT
  cases e.may
  · simp
  · exact (putT_len _ _ _).1
theorem joinT_may {l : List Ent} (h : AllMay l) (e : Ent) : AllMay (joinT l e) := by
  unfold joinT
  cases he : e.may with
  | false => exact h
  | true => exact putT_may h (nowT_may h he)
theorem fold_may {r l : List Ent} (h : AllMay r) : AllMay (l.foldl joinT r) := by
  induction l generalizing r with
  | nil => exact h
  | cons e l ih => exact ih (joinT_may h e)
theorem fold_len (l r : List Ent) : (l.foldl joinT r).length ≤ r.length + l.length := by
  induction l generalizing r with
  | nil => simp
  | cons e l ih =>
    have h1 := ih (joinT r e)
    have h2 := joinT_len r e
    simp only [List.foldl_cons, List.length_cons]
    omega
def tabH (h : Heap) (l : List Ent) : Heap := h ++ [.map (mapE l), .cells [.map (some h.length)] []]
theorem tabH_at (h : Heap) (l : List Ent) : TabAt (tabH h l) (h.length + 1) h.length l := ⟨by simp [tabH], by simp [tabH]⟩
theorem tabH_set (h : Heap) (l l' : List Ent) : hset (tabH h l) h.length (.map (mapE l')) = tabH h l' := by simp [tabH]
theorem tabH_app (h : Heap) (l : List Ent) (x : Heap) : TabAt (tabH h l ++ x) (h.length + 1) h.length l := (tabH_at h l).app x
theorem reaps_loop (l : List Ent) (hl : l.length ≤ 60) (key : List UInt8) (h : Heap) :
    loopRun (callL E) loopL h.length [1, 5, 19, 20, 21] c_tattlerlaw10_TableReaps_l0 ⟨[(1, .str key), (5, .ptr (some (h.length + 1, 0))), (19, .sl (l.map Ent.v)), (20, .int .i64 l.length), (21, .int .i64 0)], tabH h [], .no⟩ =
      some (.exit 0, ⟨[(1, .str key), (5, .ptr (some (h.length + 1, 0))), (19, .sl (l.map Ent.v)), (20, .int .i64 l.length), (21, .int .i64 l.length), (22, .bool false)], tabH h (l.foldl joinT []), .no⟩) := by
  have key := loop_to (C := callL E) (fb := h.length) (live := [1, 5, 19, 20, 21]) (c := c_tattlerlaw10_TableReaps_l0)
    (fun j => ⟨[(1, .str key), (5, .ptr (some (h.length + 1, 0))), (19, .sl (l.map Ent.v)), (20, .int .i64 l.length), (21, .int .i64 j)], tabH h ((l.take j).foldl joinT []), .no⟩) l.length
    (r := (.exit 0, ⟨[(1, .str key), (5, .ptr (some (h.length + 1, 0))), (19, .sl (l.map Ent.v)), (20, .int .i64 l.length), (21, .int .i64 l.length), (22, .bool false)], tabH h (l.foldl joinT []), .no⟩)) (fun j hj => ?_) ?_ rfl
  · rw [show ((0 : Nat) : Int) = 0 from rfl, List.take_zero] at key
    exact key
  · obtain ⟨e, hx, _, _⟩ := get_of_lt (l := l) (i := j) hj
    have hlt : (j : Int) < (l.length : Int) := by omega
    have h1 := i64_add1 (n := j) (by omega)
    rw [foldl_takeG hx]
    have hm : AllMay ((l.take j).foldl joinT []) := fold_may fun e he => by cases he
    have hlen := fold_len (l.take j) []
    simp only [List.length_nil, List.length_take] at hlen
    generalize (l.take j).foldl joinT [] = T at *
    unfold joinT
    rw [s_round]
    cases he : e.may with
    | false =>
      have g1 := fun x => tabJoin_no (h := tabH h T ++ x) (i := 0) e he (some (h.length + 1, 0))
      simp only [Ent.v, Sib.v] at g1
      unfold tabH at *
      simp only [List.append_assoc, List.cons_append, List.nil_append, cnd_false] at g1 ⊢
      simp [-getElem?_pos, c_tattlerlaw10_TableReaps_l0, hlt, hj, hx, h1, g1]
      done
    | true =>
      have g1 := fun x => tabJoin_eq (tabH_app h T x) hm he (.inr (by omega)) (by omega)
      simp only [Ent.v, Sib.v] at g1
      unfold tabH at *
      simp only [List.append_assoc, List.cons_append, List.nil_append, cnd_true] at g1 ⊢
      simp [-getElem?_pos, c_tattlerlaw10_TableReaps_l0, hlt, hj, hx, h1, g1]
      done
  · rw [s_round, List.take_length]
    simp [c_tattlerlaw10_TableReaps_l0]
theorem tabX (h : Heap) (T : List Ent) (X : Heap) : TabAt (h ++ (.map (mapE T) :: .cells [.map (some h.length)] [] :: X)) (h.length + 1) h.length T := ⟨by simp, by simp⟩
theorem putT_same {l : List Ent} {k : List UInt8} {s s' : Sib} (h : findT l k = some s') : (putT l k s).length = l.length := by
  induction l with
  | nil => cases h
  | cons e l ih =>
    unfold putT
    split
    · simp
    · rename_i hk
      unfold findT at h ih
      rw [List.find?_cons_of_neg (by simpa using hk)] at h
      simp [ih h]
theorem reap_reap {s : Sib} (hs : s.may = true) : reapS (reapS s) = reapS s := by
  rcases reap_cases hs with ⟨e, _⟩ | ⟨e, _⟩
  · rw [e, e]
  · have hm := empty_may hs
    rw [e]
    rcases reap_cases hm with ⟨e2, _⟩ | ⟨e2, _⟩
    · exact e2
    · exact e2
theorem lives_dead : ∀ {l : List Val}, (l.any fun v => !v.dead) = false → lives l = []
  | [], _ => rfl
  | v :: l, h => by
    simp only [List.any_cons, Bool.or_eq_false_iff] at h
    have hd : v.dead = true := by simpa using h.1
    simp only [lives, hd, cnd_true]
    exact lives_dead h.2
theorem reap_live {s : Sib} (hs : s.may = true) : liveS (reapS s) = liveS s := by
  rcases reap_cases hs with ⟨e, _⟩ | ⟨e, hd⟩
  · rw [e]
  · have hm := empty_may hs
    rw [e]
    unfold liveS
    rw [hm, hs]
    simp only [cnd_true]
    rw [lives_dead hd]
    rfl
theorem lives_len (l : List Val) : (lives l).length ≤ l.length := by
  induction l with
  | nil => simp [lives]
  | cons v l ih => simp only [lives]; cases v.dead <;> simp <;> omega
set_option maxRecDepth 4000 in
theorem TableReaps_eq (l : List Ent) (hl : l.length ≤ 140737488355328) (key : List UInt8) (h : Heap) : callL E F.tattlerlaw10_TableReaps [.sl (l.map Ent.v), .str key] h = some (.bool true, h, .no) := by
  refine callL_of rfl fn_tattlerlaw10_TableReaps ?_
  have g2 := fun x => light10_eq l hl (h ++ x)
  have g2' := light10_eq l hl h
  have g5 := fun x => awake10_eq (h ++ x)
  have g5' := awake10_eq h
  cases hlt : lightE l with
  | false =>
    rw [hlt] at g2'
    simp [-getElem?_pos, c_tattlerlaw10_TableReaps, g2', g5']
    done
  | true =>
    rw [hlt] at g2'
    unfold lightE at hlt
    simp only [Bool.and_eq_true, decide_eq_true_eq] at hlt
    have n0 := tabNew_eq h
    have lp := reaps_loop l hlt.1 key h
    have hm : AllMay (l.foldl joinT []) := fold_may fun e he => by cases he
    generalize l.foldl joinT [] = T at *
    have m0 : mapE [] = [] := rfl
    unfold tabH at lp
    rw [m0] at lp
    have q1 := fun X => tabGet_eq (tabX h T X) hm key
    have q2 := fun X => tabLen_eq (tabX h T X)
    cases hf : findT T key with
    | none =>
      rw [hf] at q1
      have q3 := fun X => tabReap_no (tabX h T X) hm hf
      have s1 := fun x => sibsSame_eq zeroSib zeroSib (by simp [zeroSib]) (h ++ x)
      rw [decide_eq_true rfl] at s1
      have v1 := fun x => live_eq zeroSib (h ++ x)
      have v2 : liveS zeroSib = [] := by unfold liveS; cases zeroSib.may <;> rfl
      rw [v2] at v1
      have b1 := fun x => sameBytes_self [] (by simp) (h ++ x)
      simp only [Option.getD_none, Option.isSome_none, zeroSib_v, List.map_nil] at q1 s1 v1 b1
      simp [-getElem?_pos, c_tattlerlaw10_TableReaps, g2', g5, n0, lp, q1, q2, q3, s1, v1, b1]
      done
    | some s =>
      rw [hf] at q1
      have hsm := findT_may hm hf
      have hl16 := may_len hsm
      have q3 := fun X => tabReap_eq (tabX h T X) hm hf
      have hrm := reap_may hsm
      have hm' : AllMay (putT T key (reapS s)) := putT_may hm hrm
      have hf' := findT_put T key (reapS s)
      have hlen' := putT_same (s := reapS s) hf
      have r1 := fun X => tabGet_eq (tabX h (putT T key (reapS s)) X) hm' key
      have r2 := fun X => tabLen_eq (tabX h (putT T key (reapS s)) X)
      have r3 := fun X => tabReap_eq (tabX h (putT T key (reapS s)) X) hm' hf'
      rw [hf'] at r1
      rw [reap_reap hsm] at r3
      rw [decide_eq_true rfl] at r3
      rw [hlen'] at r2
      have hset1 : ∀ (A B : Vm.Obj) (X : Heap) (o : Vm.Obj), hset (h ++ (A :: B :: X)) h.length o = h ++ (o :: B :: X) := fun A B X o => by simp
      simp only [hset1] at q3 r3
      have s1 := fun x => sibsSame_eq s (reapS s) (by omega) (h ++ x)
      have v1 := fun x => live_eq s (h ++ x)
      have v2 := fun x => live_eq (reapS s) (h ++ x)
      rw [reap_live hsm] at v2
      have hll : (liveS s).length ≤ 1000000 := by
        unfold liveS
        rw [hsm]
        have := lives_len s.vals
        simp only [cnd_true]
        omega
      have b1 := fun x => sameBytes_self (liveS s) hll (h ++ x)
      have hse := reap_seen hsm
      have t1 : s.c.take 8 = s.seen.c := Sib.c_seen _
      have t2 : (reapS s).c.take 8 = (reapS s).seen.c := Sib.c_seen _
      rw [hse] at t2
      generalize putT (putT T key (reapS s)) key (reapS s) = T2 at *
      generalize putT T key (reapS s) = T1 at *
      simp only [Option.getD_some, Option.isSome_some, Sib.v] at q1 r1 s1 v1 v2 b1
      generalize (liveS s).map bytesV = L at *
      generalize reapS s = Rs at *
      by_cases hq : s = Rs
      · rw [decide_eq_true hq] at q3 s1
        simp [-getElem?_pos, c_tattlerlaw10_TableReaps, g2', g5, n0, lp, q1, q2, q3, r1, r2, r3, s1, v1, v2, b1, t1, t2, Vec.eq_cells]
        done
      · rw [decide_eq_false hq] at q3 s1
        simp [-getElem?_pos, c_tattlerlaw10_TableReaps, g2', g5, n0, lp, q1, q2, q3, r1, r2, r3, s1, v1, v2, b1, t1, t2, Vec.eq_cells]
        done
theorem tattlerlaw10_TableReaps_top {c0 c1 : List V} (h0 : Ty.Has (.sl entT) c0) (h1 : Ty.Has .str c1) : ∃ h fl, callL E F.tattlerlaw10_TableReaps [Ty.el (.sl entT) c0, Ty.el .str c1] [] = some (.bool true, h, fl) := by
  obtain ⟨l, wl, ws, rfl⟩ := Ents.dec h0
  obtain ⟨k, wk, rfl⟩ := str_dec h1
  exact ⟨_, _, TableReaps_eq l (by unfold reachLen at wl; omega) k []⟩
end Go.Proofs.Ytionebfmjjpnbaa.V
