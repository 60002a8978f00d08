/- What the document's own functions compute: live data, dots, reaped, Leq; the same. -/
import Derived.Test.YtionebfmjjpnbaaGreatVmSD
import Derived.Test.YtionebfmjjpnbaaGreatVmKQ
import Derived.Test.YtionebfmjjpnbaaGreatVmSM
set_option linter.unusedVariables false
set_option linter.unusedSimpArgs false
namespace Go.Proofs.YtionebfmjjpnbaaGreat.V
open Go.Vm

theorem r5live_loop (s : Sib) (hs : s.may = true) (A : Vm.Obj) (h : Heap) :
    loopRun (callL E) loopL h.length [3, 10, 11, 12] c_tattlerref5_Live_l0 ⟨[(3, .sl []), (10, .sl (s.vals.map Val.v)), (11, .int .i64 s.vals.length), (12, .int .i64 0)], h ++ [A], .no⟩ =
      some (.exit 0, ⟨[(3, .sl ((lives s.vals).map bytesV)), (10, .sl (s.vals.map Val.v)), (11, .int .i64 s.vals.length), (12, .int .i64 s.vals.length), (13, .bool false)], h ++ [A], .no⟩) := by
  have hfin : lives s.vals = s.vals.foldl liveV [] := by rw [lives_fold]; simp
  rw [hfin]
  refine loop_to (C := callL E) (fb := h.length) (live := [3, 10, 11, 12]) (c := c_tattlerref5_Live_l0)
    (fun j => ⟨[(3, .sl (((s.vals.take j).foldl liveV []).map bytesV)), (10, .sl (s.vals.map Val.v)), (11, .int .i64 s.vals.length), (12, .int .i64 j)], h ++ [A], .no⟩) s.vals.length (fun j hj => ?_) ?_ rfl
  · obtain ⟨v, hx, _, hm⟩ := get_of_lt (l := s.vals) (i := j) hj
    have hlt : (j : Int) < (s.vals.length : Int) := by omega
    have hs16 := may_len hs
    have h1 := i64_add1 (n := j) (by omega)
    have hvd := may_data hs hm
    have hlen := foldl_lenG liveV_len (s.vals.take j) []
    simp only [List.length_take, List.length_nil] at hlen
    rw [foldl_takeG hx]
    generalize (s.vals.take j).foldl liveV [] = q at hlen ⊢
    have hq : (q.length + 1) * 24 ≤ 140737488355328 := by omega
    have hql : (q.map bytesV).length = q.length := by simp
    have hqs : sizeOk 1 (q.map bytesV) = true := sizeOk_byts q
    have g3 : v.data.length ≤ 140737488355328 := by omega
    have hL : liveV q v = cnd v.dead q (q ++ [v.data]) := rfl
    rw [hL, s_round]
    cases hd : v.dead with
    | true =>
      simp only [cnd_true]
      generalize q.map bytesV = Q at *
      simp [-getElem?_pos, c_tattlerref5_Live_l0, hlt, hx, h1, hj, hd]
      done
    | false =>
      simp only [cnd_false, List.map_append, List.map_cons, List.map_nil]
      generalize q.map bytesV = Q at *
      simp [-getElem?_pos, c_tattlerref5_Live_l0, hlt, hx, h1, hj, hd, g3, hql, hqs, hq, bytesV]
      done
  · rw [s_round, List.take_length]
    simp [c_tattlerref5_Live_l0]
theorem r5live_eq (s : Sib) (h : Heap) : callL E F.tattlerref5_Live [s.v] h = some (.sl ((liveS s).map bytesV), h, .no) := by
  refine callL_of rfl fn_tattlerref5_Live ?_
  have g1 := fun l => r5May_eq s (h ++ l)
  simp only [Sib.v] at g1
  unfold liveS
  cases hs : s.may with
  | false =>
    rw [hs] at g1
    simp [-getElem?_pos, c_tattlerref5_Live, g1]
  | true =>
    rw [hs] at g1
    have lp := r5live_loop s hs (.cells s.c []) h
    simp only [cnd_true]
    generalize (lives s.vals).map bytesV = Q at *
    simp [-getElem?_pos, c_tattlerref5_Live, g1, lp]
    done
theorem lives_empty {l : List Val} : (lives l).length = 0 ↔ (l.any fun v => !v.dead) = false := by
  induction l with
  | nil => simp [lives]
  | cons v l ih =>
    simp only [lives, List.any_cons]
    cases v.dead with
    | false => simp
    | true => simpa using ih
theorem r5Reap_eq (s : Sib) (h : Heap) : callL E F.tattlerref5_Reap [s.v] h = some ((reapS s).v, h, .no) := by
  refine callL_of rfl fn_tattlerref5_Reap ?_
  have g1 := fun l => r5May_eq s (h ++ l)
  have g2 := fun l => r5live_eq s (h ++ l)
  unfold reapS
  simp only [Sib.v] at g1 g2
  cases hs : s.may with
  | false =>
    rw [hs] at g1
    simp [-getElem?_pos, c_tattlerref5_Reap, g1, zeroSib_c]
  | true =>
    rw [hs] at g1
    have e1 : liveS s = lives s.vals := by unfold liveS; rw [hs]; rfl
    have hl : ((lives s.vals).map bytesV).length = (lives s.vals).length := by simp
    have he := @lives_empty s.vals
    rw [e1] at g2
    have hcc : s.seen.c ++ [V.sl []] = Sib.c ⟨s.seen, []⟩ := rfl
    have ht : List.take 8 s.c = s.seen.c := by simp
    generalize (lives s.vals).map bytesV = L at *
    by_cases h0 : 0 < s.vals.length
    · have h0' : (0 : Int) < (s.vals.length : Int) := by omega
      cases ha : s.vals.any fun v => !v.dead with
      | true =>
        have e2 : ¬ (lives s.vals).length = 0 := fun e => by rw [he.1 e] at ha; cases ha
        have e3 : ¬ L = [] := fun e => by rw [e] at hl; exact e2 hl.symm
        have e4 : (((lives s.vals).length : Int) == 0) = false := by simp; exact fun e => e2 (by rw [e]; rfl)
        simp [-getElem?_pos, c_tattlerref5_Reap, g1, g2, h0, h0', hl, e4]
        done
      | false =>
        have e2 := he.2 ha
        simp [-getElem?_pos, c_tattlerref5_Reap, g1, g2, h0, h0', hl, e2, hcc, ht]
        done
    · have h0' : ¬ (0 : Int) < (s.vals.length : Int) := by omega
      have hv : s.vals = [] := List.length_eq_zero_iff.1 (by omega)
      have ha : (s.vals.any fun v => !v.dead) = false := by rw [hv]; rfl
      have e5 : (⟨s.seen, []⟩ : Sib) = s := by cases s; simp_all
      rw [ha]
      simp only [cnd_true, cnd_false, e5]
      simp [-getElem?_pos, c_tattlerref5_Reap, g1, h0, h0', ha]
      done
end Go.Proofs.YtionebfmjjpnbaaGreat.V
