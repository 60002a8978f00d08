/- SibsMay. -/
import Derived.Test.YtfdhldbhbigfhaaVmSE
import Derived.Test.YtfdhldbhbigfhaaVmSF
set_option linter.unusedVariables false
set_option linter.unusedSimpArgs false
namespace Go.Proofs.Ytfdhldbhbigfhaa.V
open Go.Vm

set_option maxRecDepth 4000 in
theorem SibsMay_eq (a b : Sib) (key : List UInt8) (h : Heap) : callL E F.tattlerlaw5_SibsMay [a.v, b.v, .str key] h = some (.bool true, h, .no) := by
  refine callL_of rfl fn_tattlerlaw5_SibsMay ?_
  have g1 := fun l => light5_eq [a, b] (by simp) (h ++ l)
  have g5 := fun l => awake5_eq (h ++ l)
  simp only [Sib.v, List.map_cons, List.map_nil] at g1
  cases hl : lightL [a, b] with
  | false =>
    rw [hl] at g1
    simp [-getElem?_pos, c_tattlerlaw5_SibsMay, g1, g5]
  | true =>
    rw [hl] at g1
    unfold lightL at hl
    simp only [List.all_cons, List.all_nil, Bool.and_true, Bool.and_eq_true, decide_eq_true_eq] at hl
    obtain ⟨la, lb⟩ := hl
    have m1 := fun l => sibsMay_eq a (h ++ l)
    have m2 := fun l => r5May_eq a (h ++ l)
    have m3 := fun l => sibsMayEntry_eq ⟨key, a⟩ (h ++ l)
    have m4 := fun l => r5MayEntry_eq ⟨key, a⟩ (h ++ l)
    have s1 := fun l => sibsSame_eq a b (by omega) (h ++ l)
    have s2 := fun l => same_eq a b (by omega) (h ++ l)
    have q1 := fun l => leq_eq a b (h ++ l)
    have q2 := fun l => r5Leq_eq a b (by omega) (h ++ l)
    have l1 := fun l => live_eq a (h ++ l)
    have l2 := fun l => r5live_eq a (h ++ l)
    have d1 := fun l => sibsDots_eq a (h ++ l)
    have d2 := fun l => r5dots_eq a (h ++ l)
    have r1 := fun l => reap_eq a (h ++ l)
    have r2 := fun l => r5Reap_eq a (h ++ l)
    have hll : (liveS a).length ≤ 1000000 := by
      unfold liveS
      cases a.may
      · simp
      · have : ∀ l : List Val, (lives l).length ≤ l.length := by
          intro l
          induction l with
          | nil => simp [lives]
          | cons v l ih => simp only [lives]; cases v.dead <;> simp <;> omega
        have := this a.vals
        simp only [cnd_true]
        omega
    have hdl : (dotsS a).length ≤ 1000000 := by
      unfold dotsS
      cases a.may
      · simp
      · simp [sdots]; omega
    have hrl : (reapS a).vals.length ≤ 1099511627776 := by
      unfold reapS
      cases a.may
      · simp [zeroSib]
      · cases a.vals.any fun v => !v.dead
        · simp
        · simp only [cnd_true]; omega
    have b1 := fun l => sameBytes_self (liveS a) hll (h ++ l)
    have b2 := fun l => sameDots_self (dotsS a) hdl (h ++ l)
    have b3 := fun l => sibsSame_eq (reapS a) (reapS a) hrl (h ++ l)
    have hec : (Ent.mk key a).c = .str key :: a.c := rfl
    simp only [Sib.v, Ent.v, hec, decide_true] at m1 m2 m3 m4 s1 s2 q1 q2 l1 l2 d1 d2 r1 r2 b1 b2 b3
    generalize (liveS a).map bytesV = L at *
    generalize (dotsS a).map Dot.v = D at *
    generalize reapS a = Rr at *
    generalize Ent.may ⟨key, a⟩ = M at *
    generalize a.leq b = Q at *
    generalize a.may = A at *
    generalize decide (a = b) = S at *
    simp [-getElem?_pos, c_tattlerlaw5_SibsMay, g1, g5, m1, m2, m3, m4, s1, s2, q1, q2, l1, l2, d1, d2, r1, r2, b1, b2, b3]
    done
theorem tattlerlaw5_SibsMay_top {c0 c1 c2 : List V} (h0 : Ty.Has sibT c0) (h1 : Ty.Has sibT c1) (h2 : Ty.Has .str c2) : ∃ h fl, callL E F.tattlerlaw5_SibsMay [Ty.el sibT c0, Ty.el sibT c1, Ty.el .str c2] [] = some (.bool true, h, fl) := by
  obtain ⟨a, wa, rfl⟩ := Sib.dec h0
  obtain ⟨b, wb, rfl⟩ := Sib.dec h1
  obtain ⟨k, wk, rfl⟩ := str_dec h2
  exact ⟨_, _, SibsMay_eq a b k []⟩
end Go.Proofs.Ytfdhldbhbigfhaa.V
