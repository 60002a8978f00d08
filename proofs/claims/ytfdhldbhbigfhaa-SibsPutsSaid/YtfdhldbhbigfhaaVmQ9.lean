/- SibsPuts. -/
import Derived.Test.YtfdhldbhbigfhaaVmSE
import Derived.Test.YtfdhldbhbigfhaaVmTP
import Derived.Test.YtfdhldbhbigfhaaVmSG
import Derived.Test.YtfdhldbhbigfhaaVmKQ
set_option linter.unusedVariables false
set_option linter.unusedSimpArgs false
namespace Go.Proofs.Ytfdhldbhbigfhaa.V
open Go.Vm

theorem putS_len {s : Sib} (hs : s.may = true) (seen : Vec) (n : Nat) (data : List UInt8) (dead : Bool) : (putS s seen n data dead).1.vals.length ≤ 17 := by
  rcases putS_cases s seen n data dead with e | ⟨e, _, hk⟩
  · rw [e]; simp [zeroSib]
  · rw [e]; show (insertV _ _).length ≤ 17; rw [insertV_len]; omega
set_option maxRecDepth 4000 in
theorem SibsPuts_eq (s : Sib) (seen : Vec) (node : Int) (data : List UInt8) (hd : data.length ≤ 140737488355328) (dead : Bool) (h : Heap) : ∃ fl, callL E F.tattlerlaw5_SibsPuts [s.v, seen.v, .int .i64 node, bytesV data, .bool dead] h = some (.bool true, h, fl) := by
  have g2 := fun l => light5_eq [s] (by simp) (h ++ l)
  have g5 := fun l => awake5_eq (h ++ l)
  simp only [Sib.v, List.map_cons, List.map_nil] at g2
  cases hlt : lightL [s] with
  | false =>
    refine ⟨.no, callL_of rfl fn_tattlerlaw5_SibsPuts ?_⟩
    rw [hlt] at g2
    simp [-getElem?_pos, c_tattlerlaw5_SibsPuts, g2, g5, bytesV]
    done
  | true =>
    rw [hlt] at g2
    cases hno : s.may && (seen.may && (decide (0 ≤ node) && (decide (node < 8) && mayV ⟨zeroDot, data, dead⟩))) with
    | false =>
      refine ⟨.no, callL_of rfl fn_tattlerlaw5_SibsPuts ?_⟩
      have p1 := fun l => sibsPut_no s seen node data hd dead hno (h ++ l)
      have p2 := fun l => r5Put_no s seen node data dead hno (h ++ l)
      have q1 := fun l => same_eq zeroSib zeroSib (by simp [zeroSib]) (h ++ l)
      rw [decide_eq_true rfl] at q1
      simp only [Sib.v, Vec.v, bytesV] at p1 p2 q1
      have hzl : zeroSib.c.length = 9 := rfl
      simp [-getElem?_pos, c_tattlerlaw5_SibsPuts, g2, g5, p1, p2, q1, bytesV]
      done
    | true =>
      simp only [Bool.and_eq_true, decide_eq_true_eq] at hno
      obtain ⟨hs, hse, hn0, hn8, hx⟩ := hno
      obtain ⟨n, rfl⟩ := Int.eq_ofNat_of_zero_le hn0
      have hn : n < 8 := by omega
      have p1 := fun l => sibsPut_eq s hs seen hse hn data dead hx (h ++ l)
      have hl17 := putS_len hs seen n data dead
      have p2 := fun l => r5Put_eq s hs seen hse hn data dead hx (h ++ l)
      have q1 := fun l => same_eq (putS s seen n data dead).1 (putS s seen n data dead).1 (by omega) (h ++ l)
      rw [decide_eq_true rfl] at q1
      generalize (putS s seen n data dead).1 = T at *
      generalize (putS s seen n data dead).2 = e at *
      simp only [Sib.v, Vec.v, bytesV] at p1 p2 q1
      obtain ⟨al, p2⟩ := p2 [.cells s.c [], .cells seen.c [], .cells T.c []]
      refine ⟨⟨[], [], al⟩, callL_of rfl fn_tattlerlaw5_SibsPuts ?_⟩
      simp [-getElem?_pos, c_tattlerlaw5_SibsPuts, g2, g5, p1, p2, q1, bytesV]
      done
theorem tattlerlaw5_SibsPuts_top {c0 c1 c2 c3 c4 : List V} (h0 : Ty.Has sibT c0) (h1 : Ty.Has vecT c1) (h2 : Ty.Has (.int .i64) c2) (h3 : Ty.Has bytT c3) (h4 : Ty.Has .bool c4) : ∃ h fl, callL E F.tattlerlaw5_SibsPuts [Ty.el sibT c0, Ty.el vecT c1, Ty.el (.int .i64) c2, Ty.el bytT c3, Ty.el .bool c4] [] = some (.bool true, h, fl) := by
  obtain ⟨s, ws, rfl⟩ := Sib.dec h0
  obtain ⟨v, wv, rfl⟩ := Vec.dec h1
  obtain ⟨n, wn, rfl⟩ := i64_dec h2
  obtain ⟨x, wx, rfl⟩ := bytes_dec h3
  obtain ⟨b, rfl⟩ := h4
  obtain ⟨fl, e⟩ := SibsPuts_eq s v n x (by unfold reachLen at wx; omega) b []
  exact ⟨_, _, e⟩
end Go.Proofs.Ytfdhldbhbigfhaa.V
