/- SibsOrder. -/
import Derived.Test.YtfdhldbhbigfhaaVmSE
import Derived.Test.YtfdhldbhbigfhaaVmTN
set_option linter.unusedVariables false
set_option linter.unusedSimpArgs false
namespace Go.Proofs.Ytfdhldbhbigfhaa.V
open Go.Vm

set_option maxRecDepth 4000 in
theorem SibsOrder_eq (a b c : Sib) (wa : a.vals.length ≤ 140737488351232) (wb : b.vals.length ≤ 140737488351232) (wc : c.vals.length ≤ 140737488351232) (h : Heap) : callL E F.tattlerlaw5_SibsOrder [a.v, b.v, c.v] h = some (.bool true, h, .no) := by
  refine callL_of rfl fn_tattlerlaw5_SibsOrder ?_
  have g1 := fun l => few_eq [a, b, c] (by simp) (fun s hs => by
    simp only [List.mem_cons, List.not_mem_nil, or_false] at hs
    rcases hs with rfl | rfl | rfl <;> assumption) (h ++ l)
  have g5 := fun l => awake5_eq (h ++ l)
  simp only [Sib.v, List.map_cons, List.map_nil] at g1
  cases hf : fewL [a, b, c] with
  | false =>
    rw [hf] at g1
    simp [-getElem?_pos, c_tattlerlaw5_SibsOrder, g1, g5]
  | true =>
    rw [hf] at g1
    unfold fewL lens at hf
    simp only [List.all_cons, List.all_nil, Bool.and_true, Bool.and_eq_true, decide_eq_true_eq, List.map_cons, List.map_nil, List.sum_cons, List.sum_nil] at hf
    obtain ⟨⟨ha, hb, hc⟩, hl⟩ := hf
    have hab := join_may ha hb
    have lab : (joinAll a b).length ≤ 16 := Nat.le_trans (joinAll_len a b) (by omega)
    have lba : (joinAll b a).length ≤ 16 := Nat.le_trans (joinAll_len b a) (by omega)
    have lbc : (joinAll b c).length ≤ 16 := Nat.le_trans (joinAll_len b c) (by omega)
    have ljl : (a.join b).vals.length ≤ a.vals.length + b.vals.length := by rw [join_all ha hb lab]; exact joinAll_len a b
    have ljc : (joinAll (a.join b) c).length ≤ 16 := Nat.le_trans (joinAll_len _ c) (by omega)
    have f1 : b.join a = a.join b := join_commG
    have f2 := join_self ha
    have f3 := join_assoc ha hb hc lab lbc ljc
    have f4 : a.leq (a.join b) = true := leq_of ha hab (join_abs ha hb lab)
    have f5 : b.leq (a.join b) = true := leq_of hb hab (by rw [← f1]; exact join_abs hb ha lba)
    have f6 : a.leq a = true := leq_of ha ha f2
    have x1 : a.leq b = true → b.leq a = true → a = b := fun h1 h2 => by
      have e1 := leq_true h1
      have e2 := leq_true h2
      rw [← e2, f1, e1]
    have x2 : a.leq b = true → b.leq c = true → a.leq c = true := fun h1 h2 => by
      have e1 := leq_true h1
      have e2 := leq_true h2
      refine leq_of ha hc ?_
      rw [e1, e2] at f3
      exact f3.symm
    have x3 : a.leq c = true → b.leq c = true → (a.join b).leq c = true := fun h1 h2 => by
      have e1 := leq_true h1
      have e2 := leq_true h2
      refine leq_of hab hc ?_
      rw [f3, e2, e1]
    have la := may_len ha
    have j1 := fun x y l => sibsJoin_eq x y (h ++ l)
    have s1 := fun x y (hx : x.vals.length ≤ 16) l => sibsSame_eq x y (by omega) (h ++ l)
    have q1 := fun x y l => leq_eq x y (h ++ l)
    have jab := fun l => sibsJoin_eq a b (h ++ l)
    have jba := fun l => sibsJoin_eq b a (h ++ l)
    have jaa := fun l => sibsJoin_eq a a (h ++ l)
    have jjc := fun l => sibsJoin_eq (a.join b) c (h ++ l)
    have jbc := fun l => sibsJoin_eq b c (h ++ l)
    have jabc := fun l => sibsJoin_eq a (b.join c) (h ++ l)
    have lJ : (a.join b).vals.length ≤ 16 := may_len hab
    have lJ2 : ((a.join b).join c).vals.length ≤ 16 := may_len (join_may hab hc)
    have s1 := fun l => sibsSame_eq (a.join b) (a.join b) (by omega) (h ++ l)
    have s2 := fun l => sibsSame_eq a a (by omega) (h ++ l)
    have s3 := fun l => sibsSame_eq ((a.join b).join c) ((a.join b).join c) (by omega) (h ++ l)
    have s4 := fun l => sibsSame_eq a b (by omega) (h ++ l)
    have qaj := fun l => leq_eq a (a.join b) (h ++ l)
    have qbj := fun l => leq_eq b (a.join b) (h ++ l)
    have qaa := fun l => leq_eq a a (h ++ l)
    have qab := fun l => leq_eq a b (h ++ l)
    have qba := fun l => leq_eq b a (h ++ l)
    have qbc := fun l => leq_eq b c (h ++ l)
    have qac := fun l => leq_eq a c (h ++ l)
    have qjc := fun l => leq_eq (a.join b) c (h ++ l)
    rw [f1] at jba
    rw [f2] at jaa
    rw [← f3] at jabc
    rw [f4] at qaj
    rw [f5] at qbj
    rw [f6] at qaa
    clear f1 f2 f3 f4 f5 f6 j1
    simp only [Sib.v, decide_true] at jab jba jaa jjc jbc jabc s1 s2 s3 s4 qaj qbj qaa qab qba qbc qac qjc
    generalize ((a.join b).join c).c = C3 at *
    generalize (b.join c).c = CBC at *
    cases hac : a.leq c <;> rw [hac] at qac x2 x3 <;> cases hbc : b.leq c <;> rw [hbc] at qbc x2 x3 <;> cases hab : a.leq b <;> rw [hab] at qab x1 x2 <;> cases hba : b.leq a <;> rw [hba] at qba x1
    all_goals (try (have h9 := x2 rfl rfl; cases h9; done))
    all_goals (try rw [x3 rfl rfl] at qjc)
    all_goals (try rw [decide_eq_true (x1 rfl rfl)] at s4)
    all_goals simp [-getElem?_pos, c_tattlerlaw5_SibsOrder, g1, g5, jab, jba, jaa, jjc, jbc, jabc, s1, s2, s3, s4, qaj, qbj, qaa, qab, qba, qbc, qac, qjc]
theorem tattlerlaw5_SibsOrder_top {c0 c1 c2 : List V} (h0 : Ty.Has sibT c0) (h1 : Ty.Has sibT c1) (h2 : Ty.Has sibT c2) : ∃ h fl, callL E F.tattlerlaw5_SibsOrder [Ty.el sibT c0, Ty.el sibT c1, Ty.el sibT c2] [] = some (.bool true, h, fl) := by
  obtain ⟨a, wa, rfl⟩ := Sib.dec h0
  obtain ⟨b, wb, rfl⟩ := Sib.dec h1
  obtain ⟨c, wc, rfl⟩ := Sib.dec h2
  exact ⟨_, _, SibsOrder_eq a b c wa.2.1 wb.2.1 wc.2.1 []⟩
end Go.Proofs.Ytfdhldbhbigfhaa.V
