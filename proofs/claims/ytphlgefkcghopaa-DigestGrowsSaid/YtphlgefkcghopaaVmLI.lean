/- DigestGrows: joined. -/
import Derived.Test.YtphlgefkcghopaaVmLH
set_option linter.unusedVariables false
set_option linter.unusedSimpArgs false
namespace Go.Proofs.Ytphlgefkcghopaa.V
open Go.Vm

set_option maxRecDepth 4000 in
theorem DigestGrows_eq (a b : List Ent) (hla : ∀ e ∈ a, e.Wf) (hlb : ∀ e ∈ b, e.Wf) (h : Heap) : callL E F.tattlerlaw13_DigestGrows [.sl (a.map Ent.v), .sl (b.map Ent.v)] h = some (.bool true, h, .no) := by
  refine callL_of rfl fn_tattlerlaw13_DigestGrows ?_
  have a0 := light_eq a h
  have b0 := light_eq b h
  have aw := awake_eq h
  by_cases hA : LightP a
  · simp only [hA, decide_true] at a0
    have a1 := may13_eq a (by have := hA.1; omega) h
    by_cases hB : LightP b
    · simp only [hB, decide_true] at b0
      have b1 := may13_eq b (by have := hB.1; omega) h
      cases hma : a.all Ent.may with
      | false =>
        rw [hma] at a1
        simp [-getElem?_pos, c_tattlerlaw13_DigestGrows, a0, a1, b0, aw]
      | true =>
        rw [hma] at a1
        cases hmb : b.all Ent.may with
        | false =>
          rw [hmb] at b1
          simp [-getElem?_pos, c_tattlerlaw13_DigestGrows, a0, a1, b0, b1, aw]
        | true =>
          rw [hmb] at b1
          have hwa : DotsWf a := light_wf hla
          have hwb : DotsWf b := light_wf hlb
          have k0 := grow0 a hA hwa (b.map Ent.v) (tabO []) h
          have hva := valSum_le hA.2
          have hA1 := hA.1
          have hB1 := hB.1
          have k1 := grow1 b hB hwb (valSum a) (by omega) (tabO (tabFold [] a)) h
          have hX : TOk (tabFold [] a) 40 := by
            have h1 := tabFold_ok TOk.nil hwa
            exact ⟨by have := h1.len; omega, h1.good, h1.keys⟩
          have hY : TOk (tabFold [] b) 40 := by
            have h1 := tabFold_ok TOk.nil hwb
            exact ⟨by have := h1.len; omega, h1.good, h1.keys⟩
          have hXm : TMay (tabFold [] a) := tabFold_may (fun e he => by cases he)
          have hYm : TMay (tabFold [] b) := tabFold_may (fun e he => by cases he)
          have hsX := tabFold_sum a []
          have hsY := tabFold_sum b []
          have hs0 : valSum [] = 0 := rfl
          rw [hs0] at hsX hsY
          generalize tabFold [] a = X at *
          generalize tabFold [] b = Y at *
          have hXl := hX.len
          have hYl := hY.len
          unfold tabO at k0
          simp only [List.map_nil] at k0
          have hO0 : tabO [] = .cells [.sl []] [] := rfl
          rcases grow2 X Y hX hY (valSum a + valSum b) h with ⟨hag, k2⟩ | ⟨hs, k2⟩
          · by_cases hn : 16 < valSum a + valSum b
            · have hn' : (16 : Int) < ((valSum a + valSum b : Nat) : Int) := by omega
              have aw2 := awake_eq (h ++ [tabO X, tabO Y])
              unfold tabO at k1 k2 aw2
              simp only [List.map_nil] at k1
              generalize ((valSum a + valSum b : Nat) : Int) = nn at *
              simp [-getElem?_pos, c_tattlerlaw13_DigestGrows, a0, a1, b0, b1, k0, k1, k2, hn', aw2]
            · have hn' : ¬ (16 : Int) < ((valSum a + valSum b : Nat) : Int) := by omega
              have hagr : ∀ e ∈ X, ∀ s, tabGet Y e.key = some s → Agree e.sib s := fun e he s hs => by
                have := List.all_eq_true.1 hag e he
                unfold agT at this
                rw [hs] at this
                exact (agB_iff _ _).1 this
              have hconv := converge hX hY hXm hYm (by omega) (by omega) hagr
              have hsub : (told X Y).Sublist X := List.filter_sublist
              have hl1 : (told X Y).length ≤ 40 := Nat.le_trans hsub.length_le hXl
              have hw1 : DotsWf (told X Y) := fun e he => hX.wf e (hsub.subset he)
              have k3 := grow3 Y hY (told X Y) (by omega) hw1 (tabO X) h
              have hZ0 := tabFold_ok hY hw1
              have hZ : TOk (tabFold Y (told X Y)) 80 := ⟨by have := hZ0.len; omega, hZ0.good, hZ0.keys⟩
              have d1 := digestOf_eq Y (by omega) (fun x hx => by have := (hY.good x hx).len; omega) (h ++ [tabO X, tabO Y])
              have s1 := send_eq X (Y.map dOf) 1073741824 (hX.ents (by omega)) (hY.digs (by omega)) ⟨by omega, by omega⟩ (h ++ [tabO X, tabO Y])
              rw [send_told hX (by omega)] at s1
              generalize tabFold Y (told X Y) = Z at *
              have hsub2 : (told Z X).Sublist Z := List.filter_sublist
              have hl2 : (told Z X).length ≤ 80 := Nat.le_trans hsub2.length_le hZ.len
              have k4 := grow4 X hX (told Z X) (by omega) (fun e he => hZ.wf e (hsub2.subset he)) (tabO Z) h
              rw [hconv] at k4
              have d2 := digestOf_eq X (by omega) (fun x hx => by have := (hX.good x hx).len; omega) (h ++ [tabO X, tabO Z])
              have s2 := send_eq Z (X.map dOf) 1073741824 (hZ.ents (by omega)) (hX.digs (by omega)) ⟨by omega, by omega⟩ (h ++ [tabO X, tabO Z])
              rw [send_told hZ (by omega)] at s2
              have hZl := hZ.len
              have d3 := digestOf_eq Z (by omega) (fun x hx => by have := (hZ.good x hx).len; omega) (h ++ [tabO Z, tabO Z])
              have s3 := send_eq Z (Z.map dOf) 1073741824 (hZ.ents (by omega)) (hZ.digs (by omega)) ⟨by omega, by omega⟩ (h ++ [tabO Z, tabO Z])
              rw [send_self hZ.keys] at s3
              have g4 := sameEntries_eq Z Z (by omega) (fun x hx => by have := (hZ.good x hx).len; omega) (h ++ [tabO Z, tabO Z])
              have aw2 := awake_eq (h ++ [tabO Z, tabO Z])
              have hm1 : ((told X Y).map Ent.v).length = (told X Y).length := by simp
              have hm2 : ((told Z X).map Ent.v).length = (told Z X).length := by simp
              simp only [List.map_nil, decide_true] at s3 g4
              unfold tabO at k1 k2 k3 k4 d1 d2 d3 s1 s2 s3 g4 aw2
              simp only [List.map_nil] at k1
              generalize (Y.map dOf).map Dig.v = DY at d1 s1
              generalize (X.map dOf).map Dig.v = DX at d2 s2
              generalize (Z.map dOf).map Dig.v = DZ at d3 s3
              generalize (told X Y).map Ent.v = G1 at *
              generalize (told Z X).map Ent.v = G2 at *
              generalize ((valSum a + valSum b : Nat) : Int) = nn at *
              simp [-getElem?_pos, c_tattlerlaw13_DigestGrows, a0, a1, b0, b1, k0, k1, k2, hn', d1, s1, hm1, k3, d2, s2, hm2, k4, d3, s3, g4, aw2]
          · unfold tabO at k1 k2
            simp only [List.map_nil] at k1
            generalize ((valSum a + valSum b : Nat) : Int) = nn at *
            simp [-getElem?_pos, c_tattlerlaw13_DigestGrows, a0, a1, b0, b1, k0, k1, k2]
    · simp only [hB, decide_false] at b0
      simp [-getElem?_pos, c_tattlerlaw13_DigestGrows, a0, b0, aw]
  · simp only [hA, decide_false] at a0
    simp [-getElem?_pos, c_tattlerlaw13_DigestGrows, a0, aw]
theorem tattlerlaw13_DigestGrows_top {c0 c1 : List V} (h0 : Ty.Has (.sl entT) c0) (h1 : Ty.Has (.sl entT) c1) :
    ∃ h fl, callL E F.tattlerlaw13_DigestGrows [Ty.el (.sl entT) c0, Ty.el (.sl entT) c1] [] = some (.bool true, h, fl) := by
  obtain ⟨a, _, ha, rfl⟩ := Ents.dec h0
  obtain ⟨b, _, hb, rfl⟩ := Ents.dec h1
  exact ⟨_, _, DigestGrows_eq a b ha hb []⟩
end Go.Proofs.Ytphlgefkcghopaa.V
