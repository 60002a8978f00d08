/- The reference's set computes the same lists. -/
import Derived.Test.YthkfjefoblmbhaaVmHQ
set_option linter.unusedVariables false
set_option linter.unusedSimpArgs false
namespace Go.Proofs.Ythkfjefoblmbhaa.V
open Go.Vm

theorem idx_found {l : List Hnt} (hs : HSrt l) {n : Int} {k : List UInt8} {e : Hnt} (he : l[posH l n k]? = some e) (hq : heq e n k = true) : idxH l n k = posH l n k := by
  have hp : posH l n k < l.length := (List.getElem?_eq_some_iff.1 he).1
  unfold idxH
  have h1 : (l.any fun x => heq x n k) = true := List.any_eq_true.2 ⟨e, List.mem_of_getElem? he, hq⟩
  rw [h1, cnd_true]
  have : (l.findIdx fun x => heq x n k) = posH l n k := by
    rw [List.findIdx_eq hp]
    refine ⟨by rw [(List.getElem?_eq_some_iff.1 he).2]; exact hq, fun q hq => ?_⟩
    have h2 := (cut_pos (n := n) (k := k) hs).lt q l[q] (List.getElem?_eq_getElem (by omega))
    rw [decide_eq_true hq] at h2
    exact heq_false h2
  rw [this]
theorem idx_none {l : List Hnt} {n : Int} {k : List UInt8} (h : getH l n k = none) : idxH l n k = -1 := by
  unfold idxH
  have : (l.any fun x => heq x n k) = false := by
    rw [List.any_eq_false]
    intro x hx hq
    unfold getH at h
    rw [Option.map_eq_none_iff, List.find?_eq_none] at h
    exact h x hx hq
  rw [this]; rfl
section
variable {h : Heap} {i : Nat} {l : List Hnt} (hi : hget h i = some (rsO l)) (inv : HInv l)
include hi inv
theorem r5HPut_eq (x : Hnt) : ∃ w, callL E F.tattlerref5_Hints_Put [.ptr (some (i, 0)), x.v] h = some (.tup [.bool (putB l x), .int .i64 (putE l x)], hset h i (rsO (putL l x)), ⟨cnd w [i] [], [], false⟩) := by
  unfold putB putE putL
  cases hx : mayH x with
  | false =>
    refine ⟨false, ?_⟩
    rw [r5Put_bad x hx]
    simp [hsf3 hi]
  | true =>
    have hc := cut_pos (n := x.node) (k := x.key) inv.srt
    rcases found_pos (n := x.node) (k := x.key) inv.srt with ⟨h1, h2⟩ | ⟨e, h1, h2, h3, h4⟩
    · rw [h2]
      by_cases h64 : l.length < 64
      · refine ⟨decide (i < h.length), ?_⟩
        have hz : x.with (zeroSib.join x.sib) = x.with (x.sib.join x.sib) := by rw [zero_join (mayH_sib hx), join_self (mayH_sib hx)]
        rw [r5Put_new hi inv.len x hx (idx_none h2) h64 hc, hz, putH_new h1]
        simp [h64]
      · refine ⟨false, ?_⟩
        rw [r5Put_full hi inv.len x hx (idx_none h2) (by have := inv.len; omega)]
        simp [h64, hsf3 hi]
    · have hm := inv.may e (List.mem_of_getElem? h1)
      have hv : (e.sib.join x.sib).vals.length ≤ 1099511627776 := by
        have := may_len (join_may (mayH_sib hm) (mayH_sib hx))
        omega
      rw [h4, r5Put_there hi inv.len x hx (idx_found inv.srt h1 h2) h1 hv, putH_found h1 h2]
      by_cases hq : e.sib.join x.sib = e.sib
      · refine ⟨false, ?_⟩
        have hsame : putH l x = l := by
          rw [← putH_found h1 h2, hq]
          have : e.with e.sib = e := rfl
          rw [this]
          exact List.ext_getElem? fun j => by
            rw [List.getElem?_set]
            split
            · rename_i e1
              subst e1
              split
              · exact h1.symm
              · rw [List.getElem?_eq_none (by omega)]
            · rfl
        rw [decide_eq_true hq, hsame]
        simp [hq, hsf3 hi]
      · refine ⟨decide (i < h.length), ?_⟩
        have hq' : ¬ e.sib = e.sib.join x.sib := fun e1 => hq e1.symm
        rw [decide_eq_false hq]
        simp [hq']
theorem r5HDrop_eq (n : Int) (k : List UInt8) (s : Sib) (hs : s.vals.length ≤ 1099511627776) :
    ∃ w, callL E F.tattlerref5_Hints_Drop [.ptr (some (i, 0)), .int .i64 n, .str k, s.v] h = some (.bool (match getH l n k with | some q => q.leq s | none => false), hset h i (rsO (cnd (match getH l n k with | some q => q.leq s | none => false) (dropS l n k) l)), ⟨cnd w [i] [], [], false⟩) := by
  have hc := cut_pos (n := n) (k := k) inv.srt
  rcases found_pos (n := n) (k := k) inv.srt with ⟨h1, h2⟩ | ⟨e, h1, h2, h3, h4⟩
  · refine ⟨false, ?_⟩
    rw [h2, r5Drop_none hi inv.len n k s (idx_none h2)]
    simp [hsf3 hi]
  · rw [h4]
    cases hq : e.sib.leq s with
    | true =>
      refine ⟨decide (i < h.length), ?_⟩
      rw [r5Drop_ok hi inv.len n k s hs (idx_found inv.srt h1 h2) h1 hq, drop_found inv.srt h1 h2]
      simp [hq]
    | false =>
      refine ⟨false, ?_⟩
      rw [r5Drop_keep hi inv.len n k s hs (idx_found inv.srt h1 h2) h1 hq]
      simp [hq, hsf3 hi]
end
end Go.Proofs.Ythkfjefoblmbhaa.V
