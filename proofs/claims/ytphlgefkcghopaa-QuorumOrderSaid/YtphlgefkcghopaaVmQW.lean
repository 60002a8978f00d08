/- The laws of quorum, over the V-machine. -/
import Derived.Test.YtphlgefkcghopaaVmQV
set_option linter.unusedVariables false
set_option linter.unusedSimpArgs false
namespace Go.Proofs.Ytphlgefkcghopaa.V
open Go.Vm

def inO (bs : List Bool) : Vm.Obj := .cells (bs.map V.bool) []
theorem in_set {bs : List Bool} {n : Nat} {b : Bool} (hn : n < bs.length) : (bs.map V.bool).take n ++ V.bool b :: (bs.map V.bool).drop (n + 1) = (bs.map V.bool).set n (V.bool b) := by
  rw [List.set_eq_take_append_cons_drop, if_pos (by simpa using hn)]
/-- Told: there are just enough since some time. -/
def told (need : Int) (bs : List Bool) : Int := if 1 ≤ need ∧ need ≤ (bs.countP id : Nat) then 1 else 0
theorem told_add {need : Int} {bs : List Bool} {n : Nat} (hn : n < bs.length) (hb : bs[n]?.getD false = false) :
    told need (bs.set n true) = if ((bs.countP id : Nat) : Int) + 1 = need then told need bs + 1 else told need bs := by
  unfold told
  rw [count_add hn hb]
  split <;> split <;> (try split) <;> omega

theorem Plays_loop (need : Int) (l : List Int) (hl : l.length ≤ 9223372036854775807) : ∀ (k i : Nat) (bs : List Bool) (fl : Bool), i + k = l.length → bs.length = 8 →
    ∃ rs bs' wr, loopRun (callL E) loopL 0 [0, 5, 6, 7, 8, 16, 17, 18] c_tattlerlaw21_QuorumPlays_l0
      ⟨[(0, .int .i64 need), (5, .ptr (some (0, 0))), (6, .ptr (some (1, 0))), (7, .int .i64 (bs.countP id : Nat)), (8, .int .i64 (told need bs)), (16, .sl (l.map (V.int .i64))), (17, .int .i64 l.length), (18, .int .i64 i)], [cntO need bs, inO bs], ⟨fl, false⟩⟩ =
      some (.exit 0, ⟨rs, [cntO need bs', inO bs'], ⟨wr, false⟩⟩) ∧ bs'.length = 8 ∧ get rs 5 = .ptr (some (0, 0)) ∧ get rs 6 = .ptr (some (1, 0)) ∧ get rs 8 = .int .i64 (told need bs') := by
  intro k
  induction k with
  | zero =>
    intro i bs fl hi hb
    have : i = l.length := by omega
    subst this
    refine ⟨_, bs, fl, loop_exit (by rw [s_round]; simp [c_tattlerlaw21_QuorumPlays_l0]; rfl), hb, by simp, by simp, by simp⟩
  | succ k ih =>
    intro i bs fl hi hb
    have hlt : i < l.length := by omega
    have hltI : (i : Int) < l.length := by omega
    by_cases h60 : (60 : Int) ≤ i
    · refine ⟨_, bs, fl, loop_exit (by rw [s_round]; simp [c_tattlerlaw21_QuorumPlays_l0, hltI, hlt, h60]; rfl), hb, by simp, by simp, by simp⟩
    · obtain ⟨x, hx⟩ : ∃ x, l[i]? = some x := ⟨_, List.getElem?_eq_getElem hlt⟩
      obtain ⟨_, hx2⟩ := List.getElem?_eq_some_iff.1 hx
      have hlen := addB_len bs x
      have hA := Add_eq (need := need) (bs := bs) x (h := [cntO need bs, inO (addB bs x)]) (i := 0) rfl hb
      have hL := Len_eq (need := need) (bs := addB bs x) (h := [cntO need (addB bs x), inO (addB bs x)]) (i := 0) rfl (hlen.trans hb)
      have hD := Done_eq (need := need) (bs := addB bs x) (h := [cntO need (addB bs x), inO (addB bs x)]) (i := 0) rfl (hlen.trans hb)
      have hH := Has_eq (need := need) (bs := addB bs x) x (h := [cntO need (addB bs x), inO (addB bs x)]) (i := 0) rfl (hlen.trans hb)
      have hset : hset [cntO need bs, inO (addB bs x)] 0 (cntO need (addB bs x)) = [cntO need (addB bs x), inO (addB bs x)] := rfl
      rw [hset] at hA
      obtain ⟨rs, bs', wr, h1, h2⟩ := ih (i + 1) (addB bs x) (fl || fresh bs x) (by omega) (hlen.trans hb)
      refine ⟨rs, bs', wr, loop_next ?_ h1, h2⟩
      clear h1 h2 ih
      rw [s_round]
      have hw : IntKind.wrap .i64 (i + 1 : Int) = ((i + 1 : Nat) : Int) := by rw [wrap_i64] <;> omega
      have hcnt : bs.countP id ≤ 8 := by rw [← hb]; exact List.countP_le_length
      have hw2 : IntKind.wrap .i64 ((bs.countP id : Nat) + 1 : Int) = (bs.countP id : Nat) + 1 := by rw [wrap_i64] <;> omega
      cases hf : fresh bs x with
      | true =>
        obtain ⟨n, rfl, hn, hbn⟩ := fresh_lt hf hb
        have ha : addB bs n = bs.set n true := by simp [addB, hf]
        have hb' : bs[n]? = some false := by
          rw [List.getElem?_eq_getElem hn] at hbn ⊢
          simpa using hbn
        have hb2 : bs[n] = false := (List.getElem?_eq_some_iff.1 hb').2
        have hn8 : (n : Int) < 8 := by omega
        have hn8' : n < 8 := by omega
        have hin : (bs.map V.bool).take n ++ V.bool true :: (bs.map V.bool).drop (n + 1) = (bs.map V.bool).set n (V.bool true) := in_set hn
        have hlen1 : n < bs.length := hn
        have hn7 : n ≤ 7 := by omega
        rw [ha] at hA hL hD hH ⊢
        rw [hf] at hA
        rw [count_add hn hbn] at hA hL hD ⊢
        have hself : (bs.set n true)[n]? = some true := by simp [hn]
        rw [told_add hn hbn]
        simp only [inO, cntO] at hA hL hD hH ⊢
        have ht : IntKind.wrap .i64 (told need bs + 1) = told need bs + 1 := by unfold told; split <;> rw [wrap_i64] <;> omega
        by_cases hok : ((bs.countP id : Nat) : Int) + 1 = need
        · subst hok
          simp [hn8, hn8', hself] at hA hL hD hH
          simp [c_tattlerlaw21_QuorumPlays_l0, hx, hx2, hltI, hlt, h60, hn8, hn8', hb', hb2, hlen1, hn7, hw, hw2, hA, hL, hD, hH, hself, hb, ht]
        · have hokb : (((bs.countP id : Nat) : Int) + 1 == need) = false := beq_false_of_ne hok
          simp [hn8, hn8', hself] at hA hL hD hH
          simp [c_tattlerlaw21_QuorumPlays_l0, hx, hx2, hltI, hlt, h60, hn8, hn8', hb', hb2, hlen1, hn7, hw, hw2, hA, hL, hD, hH, hself, hb, hokb, hok]
      | false =>
        have ha : addB bs x = bs := by simp [addB, hf]
        rw [ha] at hA hL hD hH ⊢
        rw [hf] at hA
        simp only [inO, cntO] at hA hL hD hH ⊢
        by_cases h0 : 0 ≤ x
        · by_cases h8 : x < 8
          · obtain ⟨n, rfl⟩ := Int.eq_ofNat_of_zero_le h0
            have hn8' : n < 8 := by omega
            have hb' : bs[n]? = some true := by
              have hn : n < bs.length := by omega
              simp [fresh, h8] at hf
              rw [List.getElem?_eq_getElem hn] at hf ⊢
              simpa using hf
            obtain ⟨_, hb2⟩ := List.getElem?_eq_some_iff.1 hb'
            simp [h8, hn8', hb'] at hA hL hD hH
            simp [c_tattlerlaw21_QuorumPlays_l0, hx, hx2, hltI, hlt, h60, h8, hn8', hb', hb2, hw, hA, hL, hD, hH, hb]
          · simp [h0, h8] at hA hL hD hH
            simp [c_tattlerlaw21_QuorumPlays_l0, hx, hx2, hltI, hlt, h60, h0, h8, hw, hA, hL, hD, hH, hb]
        · simp [h0] at hA hL hD hH
          simp [c_tattlerlaw21_QuorumPlays_l0, hx, hx2, hltI, hlt, h60, h0, hw, hA, hL, hD, hH, hb]
theorem Plays_loop2 (need : Int) (bs : List Bool) (hb : bs.length = 8) (t : Int) : ∀ (k i : Nat) (fl : Bool), i + k = 8 →
    ∃ rs wr, loopRun (callL E) loopL 0 [5, 6, 8, 83] c_tattlerlaw21_QuorumPlays_l1
      ⟨[(5, .ptr (some (0, 0))), (6, .ptr (some (1, 0))), (8, .int .i64 t), (83, .int .i64 i)], [cntO need bs, inO bs], ⟨fl, false⟩⟩ =
      some (.exit 2, ⟨rs, [cntO need bs, inO bs], ⟨wr, false⟩⟩) ∧ get rs 5 = .ptr (some (0, 0)) ∧ get rs 8 = .int .i64 t := by
  intro k
  induction k with
  | zero =>
    intro i fl hi
    have : i = 8 := by omega
    subst this
    exact ⟨_, fl, loop_exit (by rw [s_round]; simp [c_tattlerlaw21_QuorumPlays_l1]; rfl), by simp, by simp⟩
  | succ k ih =>
    intro i fl hi
    have hlt : i < 8 := by omega
    have hltI : (i : Int) < 8 := by omega
    obtain ⟨b, hbi⟩ : ∃ b, bs[i]? = some b := ⟨_, List.getElem?_eq_getElem (by omega)⟩
    have hH := Has_eq (need := need) (bs := bs) i (h := [cntO need bs, inO bs]) (i := 0) rfl hb
    obtain ⟨rs, wr, h1, h2⟩ := ih (i + 1) fl (by omega)
    refine ⟨rs, wr, loop_next ?_ h1, h2⟩
    clear h1 h2 ih
    rw [s_round]
    have hw : IntKind.wrap .i64 (i + 1 : Int) = ((i + 1 : Nat) : Int) := by rw [wrap_i64] <;> omega
    simp only [inO, cntO] at hH ⊢
    simp [hlt, hltI, hbi] at hH
    simp [c_tattlerlaw21_QuorumPlays_l1, hlt, hltI, hbi, hw, hH]
theorem told_le (need : Int) (bs : List Bool) : told need bs ≤ 1 := by unfold told; split <;> omega
theorem tattlerlaw21_QuorumPlays_top (need : Int) (_ : (Lit.int .i64 need).wf = true) (l : List Int) (hl : l.length ≤ maxLen ∧ ∀ n ∈ l, (Lit.int .i64 n).wf = true) :
    ∃ h fl, callL E F.tattlerlaw21_QuorumPlays [.int .i64 need, intsV .i64 l] [] = some (.bool true, h, fl) := by
  have hl' : l.length ≤ 9223372036854775807 := by simpa [maxLen] using hl.1
  obtain ⟨rs, bs, wr, h1, hb, g5, g6, g8⟩ := Plays_loop need l hl' l.length 0 (List.replicate 8 false) false (by simp) (by simp)
  obtain ⟨rs2, wr2, h2, k5, k8⟩ := Plays_loop2 need bs hb (told need bs) 8 0 wr rfl
  have hH1 := Has_eq (need := need) (bs := bs) (-1) (h := [cntO need bs, inO bs]) (i := 0) rfl hb
  have hH2 := Has_eq (need := need) (bs := bs) 8 (h := [cntO need bs, inO bs]) (i := 0) rfl hb
  have ht := told_le need bs
  have h0 : told need (List.replicate 8 false) = 0 := by unfold told; simp; omega
  refine top_of rfl fn_tattlerlaw21_QuorumPlays ?_
  simp only [h0] at h1
  simp [inO, cntO] at h1 h2 hH1 hH2
  simp [c_tattlerlaw21_QuorumPlays, intsV, New_eq, cntO, h1, h2, g5, g6, g8, k5, k8, hH1, hH2, ht, awake_eq]
end Go.Proofs.Ytphlgefkcghopaa.V
