/- The law of orders. -/
import Derived.Test.YtphlgefkcghopaaVmQW
set_option linter.unusedVariables false
set_option linter.unusedSimpArgs false
namespace Go.Proofs.Ytphlgefkcghopaa.V
open Go.Vm

theorem told_addB {need : Int} {bs : List Bool} (hb : bs.length = 8) (x : Int) : told need (addB bs x) = cnd (fresh bs x && (((addB bs x).countP id : Nat) : Int) == need) (told need bs + 1) (told need bs) := by
  cases hf : fresh bs x with
  | false => simp [addB, hf]
  | true =>
    obtain ⟨n, rfl, hn, hbn⟩ := fresh_lt hf hb
    have ha : addB bs n = bs.set n true := by simp [addB, hf]
    rw [ha, told_add hn hbn, count_add hn hbn]
    by_cases h : ((bs.countP id : Nat) : Int) + 1 = need
    · subst h; simp
    · have hb : (((bs.countP id + 1 : Nat) : Int) == need) = false := beq_false_of_ne (by simpa using h)
      rw [if_neg h, hb]; rfl
def addAll (bs : List Bool) (l : List Int) : List Bool := l.foldl addB bs
theorem addAll_len (l : List Int) : ∀ bs, (addAll bs l).length = bs.length := by
  induction l with
  | nil => intro bs; rfl
  | cons x l ih => intro bs; exact (ih _).trans (addB_len bs x)
theorem told_range (need : Int) (bs : List Bool) : 0 ≤ told need bs ∧ told need bs ≤ 1 := by unfold told; split <;> omega

theorem Order_loop (need : Int) (l r : List Int) (t : Nat) (hr : r.length = l.length) (h60 : l.length ≤ 60) (ht : t < l.length) (hrot : ∀ i, i < l.length → r[i]? = l[(i + t) % l.length]?) :
    ∀ (k i : Nat) (ba bb : List Bool) (fl : Bool), i + k = l.length → ba.length = 8 → bb.length = 8 →
    ∃ rs wr, loopRun (callL E) loopL 0 [1, 2, 7, 8, 9, 10, 34, 35] c_tattlerlaw21_QuorumOrder_l0
      ⟨[(1, .sl (l.map (V.int .i64))), (2, .int .i64 t), (7, .ptr (some (0, 0))), (8, .ptr (some (1, 0))), (9, .int .i64 (told need ba)), (10, .int .i64 (told need bb)), (34, .int .i64 l.length), (35, .int .i64 i)], [cntO need ba, cntO need bb], ⟨fl, false⟩⟩ =
      some (.exit 0, ⟨rs, [cntO need (addAll ba (l.drop i)), cntO need (addAll bb (r.drop i))], ⟨wr, false⟩⟩) ∧ get rs 7 = .ptr (some (0, 0)) ∧ get rs 8 = .ptr (some (1, 0)) ∧
        get rs 9 = .int .i64 (told need (addAll ba (l.drop i))) ∧ get rs 10 = .int .i64 (told need (addAll bb (r.drop i))) := by
  intro k
  induction k with
  | zero =>
    intro i ba bb fl hi hba hbb
    have : i = l.length := by omega
    subst this
    have h1 : l.drop l.length = [] := by simp
    have h2 : r.drop l.length = [] := by rw [← hr]; simp
    rw [h1, h2]
    exact ⟨_, fl, loop_exit (by rw [s_round]; simp [c_tattlerlaw21_QuorumOrder_l0, addAll]; rfl), by simp, by simp, by simp [addAll], by simp [addAll]⟩
  | succ k ih =>
    intro i ba bb fl hi hba hbb
    have hlt : i < l.length := by omega
    have hltI : (i : Int) < l.length := by omega
    have hlt2 : (i + t) % l.length < l.length := Nat.mod_lt _ (by omega)
    obtain ⟨x, hx⟩ : ∃ x, l[i]? = some x := ⟨_, List.getElem?_eq_getElem hlt⟩
    obtain ⟨y, hy⟩ : ∃ y, l[(i + t) % l.length]? = some y := ⟨_, List.getElem?_eq_getElem hlt2⟩
    have hyr : r[i]? = some y := by rw [hrot i hlt]; exact hy
    have hdl : l.drop i = x :: l.drop (i + 1) := by
      rw [List.drop_eq_getElem_cons hlt]; congr 1; exact (List.getElem?_eq_some_iff.1 hx).2
    have hdr : r.drop i = y :: r.drop (i + 1) := by
      have hlr : i < r.length := by omega
      rw [List.drop_eq_getElem_cons hlr]; congr 1; exact (List.getElem?_eq_some_iff.1 hyr).2
    have hA := Add_eq (need := need) (bs := ba) x (h := [cntO need ba, cntO need bb]) (i := 0) rfl hba
    have hB := Add_eq (need := need) (bs := bb) y (h := [cntO need (addB ba x), cntO need bb]) (i := 1) rfl hbb
    obtain ⟨rs, wr, h1, h2⟩ := ih (i + 1) (addB ba x) (addB bb y) (fl || fresh ba x || fresh bb y) (by omega) ((addB_len _ _).trans hba) ((addB_len _ _).trans hbb)
    have e1 : addAll ba (l.drop i) = addAll (addB ba x) (l.drop (i + 1)) := by rw [hdl]; rfl
    have e2 : addAll bb (r.drop i) = addAll (addB bb y) (r.drop (i + 1)) := by rw [hdr]; rfl
    rw [e1, e2]
    refine ⟨rs, wr, loop_next ?_ h1, h2⟩
    clear h1 h2 ih e1 e2
    rw [s_round, told_addB hba, told_addB hbb]
    have hw : IntKind.wrap .i64 (i + 1 : Int) = ((i + 1 : Nat) : Int) := by rw [wrap_i64] <;> omega
    have hw2 : IntKind.wrap .i64 (i + t : Int) = ((i + t : Nat) : Int) := by rw [wrap_i64] <;> omega
    have hne : ((l.length : Int) == 0) = false := beq_false_of_ne (by omega)
    obtain ⟨m, hm⟩ : ∃ m, m = (i + t) % l.length := ⟨_, rfl⟩
    have hmod : Int.tmod ((i : Int) + (t : Int)) (l.length : Int) = (m : Int) := by rw [← Int.natCast_add, ← Int.ofNat_tmod, hm]
    rw [← hm] at hy hlt2
    have hx2 := (List.getElem?_eq_some_iff.1 hx).2
    have hwa : IntKind.wrap .i64 (told need ba + 1) = told need ba + 1 := by have := told_range need ba; rw [wrap_i64] <;> omega
    have hwb : IntKind.wrap .i64 (told need bb + 1) = told need bb + 1 := by have := told_range need bb; rw [wrap_i64] <;> omega
    generalize (fresh ba x && (((addB ba x).countP id : Nat) : Int) == need) = p at hA ⊢
    generalize (fresh bb y && (((addB bb y).countP id : Nat) : Int) == need) = q at hB ⊢
    simp at hA hB
    cases p <;> cases q <;> simp [-getElem?_pos, c_tattlerlaw21_QuorumOrder_l0, hx, hy, hltI, hlt, hw, hw2, hne, hmod, hlt2, hA, hB, hwa, hwb]
theorem Order_loop2 (need : Int) (bs : List Bool) (hb : bs.length = 8) (t : Int) : ∀ (k i : Nat) (fl : Bool), i + k = 8 →
    ∃ rs wr, loopRun (callL E) loopL 0 [7, 8, 9, 10, 60] c_tattlerlaw21_QuorumOrder_l1
      ⟨[(7, .ptr (some (0, 0))), (8, .ptr (some (1, 0))), (9, .int .i64 t), (10, .int .i64 t), (60, .int .i64 i)], [cntO need bs, cntO need bs], ⟨fl, false⟩⟩ =
      some (.exit 2, ⟨rs, [cntO need bs, cntO need bs], ⟨wr, false⟩⟩) ∧ get rs 7 = .ptr (some (0, 0)) ∧ get rs 8 = .ptr (some (1, 0)) ∧ get rs 9 = .int .i64 t ∧ get rs 10 = .int .i64 t := by
  intro k
  induction k with
  | zero =>
    intro i fl hi
    have : i = 8 := by omega
    subst this
    exact ⟨_, fl, loop_exit (by rw [s_round]; simp [c_tattlerlaw21_QuorumOrder_l1]; rfl), by simp, by simp, by simp, by simp⟩
  | succ k ih =>
    intro i fl hi
    have hlt : i < 8 := by omega
    have hltI : (i : Int) < 8 := by omega
    have hA := Has_eq (need := need) (bs := bs) i (h := [cntO need bs, cntO need bs]) (i := 0) rfl hb
    have hB := Has_eq (need := need) (bs := bs) i (h := [cntO need bs, cntO need bs]) (i := 1) rfl hb
    obtain ⟨rs, wr, h1, h2⟩ := ih (i + 1) fl (by omega)
    refine ⟨rs, wr, loop_next ?_ h1, h2⟩
    clear h1 h2 ih
    rw [s_round]
    have hw : IntKind.wrap .i64 (i + 1 : Int) = ((i + 1 : Nat) : Int) := by rw [wrap_i64] <;> omega
    simp [-getElem?_pos, hltI, hlt] at hA hB
    simp [-getElem?_pos, c_tattlerlaw21_QuorumOrder_l1, hltI, hw, hA, hB]

theorem addB_get {bs : List Bool} (hb : bs.length = 8) (x : Int) (j : Nat) (hj : j < 8) : (addB bs x)[j]? = some (bs[j]?.getD false || decide ((j : Int) = x)) := by
  have hbj : bs[j]? = some bs[j] := List.getElem?_eq_getElem (by omega)
  cases hf : fresh bs x with
  | true =>
    obtain ⟨n, rfl, hn, hbn⟩ := fresh_lt hf hb
    have ha : addB bs n = bs.set n true := by simp [addB, hf]
    rw [ha, List.getElem?_set]
    by_cases h : n = j
    · subst h; simp [hn]
    · have : ¬ (j : Int) = n := by omega
      simp [h, this, hbj]
  | false =>
    have ha : addB bs x = bs := by simp [addB, hf]
    rw [ha, hbj]
    by_cases h : (j : Int) = x
    · subst h
      have h8 : (j : Int) < 8 := by omega
      simp [fresh, h8, hbj] at hf
      simp [hf]
    · simp [h]
theorem addAll_get (l : List Int) : ∀ (bs : List Bool), bs.length = 8 → ∀ (j : Nat), j < 8 → (addAll bs l)[j]? = some (bs[j]?.getD false || decide ((j : Int) ∈ l)) := by
  induction l with
  | nil =>
    intro bs hb j hj
    have hbj : bs[j]? = some bs[j] := List.getElem?_eq_getElem (by omega)
    simp [addAll, hbj]
  | cons x l ih =>
    intro bs hb j hj
    have := ih (addB bs x) ((addB_len _ _).trans hb) j hj
    show (addAll (addB bs x) l)[j]? = _
    rw [this, addB_get hb x j hj]
    simp [Bool.or_assoc]
theorem addAll_same {l r : List Int} (h : ∀ x, x ∈ l ↔ x ∈ r) {bs : List Bool} (hb : bs.length = 8) : addAll bs l = addAll bs r := by
  apply List.ext_getElem?
  intro j
  by_cases hj : j < 8
  · rw [addAll_get l bs hb j hj, addAll_get r bs hb j hj]
    simp [h]
  · rw [List.getElem?_eq_none (by rw [addAll_len]; omega), List.getElem?_eq_none (by rw [addAll_len]; omega)]
/-- Turned by t places. -/
def rot (l : List Int) (t : Nat) : List Int := (List.range l.length).map fun i => l[(i + t) % l.length]?.getD 0
theorem rot_mem {l : List Int} {t : Nat} (x : Int) : x ∈ l ↔ x ∈ rot l t := by
  constructor
  · intro h
    obtain ⟨j, hj, rfl⟩ := List.getElem_of_mem h
    refine List.mem_map.2 ⟨(j + (l.length - t % l.length)) % l.length, List.mem_range.2 (Nat.mod_lt _ (by omega)), ?_⟩
    have h1 : t % l.length < l.length := Nat.mod_lt _ (by omega)
    have : ((j + (l.length - t % l.length)) % l.length + t) % l.length = j := by
      have e0 := Nat.div_add_mod t l.length
      have e : j + (l.length - t % l.length) + t = j + l.length * (t / l.length + 1) := by rw [Nat.mul_add]; omega
      rw [Nat.mod_add_mod, e, Nat.add_mul_mod_self_left, Nat.mod_eq_of_lt hj]
    rw [this, List.getElem?_eq_getElem hj]; rfl
  · intro h
    obtain ⟨i, hi, rfl⟩ := List.mem_map.1 h
    have hi := List.mem_range.1 hi
    have : (i + t) % l.length < l.length := Nat.mod_lt _ (by omega)
    rw [List.getElem?_eq_getElem this]
    exact List.getElem_mem _
theorem tattlerlaw21_QuorumOrder_top (need : Int) (_ : (Lit.int .i64 need).wf = true) (l : List Int) (hl : l.length ≤ maxLen ∧ ∀ n ∈ l, (Lit.int .i64 n).wf = true) (turn : Int) (_ : (Lit.int .i64 turn).wf = true) :
    ∃ h fl, callL E F.tattlerlaw21_QuorumOrder [.int .i64 need, intsV .i64 l, .int .i64 turn] [] = some (.bool true, h, fl) := by
  have hl' : l.length ≤ 9223372036854775807 := by simpa [maxLen] using hl.1
  by_cases h0 : l.length = 0
  · refine top_of rfl fn_tattlerlaw21_QuorumOrder ?_
    simp [c_tattlerlaw21_QuorumOrder, intsV, h0, awake_eq]
  by_cases h60 : 60 < l.length
  · refine top_of rfl fn_tattlerlaw21_QuorumOrder ?_
    have h0' : ((l.length : Int) == 0) = false := beq_false_of_ne (by omega)
    have h60' : (60 : Int) < l.length := by omega
    simp [c_tattlerlaw21_QuorumOrder, intsV, h0', h60', h60, awake_eq]
  obtain ⟨u, hu, hu2⟩ : ∃ u : Nat, IntKind.wrap .u64 turn = u ∧ u < 18446744073709551616 := by
    have h1 : IntKind.wrap .u64 turn = turn % 18446744073709551616 := rfl
    have h2 : 0 ≤ turn % 18446744073709551616 := Int.emod_nonneg _ (by decide)
    have h3 : turn % 18446744073709551616 < 18446744073709551616 := Int.emod_lt_of_pos _ (by decide)
    exact ⟨(turn % 18446744073709551616).toNat, by rw [h1]; omega, by omega⟩
  have hlen : (rot l (u % l.length)).length = l.length := by simp [rot]
  have hmod : u % l.length < l.length := Nat.mod_lt _ (by omega)
  obtain ⟨rs, wr, h1, g7, g8, g9, g10⟩ := Order_loop need l (rot l (u % l.length)) (u % l.length) hlen (by omega) hmod (fun i hi => by
    have : (i + u % l.length) % l.length < l.length := Nat.mod_lt _ (by omega)
    simp only [rot, List.getElem?_map, List.getElem?_range hi, Option.map_some]
    rw [List.getElem?_eq_getElem this]; rfl) l.length 0 (List.replicate 8 false) (List.replicate 8 false) false (by simp) (by simp) (by simp)
  simp only [List.drop_zero] at h1 g9 g10
  rw [← addAll_same (fun x => rot_mem (l := l) (t := u % l.length) x) (by simp)] at h1 g10
  have hb : (addAll (List.replicate 8 false) l).length = 8 := by rw [addAll_len]; simp
  obtain ⟨rs2, wr2, h2, k7, k8, k9, k10⟩ := Order_loop2 need (addAll (List.replicate 8 false) l) hb (told need (addAll (List.replicate 8 false) l)) 8 0 wr rfl
  have hL1 := Len_eq (need := need) (bs := addAll (List.replicate 8 false) l) (h := [cntO need (addAll (List.replicate 8 false) l), cntO need (addAll (List.replicate 8 false) l)]) (i := 0) rfl hb
  have hL2 := Len_eq (need := need) (bs := addAll (List.replicate 8 false) l) (h := [cntO need (addAll (List.replicate 8 false) l), cntO need (addAll (List.replicate 8 false) l)]) (i := 1) rfl hb
  have hD1 := Done_eq (need := need) (bs := addAll (List.replicate 8 false) l) (h := [cntO need (addAll (List.replicate 8 false) l), cntO need (addAll (List.replicate 8 false) l)]) (i := 0) rfl hb
  have hD2 := Done_eq (need := need) (bs := addAll (List.replicate 8 false) l) (h := [cntO need (addAll (List.replicate 8 false) l), cntO need (addAll (List.replicate 8 false) l)]) (i := 1) rfl hb
  generalize addAll (List.replicate 8 false) l = B at *
  have hz : told need (List.replicate 8 false) = 0 := by unfold told; simp; omega
  have hne : ((l.length : Int) == 0) = false := beq_false_of_ne (by omega)
  have h60' : ¬ (60 : Int) < l.length := by omega
  have hwl : IntKind.wrap .u64 (l.length : Int) = (l.length : Int) := by rw [wrap_u64] <;> omega
  have hwm : IntKind.wrap .i64 (Int.tmod (u : Int) (l.length : Int)) = ((u % l.length : Nat) : Int) := by
    rw [← Int.ofNat_tmod, wrap_i64] <;> omega
  obtain ⟨t, htt⟩ : ∃ t, t = u % l.length := ⟨_, rfl⟩
  rw [← htt] at h1 hwm
  simp only [hz] at h1
  refine top_of rfl fn_tattlerlaw21_QuorumOrder ?_
  have hrep : List.replicate 8 false = [false, false, false, false, false, false, false, false] := rfl
  simp only [Int.natCast_zero, hrep] at h1 h2
  simp [c_tattlerlaw21_QuorumOrder, intsV, New_eq, hne, h60', hu, hwl, hwm, h1, h2, g7, g8, g9, g10, k7, k8, k9, k10, hL1, hL2, hD1, hD2, awake_eq]
end Go.Proofs.Ytphlgefkcghopaa.V
