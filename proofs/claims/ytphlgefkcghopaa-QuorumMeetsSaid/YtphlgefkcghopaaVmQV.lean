/- What quorum's functions compute. -/
import Derived.Test.YtphlgefkcghopaaVQ
import Derived.Test.YtphlgefkcghopaaVmW
set_option linter.unusedVariables false
set_option linter.unusedSimpArgs false
namespace Go.Proofs.Ytphlgefkcghopaa.V
open Go.Vm

def cnt (need : Int) (bs : List Bool) : List V := .int .i64 need :: bs.map V.bool
def cntO (need : Int) (bs : List Bool) : Vm.Obj := .cells (cnt need bs) []
def cAt (h : Heap) (i : Nat) (need : Int) (bs : List Bool) : Prop := hget h i = some (cntO need bs)

theorem cnt_len (need : Int) (bs : List Bool) : (cnt need bs).length = bs.length + 1 := by simp [cnt]
theorem cnt_get {need : Int} {bs : List Bool} {n : Nat} (hn : n < bs.length) : (cnt need bs)[1 + n]? = some (.bool (bs[n]?.getD false)) := by
  rw [Nat.add_comm]; simp [cnt, hn]
theorem cnt_set {need : Int} {bs : List Bool} {n : Nat} {b : Bool} : (cnt need bs).set (1 + n) (.bool b) = cnt need (bs.set n b) := by
  rw [Nat.add_comm 1 n]
  simp [cnt]

theorem New_eq (need : Int) (h : Heap) : callL E F.quorum_New [.int .i64 need] h = some (.ptr (some (h.length, 0)), h ++ [cntO need (List.replicate 8 false)], .no) := by
  refine callL_of rfl fn_quorum_New ?_
  simp [c_quorum_New, cnt, cntO]

theorem Has_eq {need : Int} {bs : List Bool} (x : Int) {h : Heap} {i : Nat} (hh : cAt h i need bs) (hl : bs.length = 8) :
    callL E F.quorum_Count_Has [.ptr (some (i, 0)), .int .i64 x] h = some (.bool (decide (0 ≤ x) && (decide (x < 8) && bs[x.toNat]?.getD false)), h, .no) := by
  refine callL_of rfl fn_quorum_Count_Has ?_
  unfold cAt cntO at hh
  by_cases h0 : 0 ≤ x
  · by_cases h1 : x < 8
    · obtain ⟨n, rfl⟩ := Int.eq_ofNat_of_zero_le h0
      have hn : n < 8 := by omega
      have hg := cnt_get (need := need) (hl.symm ▸ hn)
      simp [c_quorum_Count_Has, hh, h1, hn, hg]
    · simp [c_quorum_Count_Has, h0, h1]
  · simp [c_quorum_Count_Has, h0]
theorem Has_nil (x : Int) (h : Heap) : callL E F.quorum_Count_Has [.ptr none, .int .i64 x] h = some (.bool false, h, .no) := by
  refine callL_of rfl fn_quorum_Count_Has ?_
  simp [c_quorum_Count_Has]

theorem Len_loop (bs : List Bool) (hl : bs.length = 8) (h : Heap) (fb : Nat) : ∀ (k i : Nat) (n : Int), i + k = 8 → 0 ≤ n → n ≤ i →
    loopRun (callL E) loopL fb [3, 11, 12] c_quorum_Count_Len_l0 ⟨[(3, .int .i64 n), (11, .agg (bs.map V.bool)), (12, .int .i64 i)], h, .no⟩ =
      some (.exit 0, ⟨[(3, .int .i64 (n + ((bs.drop i).countP id : Nat))), (11, .agg (bs.map V.bool)), (12, .int .i64 8), (13, .bool false)], h, .no⟩) := by
  intro k
  induction k with
  | zero =>
    intro i n hi _ _
    have : i = 8 := by omega
    subst this
    refine loop_exit ?_
    rw [s_round]
    simp [c_quorum_Count_Len_l0, List.drop_of_length_le (Nat.le_of_eq hl)]
  | succ k ih =>
    intro i n hi h0 h1
    have hlt : (i : Int) < 8 := by omega
    have hlt' : i < 8 := by omega
    have hi8 : i < bs.length := by omega
    have hdrop : bs.drop i = bs[i] :: bs.drop (i + 1) := List.drop_eq_getElem_cons hi8
    have hw : IntKind.wrap .i64 (i + 1 : Int) = ((i + 1 : Nat) : Int) := by rw [wrap_i64] <;> omega
    have hw2 : IntKind.wrap .i64 (n + 1 : Int) = n + 1 := by rw [wrap_i64] <;> omega
    cases hb : bs[i] with
    | true =>
      have := ih (i + 1) (n + 1) (by omega) (by omega) (by omega)
      refine loop_next ?_ (this.trans ?_)
      · rw [s_round]
        simp [c_quorum_Count_Len_l0, hlt, hlt', hi8, hb, hw, hw2]
      · rw [hdrop, hb]; simp; omega
    | false =>
      have := ih (i + 1) n (by omega) (by omega) (by omega)
      refine loop_next ?_ (this.trans ?_)
      · rw [s_round]
        simp [c_quorum_Count_Len_l0, hlt, hlt', hi8, hb, hw]
      · rw [hdrop, hb]; simp
theorem Len_eq {need : Int} {bs : List Bool} {h : Heap} {i : Nat} (hh : cAt h i need bs) (hl : bs.length = 8) :
    callL E F.quorum_Count_Len [.ptr (some (i, 0))] h = some (.int .i64 (bs.countP id : Nat), h, .no) := by
  refine callL_of rfl fn_quorum_Count_Len ?_
  unfold cAt cntO at hh
  have := Len_loop bs hl h h.length 8 0 0 rfl (by omega) (by omega)
  have hd : (cnt need bs).tail.take 8 = bs.map V.bool := by
    simp only [cnt, List.tail_cons]
    exact List.take_of_length_le (by simp [hl])
  simp only [Int.zero_add, List.drop_zero, Int.natCast_zero] at this
  simp [c_quorum_Count_Len, hh, cnt_len, hl, hd, this]
theorem Len_nil (h : Heap) : callL E F.quorum_Count_Len [.ptr none] h = some (.int .i64 0, h, .no) := by
  refine callL_of rfl fn_quorum_Count_Len ?_
  simp [c_quorum_Count_Len]
theorem Done_eq {need : Int} {bs : List Bool} {h : Heap} {i : Nat} (hh : cAt h i need bs) (hl : bs.length = 8) :
    callL E F.quorum_Count_Done [.ptr (some (i, 0))] h = some (.bool (decide (need ≤ (bs.countP id : Nat))), h, .no) := by
  refine callL_of rfl fn_quorum_Count_Done ?_
  have h1 := Len_eq hh hl
  unfold cAt cntO at hh
  simp [c_quorum_Count_Done, h1, hh, cnt]
theorem Done_nil (h : Heap) : callL E F.quorum_Count_Done [.ptr none] h = some (.bool false, h, .no) := by
  refine callL_of rfl fn_quorum_Count_Done ?_
  simp [c_quorum_Count_Done]

/-- Is a number a new node's? -/
def fresh (bs : List Bool) (x : Int) : Bool := decide (0 ≤ x) && (decide (x < 8) && !(bs[x.toNat]?.getD false))
def addB (bs : List Bool) (x : Int) : List Bool := cnd (fresh bs x) (bs.set x.toNat true) bs
theorem addB_len (bs : List Bool) (x : Int) : (addB bs x).length = bs.length := by
  unfold addB; cases fresh bs x <;> simp
theorem Add_eq {need : Int} {bs : List Bool} (x : Int) {h : Heap} {i : Nat} (hh : cAt h i need bs) (hl : bs.length = 8) :
    callL E F.quorum_Count_Add [.ptr (some (i, 0)), .int .i64 x] h = some (.bool (fresh bs x && (((addB bs x).countP id : Nat) : Int) == need), hset h i (cntO need (addB bs x)), ⟨fresh bs x, false⟩) := by
  have hi := hget_lt hh
  have same : callL E F.quorum_Count_Add [.ptr (some (i, 0)), .int .i64 x] h = some (.bool false, h, .no) → fresh bs x = false →
      callL E F.quorum_Count_Add [.ptr (some (i, 0)), .int .i64 x] h = some (.bool (fresh bs x && (((addB bs x).countP id : Nat) : Int) == need), hset h i (cntO need (addB bs x)), ⟨fresh bs x, false⟩) := fun h1 h2 => by
    have : hset h i (cntO need bs) = h := hset_same hh
    rw [h1, addB, h2]
    simp [this]
  unfold cAt cntO at hh
  by_cases h0 : 0 ≤ x
  · by_cases h1 : x < 8
    · obtain ⟨n, rfl⟩ := Int.eq_ofNat_of_zero_le h0
      have hn : n < 8 := by omega
      have hn' : n < bs.length := by omega
      have hg := cnt_get (need := need) hn'
      have hn0 : ¬ (n : Int) < 0 := by omega
      have hn8 : ¬ (8 : Int) ≤ n := by omega
      cases hb : bs[n]?.getD false with
      | true =>
        refine same ?_ (by simp [fresh, hb])
        refine callL_of rfl fn_quorum_Count_Add ?_
        simp [c_quorum_Count_Add, hh, hn, hn0, hn8, hg, hb]
      | false =>
        refine callL_of rfl fn_quorum_Count_Add ?_
        have hf : fresh bs n = true := by simp [fresh, hb, h1]
        have ha : addB bs n = bs.set n true := by simp [addB, hf]
        have hs := cnt_set (need := need) (b := true) (bs := bs) (n := n)
        have hLen := Len_eq (h := hset h i (cntO need (bs.set n true))) (i := i) (need := need) (bs := bs.set n true) (hget_set _ _ _ hi) (by simpa using hl)
        rw [ha, hf]
        have hc : 1 + n < (cnt need bs).length := by rw [cnt_len]; omega
        simp only [cntO] at hLen ⊢
        simp [-getElem?_pos, c_quorum_Count_Add, hh, hn, hn0, hn8, hg, hb, hs, hc, hi, hLen]
        simp [cnt]
    · refine same ?_ (by simp [fresh, h1])
      refine callL_of rfl fn_quorum_Count_Add ?_
      simp [c_quorum_Count_Add, show ¬ x < 0 by omega, show 8 ≤ x by omega]
  · refine same ?_ (by simp [fresh, h0])
    refine callL_of rfl fn_quorum_Count_Add ?_
    simp [c_quorum_Count_Add, show x < 0 by omega]
theorem Add_nil (x : Int) (h : Heap) : callL E F.quorum_Count_Add [.ptr none, .int .i64 x] h = some (.bool false, h, .no) := by
  refine callL_of rfl fn_quorum_Count_Add ?_
  simp [c_quorum_Count_Add]
theorem Meet_eq (nodes r w : Int) (h : Heap) : callL E F.quorum_Meet [.int .i64 nodes, .int .i64 r, .int .i64 w] h =
    some (.bool (decide (1 ≤ r) && (decide (r ≤ nodes) && (decide (1 ≤ w) && (decide (w ≤ nodes) && decide (IntKind.wrap .i64 (nodes - w) < r))))), h, .no) := by
  refine callL_of rfl fn_quorum_Meet ?_
  by_cases h1 : 1 ≤ r <;> by_cases h2 : r ≤ nodes <;> by_cases h3 : 1 ≤ w <;> by_cases h4 : w ≤ nodes <;> simp [c_quorum_Meet, h1, h2, h3, h4]

theorem fresh_lt {bs : List Bool} {x : Int} (h : fresh bs x = true) (hl : bs.length = 8) : ∃ n : Nat, x = n ∧ n < bs.length ∧ bs[n]?.getD false = false := by
  simp only [fresh, Bool.and_eq_true, decide_eq_true_eq, Bool.not_eq_true'] at h
  obtain ⟨n, rfl⟩ := Int.eq_ofNat_of_zero_le h.1
  exact ⟨n, rfl, by omega, h.2.2⟩
theorem count_add {bs : List Bool} {n : Nat} (hn : n < bs.length) (hb : bs[n]?.getD false = false) : (bs.set n true).countP id = bs.countP id + 1 := by
  have : bs[n] = false := by simpa [hn] using hb
  rw [List.countP_set hn]
  simp [this]
theorem awake_eq (h : Heap) : callL E F.tattlerlaw21_awake [] h = some (.bool true, h, ⟨true, false⟩) := by
  refine callL_of rfl fn_tattlerlaw21_awake ?_
  have a1 := Add_eq (need := 2) (bs := [false, false, false, false, false, false, false, false]) 1 (h := h ++ [cntO 2 [false, false, false, false, false, false, false, false]]) (i := h.length) (by simp [cAt]) rfl
  have a2 := Add_eq (need := 2) (bs := [false, true, false, false, false, false, false, false]) 1 (h := h ++ [cntO 2 [false, true, false, false, false, false, false, false]]) (i := h.length) (by simp [cAt]) rfl
  have a3 := Add_eq (need := 2) (bs := [false, true, false, false, false, false, false, false]) 0 (h := h ++ [cntO 2 [false, true, false, false, false, false, false, false]]) (i := h.length) (by simp [cAt]) rfl
  have a4 := Add_eq (need := 2) (bs := [true, true, false, false, false, false, false, false]) 2 (h := h ++ [cntO 2 [true, true, false, false, false, false, false, false]]) (i := h.length) (by simp [cAt]) rfl
  have a5 := Len_eq (need := 2) (bs := [true, true, true, false, false, false, false, false]) (h := h ++ [cntO 2 [true, true, true, false, false, false, false, false]]) (i := h.length) (by simp [cAt]) rfl
  have a6 := Done_eq (need := 2) (bs := [true, true, true, false, false, false, false, false]) (h := h ++ [cntO 2 [true, true, true, false, false, false, false, false]]) (i := h.length) (by simp [cAt]) rfl
  simp [fresh, addB] at a1 a2 a3 a4 a5 a6
  simp [c_tattlerlaw21_awake, New_eq, a1, a2, a3, a4, a5, a6]
theorem Nil_eq (n : Int) (h : Heap) : callL E F.tattlerlaw21_QuorumNil [.int .i64 n] h = some (.bool true, h, ⟨true, false⟩) := by
  refine callL_of rfl fn_tattlerlaw21_QuorumNil ?_
  simp [c_tattlerlaw21_QuorumNil, Add_nil, Has_nil, Len_nil, Done_nil, awake_eq]
theorem tattlerlaw21_QuorumNil_top (n : Int) (_ : (Lit.int .i64 n).wf = true) : ∃ h fl, callL E F.tattlerlaw21_QuorumNil [.int .i64 n] [] = some (.bool true, h, fl) := ⟨_, _, Nil_eq n []⟩
end Go.Proofs.Ytphlgefkcghopaa.V
