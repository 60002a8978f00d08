/- HintsMany. -/
import Derived.Test.YthkfjefoblmbhaaVmHN
set_option linter.unusedVariables false
set_option linter.unusedSimpArgs false
namespace Go.Proofs.Ythkfjefoblmbhaa.V
open Go.Vm

theorem wrap_u8n {n : Int} (h1 : 0 ≤ n) (h2 : n ≤ 255) : IntKind.wrap .u8 n = n := by
  unfold IntKind.wrap
  simp [IntKind.signed, IntKind.bits]
  omega
/-- The i-th hint. -/
def mH (i : Nat) : Hnt := ⟨((i % 8 : Nat) : Int), ⟨[UInt8.ofNat (97 + i % 26), UInt8.ofNat (97 + i / 26)], zeroSib⟩⟩
theorem mH_may {i : Nat} : mayH (mH i) = true := by
  rw [mayH_iff]
  refine ⟨?_, ?_, rfl, zeroSib_may'⟩
  · show (0 : Int) ≤ ((i % 8 : Nat) : Int)
    omega
  · show ((i % 8 : Nat) : Int) < 8
    omega
theorem mH_key {i j : Nat} (hi : i < 200) (hj : j < 200) (h : (mH i).key = (mH j).key) : i = j := by
  have h0 : [UInt8.ofNat (97 + i % 26), UInt8.ofNat (97 + i / 26)] = [UInt8.ofNat (97 + j % 26), UInt8.ofNat (97 + j / 26)] := h
  simp only [List.cons.injEq, and_true] at h0
  obtain ⟨h1, h2⟩ := h0
  have e1 := congrArg UInt8.toNat h1
  have e2 := congrArg UInt8.toNat h2
  simp only [UInt8.toNat_ofNat'] at e1 e2
  omega
noncomputable def mL (m : Nat) : List Hnt := (List.range m).foldl (fun l i => putL l (mH i)) []
theorem mL_succ (m : Nat) : mL (m + 1) = putL (mL m) (mH m) := by
  unfold mL
  rw [List.range_succ, List.foldl_append]
  rfl
theorem mL_inv : ∀ m : Nat, HInv (mL m)
  | 0 => HInv.nil
  | m + 1 => by rw [mL_succ]; exact (mL_inv m).putL _
theorem mL_keys : ∀ (m : Nat), ∀ y ∈ mL m, ∃ j, j < m ∧ y.key = (mH j).key
  | 0, y, hy => by cases hy
  | m + 1, y, hy => by
    rw [mL_succ] at hy
    unfold putL at hy
    cases hb : mayH (mH m) && ((getH (mL m) (mH m).node (mH m).key).isSome || decide ((mL m).length < 64))
    · rw [hb] at hy
      obtain ⟨j, h1, h2⟩ := mL_keys m y hy
      exact ⟨j, by omega, h2⟩
    · rw [hb, cnd_true] at hy
      rcases putH_key hy with ⟨_, e⟩ | ⟨a, ha, _, e⟩
      · exact ⟨m, by omega, e⟩
      · obtain ⟨j, h1, h2⟩ := mL_keys m a ha
        exact ⟨j, by omega, e ▸ h2⟩
theorem mL_get {m : Nat} (hm : m < 200) : getH (mL m) (mH m).node (mH m).key = none := by
  cases hg : getH (mL m) (mH m).node (mH m).key with
  | none => rfl
  | some s =>
    obtain ⟨j, h1, h2⟩ := mL_keys m _ (getH_some hg)
    have := mH_key hm (by omega) h2
    omega
theorem mL_len : ∀ {m : Nat}, m < 200 → (mL m).length = min m 64
  | 0, _ => rfl
  | m + 1, hm => by
    have ih := mL_len (m := m) (by omega)
    rw [mL_succ]
    unfold putL
    rw [mH_may, mL_get (by omega), ih]
    simp only [Option.isSome_none, Bool.false_or, Bool.true_and]
    by_cases h : m < 64
    · rw [decide_eq_true (by omega), cnd_true, putH_len (mL_inv m).srt, mL_get (by omega), ih]
      simp
      omega
    · rw [decide_eq_false (by omega), cnd_false, ih]
      omega
theorem mL_put {m : Nat} (hm : m < 200) : putB (mL m) (mH m) = decide (m < 64) ∧ putE (mL m) (mH m) = cnd (decide (m < 64)) 0 11 := by
  unfold putB putE
  rw [mH_may, mL_get hm, mL_len hm]
  have : decide (min m 64 < 64) = decide (m < 64) := by
    by_cases h : m < 64
    · rw [decide_eq_true h, decide_eq_true (by omega)]
    · rw [decide_eq_false h, decide_eq_false (by omega)]
  rw [this]
  simp
theorem many_l0 (N : Nat) (hN : N < 200) (h : Heap) :
    loopRun (callL E) loopL h.length [0, 3, 13, 14] c_tattlerlaw11_HintsMany_l0 ⟨[(0, .int .i64 N), (3, .ptr (some (h.length, 0))), (13, .int .i64 N), (14, .int .i64 0)], h ++ [hsO []], .no⟩ =
      some (.exit 0, ⟨[(0, .int .i64 N), (3, .ptr (some (h.length, 0))), (13, .int .i64 N), (14, .int .i64 N), (15, .bool false)], h ++ [hsO (mL N)], ⟨[], [], decide (0 < N)⟩⟩) := by
  have k2 := loop_to (C := callL E) (fb := h.length) (live := [0, 3, 13, 14]) (c := c_tattlerlaw11_HintsMany_l0)
    (fun j => ⟨[(0, .int .i64 N), (3, .ptr (some (h.length, 0))), (13, .int .i64 N), (14, .int .i64 j)], h ++ [hsO (mL j)], ⟨[], [], decide (0 < j)⟩⟩) N
    (r := (.exit 0, ⟨[(0, .int .i64 N), (3, .ptr (some (h.length, 0))), (13, .int .i64 N), (14, .int .i64 N), (15, .bool false)], h ++ [hsO (mL N)], ⟨[], [], decide (0 < N)⟩⟩)) (fun j hj => ?_) ?_ rfl
  · exact k2
  · have hlt : (j : Int) < (N : Int) := by omega
    have h1 := i64_add1 (n := j) (by omega)
    obtain ⟨b, g⟩ := put_at0 (mL_inv j) (mH j) h []
    obtain ⟨p1, p2⟩ := mL_put (m := j) (by omega)
    rw [p1, p2, mH_may] at g
    have hw := wrLt_cnd (n := h.length) (i := h.length) (by omega) b
    have m8 : Int.tmod (j : Int) 8 = ((j % 8 : Nat) : Int) := by rw [Int.tmod_eq_emod_of_nonneg (by omega)]; omega
    have m26 : Int.tmod (j : Int) 26 = ((j % 26 : Nat) : Int) := by rw [Int.tmod_eq_emod_of_nonneg (by omega)]; omega
    have d26 : Int.tdiv (j : Int) 26 = ((j / 26 : Nat) : Int) := by rw [Int.tdiv_eq_ediv_of_nonneg (by omega)]; omega
    have w1 : IntKind.wrap .u8 (IntKind.wrap .i64 (97 + ((j % 26 : Nat) : Int))) = ((97 + j % 26 : Nat) : Int) := by
      rw [wrap_i64 (by omega) (by omega), wrap_u8n (by omega) (by omega)]
      omega
    have w0 : IntKind.wrap .i64 ((j / 26 : Nat) : Int) = ((j / 26 : Nat) : Int) := wrap_i64 (by omega) (by omega)
    have w2 : IntKind.wrap .u8 (IntKind.wrap .i64 (97 + ((j / 26 : Nat) : Int))) = ((97 + j / 26 : Nat) : Int) := by
      rw [wrap_i64 (by omega) (by omega), wrap_u8n (by omega) (by omega)]
      omega
    have t1 : (((97 + j % 26 : Nat) : Int)).toNat = 97 + j % 26 := by omega
    have t2 : (((97 + j / 26 : Nat) : Int)).toNat = 97 + j / 26 := by omega
    have hv : (mH j).v = .agg [.int .i64 ((j % 8 : Nat) : Int), .str [UInt8.ofNat (97 + j % 26), UInt8.ofNat (97 + j / 26)], .int .i64 0, .int .i64 0, .int .i64 0, .int .i64 0, .int .i64 0, .int .i64 0, .int .i64 0, .int .i64 0, .sl []] := rfl
    rw [hv, ← mL_succ] at g
    have ho := hs_lt (mL (j + 1))
    rw [s_round]
    generalize mL (j + 1) = P1 at *
    generalize mL j = P0 at *
    generalize j % 8 = a8 at *
    generalize j % 26 = a26 at *
    generalize j / 26 = q26 at *
    generalize hsO P1 = O1 at *
    generalize hsO P0 = O0 at *
    by_cases h64 : j < 64
    · have i64 : (j : Int) < 64 := by omega
      rw [decide_eq_true h64, cnd_true] at g
      simp [-getElem?_pos, -Int.natCast_add, -Int.toNat_natCast, -UInt8.ofNat_add, c_tattlerlaw11_HintsMany_l0, hlt, h1, g, hw, m8, m26, d26, w0, w1, w2, t1, t2, i64, ho, bytesOf]
    · have i64 : ¬ (j : Int) < 64 := by omega
      rw [decide_eq_false h64, cnd_false] at g
      simp [-getElem?_pos, -Int.natCast_add, -Int.toNat_natCast, -UInt8.ofNat_add, c_tattlerlaw11_HintsMany_l0, hlt, h1, g, hw, m8, m26, d26, w0, w1, w2, t1, t2, i64, ho, bytesOf]
  · rw [s_round]
    simp [c_tattlerlaw11_HintsMany_l0]
theorem HintsMany_eq (n : Int) (h : Heap) : ∃ fl, callL E F.tattlerlaw11_HintsMany [.int .i64 n] h = some (.bool true, h, fl) := by
  obtain ⟨N, hN, h60, h69⟩ : ∃ N : Nat, IntKind.wrap .i64 (60 + IntKind.wrap .i64 (Int.tmod (IntKind.wrap .u64 n) 10)) = (N : Int) ∧ 60 ≤ N ∧ N ≤ 69 := by
    have h0 := wrap_u64' n
    have h1 : 0 ≤ IntKind.wrap .u64 n := by rw [h0]; omega
    have h2 : Int.tmod (IntKind.wrap .u64 n) 10 = (IntKind.wrap .u64 n) % 10 := Int.tmod_eq_emod_of_nonneg h1
    refine ⟨(60 + (IntKind.wrap .u64 n) % 10).toNat, ?_, by omega, by omega⟩
    rw [h2, wrap_i64 (n := IntKind.wrap .u64 n % 10) (by omega) (by omega), wrap_i64 (by omega) (by omega)]
    omega
  have g3 := hintsNew_eq h
  have k0 := many_l0 N (by omega) h
  have gl : callL E F.hints_Set_Len [.ptr (some (h.length, 0))] (h ++ [hsO (mL N)]) = some (.int .i64 ((mL N).length), h ++ [hsO (mL N)], ⟨[], [], true⟩) := hintsLen_eq (by rw [hget_local0]; rfl) (mL_inv N)
  rw [mL_len (by omega)] at gl
  have g2 := fun L => awake11_eq (h ++ L)
  refine ⟨⟨[], [], true⟩, callL_of rfl fn_tattlerlaw11_HintsMany ?_⟩
  have hmin : (if (64 : Int) < (N : Int) then (64 : Int) else (N : Int)) = ((min N 64 : Nat) : Int) := by
    split <;> omega
  have hN0 : 0 < N := by omega
  generalize hsO (mL N) = OS at *
  generalize hsO [] = O0 at *
  generalize min N 64 = M at *
  simp [-getElem?_pos, c_tattlerlaw11_HintsMany, g2, g3, hN, k0, gl, hmin]
theorem tattlerlaw11_HintsMany_top {c0 : List V} (h0 : Ty.Has (.int .i64) c0) : ∃ h fl, callL E F.tattlerlaw11_HintsMany [Ty.el (.int .i64) c0] [] = some (.bool true, h, fl) := by
  obtain ⟨n, hn, rfl⟩ := h0
  obtain ⟨fl, hf⟩ := HintsMany_eq n []
  exact ⟨_, fl, hf⟩
end Go.Proofs.Ythkfjefoblmbhaa.V
