/- TableMany. -/
import Derived.Test.YtionebfmjjpnbaaVmTL
import Derived.Test.YtionebfmjjpnbaaVmTR
set_option linter.unusedVariables false
set_option linter.unusedSimpArgs false
namespace Go.Proofs.Ytionebfmjjpnbaa.V
open Go.Vm

def kM (i : Nat) : List UInt8 := [UInt8.ofNat (97 + i % 26), UInt8.ofNat (97 + i / 26)]
def eM (i : Nat) : Ent := ⟨kM i, zeroSib⟩
def tM (j : Nat) : List Ent := (List.range j).map eM
theorem kM_inj {i j : Nat} (hi : i < 1000) (hj : j < 1000) (h : kM i = kM j) : i = j := by
  unfold kM at h
  simp only [List.cons.injEq, and_true] at h
  have h1 := congrArg UInt8.toNat h.1
  have h2 := congrArg UInt8.toNat h.2
  simp only [UInt8.toNat_ofNat'] at h1 h2
  omega
theorem eM_may (i : Nat) : (eM i).may = true := by
  unfold Ent.may
  rw [show (eM i).sib.may = true from zeroSib_may]
  rfl
theorem tM_may (j : Nat) : AllMay (tM j) := fun e he => by
  obtain ⟨i, _, rfl⟩ := List.mem_map.1 he
  exact zeroSib_may
theorem tM_none {j i : Nat} (hj : j ≤ i) (hi : i < 1000) : findT (tM j) (kM i) = none := by
  unfold findT
  rw [Option.map_eq_none_iff, List.find?_eq_none]
  intro e he
  obtain ⟨q, hq, rfl⟩ := List.mem_map.1 he
  have hq := List.mem_range.1 hq
  simp only [decide_eq_true_eq]
  intro e
  have := kM_inj (i := q) (j := i) (by omega) hi e
  omega
theorem putT_new {l : List Ent} {k : List UInt8} {s : Sib} (h : findT l k = none) : putT l k s = l ++ [⟨k, s⟩] := by
  induction l with
  | nil => rfl
  | cons e l ih =>
    unfold findT at h ih
    rw [Option.map_eq_none_iff, List.find?_cons] at h
    split at h
    · cases h
    · rename_i hk
      have hk' : ¬ e.key = k := by simpa using hk
      unfold putT
      rw [if_neg hk', ih (by rw [h]; rfl)]
      rfl
theorem tM_now {j i : Nat} (hj : j ≤ i) (hi : i < 1000) : nowT (tM j) (eM i) = zeroSib := by
  unfold nowT
  rw [show (eM i).key = kM i from rfl, tM_none hj hi]
  exact zero_join zeroSib_may
theorem tM_put (j : Nat) (hj : j < 1000) : putT (tM j) (kM j) zeroSib = tM (j + 1) := by
  rw [putT_new (tM_none (Nat.le_refl j) hj)]
  unfold tM
  rw [List.range_succ, List.map_append]
  rfl
theorem many10_loop (n : Nat) (hn : n < 300) (h : Heap) :
    loopRun (callL E) loopL h.length [0, 3, 17, 18] c_tattlerlaw10_TableMany_l0 ⟨[(0, .int .i64 n), (3, .ptr (some (h.length + 1, 0))), (17, .int .i64 n), (18, .int .i64 0)], tabH h [], .no⟩ =
      some (.exit 0, ⟨[(0, .int .i64 n), (3, .ptr (some (h.length + 1, 0))), (17, .int .i64 n), (18, .int .i64 n), (19, .bool false)], tabH h (tM (min n 256)), .no⟩) := by
  have key := loop_to (C := callL E) (fb := h.length) (live := [0, 3, 17, 18]) (c := c_tattlerlaw10_TableMany_l0)
    (fun j => ⟨[(0, .int .i64 n), (3, .ptr (some (h.length + 1, 0))), (17, .int .i64 n), (18, .int .i64 j)], tabH h (tM (min j 256)), .no⟩) n
    (r := (.exit 0, ⟨[(0, .int .i64 n), (3, .ptr (some (h.length + 1, 0))), (17, .int .i64 n), (18, .int .i64 n), (19, .bool false)], tabH h (tM (min n 256)), .no⟩)) (fun j hj => ?_) ?_ rfl
  · rw [show ((0 : Nat) : Int) = 0 from rfl] at key
    exact key
  · have hlt : (j : Int) < (n : Int) := by omega
    have h1 := i64_add1 (n := j) (by omega)
    have m1 : (j : Int).tmod 26 = ((j % 26 : Nat) : Int) := by rw [Int.tmod_eq_emod_of_nonneg (by omega)]; omega
    have m2 : (j : Int).tdiv 26 = ((j / 26 : Nat) : Int) := by rw [Int.tdiv_eq_ediv_of_nonneg (by omega)]; omega
    have bb : bytesOf [V.int .u8 (IntKind.u8.wrap (IntKind.i64.wrap (97 + (j : Int) % 26))), V.int .u8 (IntKind.u8.wrap (IntKind.i64.wrap (97 + IntKind.i64.wrap ((j : Int) / 26))))] = some (kM j) := by
      have a1 : IntKind.i64.wrap (97 + (j : Int) % 26) = 97 + (j : Int) % 26 := by rw [wrap_i64] <;> omega
      have a2 : IntKind.i64.wrap ((j : Int) / 26) = (j : Int) / 26 := by rw [wrap_i64] <;> omega
      have a3 : IntKind.i64.wrap (97 + (j : Int) / 26) = 97 + (j : Int) / 26 := by rw [wrap_i64] <;> omega
      rw [a2, a1, a3]
      have u1 : IntKind.u8.wrap (97 + (j : Int) % 26) = 97 + (j : Int) % 26 := by
        show (97 + (j : Int) % 26) % 256 = _
        omega
      have u2 : IntKind.u8.wrap (97 + (j : Int) / 26) = 97 + (j : Int) / 26 := by
        show (97 + (j : Int) / 26) % 256 = _
        omega
      rw [u1, u2]
      simp only [bytesOf, bnd_some, kM, Option.some.injEq, List.cons.injEq, and_true]
      constructor <;> congr 1
    rw [s_round]
    by_cases h256 : j < 256
    · have e1 : (j : Int) < 256 := by omega
      rw [Nat.min_eq_left (by omega), Nat.min_eq_left (by omega)]
      have tl : (tM j).length = j := by simp [tM]
      have g1 := fun x => tabJoin_eq (tabH_app h (tM j) x) (tM_may j) (eM_may j) (.inr (by rw [tl]; omega)) (by rw [tl]; omega)
      rw [tM_now (Nat.le_refl j) (by omega), show (eM j).key = kM j from rfl, tM_none (Nat.le_refl j) (by omega), tM_put j (by omega)] at g1
      have ev : (eM j).v = .agg (.str (kM j) :: zeroSib.c) := rfl
      rw [ev] at g1
      unfold tabH at *
      simp only [List.append_assoc, List.cons_append, List.nil_append, zeroSib_v, zeroSib_c] at g1 ⊢
      generalize tM (j + 1) = T1 at *
      generalize tM j = T at *
      generalize kM j = K at *
      simp [-getElem?_pos, c_tattlerlaw10_TableMany_l0, hlt, hj, h1, m1, m2, bb, e1, g1]
      done
    · have e1 : ¬ (j : Int) < 256 := by omega
      rw [Nat.min_eq_right (by omega), Nat.min_eq_right (by omega)]
      have tl : (tM 256).length = 256 := by simp [tM]
      have g1 := fun x => tabJoin_full (tabH_app h (tM 256) x) (tM_may 256) (eM_may j) (tM_none (by omega) (by omega)) tl
      have ev : (eM j).v = .agg (.str (kM j) :: zeroSib.c) := rfl
      rw [ev] at g1
      unfold tabH at *
      simp only [List.append_assoc, List.cons_append, List.nil_append, zeroSib_v, zeroSib_c] at g1 ⊢
      generalize tM 256 = T at *
      generalize kM j = K at *
      simp [-getElem?_pos, c_tattlerlaw10_TableMany_l0, hlt, hj, h1, m1, m2, bb, e1, g1]
      done
  · rw [s_round]
    simp [c_tattlerlaw10_TableMany_l0]
theorem mod12 (a : Int) : ∃ n : Nat, n < 12 ∧ IntKind.i64.wrap ((IntKind.u64.wrap a).tmod 12) = (n : Int) := by
  have h0 : 0 ≤ IntKind.u64.wrap a := by
    show (0 : Int) ≤ a % 18446744073709551616
    omega
  rw [Int.tmod_eq_emod_of_nonneg h0]
  refine ⟨((IntKind.u64.wrap a) % 12).toNat, by omega, ?_⟩
  rw [wrap_i64] <;> omega
theorem tM_zero (j : Nat) (hj : 0 < j) : findT (tM j) (kM 0) = some zeroSib := by
  obtain ⟨q, rfl⟩ : ∃ q, j = q + 1 := ⟨j - 1, by omega⟩
  unfold tM
  rw [List.range_succ_eq_map]
  simp [findT, eM]
set_option maxRecDepth 4000 in
theorem TableMany_eq (a : Int) (h : Heap) : callL E F.tattlerlaw10_TableMany [.int .i64 a] h = some (.bool true, h, .no) := by
  refine callL_of rfl fn_tattlerlaw10_TableMany ?_
  have g5 := fun x => awake10_eq (h ++ x)
  have n0 := tabNew_eq h
  obtain ⟨m, hm, ea⟩ := mod12 a
  obtain ⟨n, hn0, hn, eb⟩ : ∃ n : Nat, 250 ≤ n ∧ n < 300 ∧ IntKind.i64.wrap (250 + IntKind.i64.wrap ((IntKind.u64.wrap a).tmod 12)) = (n : Int) :=
    ⟨250 + m, by omega, by omega, by rw [ea, wrap_i64] <;> omega⟩
  have lp := many10_loop n hn h
  have tl : (tM (min n 256)).length = min n 256 := by simp [tM]
  have hf := tM_zero (min n 256) (by omega)
  have g1 := fun X => tabJoin_eq (tabX h (tM (min n 256)) X) (tM_may _) (eM_may 0) (.inl (by rw [show (eM 0).key = kM 0 from rfl, hf]; rfl)) (by rw [tl]; omega)
  have hnow : nowT (tM (min n 256)) (eM 0) = zeroSib := by
    unfold nowT
    rw [show (eM 0).key = kM 0 from rfl, hf]
    exact zero_join zeroSib_may
  rw [hnow, show (eM 0).key = kM 0 from rfl, hf] at g1
  have hpl : (putT (tM (min n 256)) (kM 0) zeroSib).length = min n 256 := by rw [putT_same hf, tl]
  have hset1 : ∀ (A B : Vm.Obj) (X : Heap) (o : Vm.Obj), hset (h ++ (A :: B :: X)) h.length o = h ++ (o :: B :: X) := fun A B X o => by simp
  simp only [hset1] at g1
  have ev : (eM 0).v = .agg (.str [97, 97] :: zeroSib.c) := rfl
  rw [ev] at g1
  have l1 := fun X => tabLen_eq (tabX h (putT (tM (min n 256)) (kM 0) zeroSib) X)
  rw [hpl] at l1
  have hmn : (if (256 : Int) < (n : Int) then 256 else (n : Int)) = ((min n 256 : Nat) : Int) := by split <;> omega
  have m0 : mapE [] = [] := rfl
  unfold tabH at lp
  rw [m0] at lp
  simp only [Option.isSome_some, Option.getD_some, Bool.true_and, decide_true, zeroSib_v, zeroSib_c] at g1
  generalize putT (tM (min n 256)) (kM 0) zeroSib = T1 at *
  generalize tM (min n 256) = T at *
  generalize ((min n 256 : Nat) : Int) = M at *
  simp [-getElem?_pos, c_tattlerlaw10_TableMany, g5, n0, eb, lp, g1, l1, hmn]
  done
theorem tattlerlaw10_TableMany_top {c0 : List V} (h0 : Ty.Has (.int .i64) c0) : ∃ h fl, callL E F.tattlerlaw10_TableMany [Ty.el (.int .i64) c0] [] = some (.bool true, h, fl) := by
  obtain ⟨n, wn, rfl⟩ := i64_dec h0
  exact ⟨_, _, TableMany_eq n []⟩
end Go.Proofs.Ytionebfmjjpnbaa.V
