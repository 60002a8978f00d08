/- SibsMany. -/
import Derived.Test.YtfdhldbhbigfhaaVmSE
import Derived.Test.YtfdhldbhbigfhaaVmTP
set_option linter.unusedVariables false
set_option linter.unusedSimpArgs false
namespace Go.Proofs.Ytfdhldbhbigfhaa.V
open Go.Vm

/-- One value after the other, each by a node that has seen nothing. -/
def seqS (nd : Nat → Nat) : Nat → Sib
  | 0 => zeroSib
  | i + 1 => newS (seqS nd i) zeroVec (nd i) [UInt8.ofNat i] false
theorem kept_zero (s : Sib) : kept s zeroVec = s.vals := by
  unfold kept
  rw [List.filter_eq_self]
  intro v _
  simp [zero_covers]
theorem zero_at : ∀ k, k < 8 → zeroVec.at k = 0 := by decide
theorem join_zeroV {v : Vec} (h : v.may = true) : v.join zeroVec = v := by
  apply Vec.ext_at
  intro k hk
  rw [join_at _ _ hk]
  have := ((vecMay_at _).1 h) k hk
  have hz := zero_at k hk
  omega
theorem seq_facts {nd : Nat → Nat} (hnd : ∀ i, nd i < 8) : ∀ i, i ≤ 16 → (seqS nd i).may = true ∧ (seqS nd i).vals.length = i ∧ ∀ k, k < 8 → (seqS nd i).seen.at k ≤ i
  | 0, _ => ⟨zeroSib_may, rfl, fun k hk => by
      show zeroVec.at k ≤ 0
      rw [zero_at k hk]; exact Int.le_refl _⟩
  | i + 1, hi => by
    obtain ⟨h1, h2, h3⟩ := seq_facts hnd i (by omega)
    have hj := join_zeroV (seen_may h1)
    have hat : ((seqS nd i).seen.join zeroVec).at (nd i) < 1099511627776 := by
      rw [hj]
      have := h3 (nd i) (hnd i)
      omega
    have hk : (kept (seqS nd i) zeroVec).length < 16 := by rw [kept_zero]; omega
    refine ⟨new_may h1 zeroVec_may (hnd i) (by simp [mayV]) hat hk, ?_, ?_⟩
    · show (insertV _ _).length = _
      rw [insertV_len, kept_zero, h2]
    · intro k hk8
      show (newS _ _ _ _ _).seen.at k ≤ _
      rw [new_at h1 zeroVec_may (hnd i), hj]
      have h4 := h3 (nd i) (hnd i)
      have h5 := h3 k hk8
      split <;> omega
theorem seq_put {nd : Nat → Nat} (hnd : ∀ i, nd i < 8) {i : Nat} (hi : i < 16) (l : List UInt8) : putS (seqS nd i) zeroVec (nd i) l false = (newS (seqS nd i) zeroVec (nd i) l false, 0) := by
  obtain ⟨h1, h2, h3⟩ := seq_facts hnd i (by omega)
  refine putS_ok ?_ ?_
  · rw [join_zeroV (seen_may h1)]
    have := h3 (nd i) (hnd i)
    omega
  · rw [kept_zero]; omega
theorem seq_full {nd : Nat → Nat} (hnd : ∀ i, nd i < 8) (n : Nat) (l : List UInt8) : putS (seqS nd 16) zeroVec n l false = (zeroSib, 11) := by
  obtain ⟨h1, h2, h3⟩ := seq_facts hnd 16 (by omega)
  rcases putS_cases (seqS nd 16) zeroVec n l false with e | ⟨_, _, e⟩
  · exact e
  · rw [kept_zero] at e; omega
def rowV (node : Int) (i : Nat) : Val := ⟨⟨node, i + 1⟩, [UInt8.ofNat i], false⟩
def rowA (i : Nat) : Sib := ⟨⟨[(i : Int), 0, 0, 0, 0, 0, 0, 0], rfl⟩, (List.range i).map (rowV 0)⟩
def rowB (i : Nat) : Sib := ⟨⟨[0, (i : Int), 0, 0, 0, 0, 0, 0], rfl⟩, (List.range i).map (rowV 1)⟩
theorem rowA_step : ∀ i, i < 10 → newS (rowA i) zeroVec 0 [UInt8.ofNat i] false = rowA (i + 1) := by decide
theorem rowB_step : ∀ i, i < 10 → newS (rowB i) zeroVec 1 [UInt8.ofNat i] false = rowB (i + 1) := by decide
theorem seqA : ∀ i, i ≤ 10 → seqS (fun _ => 0) i = rowA i
  | 0, _ => rfl
  | i + 1, h => by
    show newS (seqS (fun _ => 0) i) zeroVec 0 _ _ = _
    rw [seqA i (by omega), rowA_step i (by omega)]
theorem seqB : ∀ i, i ≤ 10 → seqS (fun _ => 1) i = rowB i
  | 0, _ => rfl
  | i + 1, h => by
    show newS (seqS (fun _ => 1) i) zeroVec 1 _ _ = _
    rw [seqB i (by omega), rowB_step i (by omega)]
def rowJ : Sib := ⟨⟨[10, 10, 0, 0, 0, 0, 0, 0], rfl⟩, (List.range 10).map (rowV 0) ++ (List.range 6).map (rowV 1)⟩
theorem rowJ_eq : (rowA 10).join (rowB 10) = rowJ := by
  have h1 := (seq_facts (nd := fun _ => 0) (fun _ => by omega) 10 (by omega)).1
  have h2 := (seq_facts (nd := fun _ => 1) (fun _ => by omega) 10 (by omega)).1
  rw [seqA 10 (by omega)] at h1
  rw [seqB 10 (by omega)] at h2
  unfold Sib.join
  rw [h1, h2]
  decide
theorem byte_small (i : Nat) : bytesV [UInt8.ofNat i] = .sl [byteV (UInt8.ofNat i)] := rfl
theorem wrap_u8 {i : Nat} (hi : i < 256) : IntKind.u8.wrap (i : Int) = i := by
  show ((i : Int) % 256) = i
  omega
theorem mod8 (a : Int) : ∃ n : Nat, n < 8 ∧ IntKind.i64.wrap ((IntKind.u64.wrap a).tmod 8) = (n : Int) := by
  have h0 : 0 ≤ IntKind.u64.wrap a := by
    show (0 : Int) ≤ a % 18446744073709551616
    omega
  rw [Int.tmod_eq_emod_of_nonneg h0]
  refine ⟨((IntKind.u64.wrap a) % 8).toNat, by omega, ?_⟩
  rw [wrap_i64] <;> omega
theorem zeroVec_v : zeroVec.v = .agg [.int .i64 0, .int .i64 0, .int .i64 0, .int .i64 0, .int .i64 0, .int .i64 0, .int .i64 0, .int .i64 0] := rfl
abbrev mS (i : Nat) : Sib := seqS (fun i => i % 8) i
theorem many0 (n : Nat) (hn : n < 20) (h : Heap) :
    loopRun (callL E) loopL h.length [3, 17, 18] c_tattlerlaw5_SibsMany_l0 ⟨[(3, .ptr (some (h.length, 0))), (17, .int .i64 n), (18, .int .i64 0)], h ++ [.cells zeroSib.c []], .no⟩ =
      some (.exit 0, ⟨[(3, .ptr (some (h.length, 0))), (17, .int .i64 n), (18, .int .i64 n), (19, .bool false)], h ++ [.cells (mS (min n 16)).c []], .no⟩) := by
  have key := loop_to (C := callL E) (fb := h.length) (live := [3, 17, 18]) (c := c_tattlerlaw5_SibsMany_l0)
    (fun j => ⟨[(3, .ptr (some (h.length, 0))), (17, .int .i64 n), (18, .int .i64 j)], h ++ [.cells (mS (min j 16)).c []], .no⟩) n
    (r := (.exit 0, ⟨[(3, .ptr (some (h.length, 0))), (17, .int .i64 n), (18, .int .i64 n), (19, .bool false)], h ++ [.cells (mS (min n 16)).c []], .no⟩)) (fun j hj => ?_) ?_ rfl
  · rw [show ((0 : Nat) : Int) = 0 from rfl] at key
    exact key
  · have hnd : ∀ i, (fun i => i % 8) i < 8 := fun i => Nat.mod_lt i (by omega)
    have hlt : (j : Int) < (n : Int) := by omega
    have h1 := i64_add1 (n := j) (by omega)
    have hb := byte_small j
    have hw := wrap_u8 (i := j) (by omega)
    have hm8 : (j : Int).tmod 8 = ((j % 8 : Nat) : Int) := by
      rw [Int.tmod_eq_emod_of_nonneg (by omega)]; omega
    rw [s_round]
    by_cases h16 : j < 16
    · rw [Nat.min_eq_left (by omega), Nat.min_eq_left (by omega)]
      obtain ⟨f1, f2, f3⟩ := seq_facts hnd j (by omega)
      have hg : ¬ (16 : Int) ≤ (j : Int) := by omega
      have p1 := fun l => sibsPut_eq (mS j) f1 zeroVec zeroVec_may (hnd j) [UInt8.ofNat j] false (by simp [mayV]) (h ++ l)
      rw [seq_put hnd h16] at p1
      have hlen : (mS (j + 1)).vals.length = j + 1 := (seq_facts hnd (j + 1) (by omega)).2.1
      rw [show newS (seqS (fun i => i % 8) j) zeroVec ((fun i => i % 8) j) [UInt8.ofNat j] false = mS (j + 1) from rfl] at p1
      generalize mS (j + 1) = T at *
      generalize mS j = S at *
      rw [hb, zeroVec_v] at p1
      simp only [Sib.v] at p1
      have hq : ((j % 8 : Nat) : Int) = (j : Int) % 8 := by omega
      generalize j % 8 = m at p1 hm8
      simp [-getElem?_pos, c_tattlerlaw5_SibsMany_l0, hlt, h1, hj, hw, hm8, hg, p1, hlen]
      done
    · rw [Nat.min_eq_right (by omega), Nat.min_eq_right (by omega)]
      obtain ⟨f1, f2, f3⟩ := seq_facts hnd 16 (by omega)
      have hg : (16 : Int) ≤ (j : Int) := by omega
      have p1 := fun l => sibsPut_eq (mS 16) f1 zeroVec zeroVec_may (hnd j) [UInt8.ofNat j] false (by simp [mayV]) (h ++ l)
      rw [seq_full hnd] at p1
      generalize mS 16 = S at *
      rw [hb, zeroVec_v] at p1
      simp only [Sib.v] at p1
      generalize j % 8 = m at p1 hm8
      simp [-getElem?_pos, c_tattlerlaw5_SibsMany_l0, hlt, h1, hj, hw, hm8, hg, p1, zeroSib_c]
      done
  · rw [s_round]
    simp [c_tattlerlaw5_SibsMany_l0]
theorem many1 (A : Vm.Obj) (h : Heap) :
    loopRun (callL E) loopL h.length [7, 8, 56] c_tattlerlaw5_SibsMany_l1 ⟨[(7, .ptr (some (h.length + 1, 0))), (8, .ptr (some (h.length + 2, 0))), (56, .int .i64 0)], h ++ [A, .cells zeroSib.c [], .cells zeroSib.c []], .no⟩ =
      some (.exit 2, ⟨[(7, .ptr (some (h.length + 1, 0))), (8, .ptr (some (h.length + 2, 0))), (56, .int .i64 10), (57, .bool false)], h ++ [A, .cells (rowA 10).c [], .cells (rowB 10).c []], .no⟩) := by
  have key := loop_to (C := callL E) (fb := h.length) (live := [7, 8, 56]) (c := c_tattlerlaw5_SibsMany_l1)
    (fun j => ⟨[(7, .ptr (some (h.length + 1, 0))), (8, .ptr (some (h.length + 2, 0))), (56, .int .i64 j)], h ++ [A, .cells (rowA j).c [], .cells (rowB j).c []], .no⟩) 10
    (r := (.exit 2, ⟨[(7, .ptr (some (h.length + 1, 0))), (8, .ptr (some (h.length + 2, 0))), (56, .int .i64 10), (57, .bool false)], h ++ [A, .cells (rowA 10).c [], .cells (rowB 10).c []], .no⟩)) (fun j hj => ?_) ?_ rfl
  · rw [show ((0 : Nat) : Int) = 0 from rfl] at key
    exact key
  · have ha : ∀ i, (fun _ : Nat => 0) i < 8 := fun i => by simp
    have hbb : ∀ i, (fun _ : Nat => 1) i < 8 := fun i => by simp
    have hlt : (j : Int) < 10 := by omega
    have h1 := i64_add1 (n := j) (by omega)
    have hb := byte_small j
    have hw := wrap_u8 (i := j) (by omega)
    obtain ⟨f1, f2, f3⟩ := seq_facts ha j (by omega)
    obtain ⟨e1, e2, e3⟩ := seq_facts hbb j (by omega)
    have q1 := seq_put ha (show j < 16 by omega) [UInt8.ofNat j]
    have q2 := seq_put hbb (show j < 16 by omega) [UInt8.ofNat j]
    rw [seqA j (by omega)] at f1 q1
    rw [seqB j (by omega)] at e1 q2
    rw [rowA_step j hj] at q1
    rw [rowB_step j hj] at q2
    have p1 := fun l => sibsPut_eq (rowA j) f1 zeroVec zeroVec_may (n := 0) (by omega) [UInt8.ofNat j] false (by simp [mayV]) (h ++ l)
    have p2 := fun l => sibsPut_eq (rowB j) e1 zeroVec zeroVec_may (n := 1) (by omega) [UInt8.ofNat j] false (by simp [mayV]) (h ++ l)
    rw [q1] at p1
    rw [q2] at p2
    generalize rowA (j + 1) = A' at *
    generalize rowB (j + 1) = B' at *
    generalize rowA j = A0 at *
    generalize rowB j = B0 at *
    rw [hb, zeroVec_v] at p1 p2
    simp only [Sib.v] at p1 p2
    rw [show ((0 : Nat) : Int) = 0 from rfl] at p1
    rw [show ((1 : Nat) : Int) = 1 from rfl] at p2
    rw [s_round]
    simp [-getElem?_pos, c_tattlerlaw5_SibsMany_l1, hlt, h1, hj, hw, p1, p2]
    done
  · rw [s_round]
    simp [c_tattlerlaw5_SibsMany_l1]
theorem rowA_may : (rowA 10).may = true := by
  rw [← seqA 10 (by omega)]; exact (seq_facts (fun _ => by omega) 10 (by omega)).1
theorem rowB_may : (rowB 10).may = true := by
  rw [← seqB 10 (by omega)]; exact (seq_facts (fun _ => by omega) 10 (by omega)).1
set_option maxRecDepth 4000 in
theorem SibsMany_eq (a : Int) (h : Heap) : callL E F.tattlerlaw5_SibsMany [.int .i64 a] h = some (.bool true, h, .no) := by
  refine callL_of rfl fn_tattlerlaw5_SibsMany ?_
  have g5 := fun l => awake5_eq (h ++ l)
  obtain ⟨m, hm, ea⟩ := mod8 a
  obtain ⟨n, hn, eb⟩ : ∃ n : Nat, n < 20 ∧ IntKind.i64.wrap (12 + IntKind.i64.wrap ((IntKind.u64.wrap a).tmod 8)) = (n : Int) :=
    ⟨12 + m, by omega, by rw [ea, wrap_i64] <;> omega⟩
  have lp0 := many0 n hn h
  generalize mS (min n 16) = S at lp0
  have lp1 := many1 (.cells S.c []) h
  have j1 := fun l => sibsJoin_eq (rowA 10) (rowB 10) (h ++ l)
  rw [rowJ_eq] at j1
  have hJ : rowJ.may = true := by rw [← rowJ_eq]; exact join_may rowA_may rowB_may
  have m1 := fun l => sibsMay_eq rowJ (h ++ l)
  rw [hJ] at m1
  have ra : (rowA 10).vals.length = 10 := by decide
  have rb : (rowB 10).vals.length = 10 := by decide
  have rj : rowJ.vals.length = 16 := by decide
  have c0 : rowJ.c[0]? = some (.int .i64 10) := rfl
  have c1 : rowJ.c[1]? = some (.int .i64 10) := rfl
  have x9 : rowJ.vals[9]? = some (rowV 0 9) := by decide
  have x15 : rowJ.vals[15]? = some (rowV 1 5) := by decide
  have d9 : (rowV 0 9).c = [.int .i64 0, .int .i64 10, bytesV [9], .bool false] := rfl
  have d15 : (rowV 1 5).c = [.int .i64 1, .int .i64 6, bytesV [5], .bool false] := rfl
  simp only [Sib.v] at j1 m1
  rw [zeroSib_c] at lp0 lp1
  generalize rowA 10 = A at *
  generalize rowB 10 = B at *
  generalize rowJ = J at *
  simp [-getElem?_pos, c_tattlerlaw5_SibsMany, g5, eb, lp0, lp1, j1, m1, ra, rb, rj, c0, c1, x9, x15, d9, d15]
  done
theorem tattlerlaw5_SibsMany_top {c0 : List V} (h0 : Ty.Has (.int .i64) c0) : ∃ h fl, callL E F.tattlerlaw5_SibsMany [Ty.el (.int .i64) c0] [] = some (.bool true, h, fl) := by
  obtain ⟨n, wn, rfl⟩ := i64_dec h0
  exact ⟨_, _, SibsMany_eq n []⟩
end Go.Proofs.Ytfdhldbhbigfhaa.V
