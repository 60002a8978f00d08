/- CoordApart: the law. -/
import Derived.Test.YtklmddbnjookiaaVmCPE
set_option linter.unusedVariables false
set_option linter.unusedSimpArgs false
set_option linter.unusedSectionVars false
namespace Go.Proofs.Ytklmddbnjookiaa.V
open Go.Vm

theorem begun_get {h : Heap} {i mi : Nat} {wait last : Int} {ans : List Ans} {ops : List (Int × Nat)} {n need : Nat} {key : List UInt8} {s : Sib} {wr : Bool} {k : Nat} (hk : k < h.length) (h1 : k ≠ i) (h2 : k ≠ mi) : hget (begun h i mi wait last ans ops n need key s wr) k = hget h k := by
  unfold begun
  rw [hgetS_ne (by rw [hset_len]; exact hk) (Ne.symm h2), ← List.append_nil (hset h i _), hgetS_ne hk (Ne.symm h1)]
theorem apart_start (h : Heap) (nA nB : Nat) (hA : 2 ≤ nA) (hB : 2 ≤ nB) (la lb : List Sib) :
    ∃ H0 H1 H2 H3, H0 = new0 (new0 h 9) 9 ∧ callL E F.coord_Coord_Read [.ptr (some (h.length + 1, 0)), .int .i64 0, .int .i64 nA, .str [97], zeroSib.v] H0 = some (.tup [.int .i64 1, .int .i64 0], H1, ⟨[h.length + 1, h.length], [h.length], false⟩) ∧
      callL E F.coord_Coord_Read [.ptr (some (h.length + 1, 0)), .int .i64 0, .int .i64 nB, .str [98], zeroSib.v] H1 = some (.tup [.int .i64 2, .int .i64 0], H2, ⟨[h.length + 1, h.length], [h.length], false⟩) ∧
      callL E F.coord_Coord_Read [.ptr (some (h.length + 3, 0)), .int .i64 0, .int .i64 nA, .str [97], zeroSib.v] H2 = some (.tup [.int .i64 1, .int .i64 0], H3, ⟨[h.length + 3, h.length + 2], [h.length + 2], false⟩) ∧
      PAt h.length nA nB h H3 la lb 0 0 [] [] ∧ h.length + 3 < H0.length := by
  have tc := new0_at h 9
  have l0 := new0_len h 9
  have td := new0_at (new0 h 9) 9
  have l1 := new0_len (new0 h 9) 9
  have tk : (new0 (new0 h 9) 9).take h.length = h := by simp [new0]
  have tc' : CAt (new0 (new0 h 9) 9) (h.length + 1) h.length 9 0 [] [] := tc.app _
  rw [l0] at td l1
  rw [show h.length + 2 + 1 = h.length + 3 by omega] at td
  rw [show h.length + 2 + 2 = h.length + 4 by omega] at l1
  generalize hH0 : new0 (new0 h 9) 9 = H0 at *
  have g1 := coordRead_ok tc' 0 nA (by omega) (by omega) kA zeroSib kA_may (by simp) (by omega) (by omega) rfl
  have c1 := begun_at tc' 0 nA kA zeroSib false
  have u1 := begun_op tc' 0 nA kA zeroSib false zeroSib_may
  have b1 := begun_len (h := H0) (i := h.length + 1) (mi := h.length) (wait := 9) (last := 0) (ans := []) (ops := []) 0 nA kA zeroSib false
  have k1 := begun_take tc' 0 nA kA zeroSib false (m := h.length) (by omega) (by omega)
  have d1 := td.frame (H' := begun H0 (h.length + 1) h.length 9 0 [] [] 0 nA kA zeroSib false) (begun_get (by omega) (by omega) (by omega)) (begun_get (by omega) (by omega) (by omega))
  rw [tk] at k1
  rw [l1] at c1 u1 b1
  simp only [List.nil_append, show (0 : Int) + 1 = 1 from rfl] at c1 g1
  rw [show h.length + 4 + 3 = h.length + 7 by omega] at c1 u1
  rw [show h.length + 4 + 2 = h.length + 6 by omega] at u1
  rw [show h.length + 4 + 4 = h.length + 8 by omega] at b1
  generalize begun H0 (h.length + 1) h.length 9 0 [] [] 0 nA kA zeroSib false = H1 at *
  have g2 := coordRead_ok c1 0 nB (by omega) (by omega) kB zeroSib kB_may (by simp) (by omega) (by omega) rfl
  have c2 := begun_at c1 0 nB kB zeroSib false
  have u2 := begun_op c1 0 nB kB zeroSib false zeroSib_may
  have u1b := begun_old c1 0 nB kB zeroSib false u1
  have b2 := begun_len (h := H1) (i := h.length + 1) (mi := h.length) (wait := 9) (last := 1) (ans := []) (ops := [(1, h.length + 7)]) 0 nB kB zeroSib false
  have k2 := begun_take c1 0 nB kB zeroSib false (m := h.length) (by omega) (by omega)
  have d2 := d1.frame (H' := begun H1 (h.length + 1) h.length 9 1 [] [(1, h.length + 7)] 0 nB kB zeroSib false) (begun_get (by omega) (by omega) (by omega)) (begun_get (by omega) (by omega) (by omega))
  rw [k1] at k2
  rw [b1] at c2 u2 b2
  simp only [List.cons_append, List.nil_append, show (1 : Int) + 1 = 2 from rfl] at c2 g2
  rw [show h.length + 8 + 3 = h.length + 11 by omega] at c2 u2
  rw [show h.length + 8 + 2 = h.length + 10 by omega] at u2
  rw [show h.length + 8 + 4 = h.length + 12 by omega] at b2
  generalize begun H1 (h.length + 1) h.length 9 1 [] [(1, h.length + 7)] 0 nB kB zeroSib false = H2 at *
  have g3 := coordRead_ok d2 0 nA (by omega) (by omega) kA zeroSib kA_may (by simp) (by omega) (by omega) rfl
  have d3 := begun_at d2 0 nA kA zeroSib false
  have u3 := begun_op d2 0 nA kA zeroSib false zeroSib_may
  have u1c := begun_old d2 0 nA kA zeroSib false u1b
  have u2c := begun_old d2 0 nA kA zeroSib false u2
  have b3 := begun_len (h := H2) (i := h.length + 3) (mi := h.length + 2) (wait := 9) (last := 0) (ans := []) (ops := []) 0 nA kA zeroSib false
  have k3 := begun_take d2 0 nA kA zeroSib false (m := h.length) (by omega) (by omega)
  have c3 := c2.frame (H' := begun H2 (h.length + 3) (h.length + 2) 9 0 [] [] 0 nA kA zeroSib false) (begun_get (by omega) (by omega) (by omega)) (begun_get (by omega) (by omega) (by omega))
  rw [k2] at k3
  rw [b2] at d3 u3 b3
  simp only [List.nil_append, show (0 : Int) + 1 = 1 from rfl] at d3 g3
  rw [show h.length + 12 + 3 = h.length + 15 by omega] at d3 u3
  rw [show h.length + 12 + 2 = h.length + 14 by omega] at u3
  rw [show h.length + 12 + 4 = h.length + 16 by omega] at b3
  generalize begun H2 (h.length + 3) (h.length + 2) 9 0 [] [] 0 nA kA zeroSib false = H3 at *
  refine ⟨H0, H1, H2, H3, rfl, g1, g2, g3, ⟨⟨_, c3, ⟨fun _ => ⟨rfl, u1c⟩, fun h => (by omega)⟩, ⟨fun _ => ⟨rfl, u2c⟩, fun h => (by omega)⟩, (by simp)⟩, ⟨_, d3, ⟨fun _ => ⟨rfl, u3⟩, fun h => (by omega)⟩, (by simp)⟩, rfl, fun a ha => (by cases ha), Nat.le_refl _, Nat.le_refl _, k3, b3⟩, by omega⟩
theorem mod5b (a : Int) : ∃ n : Nat, n < 5 ∧ IntKind.i64.wrap ((IntKind.u64.wrap a).tmod 5) = (n : Int) := modN a 5 (by omega) (by omega)
theorem apart_tail {b nA nB : Nat} {h H : Heap} {la lb : List Sib} {jA jB : Nat} {ansC ansD : List Ans} (y : PAt b nA nB h H la lb jA jB ansC ansD) :
    ∃ H1 H2, callL E F.coord_Coord_Answers [.ptr (some (b + 1, 0))] H = some (.sl (ansC.map Ans.v), H1, .w [b + 1]) ∧ callL E F.coord_Coord_Answers [.ptr (some (b + 3, 0))] H1 = some (.sl (ansD.map Ans.v), H2, .w [b + 3]) ∧ H1.length = b + 16 ∧ H2.take b = h := by
  obtain ⟨opsC, t, _, _, _⟩ := y.c_
  obtain ⟨opsD, td, _, _⟩ := y.d_
  have hlen := y.len
  have g1 := coordAnswers_eq t
  have td' := td.frame (H' := hset H (b + 1) (coordO 9 2 b [])) (hsets_ne (by omega) (by omega) _) (hsets_ne (by omega) (by omega) _)
  have g2 := coordAnswers_eq td'
  refine ⟨_, _, g1, g2, by rw [hset_len, hlen], ?_⟩
  rw [take_hset_le (by omega), take_hset_le (by omega)]
  exact y.pre
theorem CoordApart_eq (la lb : List Sib) (na nb : Int) (hla : la.length ≤ 140737488355328) (hlb : lb.length ≤ 140737488355328) (h : Heap) :
    callL E F.tattlerlaw22_CoordApart [.sl (la.map Sib.v), .sl (lb.map Sib.v), .int .i64 na, .int .i64 nb] h = some (.bool true, h, .no) := by
  refine callL_of rfl fn_tattlerlaw22_CoordApart ?_
  obtain ⟨a0, ha0, hmodA⟩ := mod5b na
  obtain ⟨nA, hnA⟩ : ∃ n, n = a0 + 2 := ⟨_, rfl⟩
  have hwA : IntKind.i64.wrap ((a0 : Int) + 2) = (nA : Int) := by rw [wrap_i64] <;> omega
  obtain ⟨b0, hb0, hmodB⟩ := mod5b nb
  obtain ⟨nB, hnB⟩ : ∃ n, n = b0 + 2 := ⟨_, rfl⟩
  have hwB : IntKind.i64.wrap ((b0 : Int) + 2) = (nB : Int) := by rw [wrap_i64] <;> omega
  have g0 := awake22_eq h
  have hmla : (la.map Sib.v).length = la.length := by simp
  have hmlb : (lb.map Sib.v).length = lb.length := by simp
  by_cases h1 : 7 < la.length
  · have h1' : (7 : Int) < (la.length : Int) := by omega
    generalize la.map Sib.v = LA at *
    generalize lb.map Sib.v = LB at *
    simp [-getElem?_pos, c_tattlerlaw22_CoordApart, hmodA, hwA, hmodB, hwB, hmla, hmlb, h1', g0]
    done
  · have h1' : ¬ (7 : Int) < (la.length : Int) := by omega
    by_cases h2 : 7 < lb.length
    · have h2' : (7 : Int) < (lb.length : Int) := by omega
      generalize la.map Sib.v = LA at *
      generalize lb.map Sib.v = LB at *
      simp [-getElem?_pos, c_tattlerlaw22_CoordApart, hmodA, hwA, hmodB, hwB, hmla, hmlb, h1', h2', g0]
      done
    · have h2' : ¬ (7 : Int) < (lb.length : Int) := by omega
      rcases apart_scan2 h la lb nA nB (by omega) (by omega) with ⟨⟨hma, hmb⟩, sc⟩ | ⟨x, sc⟩
      · obtain ⟨H0, H1, H2, H3, e0, g1, g2, g3, y0, hl0⟩ := apart_start h nA nB (by omega) (by omega) la lb
        have n1 := coordNew_eq 9 h
        rw [show h ++ [.map [], coordO (max 1 9) 0 h.length []] = new0 h 9 from rfl] at n1
        have n2 := coordNew_eq 9 (new0 h 9)
        rw [show new0 h 9 ++ [.map [], coordO (max 1 9) 0 (new0 h 9).length []] = new0 (new0 h 9) 9 from rfl, ← e0, new0_len, show h.length + 2 + 1 = h.length + 3 by omega] at n2
        obtain ⟨r, lp, H4, ansC, ansD, jA, jB, hjA, hjB, y, rfl⟩ := apart_rounds h.length nA nB h la lb (by omega) (by omega) hma hmb H3 y0
        obtain ⟨H5, H6, q1, q2, hl5, hpre⟩ := apart_tail y
        have hlc := y.lc
        have ml := mine_loop H5 h.length (h.length + 3) (by omega) (by omega) ansC (by omega) [h.length, h.length + 2]
        rw [y.same] at ml
        have hmay := y.may
        have hmc : (ansC.map Ans.v).length = ansC.length := by simp
        have g4 := awake22_eq H6
        have hz : zeroSib.v = .agg [.int .i64 0, .int .i64 0, .int .i64 0, .int .i64 0, .int .i64 0, .int .i64 0, .int .i64 0, .int .i64 0, .sl []] := rfl
        rw [hz] at g1 g2 g3
        generalize la.map Sib.v = LA at *
        generalize lb.map Sib.v = LB at *
        generalize ansC.map Ans.v = AC at *
        generalize new0 h 9 = HN at *
        cases ansD with
        | nil =>
          simp only [List.map_nil] at ml q2
          simp [-getElem?_pos, c_tattlerlaw22_CoordApart, hmodA, hwA, hmodB, hwB, hmla, hmlb, h1', h2', sc, n1, n2, g1, g2, g3, addE, lp, q1, q2, hmc, ml, g4, hpre]
          done
        | cons a rest =>
          have ham := may_len (hmay a (by simp))
          have g5 := fun hp => same_eq a.sib a.sib (by omega) hp
          simp only [decide_true, Sib.v] at g5
          have w2 : List.take 9 (a.c.drop 2) = a.sib.c := List.take_of_length_le (by simp)
          simp only [List.map_cons] at ml q2
          have hal : (rest.map Ans.v).length = rest.length := by simp
          have k0 : ((((rest.length : Nat) : Int) + 1) == 0) = false := by simp; omega
          simp [-getElem?_pos, c_tattlerlaw22_CoordApart, hmodA, hwA, hmodB, hwB, hmla, hmlb, h1', h2', sc, n1, n2, g1, g2, g3, addE, lp, q1, q2, hmc, ml, g4, hpre, g5, w2, hal, k0]
          done
      · generalize la.map Sib.v = LA at *
        generalize lb.map Sib.v = LB at *
        simp [-getElem?_pos, c_tattlerlaw22_CoordApart, hmodA, hwA, hmodB, hwB, hmla, hmlb, h1', h2', sc]
        done
theorem tattlerlaw22_CoordApart_top {c0 c1 c2 c3 : List V} (h0 : Ty.Has (.sl sibT) c0) (h1 : Ty.Has (.sl sibT) c1) (h2 : Ty.Has (.int .i64) c2) (h3 : Ty.Has (.int .i64) c3) : ∃ h fl, callL E F.tattlerlaw22_CoordApart [Ty.el (.sl sibT) c0, Ty.el (.sl sibT) c1, Ty.el (.int .i64) c2, Ty.el (.int .i64) c3] [] = some (.bool true, h, fl) := by
  have dec : ∀ {c : List V}, Ty.Has (.sl sibT) c → ∃ l : List Sib, l.length ≤ reachLen ∧ c = [.sl (l.map Sib.v)] := fun hc => by
    obtain ⟨l, wl, rfl, _⟩ := slice_of (f := Sib.v) (Q := fun _ => True) (fun ys hy => by
      obtain ⟨x, _, rfl⟩ := Sib.dec hy
      exact ⟨x, trivial, rfl⟩) hc
    exact ⟨l, wl, rfl⟩
  obtain ⟨la, wa, rfl⟩ := dec h0
  obtain ⟨lb, wb, rfl⟩ := dec h1
  obtain ⟨a, _, rfl⟩ := i64_dec h2
  obtain ⟨b, _, rfl⟩ := i64_dec h3
  exact ⟨_, _, CoordApart_eq la lb a b (by unfold reachLen at wa; omega) (by unfold reachLen at wb; omega) []⟩
end Go.Proofs.Ytklmddbnjookiaa.V
