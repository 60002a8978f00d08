/- SibsSide. -/
import Derived.Test.YtfdhldbhbigfhaaVmSE
import Derived.Test.YtfdhldbhbigfhaaVmTP
set_option linter.unusedVariables false
set_option linter.unusedSimpArgs false
namespace Go.Proofs.Ytfdhldbhbigfhaa.V
open Go.Vm

theorem joinAll_two {p q : Sib} {x y : Val} (hp : p.vals = [x]) (hq : q.vals = [y]) (hxy : x.dot.less y.dot = true) (h1 : q.seen.covers x.dot = false) (h2 : p.seen.covers y.dot = false) : joinAll p q = [x, y] := by
  have hne : ¬ y.dot = x.dot := by
    intro e; rw [e, less_irrefl] at hxy; cases hxy
  have hne' : ¬ x.dot = y.dot := fun e => hne e.symm
  unfold joinAll
  rw [hp, hq]
  simp only [List.foldl_cons, List.foldl_nil]
  have f1 : findD q.vals x.dot = none := by rw [hq]; simp [findD, hne]
  have f2 : findD p.vals y.dot = none := by rw [hp]; simp [findD, hne']
  unfold joinA joinB
  simp only [f1, f2, h1, h2]
  simp [cnd, insertV, hxy]
theorem put_own {s : Sib} (hs : s.may = true) {n : Nat} (hn : n < 8) (hlt : s.seen.at n < 1099511627776) (data : List UInt8) (dead : Bool) : putS s s.seen n data dead = (⟨s.seen.put n (s.seen.at n + 1), [⟨⟨n, s.seen.at n + 1⟩, data, dead⟩]⟩, 0) := by
  rw [putS_ok (by rw [Vec_join_self]; exact hlt) (by rw [kept_own hs]; simp), new_own hs]
theorem own_may {s : Sib} (hs : s.may = true) {n : Nat} (hn : n < 8) (hlt : s.seen.at n < 1099511627776) {data : List UInt8} {dead : Bool} (hx : mayV ⟨zeroDot, data, dead⟩ = true) : (⟨s.seen.put n (s.seen.at n + 1), [⟨⟨n, s.seen.at n + 1⟩, data, dead⟩]⟩ : Sib).may = true := by
  rw [← new_own hs]
  exact new_may hs (seen_may hs) hn hx (by rw [Vec_join_self]; exact hlt) (by rw [kept_own hs]; simp)
theorem own_join {s : Sib} (hs : s.may = true) {n : Nat} (hn : n < 8) (hlt : s.seen.at n < 1099511627776) {data : List UInt8} {dead : Bool} (hx : mayV ⟨zeroDot, data, dead⟩ = true) : s.join ⟨s.seen.put n (s.seen.at n + 1), [⟨⟨n, s.seen.at n + 1⟩, data, dead⟩]⟩ = ⟨s.seen.put n (s.seen.at n + 1), [⟨⟨n, s.seen.at n + 1⟩, data, dead⟩]⟩ := by
  rw [← new_own hs]
  exact new_join hs (seen_may hs) hn hx (by rw [Vec_join_self]; exact hlt) (by rw [kept_own hs]; simp)
theorem side_join {s : Sib} (hs : s.may = true) {a b : Nat} (ha : a < b) (hb : b < 8) (hla : s.seen.at a < 1099511627776) (hlb : s.seen.at b < 1099511627776) {x y : List UInt8} (hx : mayV ⟨zeroDot, x, false⟩ = true) (hy : mayV ⟨zeroDot, y, false⟩ = true) :
    (⟨s.seen.put a (s.seen.at a + 1), [⟨⟨a, s.seen.at a + 1⟩, x, false⟩]⟩ : Sib).join ⟨s.seen.put b (s.seen.at b + 1), [⟨⟨b, s.seen.at b + 1⟩, y, false⟩]⟩ = ⟨(s.seen.put a (s.seen.at a + 1)).join (s.seen.put b (s.seen.at b + 1)), [⟨⟨a, s.seen.at a + 1⟩, x, false⟩, ⟨⟨b, s.seen.at b + 1⟩, y, false⟩]⟩ := by
  have hp := own_may hs (n := a) (by omega) hla hx
  have hq := own_may hs (n := b) hb hlb hy
  rw [join_few hp hq (by simp)]
  congr 1
  refine joinAll_two rfl rfl ?_ ?_ ?_
  · simp [Dot.less]; omega
  · cases h : (s.seen.put b (s.seen.at b + 1)).covers ⟨a, s.seen.at a + 1⟩ with
    | false => rfl
    | true =>
      rw [covers_at, Vec.at_put _ hb] at h
      have := h.2.2.2
      simp only [Int.toNat_natCast] at this
      rw [if_neg (by omega)] at this
      omega
  · cases h : (s.seen.put a (s.seen.at a + 1)).covers ⟨b, s.seen.at b + 1⟩ with
    | false => rfl
    | true =>
      rw [covers_at, Vec.at_put _ (show a < 8 by omega)] at h
      have := h.2.2.2
      simp only [Int.toNat_natCast] at this
      rw [if_neg (by omega)] at this
      omega
theorem mod4 (a : Int) : ∃ n : Nat, n < 4 ∧ IntKind.i64.wrap ((IntKind.u64.wrap a).tmod 4) = (n : Int) := by
  have h0 : 0 ≤ IntKind.u64.wrap a := by
    show (0 : Int) ≤ a % 18446744073709551616
    omega
  rw [Int.tmod_eq_emod_of_nonneg h0]
  refine ⟨((IntKind.u64.wrap a) % 4).toNat, by omega, ?_⟩
  rw [wrap_i64] <;> omega
theorem Sib.c_at (s : Sib) {n : Nat} (hn : n < 8) : s.c[n]? = some (.int .i64 (s.seen.at n)) := by
  show (s.seen.c ++ [V.sl (s.vals.map Val.v)])[n]? = _
  rw [List.getElem?_append_left (by simp; exact hn)]
  exact Vec.c_at _ hn
theorem mayV_of {d : Dot} {x : List UInt8} (h : x.length ≤ 200) : mayV ⟨d, x, false⟩ = true := by simp [mayV, h]
set_option maxRecDepth 4000 in
theorem SibsSide_eq (s : Sib) (a b : Int) (x y z : List UInt8) (h : Heap) : callL E F.tattlerlaw5_SibsSide [s.v, .int .i64 a, .int .i64 b, bytesV x, bytesV y, bytesV z] h = some (.bool true, h, .no) := by
  refine callL_of rfl fn_tattlerlaw5_SibsSide ?_
  have g1 := fun l => r5May_eq s (h ++ l)
  have g5 := fun l => awake5_eq (h ++ l)
  obtain ⟨m, hm, ea⟩ := mod4 a
  obtain ⟨n', hn', eb'⟩ := mod4 b
  obtain ⟨n, hn4, hn8, eb⟩ : ∃ n : Nat, 4 ≤ n ∧ n < 8 ∧ IntKind.i64.wrap (4 + IntKind.i64.wrap ((IntKind.u64.wrap b).tmod 4)) = (n : Int) :=
    ⟨4 + n', by omega, by omega, by rw [eb', wrap_i64] <;> omega⟩
  clear eb'
  have m8 : m < 8 := by omega
  have m8' : (m : Int) < 8 := by omega
  have n8' : (n : Int) < 8 := by omega
  have ca := Sib.c_at s m8
  have cb := Sib.c_at s hn8
  simp only [Sib.v] at g1
  simp only [bytesV]
  cases hs : s.may with
  | false =>
    rw [hs] at g1
    simp [-getElem?_pos, c_tattlerlaw5_SibsSide, g1, g5]
    done
  | true =>
    rw [hs] at g1
    by_cases h1 : 10 < s.vals.length
    · have e1 : (10 : Int) < (s.vals.length : Int) := by omega
      simp [-getElem?_pos, c_tattlerlaw5_SibsSide, g1, g5, h1, e1, ea, eb]
      done
    have e1 : ¬ (10 : Int) < (s.vals.length : Int) := by omega
    by_cases h2 : 200 < x.length
    · have e2 : (200 : Int) < (x.length : Int) := by omega
      simp [-getElem?_pos, c_tattlerlaw5_SibsSide, g1, g5, h1, e1, h2, e2, ea, eb]
      done
    have e2 : ¬ (200 : Int) < (x.length : Int) := by omega
    by_cases h3 : 200 < y.length
    · have e3 : (200 : Int) < (y.length : Int) := by omega
      simp [-getElem?_pos, c_tattlerlaw5_SibsSide, g1, g5, h1, e1, h2, e2, h3, e3, ea, eb]
      done
    have e3 : ¬ (200 : Int) < (y.length : Int) := by omega
    by_cases h4 : 200 < z.length
    · have e4 : (200 : Int) < (z.length : Int) := by omega
      simp [-getElem?_pos, c_tattlerlaw5_SibsSide, g1, g5, h1, e1, h2, e2, h3, e3, h4, e4, ea, eb]
      done
    have e4 : ¬ (200 : Int) < (z.length : Int) := by omega
    by_cases h5 : 1000 < s.seen.at m
    · simp [-getElem?_pos, c_tattlerlaw5_SibsSide, g1, g5, h1, e1, h2, e2, h3, e3, h4, e4, h5, ea, eb, ca, cb, m8, m8', hn8, n8']
      done
    by_cases h6 : 1000 < s.seen.at n
    · simp [-getElem?_pos, c_tattlerlaw5_SibsSide, g1, g5, h1, e1, h2, e2, h3, e3, h4, e4, h5, h6, ea, eb, ca, cb, m8, m8', hn8, n8']
      done
    have mx : mayV ⟨zeroDot, x, false⟩ = true := mayV_of (by omega)
    have my : mayV ⟨zeroDot, y, false⟩ = true := mayV_of (by omega)
    have mz : mayV ⟨zeroDot, z, false⟩ = true := mayV_of (by omega)
    have p1 := fun l => sibsPut_eq s hs s.seen (seen_may hs) m8 x false mx (h ++ l)
    have p2 := fun l => sibsPut_eq s hs s.seen (seen_may hs) hn8 y false my (h ++ l)
    rw [put_own hs m8 (by omega)] at p1
    rw [put_own hs hn8 (by omega)] at p2
    have hP := own_may hs m8 (by omega) mx
    have hQ := own_may hs hn8 (by omega) my
    have hJ := side_join hs (show m < n by omega) hn8 (by omega) (by omega) mx my
    have hJm := join_may hP hQ
    have hJa : ((s.seen.put m (s.seen.at m + 1)).join (s.seen.put n (s.seen.at n + 1))).at m = s.seen.at m + 1 := by
      rw [join_at _ _ m8, Vec.at_put _ m8, Vec.at_put _ hn8, if_pos rfl, if_neg (by omega)]
      omega
    have j1 := fun l => sibsJoin_eq ⟨s.seen.put m (s.seen.at m + 1), [⟨⟨m, s.seen.at m + 1⟩, x, false⟩]⟩ ⟨s.seen.put n (s.seen.at n + 1), [⟨⟨n, s.seen.at n + 1⟩, y, false⟩]⟩ (h ++ l)
    rw [hJ] at j1 hJm
    generalize hPd : (⟨s.seen.put m (s.seen.at m + 1), [⟨⟨m, s.seen.at m + 1⟩, x, false⟩]⟩ : Sib) = P at *
    generalize hQd : (⟨s.seen.put n (s.seen.at n + 1), [⟨⟨n, s.seen.at n + 1⟩, y, false⟩]⟩ : Sib) = Q at *
    have hJs := rfl (a := (⟨(s.seen.put m (s.seen.at m + 1)).join (s.seen.put n (s.seen.at n + 1)), [⟨⟨m, s.seen.at m + 1⟩, x, false⟩, ⟨⟨n, s.seen.at n + 1⟩, y, false⟩]⟩ : Sib).seen.at m)
    have hJv := rfl (a := (⟨(s.seen.put m (s.seen.at m + 1)).join (s.seen.put n (s.seen.at n + 1)), [⟨⟨m, s.seen.at m + 1⟩, x, false⟩, ⟨⟨n, s.seen.at n + 1⟩, y, false⟩]⟩ : Sib).vals)
    conv at hJs => rhs; rw [show (⟨(s.seen.put m (s.seen.at m + 1)).join (s.seen.put n (s.seen.at n + 1)), [⟨⟨m, s.seen.at m + 1⟩, x, false⟩, ⟨⟨n, s.seen.at n + 1⟩, y, false⟩]⟩ : Sib).seen.at m = s.seen.at m + 1 from hJa]
    conv at hJv => rhs; simp only []
    generalize (⟨(s.seen.put m (s.seen.at m + 1)).join (s.seen.put n (s.seen.at n + 1)), [⟨⟨m, s.seen.at m + 1⟩, x, false⟩, ⟨⟨n, s.seen.at n + 1⟩, y, false⟩]⟩ : Sib) = J at *
    have lJ : J.seen.at m < 1099511627776 := by omega
    have l1 := fun l => live_eq J (h ++ l)
    have hL : (liveS J).map bytesV = [bytesV x, bytesV y] := by unfold liveS; rw [hJm, hJv]; rfl
    rw [hL] at l1
    have p3 := fun l => sibsPut_eq J hJm J.seen (seen_may hJm) m8 z false mz (h ++ l)
    rw [put_own hJm m8 lJ] at p3
    have hR := own_may hJm m8 lJ mz
    have hRJ := own_join hJm m8 lJ mz
    rw [join_commG] at hRJ
    have hRv := rfl (a := (⟨J.seen.put m (J.seen.at m + 1), [⟨⟨m, J.seen.at m + 1⟩, z, false⟩]⟩ : Sib).vals)
    conv at hRv => rhs; simp only []
    generalize (⟨J.seen.put m (J.seen.at m + 1), [⟨⟨m, J.seen.at m + 1⟩, z, false⟩]⟩ : Sib) = R at *
    have j2 := fun l => sibsJoin_eq R J (h ++ l)
    rw [hRJ] at j2
    have l2 := fun l => live_eq R (h ++ l)
    have hL2 : (liveS R).map bytesV = [bytesV z] := by unfold liveS; rw [hR, hRv]; rfl
    rw [hL2] at l2
    have hJl : J.vals.length = 2 := by rw [hJv]; rfl
    have hl1 : List.take 8 s.c = s.seen.c := Sib.c_seen _
    have hl2 : List.take 8 J.c = J.seen.c := Sib.c_seen _
    simp only [Sib.v, Vec.v, bytesV] at p1 p2 p3 j1 j2 l1 l2
    simp [-getElem?_pos, c_tattlerlaw5_SibsSide, g1, g5, h1, e1, h2, e2, h3, e3, h4, e4, h5, h6, ea, eb, ca, cb, m8, m8', hn8, n8', p1, p2, p3, j1, j2, l1, l2, hJl, hl1, hl2]
    done
theorem tattlerlaw5_SibsSide_top {c0 c1 c2 c3 c4 c5 : List V} (h0 : Ty.Has sibT c0) (h1 : Ty.Has (.int .i64) c1) (h2 : Ty.Has (.int .i64) c2) (h3 : Ty.Has bytT c3) (h4 : Ty.Has bytT c4) (h5 : Ty.Has bytT c5) : ∃ h fl, callL E F.tattlerlaw5_SibsSide [Ty.el sibT c0, Ty.el (.int .i64) c1, Ty.el (.int .i64) c2, Ty.el bytT c3, Ty.el bytT c4, Ty.el bytT c5] [] = some (.bool true, h, fl) := by
  obtain ⟨s, ws, rfl⟩ := Sib.dec h0
  obtain ⟨a, wa, rfl⟩ := i64_dec h1
  obtain ⟨b, wb, rfl⟩ := i64_dec h2
  obtain ⟨x, wx, rfl⟩ := bytes_dec h3
  obtain ⟨y, wy, rfl⟩ := bytes_dec h4
  obtain ⟨z, wz, rfl⟩ := bytes_dec h5
  exact ⟨_, _, SibsSide_eq s a b x y z []⟩
end Go.Proofs.Ytfdhldbhbigfhaa.V
