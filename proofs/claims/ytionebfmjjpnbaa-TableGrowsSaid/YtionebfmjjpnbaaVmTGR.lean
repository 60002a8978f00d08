/- TableGrows. -/
import Derived.Test.YtionebfmjjpnbaaVmTC
import Derived.Test.YtionebfmjjpnbaaVmTN
set_option linter.unusedVariables false
set_option linter.unusedSimpArgs false
namespace Go.Proofs.Ytionebfmjjpnbaa.V
open Go.Vm

theorem grows_loop0 (l : List Ent) (h : Heap) (fb : Nat) (hfb : fb ≤ h.length) (T0 : List Ent) (hm0 : AllMay T0) (hl0 : T0.length + l.length < 256) (v3 : V) (hv3 : v3.lt (h.length + 2) = true) :
    loopRun (callL E) loopL fb [3, 5, 29, 30, 31] c_tattlerlaw10_TableGrows_l0 ⟨[(3, v3), (5, .ptr (some (h.length + 1, 0))), (29, .sl (l.map Ent.v)), (30, .int .i64 l.length), (31, .int .i64 0)], tabH h T0, .no⟩ =
      some (.exit 0, ⟨[(3, v3), (5, .ptr (some (h.length + 1, 0))), (29, .sl (l.map Ent.v)), (30, .int .i64 l.length), (31, .int .i64 l.length), (32, .bool false)], tabH h (l.foldl joinT T0), .no⟩) := by
  have key := loop_to (C := callL E) (fb := fb) (live := [3, 5, 29, 30, 31]) (c := c_tattlerlaw10_TableGrows_l0)
    (fun j => ⟨[(3, v3), (5, .ptr (some (h.length + 1, 0))), (29, .sl (l.map Ent.v)), (30, .int .i64 l.length), (31, .int .i64 j)], tabH h ((l.take j).foldl joinT T0), .no⟩) l.length
    (r := (.exit 0, ⟨[(3, v3), (5, .ptr (some (h.length + 1, 0))), (29, .sl (l.map Ent.v)), (30, .int .i64 l.length), (31, .int .i64 l.length), (32, .bool false)], tabH h (l.foldl joinT T0), .no⟩)) (fun j hj => ?_) ?_ rfl
  · rw [show ((0 : Nat) : Int) = 0 from rfl, List.take_zero] at key
    exact key
  · obtain ⟨e, hx, _, _⟩ := get_of_lt (l := l) (i := j) hj
    have hlt : (j : Int) < (l.length : Int) := by omega
    have h1 := i64_add1 (n := j) (by omega)
    rw [fill_take hx]
    have hm : AllMay ((l.take j).foldl joinT T0) := fold_may hm0
    have hlen : ((l.take j).foldl joinT T0).length ≤ T0.length + j := by (have h5 := fold_len (l.take j) T0); (have h6 : (l.take j).length ≤ j := (by simp; omega)); omega
    generalize ((l.take j).foldl joinT T0) = T at *
    have hset2 : ∀ x, hset (tabH h T ++ x) h.length (.map (mapE (joinT T e))) = tabH h (joinT T e) ++ x := fun x => by rw [hset_app (by simp [tabH, tab2])]; simp [tabH, tab2]
    obtain ⟨r1, f1, g1, c1⟩ := tabJoin_any (h := tabH h T ++ [.cells e.c []]) ((tabH_app h T _)) hm e (by omega)
    rw [hset2] at g1
    have d1 := c1 fb (by omega)
    have kl : ∀ X, List.length (tabH h X) = h.length + 2 := fun X => by simp [tabH, tab2]
    have kT := kl T
    have kJ := kl (joinT T e)
    have vl3 : v3.lt (List.length (tabH h T)) = true := V.lt_mono (by omega) v3 hv3
    have l1 : fb ≤ List.length (tabH h T) := by omega
    have l2 : fb ≤ List.length (tabH h T) + 1 := by omega
    have l3 : h.length + 1 < List.length (tabH h T) := by omega
    have eq : List.length (tabH h (joinT T e)) = List.length (tabH h T) := by omega
    have tk : ∀ x, List.take (List.length (tabH h T)) (tabH h (joinT T e) ++ x) = tabH h (joinT T e) := fun x => List.take_left' eq
    have hk : e.c[0]? = some (.str e.key) := rfl
    generalize tabH h (joinT T e) = H1 at *
    generalize tabH h T = H at *
    rw [s_round]
    simp [-getElem?_pos, c_tattlerlaw10_TableGrows_l0, hlt, hj, hx, h1, g1, d1, l1, l2, l3, eq, tk, hk, vl3]
    done
  · rw [s_round, List.take_length]
    simp [c_tattlerlaw10_TableGrows_l0]
theorem grows_loop1 (T' : List Ent) (e : Ent) (H : Heap) (fb i k p : Nat) (t : TabAt H i k T') (hm : AllMay T') (hfb : fb ≤ H.length) (hp : hget H p = some (.cells e.c [])) (hem : e.sib.may = true)
    (l : List Ent) (hll : l.length ≤ 1000) (hl : AllMay l) (hf : ∀ x ∈ l, ∃ y, findT T' x.key = some y ∧ (x.key ≠ e.key → y = x.sib) ∧ (x.key = e.key → y = x.sib.join e.sib)) :
    loopRun (callL E) loopL fb [3, 5, 72, 73, 74] c_tattlerlaw10_TableGrows_l1 ⟨[(3, .ptr (some (p, 0))), (5, .ptr (some (i, 0))), (72, .sl (l.map Ent.v)), (73, .int .i64 l.length), (74, .int .i64 0)], H, .no⟩ =
      some (.exit 2, ⟨[(3, .ptr (some (p, 0))), (5, .ptr (some (i, 0))), (72, .sl (l.map Ent.v)), (73, .int .i64 l.length), (74, .int .i64 l.length), (75, .bool false)], H, .no⟩) := by
  have key := loop_to (C := callL E) (fb := fb) (live := [3, 5, 72, 73, 74]) (c := c_tattlerlaw10_TableGrows_l1)
    (fun j => ⟨[(3, .ptr (some (p, 0))), (5, .ptr (some (i, 0))), (72, .sl (l.map Ent.v)), (73, .int .i64 l.length), (74, .int .i64 j)], H, .no⟩) l.length
    (r := (.exit 2, ⟨[(3, .ptr (some (p, 0))), (5, .ptr (some (i, 0))), (72, .sl (l.map Ent.v)), (73, .int .i64 l.length), (74, .int .i64 l.length), (75, .bool false)], H, .no⟩)) (fun j hj => ?_) ?_ rfl
  · rw [show ((0 : Nat) : Int) = 0 from rfl] at key
    exact key
  · obtain ⟨x, hx, _, hxm⟩ := get_of_lt (l := l) (i := j) hj
    have hlt : (j : Int) < (l.length : Int) := by omega
    have h1 := i64_add1 (n := j) (by omega)
    obtain ⟨y, hy, hne, heq⟩ := hf x hxm
    have hxs := hl x hxm
    have g1 := fun X => tabGet_eq (t.app X) hm x.key
    rw [hy] at g1
    simp only [Option.getD_some, Option.isSome_some, Sib.v] at g1
    have hpl := hget_lt hp
    have hil := hget_lt t.tab
    have p1 : ∀ X, hget (H ++ X) p = some (.cells e.c []) := fun X => by rw [hget_app hpl]; exact hp
    have l1 : fb ≤ List.length H + 1 := by omega
    have kx : x.c[0]? = some (.str x.key) := rfl
    have ke : e.c[0]? = some (.str e.key) := rfl
    have sx : (x.c.drop 1).take 9 = x.sib.c := by show x.sib.c.take 9 = _; exact List.take_of_length_le (by simp)
    have se : (e.c.drop 1).take 9 = e.sib.c := by show e.sib.c.take 9 = _; exact List.take_of_length_le (by simp)
    have vx : x.c[1 + 8]? = some (.sl (x.sib.vals.map Val.v)) := by show x.sib.c[8]? = _; exact Sib.c8 _
    have ve : e.c[1 + 8]? = some (.sl (e.sib.vals.map Val.v)) := by show e.sib.c[8]? = _; exact Sib.c8 _
    have vx9 : x.c[9]? = some (.sl (x.sib.vals.map Val.v)) := by show x.sib.c[8]? = _; exact Sib.c8 _
    have ve9 : e.c[9]? = some (.sl (e.sib.vals.map Val.v)) := by show e.sib.c[8]? = _; exact Sib.c8 _
    have lx := may_len hxs
    have le := may_len hem
    have sm := fun X => sibsSame_eq x.sib y (by omega) (H ++ X)
    have q1 := fun X => leq_eq x.sib y (H ++ X)
    have q2 := fun X => leq_eq e.sib y (H ++ X)
    have hw : IntKind.i64.wrap ((x.sib.vals.length : Int) + (e.sib.vals.length : Int)) = (x.sib.vals.length : Int) + (e.sib.vals.length : Int) := by rw [wrap_i64] <;> omega
    simp only [Sib.v] at sm q1 q2
    by_cases hk : x.key = e.key
    · have hke : (x.key == e.key) = true := by simp [hk]
      have hy2 := heq hk
      rw [s_round]
      by_cases h16 : x.sib.vals.length + e.sib.vals.length ≤ 16
      · have i16 : (x.sib.vals.length : Int) + (e.sib.vals.length : Int) ≤ 16 := by omega
        have ja := joinAll_len x.sib e.sib
        have jb := joinAll_len e.sib x.sib
        have ym : y.may = true := by rw [hy2]; exact join_may hxs hem
        have b1 : x.sib.leq y = true := leq_of hxs ym (by rw [hy2]; exact join_abs hxs hem (by omega))
        have b2 : e.sib.leq y = true := leq_of hem ym (by rw [hy2, join_commG (a := x.sib)]; exact join_abs hem hxs (by omega))
        rw [b1] at q1
        rw [b2] at q2
        simp [-getElem?_pos, c_tattlerlaw10_TableGrows_l1, hlt, hj, hx, h1, g1, p1, l1, kx, ke, sx, se, vx, ve, vx9, ve9, q1, q2, hw, hke, i16, hil, hpl, hfb]
        done
      · have i16 : ¬ (x.sib.vals.length : Int) + (e.sib.vals.length : Int) ≤ 16 := by omega
        simp [-getElem?_pos, c_tattlerlaw10_TableGrows_l1, hlt, hj, hx, h1, g1, p1, l1, kx, ke, sx, se, vx, ve, vx9, ve9, hw, hke, i16, hil, hpl, hfb]
        done
    · have hke : (x.key == e.key) = false := by simpa using hk
      have hy2 := hne hk
      rw [decide_eq_true hy2.symm] at sm
      rw [s_round]
      simp [-getElem?_pos, c_tattlerlaw10_TableGrows_l1, hlt, hj, hx, h1, g1, p1, l1, kx, ke, sx, se, vx, ve, vx9, ve9, sm, hw, hk, hke, hil, hpl, hfb]
      done
  · rw [s_round]
    simp [c_tattlerlaw10_TableGrows_l1]
set_option maxRecDepth 4000 in
theorem TableGrows_eq (l : List Ent) (e : Ent) (hl : l.length ≤ 140737488355328) (h : Heap) : callL E F.tattlerlaw10_TableGrows [.sl (l.map Ent.v), .agg e.c] h = some (.bool true, h, .no) := by
  refine callL_of rfl fn_tattlerlaw10_TableGrows ?_
  have g2 := fun x => light10_eq l hl (h ++ x)
  have g3 := fun x => light10_eq [e] (by simp) (h ++ x)
  have g5 := fun x => awake10_eq (h ++ x)
  have ev : [e].map Ent.v = [.agg e.c] := rfl
  rw [ev] at g3
  cases hlt : lightE l with
  | false =>
    rw [hlt] at g2
    simp [-getElem?_pos, c_tattlerlaw10_TableGrows, g2, g5]
    done
  | true =>
    rw [hlt] at g2
    cases hle : lightE [e] with
    | false =>
      rw [hle] at g3
      simp [-getElem?_pos, c_tattlerlaw10_TableGrows, g2, g3, g5]
      done
    | true =>
      unfold lightE at hlt
      simp only [Bool.and_eq_true, decide_eq_true_eq, List.all_eq_true] at hlt
      have mz : AllMay [] := fun e he => by cases he
      have g2b := g2 [.cells e.c []]
      have g3b := g3 [.cells e.c []]
      rw [hle] at g3b
      generalize hB : h ++ [.cells e.c []] = B at g2b g3b
      have hBl : B.length = h.length + 1 := by rw [← hB]; simp
      have n0 := tabNew_eq B
      have hb0 : hget B h.length = some (.cells e.c []) := by rw [← hB]; simp
      have hbx : ∀ X, hget (B ++ X) h.length = some (.cells e.c []) := fun X => by rw [← hB]; simp
      have hlB : h.length < B.length := by omega
      have tkB : ∀ X, List.take h.length (B ++ X) = h := fun X => by rw [← hB]; simp
      have tkB0 : List.take h.length B = h := by rw [← hB]; simp
      have lp0 := grows_loop0 l B h.length (by omega) [] mz (by simp; omega) (.ptr (some (h.length, 0))) (by simp [V.lt]; omega)
      have tz : tabH B [] = B ++ [.map [], .cells [.map (some B.length)] []] := rfl
      rw [tz] at lp0
      have ma : TMayE (l.foldl joinT []) := fold_mayE fun e he => by cases he
      have na : NDup (l.foldl joinT []) := fold_ndup List.nodup_nil
      have la := fold_len l []
      simp only [List.length_nil] at la
      generalize l.foldl joinT [] = A at *
      have hp : ∀ T X, hget (tabH B T ++ X) h.length = some (.cells e.c []) := fun T X => by rw [← hB]; simp [tabH]
      have a1 := fun X => tabAll_eq ((tabH_at B A).app X) ma.sib (by omega) ma.small
      have tk : ∀ T X, List.take h.length (tabH B T ++ X) = h := fun T X => by rw [← hB]; simp [tabH]
      have aw := fun T X => awake10_eq (tabH B T ++ X)
      have hal := allT_len A
      have ham := allT_may ma
      have hp0 := fun T => hp T []
      have a10 := a1 []
      have tk0 := fun T => tk T []
      have aw0 := fun T => aw T []
      simp only [List.append_nil] at hp0 a10 tk0 aw0
      have htl : ∀ T, List.length (tabH B T) = B.length + 2 := fun T => by simp [tabH]
      cases he : e.may with
      | false =>
        have j1 := tabJoin_no (h := tabH B A) (i := 0) e he (some (B.length + 1, 0))
        simp only [Ent.v, zeroSib_v] at j1
        have s1 := fun X => sameEntries_eq (allT A) (allT A) (by omega) (fun e he => by have := may_len (ent_sib_may (ham e he)); omega) (tabH B A ++ X)
        rw [decide_eq_true rfl] at s1
        have htA := htl A
        have p1 := hp0 A
        have p2 := tk A
        have p3 := aw A
        generalize (allT A).map Ent.v = Q at *
        generalize tabH B A = H at *
        have hlH : h.length < H.length := by omega
        have hBH : B.length + 1 < H.length := by omega
        have hlH2 : h.length ≤ H.length := by omega
        simp [-getElem?_pos, c_tattlerlaw10_TableGrows, g2b, g3b, hB, hb0, hbx, hlB, tkB, tkB0, n0, lp0, a10, a1, j1, s1, p1, p2, p3, hlH, hBH, hlH2]
        done
      | true =>
        have j1 := tabJoin_eq (tabH_at B A) ma.sib he (.inr (by omega)) (by omega)
        rw [show ∀ T, hset (tabH B A) B.length (.map (mapE T)) = tabH B T from fun T => by simp [tabH]] at j1
        have hnm := nowT_may ma.sib he
        have mT : TMayE (putT A e.key (nowT A e)) := fun x hx => by
          rcases putT_mem hx with rfl | hx
          · exact ent_may_of (s := e.sib) he hnm
          · exact ma x hx
        have hft := findT_put A e.key (nowT A e)
        have hfn : ∀ x ∈ allT A, ∃ y, findT (putT A e.key (nowT A e)) x.key = some y ∧ (x.key ≠ e.key → y = x.sib) ∧ (x.key = e.key → y = x.sib.join e.sib) := fun x hx => by
          have h0 := mem_allT.1 hx
          by_cases hk : x.key = e.key
          · refine ⟨nowT A e, by rw [hk]; exact hft, fun h => absurd hk h, fun _ => ?_⟩
            unfold nowT
            rw [← hk, h0]
            rfl
          · refine ⟨x.sib, ?_, fun _ => rfl, fun h => absurd h hk⟩
            rw [findT_put_ne (fun e2 => hk e2.symm)]
            exact h0
        have gt := fun X => tabGet_eq ((tabH_at B (putT A e.key (nowT A e))).app X) mT.sib e.key
        rw [hft] at gt
        have hl16 := may_len hnm
        have sm := fun X => sibsSame_eq (nowT A e) (nowT A e) (by omega) (tabH B (putT A e.key (nowT A e)) ++ X)
        rw [decide_eq_true rfl] at sm
        have htB := htl (putT A e.key (nowT A e))
        have lp1 := grows_loop1 (putT A e.key (nowT A e)) e (tabH B (putT A e.key (nowT A e)) ++ [.cells (nowT A e).c [], .cells (nowT A e).c []]) h.length (B.length + 1) B.length h.length ((tabH_at B _).app _) mT.sib (by rw [List.length_append]; omega) (hp _ _) (ent_sib_may he) (allT A) (by omega) ham.sib hfn
        have htA := htl A
        have pA := hp0 A
        have pT := hp (putT A e.key (nowT A e))
        have pT0 := hp0 (putT A e.key (nowT A e))
        have kT := tk (putT A e.key (nowT A e))
        have wT := aw (putT A e.key (nowT A e))
        have ke : e.c[0]? = some (.str e.key) := rfl
        have hQ : (allT A).length = ((allT A).map Ent.v).length := by simp
        rw [hQ] at lp1
        simp only [Ent.v, Sib.v, Option.getD_some, Option.isSome_some] at j1 gt sm
        generalize ((findT A e.key).isSome && decide ((findT A e.key).getD zeroSib = nowT A e)) = bb at *
        generalize (allT A).map Ent.v = Q at *
        generalize nowT A e = N at *
        generalize tabH B (putT A e.key N) = H1 at *
        generalize tabH B A = H at *
        have hlH : h.length < H.length := by omega
        have hBH : B.length + 1 < H.length := by omega
        have hlH2 : h.length ≤ H.length := by omega
        have dw : decide (B.length < h.length) = false := decide_eq_false (by omega)
        have hl1 : h.length < H1.length := by omega
        have hB1 : B.length + 1 < H1.length := by omega
        have hl12 : h.length ≤ H1.length := by omega
        have hl13 : h.length ≤ H1.length + 1 := by omega
        have hn1 : ¬ H1.length < h.length := by omega
        have hn2 : ¬ H1.length + 1 < h.length := by omega
        simp [-getElem?_pos, c_tattlerlaw10_TableGrows, g2b, g3b, hB, hb0, hbx, hlB, tkB, tkB0, n0, lp0, a10, j1, gt, sm, lp1, pA, pT, pT0, kT, wT, ke, hlH, hBH, hlH2, hl1, hB1, hl12, hl13, hn1, hn2, dw, wrLt]
        done
theorem tattlerlaw10_TableGrows_top {c0 c1 : List V} (h0 : Ty.Has (.sl entT) c0) (h1 : Ty.Has entT c1) : ∃ h fl, callL E F.tattlerlaw10_TableGrows [Ty.el (.sl entT) c0, Ty.el entT c1] [] = some (.bool true, h, fl) := by
  obtain ⟨l, wl, ws, rfl⟩ := Ents.dec h0
  obtain ⟨e, we, rfl⟩ := Ent.dec h1
  exact ⟨_, _, TableGrows_eq l e (by unfold reachLen at wl; omega) []⟩
end Go.Proofs.Ytionebfmjjpnbaa.V
