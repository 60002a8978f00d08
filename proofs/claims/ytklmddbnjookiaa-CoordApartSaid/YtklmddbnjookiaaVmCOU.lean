/- What 'coord.Got' computes: as a whole. -/
import Derived.Test.YtklmddbnjookiaaVmCOT
set_option linter.unusedVariables false
set_option linter.unusedSimpArgs false
namespace Go.Proofs.Ytklmddbnjookiaa.V
open Go.Vm

section
variable {h : Heap} {i mi : Nat} {wait last : Int} {ans : List Ans} {ops : List (Int × Nat)} (t : CAt h i mi wait last ans ops)
include t
theorem coordGot_none {n : Int} (node : Int) (e : Ent) (hf : findI ops n = none) : callL E F.coord_Coord_Got [.ptr (some (i, 0)), .int .i64 n, .int .i64 node, e.v] h = some (.tup [.sl [], .bool false], h, .no) := by
  refine callL_of rfl fn_coord_Coord_Got ?_
  have g1 := fun x => coordFind_none (t.app x) n false hf
  simp only [Ent.v]
  simp [-getElem?_pos, c_coord_Coord_Got, g1]
  done
variable {p q : Nat} {o : OpS} {need : Int} {has : List Bool} (u : OAt h p q o need has)
include u
/-- The operation behind an answer. -/
noncomputable def OpS.got (o : OpS) (k : Nat) (s : Sib) : OpS := ⟨o.key, o.wr, o.s.join s, o.ans.set k s, o.age⟩
theorem coordGot_wait {n : Int} {k : Nat} (hk : k < 8) (hb : has.getD k false = false) (e : Ent) (hf : findI ops n = some p) (hw : o.wr = false) (hkey : e.key = o.key) (hm : e.may = true) (hne : (cntN (has.set k true) : Int) ≠ need) :
    callL E F.coord_Coord_Got [.ptr (some (i, 0)), .int .i64 n, .int .i64 k, e.v] h =
      some (.tup [.sl [], .bool false], hset (hset h p (.cells ((o.got k e.sib).c q) [])) q (.cells (cntC need (has.set k true)) []), .w [p, q]) := by
  refine callL_of rfl fn_coord_Coord_Got ?_
  have hsm : e.sib.may = true := by
    unfold Ent.may at hm
    simp only [Bool.and_eq_true] at hm
    exact hm.2
  have hp := hget_lt u.op
  have hq := hget_lt u.ct
  have hpq := u.ne
  have ho : ∀ x, hget (h ++ x) p = some (.cells (o.c q) []) := fun x => by rw [hget_app hp]; exact u.op
  have g1 := fun x => coordFind_some (t.app x) n false hf (ho x)
  simp only [hw, if_true] at g1
  have k0 : e.c[0]? = some (.str e.key) := rfl
  have k1 : (o.c q)[0]? = some (.str o.key) := rfl
  have k2 := OpS.c_ptr o q
  have k3 := OpS.c_len o q u.al
  have hk' : (e.key == o.key) = true := by simpa using hkey
  have g2 := fun x => sibsMayEntry_eq e (h ++ x)
  rw [hm] at g2
  have g3 := fun x => qHas_eq need has u.hl k q (h ++ x) (by rw [hget_app hq]; exact u.ct)
  have hhq : hasQ has (k : Int) = false := by
    unfold hasQ
    rw [show ((k : Int).toNat) = k from rfl, hb]
    simp
  rw [hhq] at g3
  have g4 := fun hp => copied22_eq hsm hp
  have g5 := fun hp => sibsJoin_eq o.s e.sib hp
  have e1 := OpS.c_ans o q (n := k) (by rw [u.al]; exact hk) e.sib
  have o1 : OpS := ⟨o.key, o.wr, o.s, o.ans.set k e.sib, o.age⟩
  have k4 := OpS.c_len ⟨o.key, o.wr, o.s, o.ans.set k e.sib, o.age⟩ q (by simp [u.al])
  have k5 := OpS.c_s ⟨o.key, o.wr, o.s, o.ans.set k e.sib, o.age⟩ q
  have e2 := OpS.c_sets ⟨o.key, o.wr, o.s, o.ans.set k e.sib, o.age⟩ q (o.s.join e.sib)
  rw [show (⟨o.key, o.wr, o.s.join e.sib, o.ans.set k e.sib, o.age⟩ : OpS) = o.got k e.sib from rfl] at e2
  have k6 := OpS.c_ptr (o.got k e.sib) q
  have k7 := OpS.c_cell (o.got k e.sib) q
  have k8 := OpS.c_cell ⟨o.key, o.wr, o.s, o.ans.set k e.sib, o.age⟩ q
  simp only at k5
  have g6 := fun HH hh => qAdd_yes need has u.hl k hk hb q HH hh
  rw [decide_eq_false hne] at g6
  have a1 : ∀ x C, hset (h ++ x) p C = hset h p C ++ x := fun x C => V.hset_app hp
  have a2 : ∀ x C, hget (hset h p C ++ x) p = some C := fun x C => hgetS hp C x
  have a3 : ∀ x C, hget (hset h p C ++ x) q = some (.cells (cntC need has) []) := fun x C => by rw [hgetS_ne hq hpq]; exact u.ct
  have a4 : ∀ x C D, hset (hset h p C ++ x) p D = hset h p D ++ x := fun x C D => by
    rw [V.hset_app (by rw [hset_len]; exact hp)]
    simp [hset, List.set_set]
  have a5 : ∀ x C D, hset (hset h p C ++ x) q D = hset (hset h p C) q D ++ x := fun x C D => V.hset_app (by rw [hset_len]; exact hq)
  have a6 : ∀ x C D, List.take h.length (hset (hset h p C) q D ++ x) = hset (hset h p C) q D := fun x C D => List.take_left' (by rw [hset_len, hset_len])
  have a7 : ∀ C, (hset h p C).length = h.length := fun C => hset_len _ _ _
  have n0 : ¬ (k : Int) < 0 := by omega
  have n8 : ¬ (8 ≤ (k : Int)) := by omega
  have n76 : 12 + k * 9 ≤ 76 := by omega
  have ec : List.take 9 (e.c.drop 1) = e.sib.c := List.take_of_length_le (by simp)
  simp only [Ent.v, Sib.v] at g2 g4 g5 ⊢
  generalize o.c q = O at *
  generalize OpS.c ⟨o.key, o.wr, o.s, o.ans.set k e.sib, o.age⟩ q = O1 at *
  generalize (o.got k e.sib).c q = O2 at *
  simp [-getElem?_pos, c_coord_Coord_Got, g1, g2, g3, g4, g5, g6, ho, k0, k1, k2, k3, k4, k5, k6, k7, k8, hk', hkey, e1, e2, a1, a2, a3, a4, a5, a6, a7, n0, n8, n76, hk, hp, hq, ec, hpq, hpq.symm]
  done
theorem coordGot_done {n : Int} {k : Nat} (hk : k < 8) (hb : has.getD k false = false) (e : Ent) (hf : findI ops n = some p) (hw : o.wr = false) (hkey : e.key = o.key) (hm : e.may = true) (hec : (cntN (has.set k true) : Int) = need) (hbig : ans.length ≤ 1000000) (hall : ∀ s ∈ (o.got k e.sib).ans, s.vals.length ≤ 1099511627776) :
    callL E F.coord_Coord_Got [.ptr (some (i, 0)), .int .i64 n, .int .i64 k, e.v] h =
      some (.tup [.sl ((gotN (has.set k true) (o.got k e.sib).ans (o.got k e.sib).s 8).map natV), .bool true], hset (hset (hset (hset h p (.cells ((o.got k e.sib).c q) [])) q (.cells (cntC need (has.set k true)) [])) i (coordO wait last mi (ans ++ [⟨n, 0, (o.got k e.sib).s⟩]))) mi (.map (mapI (delI ops n))), .w [p, q, i, mi]) := by
  refine callL_of rfl fn_coord_Coord_Got ?_
  have hsm : e.sib.may = true := by
    unfold Ent.may at hm
    simp only [Bool.and_eq_true] at hm
    exact hm.2
  have hp := hget_lt u.op
  have hq := hget_lt u.ct
  have hpq := u.ne
  have ho : ∀ x, hget (h ++ x) p = some (.cells (o.c q) []) := fun x => by rw [hget_app hp]; exact u.op
  have g1 := fun x => coordFind_some (t.app x) n false hf (ho x)
  simp only [hw, if_true] at g1
  have k0 : e.c[0]? = some (.str e.key) := rfl
  have k1 : (o.c q)[0]? = some (.str o.key) := rfl
  have k2 := OpS.c_ptr o q
  have k3 := OpS.c_len o q u.al
  have hk' : (e.key == o.key) = true := by simpa using hkey
  have g2 := fun x => sibsMayEntry_eq e (h ++ x)
  rw [hm] at g2
  have g3 := fun x => qHas_eq need has u.hl k q (h ++ x) (by rw [hget_app hq]; exact u.ct)
  have hhq : hasQ has (k : Int) = false := by
    unfold hasQ
    rw [show ((k : Int).toNat) = k from rfl, hb]
    simp
  rw [hhq] at g3
  have g4 := fun hp => copied22_eq hsm hp
  have g5 := fun hp => sibsJoin_eq o.s e.sib hp
  have e1 := OpS.c_ans o q (n := k) (by rw [u.al]; exact hk) e.sib
  have o1 : OpS := ⟨o.key, o.wr, o.s, o.ans.set k e.sib, o.age⟩
  have k4 := OpS.c_len ⟨o.key, o.wr, o.s, o.ans.set k e.sib, o.age⟩ q (by simp [u.al])
  have k5 := OpS.c_s ⟨o.key, o.wr, o.s, o.ans.set k e.sib, o.age⟩ q
  have e2 := OpS.c_sets ⟨o.key, o.wr, o.s, o.ans.set k e.sib, o.age⟩ q (o.s.join e.sib)
  rw [show (⟨o.key, o.wr, o.s.join e.sib, o.ans.set k e.sib, o.age⟩ : OpS) = o.got k e.sib from rfl] at e2
  have k6 := OpS.c_ptr (o.got k e.sib) q
  have k7 := OpS.c_cell (o.got k e.sib) q
  have k8 := OpS.c_cell ⟨o.key, o.wr, o.s, o.ans.set k e.sib, o.age⟩ q
  simp only at k5
  have g6 := fun HH hh => qAdd_yes need has u.hl k hk hb q HH hh
  rw [decide_eq_true hec] at g6
  have a1 : ∀ x C, hset (h ++ x) p C = hset h p C ++ x := fun x C => V.hset_app hp
  have a2 : ∀ x C, hget (hset h p C ++ x) p = some C := fun x C => hgetS hp C x
  have a3 : ∀ x C, hget (hset h p C ++ x) q = some (.cells (cntC need has) []) := fun x C => by rw [hgetS_ne hq hpq]; exact u.ct
  have a4 : ∀ x C D, hset (hset h p C ++ x) p D = hset h p D ++ x := fun x C D => by
    rw [V.hset_app (by rw [hset_len]; exact hp)]
    simp [hset, List.set_set]
  have a5 : ∀ x C D, hset (hset h p C ++ x) q D = hset (hset h p C) q D ++ x := fun x C D => V.hset_app (by rw [hset_len]; exact hq)
  have a6 : ∀ x C D, List.take h.length (hset (hset h p C) q D ++ x) = hset (hset h p C) q D := fun x C D => List.take_left' (by rw [hset_len, hset_len])
  have a7 : ∀ C, (hset h p C).length = h.length := fun C => hset_len _ _ _
  have hgm : (o.got k e.sib).s.may = true := join_may u.sm hsm
  have u2 : ∀ x, OAt (hset (hset h p (.cells ((o.got k e.sib).c q) [])) q (.cells (cntC need (has.set k true)) []) ++ x) p q (o.got k e.sib) need (has.set k true) := fun x =>
    ⟨by rw [hgetS_ne (by rw [hset_len]; exact hp) hpq.symm, ← List.append_nil (hset h p _)]; exact hgetS hp _ _, hgetS (by rw [hset_len]; exact hq) _ _, by simp [OpS.got, u.al], by simp [u.hl], hgm⟩
  have t1 := fun x => ((t.setp u (.cells ((o.got k e.sib).c q) [])).setq (p := p) (q := q) (o := o.got k e.sib) (need := need) (has := has) ⟨by rw [← List.append_nil (hset h p _)]; exact hgetS hp _ _, by rw [← List.append_nil (hset h p _)]; exact a3 [] _, by simp [OpS.got, u.al], u.hl, hgm⟩ (.cells (cntC need (has.set k true)) [])).app x
  have hil := hget_lt t.co
  have hml := hget_lt t.mp
  have hlen : ∀ C D x, h.length ≤ (hset (hset h p C) q D ++ x).length := fun C D x => by rw [List.length_append, hset_len, hset_len]; omega
  have lp := fun x => got_loop (hset (hset h p (.cells ((o.got k e.sib).c q) [])) q (.cells (cntC need (has.set k true)) []) ++ x) h.length i p q n (o.got k e.sib) need (has.set k true) [p, q] (hlen _ _ _) (u2 x).op (u2 x).ct (u2 x).al (u2 x).hl (by have := may_len hgm; omega) (Nat.lt_of_lt_of_le hil (hlen _ _ _)) hall
  have g7 := fun x => coordEnd_ok (t1 x) n hf (u2 x).op (u2 x).al hgm hbig
  obtain ⟨m1, m2⟩ := t.ne_q u
  obtain ⟨m3, m4⟩ := t.ne_p u
  have m5 := t.ne
  have b1 : ∀ x C D J, hset (hset (hset h p C) q D ++ x) i J = hset (hset (hset h p C) q D) i J ++ x := fun x C D J => V.hset_app (by rw [hset_len, hset_len]; exact hil)
  have b2 : ∀ x C D J M, hset (hset (hset (hset h p C) q D) i J ++ x) mi M = hset (hset (hset (hset h p C) q D) i J) mi M ++ x := fun x C D J M => V.hset_app (by rw [hset_len, hset_len, hset_len]; exact hml)
  have b3 : ∀ x C D J M, List.take h.length (hset (hset (hset (hset h p C) q D) i J) mi M ++ x) = hset (hset (hset (hset h p C) q D) i J) mi M := fun x C D J M => List.take_left' (by rw [hset_len, hset_len, hset_len, hset_len])
  have b4 : ∀ x C D, hget (hset (hset h p C) q D ++ x) p = some C := fun x C D => by rw [hgetS_ne (by rw [hset_len]; exact hp) hpq.symm, ← List.append_nil (hset h p _)]; exact hgetS hp _ _
  have hall8 := OpS.c_all (o.got k e.sib) q (by simp [OpS.got, u.al])
  have k9 := OpS.c_len (o.got k e.sib) q (by simp [OpS.got, u.al])
  have hnn := ltL_nats h.length (gotN (has.set k true) (o.got k e.sib).ans (o.got k e.sib).s 8)
  have n0 : ¬ (k : Int) < 0 := by omega
  have n8 : ¬ (8 ≤ (k : Int)) := by omega
  have n76 : 12 + k * 9 ≤ 76 := by omega
  have ec : List.take 9 (e.c.drop 1) = e.sib.c := List.take_of_length_le (by simp)
  simp only [Ent.v, Sib.v] at g2 g4 g5 ⊢
  generalize (gotN (has.set k true) (o.got k e.sib).ans (o.got k e.sib).s 8).map natV = NN at *
  generalize (o.got k e.sib).ans.flatMap Sib.c = AA at *
  generalize coordO wait last mi (ans ++ [⟨n, 0, (o.got k e.sib).s⟩]) = CO at *
  generalize o.c q = O at *
  generalize OpS.c ⟨o.key, o.wr, o.s, o.ans.set k e.sib, o.age⟩ q = O1 at *
  generalize (o.got k e.sib).c q = O2 at *
  simp [-getElem?_pos, c_coord_Coord_Got, g1, g2, g3, g4, g5, g6, ho, k0, k1, k2, k3, k4, k5, k6, k7, k8, hk', hkey, e1, e2, a1, a2, a3, a4, a5, a6, a7, n0, n8, n76, hk, hp, hq, ec, hpq, hpq.symm, lp, g7, b1, b2, b3, b4, hall8, k9, hnn, addE, m1, m2, m3, m4, m5, m1.symm, m2.symm, m3.symm, m4.symm, m5.symm, hil, hml]
  done
end
end Go.Proofs.Ytklmddbnjookiaa.V
