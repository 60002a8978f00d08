/- SibsBack. -/
import Derived.Test.YtfdhldbhbigfhaaVmSE
import Derived.Test.YtfdhldbhbigfhaaVmSM
import Derived.Test.YtfdhldbhbigfhaaVmLS
import Derived.Test.YtfdhldbhbigfhaaVmRW
import Derived.Test.YtfdhldbhbigfhaaVmRC4
set_option linter.unusedVariables false
set_option linter.unusedSimpArgs false
namespace Go.Proofs.Ytfdhldbhbigfhaa.V
open Go.Vm

theorem rEnt_all (r : Rd) (hok : r.Ok) (hb : r.b.length ≤ 140737488355328) {h : Heap} {i : Nat} (hh : hget h i = some r.o) :
    callL E F.sibs_ReadEntry [.ptr (some (i, 0))] h = some (.tup [(readEnt r).1.v, .bool (readEnt r).2.1], hset h i (readEnt r).2.2.o, ⟨wsR r i, [], true⟩) := by
  refine callL_of rfl fn_sibs_ReadEntry ?_
  have hil := hget_lt hh
  have t1 := text_at hil (most := 32) (by omega) r hb
  rw [hset_same hh, show ((32 : Nat) : Int) = 32 from rfl] at t1
  have hok1 := readText_ok (most := 32) hok
  have hb1 := readText_le 32 r
  have s1 : ∀ X, callL E F.sibs_Read [.ptr (some (i, 0))] (hset h i (readText 32 r).2.o ++ X) = some (.tup [(readSib (readText 32 r).2).1.v, .bool (readSib (readText 32 r).2).2.1], hset h i (readSib (readText 32 r).2).2.2.o ++ X, ⟨wsR (readText 32 r).2 i, [], true⟩) := fun X => by
    have g := sibRead_all (readText 32 r).2 hok1 (by omega) (h := hset h i (readText 32 r).2.o ++ X) (i := i) (by rw [hget_app (by rw [hset_len]; exact hil)]; exact hget_hset2 hil)
    rw [hset_app (by rw [hset_len]; exact hil), hset_hset] at g
    exact g
  have a1 : addE (wsR r i) (wsR (readText 32 r).2 i) = wsR r i := by
    by_cases he : r.err = 0
    · rw [wsR_yes he, wsR_add]
    · rw [readText_stick he, wsR_no he]; simp
  have k1 := wsR_lt r hil
  have k2 := wsR_lt (readText 32 r).2 hil
  have hsig : (readEnt r).2.2 = (readSib (readText 32 r).2).2.2 := by
    unfold readEnt
    simp only
    cases ((readSib (readText 32 r).2).2.1 && (⟨(readText 32 r).1, (readSib (readText 32 r).2).1⟩ : Ent).may) <;> rfl
  rw [hsig]
  unfold readEnt
  simp only
  generalize wsR (readText 32 r).2 i = w1 at *
  generalize wsR r i = w0 at *
  generalize readText 32 r = q1 at *
  obtain ⟨x, r1⟩ := q1
  simp only at *
  generalize readSib r1 = q2 at *
  obtain ⟨s, ok, r2⟩ := q2
  simp only at *
  have my := fun l => sibsMayEntry_eq ⟨x, s⟩ l
  have hec : (Ent.mk x s).c = .str x :: s.c := rfl
  have hd9 : List.drop 9 s.c = [] := List.drop_of_length_le (by simp)
  have ht9 : List.take 9 s.c = s.c := List.take_of_length_le (by simp)
  have hz : zeroEnt.v = .agg [.str [], .int .i64 0, .int .i64 0, .int .i64 0, .int .i64 0, .int .i64 0, .int .i64 0, .int .i64 0, .int .i64 0, .sl []] := rfl
  have htk : ∀ L, List.take h.length (hset h i r2.o ++ L) = hset h i r2.o := fun L => List.take_left' (hset_len _ _ _)
  unfold bytesV at t1
  simp only [Sib.v, Ent.v, hec] at s1 my ⊢
  cases ok with
  | false =>
    simp [-getElem?_pos, c_sibs_ReadEntry, t1, s1, hil, hset_len, a1, k1, k2, hz, htk, hd9, ht9]
    done
  | true =>
    cases hmy : (⟨x, s⟩ : Ent).may with
    | false =>
      rw [hmy] at my
      simp [-getElem?_pos, c_sibs_ReadEntry, t1, s1, my, hil, hset_len, a1, k1, k2, hz, htk, hd9, ht9]
      done
    | true =>
      rw [hmy] at my
      simp [-getElem?_pos, c_sibs_ReadEntry, t1, s1, my, hil, hset_len, a1, k1, k2, hz, htk, hd9, ht9, hec]
      done
theorem ent_empty {m : List UInt8} {e : Ent} : encEnt e ++ m ≠ [] := by
  intro h
  have h1 := congrArg List.length h
  simp only [encEnt, List.length_append, List.length_nil] at h1
  have h2 := List.length_pos_iff.2 (encNum_ne e.key.length)
  omega
theorem ent_nil : (readEnt ⟨[], 0⟩).2.1 = false := by
  cases hk : (readEnt ⟨[], 0⟩).2.1 with
  | false => rfl
  | true =>
    obtain ⟨_, _, _, h4⟩ := readEnt_sound hk
    exact absurd h4.symm ent_empty
theorem ent_big {e : Ent} (h : e.Wf) (hl : e.sib.vals.length ≤ 1099511627776) : e.Big := by
  obtain ⟨h1, h2, h3, h4⟩ := h
  unfold reachLen at *
  exact ⟨h1, h2, hl, fun v hv => ⟨(h4 v hv).1, by have := (h4 v hv).2; unfold reachLen at this; exact this⟩⟩
theorem ent_most (w : Wr) (e : Ent) : (w.ent e).most = w.most := by
  rw [ent_puts]
  have : ∀ (l : List (List UInt8)) (w : Wr), (w.puts l).most = w.most := by
    intro l
    induction l with
    | nil => intro w; rfl
    | cons x l ih => intro w; exact (ih _).trans (Wr.put_most _ _)
  exact this _ _
theorem encNum_small {n : Nat} (h : n < 18446744073709551616) : (encNum n).length ≤ 10 := encNum_10 h
theorem encEnt_len {z : Ent} (hz : z.may = true) : (encEnt z).length ≤ 70368744177664 := by
  have h := hz
  unfold Ent.may keyOk at h
  simp only [Bool.and_eq_true, decide_eq_true_eq] at h
  obtain ⟨⟨h1, h2⟩, h3⟩ := h
  obtain ⟨i1, i2⟩ := may_i64 h3
  have hl := may_len h3
  have kz : ∀ l : List Int, (∀ n ∈ l, I64 n) → (encZ l).length ≤ 10 * l.length := by
    intro l
    induction l with
    | nil => intro _; simp [encZ]
    | cons n l ih =>
      intro hh
      have e : encZ (n :: l) = encNum (zig n) ++ encZ l := by simp [encZ]
      have := ih fun m hm => hh m (by simp [hm])
      have := encNum_small (zig_lt (hh n (by simp)))
      rw [e, List.length_append, List.length_cons]; omega
  have kv : ∀ l : List Val, (∀ v ∈ l, I64 v.dot.n ∧ v.data.length ≤ 200) → (l.flatMap encVal).length ≤ 300 * l.length := by
    intro l
    induction l with
    | nil => intro _; simp
    | cons v l ih =>
      intro hh
      have h1 := ih fun m hm => hh m (by simp [hm])
      obtain ⟨j1, j2⟩ := hh v (by simp)
      have h2 := encNum_small (u64_lt v.dot.node)
      have h3 := encNum_small (zig_lt j1)
      have h4 := encNum_small (n := v.data.length) (by omega)
      rw [List.flatMap_cons, List.length_append, List.length_cons]
      have : (encVal v).length ≤ 300 := by
        unfold encVal
        simp only [List.length_append, List.length_cons]
        omega
      omega
  have h5 := kz z.sib.seen.l i1
  have h6 := kv z.sib.vals fun v hv => ⟨(i2 v hv).2.2.1, (i2 v hv).2.2.2⟩
  have h7 := encNum_small (n := z.key.length) (by omega)
  have h8 := encNum_small (n := z.sib.vals.length) (by omega)
  have h9 : z.sib.seen.l.length = 8 := by simp
  unfold encEnt encSib
  simp only [List.length_append]
  omega
/-- The second half: any bytes read, and written again. -/
theorem back_fin (q : Rd) (h : q.err = 0) : q.fin = if q.b = [] then 0 else 3 := by
  unfold Rd.fin
  cases hb : q.b with
  | nil => simp [h]
  | cons x t => simp [h]
set_option maxRecDepth 4000 in
theorem SibsBack_eq (s : Sib) (ws : s.Wf) (key : List UInt8) (hkey : key.length ≤ reachLen) (b : List UInt8) (hb : b.length ≤ reachLen) (h : Heap) : ∃ fl, callL E F.tattlerlaw5_SibsBack [s.v, .str key, bytesV b] h = some (.bool true, h, fl) := by
  have g2 := fun l => light5_eq [s] (by simp) (h ++ l)
  have g5 := fun l => awake5_eq (h ++ l)
  simp only [Sib.v, List.map_cons, List.map_nil] at g2
  unfold bytesV
  cases hlt : lightL [s] with
  | false =>
    refine ⟨.no, callL_of rfl fn_tattlerlaw5_SibsBack ?_⟩
    rw [hlt] at g2
    simp [-getElem?_pos, c_tattlerlaw5_SibsBack, g2, g5]
    done
  | true =>
    rw [hlt] at g2
    unfold lightL at hlt
    simp only [List.all_cons, List.all_nil, Bool.and_true, decide_eq_true_eq] at hlt
    obtain ⟨e, he⟩ : ∃ e : Ent, e = ⟨key, s⟩ := ⟨_, rfl⟩
    have hew : e.Wf := by rw [he]; exact ⟨hkey, ws⟩
    have hbig : e.Big := ent_big hew (by rw [he]; show s.vals.length ≤ _; omega)
    have hec : e.c = .str key :: s.c := by rw [he]; rfl
    have w0 := fun l => NewWriter_eq 100000 (h ++ l)
    rw [show max (0 : Int) 100000 = 100000 by omega] at w0
    have hW : (⟨[], 100000, false⟩ : Wr).Ok := ⟨by simp, by simp, by simp⟩
    have hW2 := hW.ent e
    have w1 := entWriteL_eq hbig hW (h := h ++ [.cells s.c [], .cells e.c [], (⟨[], 100000, false⟩ : Wr).o]) (i := h.length + 2) (by simp)
    have w2 := Done_eq hW2 (h := h ++ [.cells s.c [], .cells e.c [], ((⟨[], 100000, false⟩ : Wr).ent e).o]) (i := h.length + 2) (by simp)
    have hmo : ((⟨[], 100000, false⟩ : Wr).ent e).most = 100000 := ent_most _ _
    have hsh := ent_short (e := e) (m := 100000)
    generalize (⟨[], 100000, false⟩ : Wr).ent e = W at *
    have hb5 : W.b.length ≤ 100000 := by have := hW2.len; omega
    have hs3 : ∀ a0 a1 a2 o, hset (h ++ [a0, a1, a2]) (h.length + 2) o = h ++ [a0, a1, o] := fun _ _ _ _ => hset_local _ _ _ _
    have hs4 : ∀ a0 a1 a2 a3 o, hset (h ++ [a0, a1, a2, a3]) (h.length + 3) o = h ++ [a0, a1, a2, o] := fun _ _ _ _ _ => hset_local _ _ _ _
    have hs6 : ∀ a0 a1 a2 a3 a4 a5 o, hset (h ++ [a0, a1, a2, a3, a4, a5]) (h.length + 5) o = h ++ [a0, a1, a2, a3, a4, o] := fun _ _ _ _ _ _ _ => hset_local _ _ _ _
    have hs8 : ∀ a0 a1 a2 a3 a4 a5 a6 a7 o, hset (h ++ [a0, a1, a2, a3, a4, a5, a6, a7]) (h.length + 7) o = h ++ [a0, a1, a2, a3, a4, a5, a6, o] := fun _ _ _ _ _ _ _ _ _ => hset_local _ _ _ _
    rw [hs3] at w1
    -- what is read of it
    obtain ⟨x, hx⟩ : ∃ x, x = if W.long = true then [] else W.b := ⟨_, rfl⟩
    rw [← hx] at w2
    have hxl : x.length ≤ 140737488355328 := by
      rw [hx]
      split
      · simp
      · omega
    have r1 := fun l => NewReader_eq x hxl (h ++ l)
    have rd := rEnt_all ⟨x, 0⟩ (fun e => absurd rfl e) hxl (h := h ++ [.cells s.c [], .cells e.c [], W.o, Rd.o ⟨x, 0⟩]) (i := h.length + 3) (by simp)
    rw [hs4, wsR_yes rfl] at rd
    have my := fun l => sibsMayEntry_eq e (h ++ l)
    have fact : (W.long = true ∧ (readEnt ⟨x, 0⟩).2.1 = false) ∨ (W.long = false ∧ (readEnt ⟨x, 0⟩).2.1 = e.may ∧ (e.may = true → readEnt ⟨x, 0⟩ = (e, true, ⟨[], 0⟩))) := by
      cases hl : W.long with
      | true =>
        left
        rw [hl] at hx
        simp only [if_true] at hx
        rw [hx]
        exact ⟨rfl, ent_nil⟩
      | false =>
        right
        rw [hl] at hx
        simp only [Bool.false_eq_true, if_false] at hx
        rw [hx, hsh hl]
        exact ⟨rfl, ent_back hew⟩
    have en1 := fun (q : Rd) a0 a1 a2 a4 => rdEnd_eq q (h := h ++ [a0, a1, a2, q.o, a4]) (i := h.length + 3) (by simp)
    have sm := fun l => sibsSame_eq s s (by omega) (h ++ l)
    rw [decide_eq_true rfl] at sm
    -- the second half
    have hbl : b.length ≤ 140737488355328 := by unfold reachLen at hb; omega
    have r2 := fun l => NewReader_eq b hbl (h ++ l)
    have rd2 := fun a0 a1 a2 a3 a4 => rEnt_all ⟨b, 0⟩ (fun e => absurd rfl e) hbl (h := h ++ [a0, a1, a2, a3, a4, Rd.o ⟨b, 0⟩]) (i := h.length + 5) (by simp)
    have hw5 : wsR ⟨b, 0⟩ (h.length + 5) = [h.length + 5] := wsR_yes rfl _
    simp only [hs6, hw5] at rd2
    have en2 := fun (q : Rd) a0 a1 a2 a3 a4 a6 => rdEnd_eq q (h := h ++ [a0, a1, a2, a3, a4, q.o, a6]) (i := h.length + 5) (by simp)
    have snd := readEnt_sound (r := ⟨b, 0⟩)
    have w3 := fun l => NewWriter_eq (b.length : Int) (h ++ l)
    rw [show max (0 : Int) (b.length : Int) = b.length by omega] at w3
    have w4 : (readEnt ⟨b, 0⟩).2.1 = true → (readEnt ⟨b, 0⟩).2.2.b = [] → ∀ a0 a1 a2 a3 a4 a5 a6, callL E F.sibs_WriteEntry [.ptr (some (h.length + 7, 0)), (readEnt ⟨b, 0⟩).1.v] (h ++ [a0, a1, a2, a3, a4, a5, a6, (⟨[], b.length, false⟩ : Wr).o]) = some (.tup [], h ++ [a0, a1, a2, a3, a4, a5, a6, (⟨b, b.length, false⟩ : Wr).o], .w [h.length + 7]) := fun hk hn a0 a1 a2 a3 a4 a5 a6 => by
      obtain ⟨_, h2, _, h4⟩ := snd hk
      rw [hn, List.append_nil] at h4
      simp only at h4
      have hlen := encEnt_len h2
      rw [← h4] at hlen
      have hOk : (⟨[], b.length, false⟩ : Wr).Ok := ⟨by simp, by simp; omega, by simp⟩
      have hl16 : (readEnt ⟨b, 0⟩).1.sib.vals.length ≤ 16 := by
        have h := h2
        unfold Ent.may at h
        simp only [Bool.and_eq_true] at h
        exact may_len h.2
      have g := entWriteL_eq (ent_big (may_wf h2) (by omega)) hOk (h := h ++ [a0, a1, a2, a3, a4, a5, a6, (⟨[], b.length, false⟩ : Wr).o]) (i := h.length + 7) (by simp)
      obtain ⟨f1, f2⟩ := ent_fit (e := (readEnt ⟨b, 0⟩).1) (m := b.length) (by rw [← h4]; exact Int.le_refl _)
      have f3 := ent_most ⟨[], b.length, false⟩ (readEnt ⟨b, 0⟩).1
      have f4 : (⟨[], b.length, false⟩ : Wr).ent (readEnt ⟨b, 0⟩).1 = ⟨b, b.length, false⟩ := by
        rw [← h4] at f2
        generalize (⟨[], b.length, false⟩ : Wr).ent (readEnt ⟨b, 0⟩).1 = Z at *
        cases Z
        simp only at f1 f2 f3
        rw [f1, f2, f3]
      rw [f4, hs8] at g
      exact g
    have w5 : b.length ≤ 70368744177664 → ∀ a0 a1 a2 a3 a4 a5 a6, callL E F.wire_Writer_Done [.ptr (some (h.length + 7, 0))] (h ++ [a0, a1, a2, a3, a4, a5, a6, (⟨b, b.length, false⟩ : Wr).o]) = some (.tup [bytesV b, .int .i64 0], h ++ [a0, a1, a2, a3, a4, a5, a6, (⟨b, b.length, false⟩ : Wr).o], .no) := fun hbl2 a0 a1 a2 a3 a4 a5 a6 => by
      have g := Done_eq (w := ⟨b, b.length, false⟩) ⟨by simp, by simp; omega, by simp⟩ (h := h ++ [a0, a1, a2, a3, a4, a5, a6, (⟨b, b.length, false⟩ : Wr).o]) (i := h.length + 7) (by simp)
      simpa using g
    have hbs : (readEnt ⟨b, 0⟩).2.1 = true → (readEnt ⟨b, 0⟩).2.2.b = [] → b.length ≤ 70368744177664 := fun hk hn => by
      obtain ⟨_, h2, _, h4⟩ := snd hk
      rw [hn, List.append_nil] at h4
      simp only at h4
      have := encEnt_len h2
      rw [← h4] at this
      exact this
    have hfin : (readEnt ⟨b, 0⟩).2.1 = true → (readEnt ⟨b, 0⟩).2.2.fin = if (readEnt ⟨b, 0⟩).2.2.b = [] then 0 else 3 := fun hk => back_fin _ (snd hk).1
    clear snd
    refine ⟨⟨[], [], true⟩, callL_of rfl fn_tattlerlaw5_SibsBack ?_⟩
    have ht9 : List.take 9 s.c = s.c := List.take_of_length_le (by simp)
    have hd9 : List.drop 9 s.c = [] := List.drop_of_length_le (by simp)
    have zl : ∀ z : Ent, z.c.length = 10 := fun z => by simp
    unfold bytesV at w2 r1 r2 w5
    simp only [Ent.v, hec] at w1 w2 rd my rd2 w4
    simp only [Sib.v] at sm
    generalize readEnt ⟨b, 0⟩ = q2 at *
    obtain ⟨z, is, rr2⟩ := q2
    simp only at *
    generalize readEnt ⟨x, 0⟩ = q1 at *
    obtain ⟨y, ok, rr1⟩ := q1
    simp only at *
    rcases fact with ⟨hl, hk⟩ | ⟨hl, hk, hee⟩
    · subst hk
      rw [hl] at w2
      simp only [if_true] at w2
      have e4 : ((4 : Int) == 0) = false := rfl
      cases hmy : e.may <;> rw [hmy] at my
      · cases is with
        | false =>
          simp [-getElem?_pos, c_tattlerlaw5_SibsBack, g2, g5, w0, w1, w2, r1, rd, my, ht9, hd9, r2, rd2, zl, e4]
          done
        | true =>
          have hf := hfin rfl
          by_cases hrb : rr2.b = []
          · rw [if_pos hrb] at hf
            have w4' := w4 rfl hrb
            have w5' := w5 (hbs rfl hrb)
            simp [-getElem?_pos, c_tattlerlaw5_SibsBack, g2, g5, w0, w1, w2, r1, rd, my, ht9, hd9, r2, rd2, zl, e4, en2, hf, w3, w4', w5']
            done
          · rw [if_neg hrb] at hf
            have e3 : ((3 : Int) == 0) = false := rfl
            simp [-getElem?_pos, c_tattlerlaw5_SibsBack, g2, g5, w0, w1, w2, r1, rd, my, ht9, hd9, r2, rd2, zl, e4, en2, hf, e3]
            done
      · cases is with
        | false =>
          simp [-getElem?_pos, c_tattlerlaw5_SibsBack, g2, g5, w0, w1, w2, r1, rd, my, ht9, hd9, r2, rd2, zl, e4]
          done
        | true =>
          have hf := hfin rfl
          by_cases hrb : rr2.b = []
          · rw [if_pos hrb] at hf
            have w4' := w4 rfl hrb
            have w5' := w5 (hbs rfl hrb)
            simp [-getElem?_pos, c_tattlerlaw5_SibsBack, g2, g5, w0, w1, w2, r1, rd, my, ht9, hd9, r2, rd2, zl, e4, en2, hf, w3, w4', w5']
            done
          · rw [if_neg hrb] at hf
            have e3 : ((3 : Int) == 0) = false := rfl
            simp [-getElem?_pos, c_tattlerlaw5_SibsBack, g2, g5, w0, w1, w2, r1, rd, my, ht9, hd9, r2, rd2, zl, e4, en2, hf, e3]
            done
    · rw [hl] at w2
      simp only [Bool.false_eq_true, if_false] at w2
      cases hmy : e.may with
      | false =>
        rw [hmy] at hk my
        subst hk
        cases is with
        | false =>
          simp [-getElem?_pos, c_tattlerlaw5_SibsBack, g2, g5, w0, w1, w2, r1, rd, my, ht9, hd9, r2, rd2, zl, hl]
          done
        | true =>
          have hf := hfin rfl
          by_cases hrb : rr2.b = []
          · rw [if_pos hrb] at hf
            have w4' := w4 rfl hrb
            have w5' := w5 (hbs rfl hrb)
            simp [-getElem?_pos, c_tattlerlaw5_SibsBack, g2, g5, w0, w1, w2, r1, rd, my, ht9, hd9, r2, rd2, zl, hl, en2, hf, w3, w4', w5']
            done
          · rw [if_neg hrb] at hf
            have e3 : ((3 : Int) == 0) = false := rfl
            simp [-getElem?_pos, c_tattlerlaw5_SibsBack, g2, g5, w0, w1, w2, r1, rd, my, ht9, hd9, r2, rd2, zl, hl, en2, hf, e3]
            done
      | true =>
        have hq := hee hmy
        simp only [Prod.mk.injEq] at hq
        obtain ⟨rfl, rfl, rfl⟩ := hq
        rw [hmy] at my
        have en1' := en1 ⟨[], 0⟩
        have hfn : Rd.fin ⟨[], 0⟩ = 0 := by simp [Rd.fin]
        rw [hfn] at en1'
        simp only [hec] at rd
        cases is with
        | false =>
          simp [-getElem?_pos, c_tattlerlaw5_SibsBack, g2, g5, w0, w1, w2, r1, rd, my, ht9, hd9, r2, rd2, zl, en1', sm, hec]
          done
        | true =>
          have hf := hfin rfl
          by_cases hrb : rr2.b = []
          · rw [if_pos hrb] at hf
            have w4' := w4 rfl hrb
            have w5' := w5 (hbs rfl hrb)
            simp [-getElem?_pos, c_tattlerlaw5_SibsBack, g2, g5, w0, w1, w2, r1, rd, my, ht9, hd9, r2, rd2, zl, en1', sm, hec, en2, hf, w3, w4', w5']
            done
          · rw [if_neg hrb] at hf
            have e3 : ((3 : Int) == 0) = false := rfl
            simp [-getElem?_pos, c_tattlerlaw5_SibsBack, g2, g5, w0, w1, w2, r1, rd, my, ht9, hd9, r2, rd2, zl, en1', sm, hec, en2, hf, e3]
            done
theorem tattlerlaw5_SibsBack_top {c0 c1 c2 : List V} (h0 : Ty.Has sibT c0) (h1 : Ty.Has .str c1) (h2 : Ty.Has bytT c2) : ∃ h fl, callL E F.tattlerlaw5_SibsBack [Ty.el sibT c0, Ty.el .str c1, Ty.el bytT c2] [] = some (.bool true, h, fl) := by
  obtain ⟨s, ws, rfl⟩ := Sib.dec h0
  obtain ⟨k, wk, rfl⟩ := str_dec h1
  obtain ⟨x, wx, rfl⟩ := bytes_dec h2
  obtain ⟨fl, e⟩ := SibsBack_eq s ws k wk x wx []
  exact ⟨_, _, e⟩
end Go.Proofs.Ytfdhldbhbigfhaa.V
