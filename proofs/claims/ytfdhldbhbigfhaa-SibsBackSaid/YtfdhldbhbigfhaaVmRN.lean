/- The reader, in plain words: what was written is read as it was; no other thing is written so. -/
import Derived.Test.YtfdhldbhbigfhaaVmRM
set_option linter.unusedVariables false
set_option linter.unusedSimpArgs false
namespace Go.Proofs.Ytfdhldbhbigfhaa.V
open Go.Vm

theorem or_toNat (m : Nat) : (UInt8.ofNat m ||| 128).toNat = m % 128 + 128 := by
  have key : ∀ k : Fin 256, (UInt8.ofNat k.val ||| 128).toNat = k.val % 128 + 128 := by decide +kernel
  have h1 := key ⟨m % 256, Nat.mod_lt _ (by omega)⟩
  have h2 : UInt8.ofNat (m % 256) = UInt8.ofNat m := by apply UInt8.toNat_inj.1; simp
  simp only [h2] at h1
  rw [h1]
  omega
theorem numM_enc : ∀ (k j acc m : Nat) (rest : List UInt8), j + k = 9 → m * 2 ^ (7 * j) + acc < 18446744073709551616 → acc < 2 ^ (7 * j) → (j = 0 ∨ 0 < m) →
    numM (k + 1) j acc ⟨encNum m ++ rest, 0⟩ = (acc + m * 2 ^ (7 * j), ⟨rest, 0⟩) := by
  intro k
  induction k with
  | zero =>
    intro j acc m rest hj hlt ha hm
    have : j = 9 := by omega
    subst this
    have hm1 : m ≤ 1 := by
      have : m * 9223372036854775808 + acc < 18446744073709551616 := hlt
      omega
    have hm2 : m < 128 := by omega
    have ht : (UInt8.ofNat m).toNat = m := by rw [UInt8.toNat_ofNat']; omega
    rw [encNum_lt hm2]
    unfold numM
    simp only [if_pos, List.singleton_append, ht]
    rw [if_neg (by omega), if_pos hm2, Nat.mod_eq_of_lt hm2]
  | succ k ih =>
    intro j acc m rest hj hlt ha hm
    by_cases hm2 : m < 128
    · have ht : (UInt8.ofNat m).toNat = m := by rw [UInt8.toNat_ofNat']; omega
      rw [encNum_lt hm2]
      unfold numM
      simp only [if_pos, List.singleton_append, ht]
      rw [if_neg (by omega), if_pos hm2, Nat.mod_eq_of_lt hm2]
    · have ht := or_toNat m
      rw [encNum_ge hm2, List.cons_append]
      unfold numM
      simp only [if_pos, ht]
      obtain ⟨s1, s2⟩ := mod_step m acc (2 ^ (7 * j)) ha
      have hp : 2 ^ (7 * (j + 1)) = 2 ^ (7 * j) * 128 := by rw [Nat.mul_add, Nat.pow_add]
      rw [if_neg (by omega), if_neg (by omega), show (m % 128 + 128) % 128 = m % 128 by omega]
      rw [ih (j + 1) (acc + m % 128 * 2 ^ (7 * j)) (m / 128) rest (by omega) (by rw [hp, s1]; exact hlt) (by rw [hp]; exact s2) (.inr (by omega)), hp, Nat.add_comm _ (m / 128 * _), s1, Nat.add_comm]
theorem readNum_enc {n : Nat} (hn : n < 18446744073709551616) (rest : List UInt8) : readNum ⟨encNum n ++ rest, 0⟩ = (n, ⟨rest, 0⟩) := by
  have := numM_enc 9 0 0 n rest (by omega) (by simpa using hn) (by simp) (.inl rfl)
  unfold readNum
  rw [this]
  simp
theorem readInt_enc {n : Int} (hn : I64 n) (rest : List UInt8) : readInt ⟨encNum (zig n) ++ rest, 0⟩ = (n, ⟨rest, 0⟩) := by
  unfold readInt
  rw [readNum_enc (zig_lt hn)]
  simp only [unzig_zig]
theorem readFlag_enc (b : Bool) (rest : List UInt8) : readFlag ⟨(if b = true then 1 else 0) :: rest, 0⟩ = (b, ⟨rest, 0⟩) := by
  unfold readFlag
  cases b <;> simp
theorem readCount_enc {most n : Nat} (hn : n ≤ most) (hm : most < 18446744073709551616) (rest : List UInt8) : readCount most ⟨encNum n ++ rest, 0⟩ = (n, ⟨rest, 0⟩) := by
  unfold readCount
  rw [readNum_enc (by omega)]
  simp only [if_pos]
  rw [if_neg (by omega)]
theorem readText_enc {most : Nat} {x : List UInt8} (hn : x.length ≤ most) (hm : most < 18446744073709551616) (rest : List UInt8) : readText most ⟨encNum x.length ++ (x ++ rest), 0⟩ = (x, ⟨rest, 0⟩) := by
  unfold readText
  rw [readCount_enc hn hm]
  simp only [if_pos]
  rw [if_neg (by simp)]
  simp
theorem readInts_enc : ∀ (l : List Int) (rest : List UInt8), (∀ n ∈ l, I64 n) → readInts l.length ⟨encZ l ++ rest, 0⟩ = (l, ⟨rest, 0⟩)
  | [], rest, _ => by simp [readInts, encZ]
  | n :: l, rest, h => by
    have e : encZ (n :: l) ++ rest = encNum (zig n) ++ (encZ l ++ rest) := by simp [encZ]
    rw [List.length_cons, readInts, e, readInt_enc (h n (by simp)), readInts_enc l rest fun m hm => h m (by simp [hm])]
theorem u64_small {n : Int} (h0 : 0 ≤ n) (h1 : n < 8) : ((min (u64 n) 8 : Nat) : Int) = n := by unfold u64; omega
theorem readVal_enc {v : Val} (h0 : 0 ≤ v.dot.node) (h1 : v.dot.node < 8) (hn : I64 v.dot.n) (hd : v.data.length ≤ 200) (rest : List UInt8) : readVal ⟨encVal v ++ rest, 0⟩ = (v, ⟨rest, 0⟩) := by
  have e : encVal v ++ rest = encNum (u64 v.dot.node) ++ (encNum (zig v.dot.n) ++ ((if v.dead = true then 1 else 0) :: (encNum v.data.length ++ (v.data ++ rest)))) := by simp [encVal]
  unfold readVal
  rw [e, readNum_enc (u64_lt _)]
  simp only
  rw [readInt_enc hn]
  simp only
  rw [readFlag_enc]
  simp only
  rw [readText_enc hd (by omega)]
  simp only [u64_small h0 h1]
theorem readVals_enc : ∀ (l : List Val) (rest : List UInt8), (∀ v ∈ l, 0 ≤ v.dot.node ∧ v.dot.node < 8 ∧ I64 v.dot.n ∧ v.data.length ≤ 200) → readVals l.length ⟨l.flatMap encVal ++ rest, 0⟩ = (l, ⟨rest, 0⟩)
  | [], rest, _ => by simp [readVals]
  | v :: l, rest, h => by
    obtain ⟨h1, h2, h3, h4⟩ := h v (by simp)
    have e : (v :: l).flatMap encVal ++ rest = encVal v ++ (l.flatMap encVal ++ rest) := by simp
    rw [List.length_cons, readVals, e, readVal_enc h1 h2 h3 h4, readVals_enc l rest fun m hm => h m (by simp [hm])]
theorem may_i64 {s : Sib} (hs : s.may = true) : (∀ n ∈ s.seen.l, I64 n) ∧ ∀ v ∈ s.vals, 0 ≤ v.dot.node ∧ v.dot.node < 8 ∧ I64 v.dot.n ∧ v.data.length ≤ 200 := by
  have hg := (may_iff s).1 hs
  refine ⟨fun n hn => ?_, fun v hv => ?_⟩
  · have := hg.seen n hn
    unfold I64; omega
  · have hc := (covers_iff _ _).1 (valOk_covers (hg.val v hv))
    obtain ⟨c1, c2, c3, c4⟩ := hc
    refine ⟨c1, c2, ?_, may_data hs hv⟩
    have hk : v.dot.node.toNat < s.seen.l.length := by have : s.seen.l.length = 8 := by simp
                                                       omega
    rw [List.getElem?_eq_getElem hk] at c4
    have := hg.seen _ (List.getElem_mem hk)
    simp only [Option.getD_some] at c4
    unfold I64; omega
theorem readSib_enc {s : Sib} (hs : s.may = true) (rest : List UInt8) : readSib ⟨encSib s ++ rest, 0⟩ = (s, true, ⟨rest, 0⟩) := by
  obtain ⟨h1, h2⟩ := may_i64 hs
  have hl := may_len hs
  have e : encSib s ++ rest = encZ s.seen.l ++ (encNum s.vals.length ++ (s.vals.flatMap encVal ++ rest)) := by simp [encSib]
  have hi := readInts_enc s.seen.l (encNum s.vals.length ++ (s.vals.flatMap encVal ++ rest)) h1
  have h8 : s.seen.l.length = 8 := by simp
  rw [h8] at hi
  have hv : readV8 ⟨encZ s.seen.l ++ (encNum s.vals.length ++ (s.vals.flatMap encVal ++ rest)), 0⟩ = s.seen := by
    apply Vec.ext_l
    show (readInts 8 _).1 = _
    rw [hi]
  have hm : s.seen.may = true := by
    have h := hs
    unfold Sib.may at h
    simp only [Bool.and_eq_true] at h
    exact h.1
  have hvec : readVec ⟨encSib s ++ rest, 0⟩ = (s.seen, true, ⟨encNum s.vals.length ++ (s.vals.flatMap encVal ++ rest), 0⟩) := by
    unfold readVec
    rw [e, hv, hi, hm]
    rfl
  unfold readSib
  rw [hvec]
  simp only
  rw [readCount_enc hl (by omega)]
  simp only
  rw [readVals_enc _ _ h2]
  simp only [hs]
  rfl
theorem readEnt_enc {x : Ent} (hx : x.may = true) (rest : List UInt8) : readEnt ⟨encEnt x ++ rest, 0⟩ = (x, true, ⟨rest, 0⟩) := by
  have h := hx
  unfold Ent.may keyOk at h
  simp only [Bool.and_eq_true, decide_eq_true_eq] at h
  obtain ⟨⟨h1, h2⟩, h3⟩ := h
  have e : encEnt x ++ rest = encNum x.key.length ++ (x.key ++ (encSib x.sib ++ rest)) := by simp [encEnt]
  unfold readEnt
  rw [e, readText_enc h2 (by omega)]
  simp only
  rw [readSib_enc h3]
  simp only
  rw [show (⟨x.key, x.sib⟩ : Ent) = x from rfl, hx]
  rfl
/-! ### no other thing is written so -/
theorem encNum_inj {a b : Nat} {s t : List UInt8} (ha : a < 18446744073709551616) (hb : b < 18446744073709551616) (h : encNum a ++ s = encNum b ++ t) : a = b ∧ s = t := by
  have h1 := readNum_enc ha s
  rw [h, readNum_enc hb t] at h1
  simp only [Prod.mk.injEq, Rd.mk.injEq, and_true] at h1
  exact ⟨h1.1.symm, h1.2.symm⟩
theorem zig_inj {a b : Int} (h : zig a = zig b) : a = b := by rw [← unzig_zig a, ← unzig_zig b, h]
theorem encZ_inj : ∀ {l r : List Int} {s t : List UInt8}, l.length = r.length → (∀ n ∈ l, I64 n) → (∀ n ∈ r, I64 n) → encZ l ++ s = encZ r ++ t → l = r ∧ s = t
  | [], [], _, _, _, _, _, h => ⟨rfl, by simpa [encZ] using h⟩
  | [], _ :: _, _, _, hl, _, _, _ => by simp at hl
  | _ :: _, [], _, _, hl, _, _, _ => by simp at hl
  | a :: l, b :: r, s, t, hl, ha, hb, h => by
    have e1 : encZ (a :: l) ++ s = encNum (zig a) ++ (encZ l ++ s) := by simp [encZ]
    have e2 : encZ (b :: r) ++ t = encNum (zig b) ++ (encZ r ++ t) := by simp [encZ]
    rw [e1, e2] at h
    obtain ⟨h1, h2⟩ := encNum_inj (zig_lt (ha a (by simp))) (zig_lt (hb b (by simp))) h
    obtain ⟨h3, h4⟩ := encZ_inj (by simpa using hl) (fun n hn => ha n (by simp [hn])) (fun n hn => hb n (by simp [hn])) h2
    exact ⟨by rw [zig_inj h1, h3], h4⟩
theorem text_inj {x y s t : List UInt8} (hx : x.length < 18446744073709551616) (hy : y.length < 18446744073709551616) (h : encNum x.length ++ (x ++ s) = encNum y.length ++ (y ++ t)) : x = y ∧ s = t := by
  obtain ⟨h1, h2⟩ := encNum_inj hx hy h
  exact List.append_inj h2 h1
theorem u64_inj {a b : Int} (ha : I64 a) (hb : I64 b) (h : u64 a = u64 b) : a = b := by
  unfold u64 at h
  unfold I64 at ha hb
  omega
theorem encVal_inj {v w : Val} {s t : List UInt8} (hv : v.dot.Wf) (hw : w.dot.Wf) (hvl : v.data.length < 18446744073709551616) (hwl : w.data.length < 18446744073709551616) (h : encVal v ++ s = encVal w ++ t) : v = w ∧ s = t := by
  have e : ∀ (v : Val) (s : List UInt8), encVal v ++ s = encNum (u64 v.dot.node) ++ (encNum (zig v.dot.n) ++ ((if v.dead = true then 1 else 0) :: (encNum v.data.length ++ (v.data ++ s)))) := fun v s => by simp [encVal]
  rw [e, e] at h
  obtain ⟨h1, h⟩ := encNum_inj (u64_lt _) (u64_lt _) h
  obtain ⟨h2, h⟩ := encNum_inj (zig_lt hv.2) (zig_lt hw.2) h
  simp only [List.cons.injEq] at h
  obtain ⟨h3, h⟩ := h
  obtain ⟨h4, h5⟩ := text_inj hvl hwl h
  refine ⟨?_, h5⟩
  obtain ⟨⟨a, b⟩, c, d⟩ := v
  obtain ⟨⟨a', b'⟩, c', d'⟩ := w
  have e1 := u64_inj hv.1 hw.1 h1
  have e2 := zig_inj h2
  simp only at e1 e2 h3 h4
  subst e1 e2 h4
  cases d <;> cases d' <;> simp_all
theorem encVals_inj : ∀ {l r : List Val} {s t : List UInt8}, l.length = r.length → (∀ v ∈ l, v.dot.Wf ∧ v.data.length < 18446744073709551616) → (∀ v ∈ r, v.dot.Wf ∧ v.data.length < 18446744073709551616) → l.flatMap encVal ++ s = r.flatMap encVal ++ t → l = r ∧ s = t
  | [], [], _, _, _, _, _, h => ⟨rfl, by simpa using h⟩
  | [], _ :: _, _, _, hl, _, _, _ => by simp at hl
  | _ :: _, [], _, _, hl, _, _, _ => by simp at hl
  | a :: l, b :: r, s, t, hl, ha, hb, h => by
    have e : ∀ (v : Val) (l : List Val) (s : List UInt8), (v :: l).flatMap encVal ++ s = encVal v ++ (l.flatMap encVal ++ s) := fun v l s => by simp
    rw [e, e] at h
    obtain ⟨a1, a2⟩ := ha a (by simp)
    obtain ⟨b1, b2⟩ := hb b (by simp)
    obtain ⟨h1, h2⟩ := encVal_inj a1 b1 a2 b2 h
    obtain ⟨h3, h4⟩ := encVals_inj (by simpa using hl) (fun n hn => ha n (by simp [hn])) (fun n hn => hb n (by simp [hn])) h2
    exact ⟨by rw [h1, h3], h4⟩
theorem encEnt_inj {x y : Ent} {t : List UInt8} (hx : x.Wf) (hy : y.Wf) (h : encEnt x = encEnt y ++ t) : x = y ∧ t = [] := by
  have e : ∀ (x : Ent) (s : List UInt8), encEnt x ++ s = encNum x.key.length ++ (x.key ++ (encZ x.sib.seen.l ++ (encNum x.sib.vals.length ++ (x.sib.vals.flatMap encVal ++ s)))) := fun x s => by simp [encEnt, encSib]
  have h' : encEnt x ++ [] = encEnt y ++ t := by rw [List.append_nil]; exact h
  rw [e, e] at h'
  obtain ⟨kx, sx, lx, vx⟩ := hx
  obtain ⟨ky, sy, ly, vy⟩ := hy
  unfold reachLen at *
  obtain ⟨h1, h'⟩ := text_inj (by omega) (by omega) h'
  obtain ⟨h2, h'⟩ := encZ_inj (by simp) sx sy h'
  obtain ⟨h3, h'⟩ := encNum_inj (by omega) (by omega) h'
  obtain ⟨h4, h5⟩ := encVals_inj h3 (fun v hv => ⟨(vx v hv).1, by have := (vx v hv).2; unfold reachLen at this; omega⟩) (fun v hv => ⟨(vy v hv).1, by have := (vy v hv).2; unfold reachLen at this; omega⟩) h'
  refine ⟨?_, h5.symm⟩
  obtain ⟨k, ⟨se, vs⟩⟩ := x
  obtain ⟨k', ⟨se', vs'⟩⟩ := y
  simp only at h1 h2 h4
  subst h1 h4
  rw [Vec.ext_l h2]
theorem may_wf {y : Ent} (h : y.may = true) : y.Wf := by
  have h := h
  unfold Ent.may keyOk at h
  simp only [Bool.and_eq_true, decide_eq_true_eq] at h
  obtain ⟨⟨h1, h2⟩, h3⟩ := h
  obtain ⟨i1, i2⟩ := may_i64 h3
  have hl := may_len h3
  refine ⟨by unfold reachLen; omega, i1, by unfold reachLen; omega, fun v hv => ?_⟩
  obtain ⟨j1, j2, j3, j4⟩ := i2 v hv
  exact ⟨⟨by unfold I64; omega, j3⟩, by unfold reachLen; omega⟩
/-- Read again: so it may be just then, and it is the same. -/
theorem ent_back {x : Ent} (hx : x.Wf) : (readEnt ⟨encEnt x, 0⟩).2.1 = x.may ∧ (x.may = true → readEnt ⟨encEnt x, 0⟩ = (x, true, ⟨[], 0⟩)) := by
  have hf : x.may = true → readEnt ⟨encEnt x, 0⟩ = (x, true, ⟨[], 0⟩) := fun h => by
    have := readEnt_enc h []
    rw [List.append_nil] at this
    exact this
  refine ⟨?_, hf⟩
  cases hm : x.may with
  | true => rw [hf hm]
  | false =>
    cases hk : (readEnt ⟨encEnt x, 0⟩).2.1 with
    | false => rfl
    | true =>
      obtain ⟨_, h2, _, h4⟩ := readEnt_sound hk
      obtain ⟨h5, _⟩ := encEnt_inj hx (may_wf h2) h4
      rw [← h5, hm] at h2
      cases h2
end Go.Proofs.Ytfdhldbhbigfhaa.V
