/- The reader, in plain words: what is read of any bytes; what is written is read as it was; what is read is what is written. -/
import Derived.Test.YtfdhldbhbigfhaaVmKR4
import Derived.Test.YtfdhldbhbigfhaaVmKS
import Derived.Test.YtfdhldbhbigfhaaVmTJ
set_option linter.unusedVariables false
set_option linter.unusedSimpArgs false
namespace Go.Proofs.Ytfdhldbhbigfhaa.V
open Go.Vm

/-! ### what is read -/
def byteM (r : Rd) : UInt8 × Bool × Rd :=
  if r.err = 0 then match r.b with
    | [] => (0, false, ⟨[], 2⟩)
    | x :: t => (x, true, ⟨t, 0⟩)
  else (0, false, r)
def numM : Nat → Nat → Nat → Rd → Nat × Rd
  | 0, _, acc, r => (acc, r)
  | k + 1, j, acc, r =>
    if r.err = 0 then match r.b with
      | [] => (0, ⟨[], 2⟩)
      | x :: t => if (j = 9 ∧ 1 < x.toNat) ∨ (0 < j ∧ x.toNat = 0) then (0, ⟨[], 3⟩)
        else if x.toNat < 128 then (acc + x.toNat % 128 * 2 ^ (7 * j), ⟨t, 0⟩) else numM k (j + 1) (acc + x.toNat % 128 * 2 ^ (7 * j)) ⟨t, 0⟩
    else (0, r)
def readNum (r : Rd) : Nat × Rd := numM 10 0 0 r
def unzig (n : Nat) : Int := if n % 2 = 1 then -((n / 2 : Nat) : Int) - 1 else ((n / 2 : Nat) : Int)
def readInt (r : Rd) : Int × Rd := (unzig (readNum r).1, (readNum r).2)
def readFlag (r : Rd) : Bool × Rd :=
  if r.err = 0 then match r.b with
    | [] => (false, ⟨[], 2⟩)
    | x :: t => if 1 < x.toNat then (false, ⟨[], 3⟩) else (decide (x.toNat = 1), ⟨t, 0⟩)
  else (false, r)
def readCount (most : Nat) (r : Rd) : Nat × Rd :=
  if (readNum r).2.err = 0 then if most < (readNum r).1 then (0, ⟨[], 4⟩) else readNum r else (0, (readNum r).2)
def readText (most : Nat) (r : Rd) : List UInt8 × Rd :=
  if (readCount most r).2.err = 0 then if (readCount most r).2.b.length < (readCount most r).1 then ([], ⟨[], 2⟩) else ((readCount most r).2.b.take (readCount most r).1, ⟨(readCount most r).2.b.drop (readCount most r).1, 0⟩)
  else ([], (readCount most r).2)
def readInts : Nat → Rd → List Int × Rd
  | 0, r => ([], r)
  | k + 1, r => ((readInt r).1 :: (readInts k (readInt r).2).1, (readInts k (readInt r).2).2)
theorem readInts_len : ∀ (k : Nat) (r : Rd), (readInts k r).1.length = k
  | 0, _ => rfl
  | k + 1, r => by simp [readInts, readInts_len k]
def readV8 (r : Rd) : Vec := ⟨(readInts 8 r).1, readInts_len 8 r⟩
/-- A vector: what it is, whether it may be. -/
def readVec (r : Rd) : Vec × Bool × Rd :=
  cnd (decide ((readInts 8 r).2.err = 0) && (readV8 r).may) (readV8 r, true, (readInts 8 r).2) (zeroVec, false, (readInts 8 r).2)
def readVal (r : Rd) : Val × Rd :=
  let a := readNum r
  let b := readInt a.2
  let c := readFlag b.2
  let d := readText 200 c.2
  (⟨⟨(min a.1 8 : Nat), b.1⟩, d.1, c.1⟩, d.2)
def readVals : Nat → Rd → List Val × Rd
  | 0, r => ([], r)
  | k + 1, r => ((readVal r).1 :: (readVals k (readVal r).2).1, (readVals k (readVal r).2).2)
noncomputable def readSib (r : Rd) : Sib × Bool × Rd :=
  let a := readVec r
  let b := readCount 16 a.2.2
  let c := readVals b.1 b.2
  cnd (a.2.1 && (decide (c.2.err = 0) && (⟨a.1, c.1⟩ : Sib).may)) (⟨a.1, c.1⟩, true, c.2) (zeroSib, false, c.2)
def zeroEnt : Ent := ⟨[], zeroSib⟩
noncomputable def readEnt (r : Rd) : Ent × Bool × Rd :=
  let a := readText 32 r
  let b := readSib a.2
  cnd (b.2.1 && (⟨a.1, b.1⟩ : Ent).may) (⟨a.1, b.1⟩, true, b.2.2) (zeroEnt, false, b.2.2)
/-! ### nothing behind an error; nothing is left there -/
def Rd.Ok (r : Rd) : Prop := r.err ≠ 0 → r.b = []
theorem numM_err {k j acc : Nat} {r : Rd} (h : r.err ≠ 0) : numM (k + 1) j acc r = (0, r) := by simp [numM, h]
theorem numM_ok : ∀ (k j acc : Nat) {r : Rd}, r.Ok → (numM k j acc r).2.Ok
  | 0, _, _, _, h => h
  | k + 1, j, acc, r, h => by
    unfold numM
    split
    · split
      · intro _; rfl
      · split
        · intro _; rfl
        · split
          · intro e; exact absurd rfl e
          · exact numM_ok k _ _ (fun e => absurd rfl e)
    · exact h
theorem readNum_ok {r : Rd} (h : r.Ok) : (readNum r).2.Ok := numM_ok _ _ _ h
theorem readFlag_ok {r : Rd} (h : r.Ok) : (readFlag r).2.Ok := by
  unfold readFlag
  split
  · split
    · intro _; rfl
    · split
      · intro _; rfl
      · intro e; exact absurd rfl e
  · exact h
theorem readCount_ok {most : Nat} {r : Rd} (h : r.Ok) : (readCount most r).2.Ok := by
  unfold readCount
  split
  · split
    · intro _; rfl
    · exact readNum_ok h
  · exact readNum_ok h
theorem readText_ok {most : Nat} {r : Rd} (h : r.Ok) : (readText most r).2.Ok := by
  unfold readText
  split
  · split
    · intro _; rfl
    · intro e; exact absurd rfl e
  · exact readCount_ok h
theorem readInts_ok : ∀ (k : Nat) {r : Rd}, r.Ok → (readInts k r).2.Ok
  | 0, _, h => h
  | k + 1, r, h => readInts_ok k (readNum_ok h)
theorem readVec_ok {r : Rd} (h : r.Ok) : (readVec r).2.2.Ok := by
  unfold readVec
  have := readInts_ok 8 h
  cases (decide ((readInts 8 r).2.err = 0) && (readV8 r).may) <;> exact this
theorem readVal_ok {r : Rd} (h : r.Ok) : (readVal r).2.Ok := readText_ok (readFlag_ok (readNum_ok (readNum_ok h)))
theorem readVals_ok : ∀ (k : Nat) {r : Rd}, r.Ok → (readVals k r).2.Ok
  | 0, _, h => h
  | k + 1, r, h => readVals_ok k (readVal_ok h)
/-! ### what is read is what is written -/
theorem byte_or {x : UInt8} {m : Nat} (hx : 128 ≤ x.toNat) (hm : m % 128 = x.toNat % 128) : UInt8.ofNat m ||| 128 = x := by
  apply UInt8.toNat_inj.1
  have key : ∀ k : Fin 256, (UInt8.ofNat k.val ||| 128).toNat = k.val % 128 + 128 := by decide +kernel
  have h1 := key ⟨m % 256, Nat.mod_lt _ (by omega)⟩
  have h2 : UInt8.ofNat (m % 256) = UInt8.ofNat m := by apply UInt8.toNat_inj.1; simp
  simp only [h2] at h1
  rw [h1]
  have := x.toNat_lt
  omega
theorem numM_sound : ∀ (k j acc : Nat) (r : Rd), j + k = 9 → acc < 2 ^ (7 * j) → (numM (k + 1) j acc r).2.err = 0 →
    r.err = 0 ∧ ∃ m, (numM (k + 1) j acc r).1 = acc + m * 2 ^ (7 * j) ∧ r.b = encNum m ++ (numM (k + 1) j acc r).2.b ∧ (j = 0 ∨ 0 < m) ∧ (numM (k + 1) j acc r).1 < 18446744073709551616 := by
  intro k
  induction k with
  | zero =>
    intro j acc r hj ha he
    have : j = 9 := by omega
    subst this
    by_cases h0 : r.err = 0
    · refine ⟨h0, ?_⟩
      unfold numM at he ⊢
      rw [if_pos h0] at he ⊢
      cases hb : r.b with
      | nil => rw [hb] at he; simp at he
      | cons x t =>
        rw [hb] at he
        simp only at he ⊢
        split at he
        · simp at he
        · rename_i hc
          rw [if_neg hc]
          have hc' := hc
          simp at hc'
          have h1 : x.toNat ≤ 1 := by omega
          have h2 : x.toNat < 128 := by omega
          have h3 : 0 < x.toNat := Nat.pos_of_ne_zero fun e => hc (.inr ⟨by omega, e⟩)
          rw [if_pos h2]
          refine ⟨x.toNat, ?_, ?_, .inr h3, ?_⟩
          · rw [Nat.mod_eq_of_lt h2]
          · rw [encNum_lt h2]; simp
          · rw [Nat.mod_eq_of_lt h2]
            show acc + x.toNat * 9223372036854775808 < _
            have : acc < 9223372036854775808 := ha
            omega
    · rw [numM_err h0] at he
      exact absurd he h0
  | succ k ih =>
    intro j acc r hj ha he
    by_cases h0 : r.err = 0
    · refine ⟨h0, ?_⟩
      unfold numM at he ⊢
      rw [if_pos h0] at he ⊢
      cases hb : r.b with
      | nil => rw [hb] at he; simp at he
      | cons x t =>
        rw [hb] at he
        simp only at he ⊢
        have hp : 2 ^ (7 * (j + 1)) = 2 ^ (7 * j) * 128 := by rw [Nat.mul_add, Nat.pow_add]
        have hpow : 2 ^ (7 * j) ≤ 2 ^ 56 := Nat.pow_le_pow_right (by omega) (by omega)
        have hx128 : x.toNat % 128 * 2 ^ (7 * j) ≤ 127 * 2 ^ (7 * j) := Nat.mul_le_mul_right _ (by omega)
        split at he
        · simp at he
        · rename_i hc
          rw [if_neg hc]
          by_cases h2 : x.toNat < 128
          · rw [if_pos h2]
            refine ⟨x.toNat, ?_, ?_, ?_, ?_⟩
            · rw [Nat.mod_eq_of_lt h2]
            · rw [encNum_lt h2]; simp
            · by_cases hj0 : j = 0
              · exact .inl hj0
              · right; omega
            · show acc + x.toNat % 128 * 2 ^ (7 * j) < _
              generalize x.toNat % 128 * 2 ^ (7 * j) = y at *
              omega
          · rw [if_neg h2] at he ⊢
            obtain ⟨_, m, e1, e2, e3, e4⟩ := ih (j + 1) (acc + x.toNat % 128 * 2 ^ (7 * j)) ⟨t, 0⟩ (by omega) (by rw [hp]; generalize x.toNat % 128 * 2 ^ (7 * j) = y at *; omega) he
            have hm : 0 < m := by omega
            refine ⟨x.toNat % 128 + 128 * m, ?_, ?_, .inr (by omega), e4⟩
            · rw [e1, hp, Nat.add_mul, Nat.add_assoc]
              congr 2
              rw [Nat.mul_comm 128 m, Nat.mul_assoc, Nat.mul_comm 128]
            · rw [encNum_ge (by omega), byte_or (x := x) (by omega) (by omega), show (x.toNat % 128 + 128 * m) / 128 = m by omega, List.cons_append]
              congr 1
    · rw [numM_err h0] at he
      exact absurd he h0
theorem readNum_sound {r : Rd} (he : (readNum r).2.err = 0) : r.err = 0 ∧ r.b = encNum (readNum r).1 ++ (readNum r).2.b ∧ (readNum r).1 < 18446744073709551616 := by
  obtain ⟨h1, m, e1, e2, _, e4⟩ := numM_sound 9 0 0 r (by omega) (by simp) he
  have : (numM (9 + 1) 0 0 r).1 = m := by rw [e1]; simp
  refine ⟨h1, ?_, e4⟩
  show r.b = encNum (numM (9 + 1) 0 0 r).1 ++ _
  rw [this]
  exact e2
theorem zig_unzig (n : Nat) : zig (unzig n) = n := by
  unfold zig unzig
  split <;> split <;> omega
theorem unzig_zig (n : Int) : unzig (zig n) = n := by
  unfold zig unzig
  split <;> split <;> omega
theorem unzig_i64 {n : Nat} (h : n < 18446744073709551616) : I64 (unzig n) := by
  unfold unzig I64
  split <;> omega
theorem readInt_sound {r : Rd} (he : (readInt r).2.err = 0) : r.err = 0 ∧ r.b = encNum (zig (readInt r).1) ++ (readInt r).2.b ∧ I64 (readInt r).1 := by
  obtain ⟨h1, h2, h3⟩ := readNum_sound he
  refine ⟨h1, ?_, unzig_i64 h3⟩
  show r.b = encNum (zig (unzig (readNum r).1)) ++ _
  rw [zig_unzig]
  exact h2
theorem readFlag_sound {r : Rd} (he : (readFlag r).2.err = 0) : r.err = 0 ∧ r.b = (if (readFlag r).1 = true then 1 else 0) :: (readFlag r).2.b := by
  unfold readFlag at he ⊢
  by_cases h0 : r.err = 0
  · rw [if_pos h0] at he ⊢
    refine ⟨h0, ?_⟩
    cases hb : r.b with
    | nil => rw [hb] at he; simp at he
    | cons x t =>
      rw [hb] at he
      simp only at he ⊢
      split at he
      · simp at he
      · rename_i hc
        simp only [if_neg hc]
        by_cases h1 : x.toNat = 1
        · rw [decide_eq_true h1]
          simp only [if_true]
          congr 1
          exact UInt8.toNat_inj.1 h1
        · rw [decide_eq_false h1]
          have h2 : x.toNat = 0 := by omega
          simp only [Bool.false_eq_true, if_false]
          congr 1
          exact UInt8.toNat_inj.1 h2
  · rw [if_neg h0] at he
    exact absurd he h0
theorem readCount_sound {most : Nat} {r : Rd} (he : (readCount most r).2.err = 0) : r.err = 0 ∧ r.b = encNum (readCount most r).1 ++ (readCount most r).2.b ∧ (readCount most r).1 ≤ most := by
  unfold readCount at he ⊢
  by_cases h0 : (readNum r).2.err = 0
  · rw [if_pos h0] at he ⊢
    by_cases h1 : most < (readNum r).1
    · rw [if_pos h1] at he; simp at he
    · rw [if_neg h1]
      obtain ⟨a, b, _⟩ := readNum_sound h0
      exact ⟨a, b, by omega⟩
  · rw [if_neg h0] at he
    exact absurd he h0
theorem readText_sound {most : Nat} {r : Rd} (he : (readText most r).2.err = 0) : r.err = 0 ∧ r.b = encNum (readText most r).1.length ++ ((readText most r).1 ++ (readText most r).2.b) ∧ (readText most r).1.length ≤ most := by
  unfold readText at he ⊢
  by_cases h0 : (readCount most r).2.err = 0
  · rw [if_pos h0] at he ⊢
    obtain ⟨a, b, c⟩ := readCount_sound h0
    by_cases h1 : (readCount most r).2.b.length < (readCount most r).1
    · rw [if_pos h1] at he; simp at he
    · rw [if_neg h1]
      refine ⟨a, ?_, ?_⟩
      · simp only [List.length_take, Nat.min_eq_left (Nat.le_of_not_lt h1), List.take_append_drop]
        exact b
      · simp only [List.length_take]; omega
  · rw [if_neg h0] at he
    exact absurd he h0
def encZ (l : List Int) : List UInt8 := l.flatMap fun n => encNum (zig n)
theorem readInts_sound : ∀ (k : Nat) (r : Rd), (readInts k r).2.err = 0 → r.err = 0 ∧ r.b = encZ (readInts k r).1 ++ (readInts k r).2.b
  | 0, r, h => ⟨h, by simp [readInts, encZ]⟩
  | k + 1, r, h => by
    obtain ⟨h1, h2⟩ := readInts_sound k (readInt r).2 h
    obtain ⟨h3, h4, _⟩ := readInt_sound h1
    refine ⟨h3, ?_⟩
    rw [h4, h2]
    simp [readInts, encZ]
def encVal (v : Val) : List UInt8 := encNum (u64 v.dot.node) ++ (encNum (zig v.dot.n) ++ ((if v.dead = true then 1 else 0) :: (encNum v.data.length ++ v.data)))
def encSib (s : Sib) : List UInt8 := encZ s.seen.l ++ (encNum s.vals.length ++ s.vals.flatMap encVal)
def encEnt (e : Ent) : List UInt8 := encNum e.key.length ++ (e.key ++ encSib e.sib)
theorem readVal_sound {r : Rd} (he : (readVal r).2.err = 0) (hn : (readVal r).1.dot.node < 8) : r.err = 0 ∧ r.b = encVal (readVal r).1 ++ (readVal r).2.b := by
  obtain ⟨h1, h2, _⟩ := readText_sound (most := 200) he
  obtain ⟨h3, h4⟩ := readFlag_sound h1
  obtain ⟨h5, h6, _⟩ := readInt_sound h3
  obtain ⟨h7, h8, _⟩ := readNum_sound h5
  refine ⟨h7, ?_⟩
  have hlt : (readNum r).1 < 8 := by
    have : (((min (readNum r).1 8 : Nat)) : Int) < 8 := hn
    omega
  have hu : u64 (readVal r).1.dot.node = (readNum r).1 := by
    show u64 ((min (readNum r).1 8 : Nat) : Int) = _
    unfold u64
    omega
  unfold encVal
  rw [hu, h8, h6, h4, h2]
  simp only [List.append_assoc, List.cons_append]
  rfl
theorem readVals_sound : ∀ (k : Nat) (r : Rd), (readVals k r).2.err = 0 → (∀ v ∈ (readVals k r).1, v.dot.node < 8) → r.err = 0 ∧ r.b = (readVals k r).1.flatMap encVal ++ (readVals k r).2.b
  | 0, r, h, _ => ⟨h, by simp [readVals]⟩
  | k + 1, r, h, hn => by
    obtain ⟨h1, h2⟩ := readVals_sound k (readVal r).2 h (fun v hv => hn v (by simp [readVals, hv]))
    obtain ⟨h3, h4⟩ := readVal_sound h1 (hn _ (by simp [readVals]))
    refine ⟨h3, ?_⟩
    rw [h4, h2]
    simp [readVals]
theorem readVals_len : ∀ (k : Nat) (r : Rd), (readVals k r).1.length = k
  | 0, _ => rfl
  | k + 1, r => by simp [readVals, readVals_len k]
theorem node_lt {s : Sib} (hs : s.may = true) {v : Val} (hv : v ∈ s.vals) : 0 ≤ v.dot.node ∧ v.dot.node < 8 := by
  have := (covers_iff _ _).1 (valOk_covers (((may_iff s).1 hs).val v hv))
  exact ⟨this.1, this.2.1⟩
theorem readSib_sound {r : Rd} (hk : (readSib r).2.1 = true) : (readSib r).2.2.err = 0 ∧ (readSib r).1.may = true ∧ r.err = 0 ∧ r.b = encSib (readSib r).1 ++ (readSib r).2.2.b := by
  unfold readSib at hk ⊢
  simp only at hk ⊢
  cases hc : ((readVec r).2.1 && (decide ((readVals (readCount 16 (readVec r).2.2).1 (readCount 16 (readVec r).2.2).2).2.err = 0) && (⟨(readVec r).1, (readVals (readCount 16 (readVec r).2.2).1 (readCount 16 (readVec r).2.2).2).1⟩ : Sib).may)) with
  | false => rw [hc] at hk; cases hk
  | true =>
    simp only [cnd_true]
    simp only [Bool.and_eq_true, decide_eq_true_eq] at hc
    obtain ⟨h1, h2, h3⟩ := hc
    refine ⟨h2, h3, ?_⟩
    obtain ⟨h4, h5⟩ := readVals_sound _ _ h2 fun v hv => (node_lt h3 hv).2
    obtain ⟨h6, h7, _⟩ := readCount_sound h4
    unfold readVec at h1 h6 h7 ⊢
    cases hv : (decide ((readInts 8 r).2.err = 0) && (readV8 r).may) with
    | false => rw [hv] at h1; cases h1
    | true =>
      rw [hv] at h6 h7
      simp only [cnd_true] at h6 h7 ⊢
      obtain ⟨h8, h9⟩ := readInts_sound 8 r h6
      refine ⟨h8, ?_⟩
      unfold readVec at h5
      rw [hv] at h5
      simp only [cnd_true] at h5
      unfold encSib
      simp only [readVals_len]
      rw [h9, h7, h5]
      simp [readV8]
theorem readEnt_sound {r : Rd} (hk : (readEnt r).2.1 = true) : (readEnt r).2.2.err = 0 ∧ (readEnt r).1.may = true ∧ r.err = 0 ∧ r.b = encEnt (readEnt r).1 ++ (readEnt r).2.2.b := by
  unfold readEnt at hk ⊢
  simp only at hk ⊢
  cases hc : ((readSib (readText 32 r).2).2.1 && (⟨(readText 32 r).1, (readSib (readText 32 r).2).1⟩ : Ent).may) with
  | false => rw [hc] at hk; cases hk
  | true =>
    simp only [cnd_true]
    simp only [Bool.and_eq_true] at hc
    obtain ⟨h1, h2⟩ := hc
    obtain ⟨h3, h4, h5, h6⟩ := readSib_sound h1
    obtain ⟨h7, h8, _⟩ := readText_sound h5
    refine ⟨h3, h2, h7, ?_⟩
    unfold encEnt
    simp only
    rw [h8, h6]
    simp
end Go.Proofs.Ytfdhldbhbigfhaa.V
