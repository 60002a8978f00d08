/- What joining leaves: values of two joined, by their members. No function of the program in sight. -/
import Derived.Test.YthkfjefoblmbhaaVmR5C
set_option linter.unusedVariables false
set_option linter.unusedSimpArgs false
namespace Go.Proofs.Ythkfjefoblmbhaa.V
open Go.Vm

theorem first_or (a b : Val) : a.first b = a ∨ a.first b = b := by
  unfold Val.first
  split <;> split <;> simp
theorem insertV_mem {u v : Val} : ∀ {l : List Val}, u ∈ insertV l v → u = v ∨ u ∈ l
  | [], h => .inl (by simpa [insertV] using h)
  | w :: l, h => by
    unfold insertV at h
    split at h
    · rcases List.mem_cons.1 h with h | h
      · exact .inr (by simp [h])
      · rcases insertV_mem h with h | h
        · exact .inl h
        · exact .inr (by simp [h])
    · exact List.mem_cons.1 h
theorem joinA_all {P : Val → Prop} {b : Sib} (hb : ∀ v ∈ b.vals, P v) : ∀ (l out : List Val), (∀ v ∈ l, P v) → (∀ v ∈ out, P v) → ∀ v ∈ l.foldl (joinA b) out, P v
  | [], out, _, h => h
  | x :: l, out, hl, h => by
    rw [List.foldl_cons]
    refine joinA_all hb l _ (fun v hv => hl v (by simp [hv])) ?_
    have hx := hl x (by simp)
    have ins : ∀ w, P w → ∀ v ∈ insertV out w, P v := fun w hw v hv => by
      rcases insertV_mem hv with rfl | hv
      · exact hw
      · exact h v hv
    unfold joinA
    split
    · rename_i k hk
      obtain ⟨u, hu, _⟩ := findD_some hk
      rw [hu]
      refine ins _ ?_
      show P (x.first u)
      rcases first_or x u with e | e <;> rw [e]
      · exact hx
      · exact hb u (List.mem_of_getElem? hu)
    · cases b.seen.covers x.dot
      · exact ins _ hx
      · exact h
theorem joinB_all {P : Val → Prop} {a : Sib} : ∀ (l out : List Val), (∀ v ∈ l, P v) → (∀ v ∈ out, P v) → ∀ v ∈ l.foldl (joinB a) out, P v
  | [], out, _, h => h
  | x :: l, out, hl, h => by
    rw [List.foldl_cons]
    refine joinB_all l _ (fun v hv => hl v (by simp [hv])) ?_
    have hx := hl x (by simp)
    unfold joinB
    cases ((findD a.vals x.dot).isNone && !a.seen.covers x.dot)
    · exact h
    · intro v hv
      rcases insertV_mem hv with rfl | hv
      · exact hx
      · exact h v hv
theorem zipMax_all {P : Int → Prop} : ∀ {a b : List Int}, (∀ n ∈ a, P n) → (∀ n ∈ b, P n) → ∀ n ∈ List.zipWith max a b, P n
  | [], _, _, _ => by simp
  | _ :: _, [], _, _ => by simp
  | x :: a, y :: b, ha, hb => by
    intro n hn
    rcases List.mem_cons.1 hn with rfl | hn
    · rcases Int.le_total x y with h | h
      · rw [Int.max_eq_right h]; exact hb y (by simp)
      · rw [Int.max_eq_left h]; exact ha x (by simp)
    · exact zipMax_all (fun n hn => ha n (by simp [hn])) (fun n hn => hb n (by simp [hn])) n hn
theorem less_irrefl (a : Dot) : a.less a = false := by simp [Dot.less]
theorem less_trans {a b c : Dot} (h1 : a.less b = true) (h2 : b.less c = true) : a.less c = true := by
  simp only [Dot.less, Bool.or_eq_true, Bool.and_eq_true, decide_eq_true_eq] at *
  omega
theorem less_tri (a b : Dot) : a.less b = true ∨ a = b ∨ b.less a = true := by
  simp only [Dot.less, Bool.or_eq_true, Bool.and_eq_true, decide_eq_true_eq]
  rcases Int.lt_trichotomy a.node b.node with h | h | h
  · exact .inl (.inl h)
  · rcases Int.lt_trichotomy a.n b.n with h' | h' | h'
    · exact .inl (.inr ⟨h, h'⟩)
    · exact .inr (.inl (by cases a; cases b; simp_all))
    · exact .inr (.inr (.inr ⟨h.symm, h'⟩))
  · exact .inr (.inr (.inl h))
def Srt (l : List Val) : Prop := l.Pairwise fun u v => u.dot.less v.dot = true
theorem Srt.dot_inj : ∀ {l : List Val} {u v : Val}, Srt l → u ∈ l → v ∈ l → u.dot = v.dot → u = v
  | w :: l, u, v, h, hu, hv, e => by
    rw [Srt, List.pairwise_cons] at h
    rcases List.mem_cons.1 hu with hu | hu <;> rcases List.mem_cons.1 hv with hv | hv
    · rw [hu, hv]
    · have := h.1 v hv
      rw [← hu, e, less_irrefl] at this; cases this
    · have := h.1 u hu
      rw [← hv, e, less_irrefl] at this; cases this
    · exact Srt.dot_inj (l := l) h.2 hu hv e
theorem Srt.ext : ∀ {a b : List Val}, Srt a → Srt b → (∀ v, v ∈ a ↔ v ∈ b) → a = b
  | [], [], _, _, _ => rfl
  | [], v :: b, _, _, h => absurd ((h v).2 (by simp)) (by simp)
  | u :: a, [], _, _, h => absurd ((h u).1 (by simp)) (by simp)
  | u :: a, v :: b, ha, hb, h => by
    have ha' := ha
    have hb' := hb
    rw [Srt, List.pairwise_cons] at ha hb
    have huv : u = v := by
      rcases List.mem_cons.1 ((h u).1 (by simp)) with h1 | h1
      · exact h1
      · rcases List.mem_cons.1 ((h v).2 (by simp)) with h2 | h2
        · exact h2.symm
        · have h3 := less_trans (hb.1 u h1) (ha.1 v h2)
          rw [less_irrefl] at h3; cases h3
    subst huv
    congr 1
    refine Srt.ext (a := a) (b := b) ha.2 hb.2 fun w => ⟨fun hw => ?_, fun hw => ?_⟩
    · rcases List.mem_cons.1 ((h w).1 (by simp [hw])) with h1 | h1
      · have := ha.1 w hw
        rw [h1, less_irrefl] at this; cases this
      · exact h1
    · rcases List.mem_cons.1 ((h w).2 (by simp [hw])) with h1 | h1
      · have := hb.1 w hw
        rw [h1, less_irrefl] at this; cases this
      · exact h1
theorem mem_insertV {u v : Val} : ∀ {l : List Val}, u ∈ insertV l v ↔ u = v ∨ u ∈ l
  | [] => by simp [insertV]
  | w :: l => by
    unfold insertV
    split
    · simp only [List.mem_cons, mem_insertV (l := l)]
      constructor
      · rintro (h | h | h)
        · exact .inr (.inl h)
        · exact .inl h
        · exact .inr (.inr h)
      · rintro (h | h | h)
        · exact .inr (.inl h)
        · exact .inl h
        · exact .inr (.inr h)
    · simp only [List.mem_cons]
theorem insertV_srt : ∀ {l : List Val} {v : Val}, Srt l → (∀ u ∈ l, u.dot ≠ v.dot) → Srt (insertV l v)
  | [], v, _, _ => by simp [insertV, Srt]
  | u :: l, v, h, hne => by
    have h' := h
    rw [Srt, List.pairwise_cons] at h
    unfold insertV
    split
    · rename_i hlt
      rw [Srt, List.pairwise_cons]
      refine ⟨fun w hw => ?_, insertV_srt h.2 (fun x hx => hne x (by simp [hx]))⟩
      rcases mem_insertV.1 hw with rfl | hw
      · exact hlt
      · exact h.1 w hw
    · rename_i hlt
      have h1 : v.dot.less u.dot = true := by
        rcases less_tri u.dot v.dot with h | h | h
        · exact absurd h hlt
        · exact absurd h (hne u (by simp))
        · exact h
      rw [Srt, List.pairwise_cons]
      refine ⟨fun w hw => ?_, h'⟩
      rcases List.mem_cons.1 hw with rfl | hw
      · exact h1
      · exact less_trans h1 (h.1 w hw)

structure SGood (s : Sib) : Prop where
  seen : ∀ n ∈ s.seen.l, 0 ≤ n ∧ n ≤ 1099511627776
  len : s.vals.length ≤ 16
  srt : Srt s.vals
  val : ∀ v ∈ s.vals, valOk s.seen v = true
theorem may_iff (s : Sib) : s.may = true ↔ SGood s := by
  constructor
  · intro h
    have hseen : ∀ n ∈ s.seen.l, 0 ≤ n ∧ n ≤ 1099511627776 := by
      have h := h
      unfold Sib.may at h
      simp only [Bool.and_eq_true] at h
      intro n hn
      have := List.all_eq_true.1 h.1 n hn
      unfold cntOk at this
      simpa using this
    refine ⟨hseen, may_len h, ?_, fun v hv => ?_⟩
    · have hadj : ∀ i, i + 1 < s.vals.length → ∀ u v, s.vals[i]? = some u → s.vals[i + 1]? = some v → u.dot.less v.dot = true := fun i hi u v hu hv => by
        have := (may_at h hv).2
        simp only [upTo] at this
        rw [getB_at hu] at this
        exact this
      rw [Srt, List.pairwise_iff_getElem]
      intro i j hi hj hij
      have : ∀ d i, (hi : i < s.vals.length) → (hj : i + d + 1 < s.vals.length) → (s.vals[i]'hi).dot.less (s.vals[i + d + 1]'hj).dot = true := by
        intro d
        induction d with
        | zero => intro i hi hj; exact hadj i hj _ _ (List.getElem?_eq_getElem hi) (List.getElem?_eq_getElem hj)
        | succ d ih =>
          intro i hi hj
          exact less_trans (ih i hi (by omega)) (hadj (i + d + 1) (by omega) _ _ (List.getElem?_eq_getElem (by omega)) (List.getElem?_eq_getElem (by omega)))
      have := this (j - i - 1) i hi (by omega)
      have e : i + (j - i - 1) + 1 = j := by omega
      simp only [e] at this
      exact this
    · obtain ⟨j, hj, rfl⟩ := List.getElem_of_mem hv
      exact (may_at h (List.getElem?_eq_getElem hj)).1
  · intro h
    refine mayLoop_end rfl ?_ h.len fun j hj => ?_
    · unfold Vec.may
      rw [List.all_eq_true]
      intro n hn
      have := h.seen n hn
      simp [cntOk, this]
    · unfold sibAt
      rw [getB_at (List.getElem?_eq_getElem hj), h.val _ (List.getElem_mem hj), Bool.true_and]
      cases j with
      | zero => rfl
      | succ j =>
        simp only [upTo]
        rw [getB_at (List.getElem?_eq_getElem (show j < s.vals.length by omega))]
        have := h.srt
        rw [Srt, List.pairwise_iff_getElem] at this
        exact this j (j + 1) (by omega) hj (by omega)

theorem covers_iff (v : Vec) (d : Dot) : v.covers d = true ↔ 0 ≤ d.node ∧ d.node < 8 ∧ 1 ≤ d.n ∧ d.n ≤ v.l[d.node.toNat]?.getD 0 := by
  unfold Vec.covers
  simp only [Bool.and_eq_true, decide_eq_true_eq, and_assoc]
theorem join_get (a b : Vec) (i : Nat) (hi : i < 8) : (a.join b).l[i]?.getD 0 = max (a.l[i]?.getD 0) (b.l[i]?.getD 0) := by
  obtain ⟨x, hx, _, _⟩ := get_of_lt (l := a.l) (i := i) (by simp; omega)
  obtain ⟨y, hy, _, _⟩ := get_of_lt (l := b.l) (i := i) (by simp; omega)
  unfold Vec.join
  simp [List.getElem?_zipWith, hx, hy]
theorem covers_join (a b : Vec) (d : Dot) : (a.join b).covers d = true ↔ a.covers d = true ∨ b.covers d = true := by
  simp only [covers_iff]
  constructor
  · rintro ⟨h1, h2, h3, h4⟩
    rw [join_get a b _ (by omega)] at h4
    rcases Int.le_total (a.l[d.node.toNat]?.getD 0) (b.l[d.node.toNat]?.getD 0) with h | h
    · exact .inr ⟨h1, h2, h3, by omega⟩
    · exact .inl ⟨h1, h2, h3, by omega⟩
  · rintro (⟨h1, h2, h3, h4⟩ | ⟨h1, h2, h3, h4⟩) <;> exact ⟨h1, h2, h3, by rw [join_get a b _ (by omega)]; omega⟩
theorem zipMax_zero : ∀ (n : Nat) (a : List Int), a.length = n → (∀ x ∈ a, 0 ≤ x) → List.zipWith max (List.replicate n 0) a = a
  | 0, [], _, _ => rfl
  | n + 1, x :: a, h, hx => by
    simp only [List.replicate_succ, List.zipWith_cons_cons, zipMax_zero n a (by simpa using h) (fun y hy => hx y (by simp [hy]))]
    have := hx x (by simp)
    congr 1
    omega
theorem zero_covers (d : Dot) : zeroVec.covers d = false := by
  cases h : zeroVec.covers d
  · rfl
  · rw [covers_iff] at h
    obtain ⟨h1, h2, h3, h4⟩ := h
    have : zeroVec.l[d.node.toNat]?.getD 0 = 0 := by
      simp only [zeroVec, List.getElem?_replicate]
      split <;> rfl
    omega
theorem valOk_covers {s : Vec} {v : Val} (h : valOk s v = true) : s.covers v.dot = true := by
  unfold valOk at h
  simp only [Bool.and_eq_true] at h
  exact h.1

def joinAll (a b : Sib) : List Val := b.vals.foldl (joinB a) (a.vals.foldl (joinA b) [])
theorem joinVals_all (a b : Sib) : joinVals a b = (joinAll a b).take 16 := rfl
theorem joinA_cases (b : Sib) (out : List Val) (v : Val) : (joinA b out v = out ∧ b.seen.covers v.dot = true ∧ ∀ u ∈ b.vals, u.dot ≠ v.dot) ∨ ∃ w, joinA b out v = insertV out w ∧ w.dot = v.dot ∧ (w = v ∨ w ∈ b.vals) ∧ ((∃ u ∈ b.vals, u.dot = v.dot ∧ (w = v ∨ w = u)) ∨ (b.seen.covers v.dot = false ∧ w = v ∧ ∀ u ∈ b.vals, u.dot ≠ v.dot)) := by
  unfold joinA
  cases hf : findD b.vals v.dot with
  | some k =>
    obtain ⟨u, hu, hud⟩ := findD_some hf
    have hum := List.mem_of_getElem? hu
    refine .inr ⟨v.first u, by simp [hu], ?_, ?_, .inl ⟨u, hum, hud, first_or v u⟩⟩
    · rcases first_or v u with h | h <;> rw [h]
      exact hud
    · rcases first_or v u with h | h
      · exact .inl h
      · exact .inr (h.symm ▸ hum)
  | none =>
    have hno : ∀ u ∈ b.vals, u.dot ≠ v.dot := fun u hu e => by
      unfold findD at hf
      rw [List.findIdx?_eq_none_iff] at hf
      have := hf u hu
      rw [decide_eq_true e] at this
      cases this
    cases hc : b.seen.covers v.dot with
    | true => exact .inl ⟨rfl, rfl, hno⟩
    | false => exact .inr ⟨v, rfl, rfl, .inl rfl, .inr ⟨rfl, rfl, hno⟩⟩
theorem findD_none_iff {l : List Val} {d : Dot} : findD l d = none ↔ ∀ u ∈ l, u.dot ≠ d := by
  unfold findD
  rw [List.findIdx?_eq_none_iff]
  refine ⟨fun h u hu e => ?_, fun h u hu => decide_eq_false (h u hu)⟩
  have := h u hu
  rw [decide_eq_true e] at this
  cases this
theorem joinB_cases (a : Sib) (out : List Val) (v : Val) : (joinB a out v = insertV out v ∧ a.seen.covers v.dot = false ∧ ∀ u ∈ a.vals, u.dot ≠ v.dot) ∨ (joinB a out v = out ∧ (a.seen.covers v.dot = true ∨ ∃ u ∈ a.vals, u.dot = v.dot)) := by
  unfold joinB
  cases hf : findD a.vals v.dot with
  | some k =>
    obtain ⟨u, hu, hud⟩ := findD_some hf
    exact .inr ⟨rfl, .inr ⟨u, List.mem_of_getElem? hu, hud⟩⟩
  | none =>
    cases hc : a.seen.covers v.dot with
    | true => exact .inr ⟨rfl, .inl rfl⟩
    | false => exact .inl ⟨rfl, rfl, findD_none_iff.1 hf⟩
theorem foldA_srt (b : Sib) : ∀ (l out : List Val), Srt l → Srt out → (∀ u ∈ out, ∀ v ∈ l, u.dot ≠ v.dot) → Srt (l.foldl (joinA b) out) ∧ ∀ u ∈ l.foldl (joinA b) out, u ∈ out ∨ ∃ v ∈ l, v.dot = u.dot
  | [], out, _, h, _ => ⟨h, fun u hu => .inl hu⟩
  | v :: l, out, hl, h, hne => by
    rw [Srt, List.pairwise_cons] at hl
    rw [List.foldl_cons]
    rcases joinA_cases b out v with ⟨e, _⟩ | ⟨w, e, hw, _⟩
    · rw [e]
      obtain ⟨h1, h2⟩ := foldA_srt b l out hl.2 h (fun u hu x hx => hne u hu x (by simp [hx]))
      refine ⟨h1, fun u hu => (h2 u hu).imp id fun ⟨x, hx, hd⟩ => ⟨x, by simp [hx], hd⟩⟩
    · rw [e]
      obtain ⟨h1, h2⟩ := foldA_srt b l (insertV out w) hl.2 (insertV_srt h (fun u hu => by rw [hw]; exact hne u hu v (by simp))) (fun u hu x hx => by
        rcases mem_insertV.1 hu with rfl | hu
        · rw [hw]
          intro hd
          have := hl.1 x hx
          rw [hd, less_irrefl] at this; cases this
        · exact hne u hu x (by simp [hx]))
      refine ⟨h1, fun u hu => ?_⟩
      rcases h2 u hu with h3 | ⟨x, hx, hd⟩
      · rcases mem_insertV.1 h3 with rfl | h3
        · exact .inr ⟨v, by simp, hw.symm⟩
        · exact .inl h3
      · exact .inr ⟨x, by simp [hx], hd⟩
theorem foldB_srt (a : Sib) : ∀ (l out : List Val), Srt l → Srt out → (∀ u ∈ out, ∀ v ∈ l, u.dot = v.dot → ∃ x ∈ a.vals, x.dot = v.dot) → Srt (l.foldl (joinB a) out)
  | [], out, _, h, _ => h
  | v :: l, out, hl, h, hne => by
    rw [Srt, List.pairwise_cons] at hl
    rw [List.foldl_cons]
    rcases joinB_cases a out v with ⟨e, _, hno⟩ | ⟨e, _⟩
    · rw [e]
      refine foldB_srt a l _ hl.2 (insertV_srt h fun u hu hd => ?_) fun u hu x hx hd => ?_
      · obtain ⟨y, hy, hyd⟩ := hne u hu v (by simp) hd
        exact hno y hy hyd
      · rcases mem_insertV.1 hu with rfl | hu
        · have := hl.1 x hx
          rw [hd, less_irrefl] at this; cases this
        · exact hne u hu x (by simp [hx]) hd
    · rw [e]
      exact foldB_srt a l out hl.2 h fun u hu x hx hd => hne u hu x (by simp [hx]) hd
theorem joinAll_srt {a b : Sib} (ha : Srt a.vals) (hb : Srt b.vals) : Srt (joinAll a b) := by
  obtain ⟨h1, h2⟩ := foldA_srt b a.vals [] ha (by simp [Srt]) (by simp)
  refine foldB_srt a b.vals _ hb h1 fun u hu v hv hd => ?_
  rcases h2 u hu with h3 | ⟨x, hx, hxd⟩
  · cases h3
  · exact ⟨x, hx, hxd.trans hd⟩
theorem joinAll_mem (a b : Sib) {v : Val} (h : v ∈ joinAll a b) : v ∈ a.vals ∨ v ∈ b.vals :=
  joinB_all (P := fun v => v ∈ a.vals ∨ v ∈ b.vals) b.vals _ (fun v hv => .inr hv) (joinA_all (b := b) (fun v hv => .inr hv) a.vals [] (fun v hv => .inl hv) (by simp)) v h
theorem valOk_mono {s t : Vec} {v : Val} (h : valOk s v = true) (hc : t.covers v.dot = true) : valOk t v = true := by
  unfold valOk at *
  simp only [Bool.and_eq_true] at *
  exact ⟨hc, h.2⟩
theorem join_may {a b : Sib} (ha : a.may = true) (hb : b.may = true) : (a.join b).may = true := by
  have ga := (may_iff a).1 ha
  have gb := (may_iff b).1 hb
  have : a.join b = ⟨a.seen.join b.seen, joinVals a b⟩ := by unfold Sib.join; rw [ha, hb]; rfl
  rw [this, may_iff]
  refine ⟨zipMax_all ga.seen gb.seen, by show (joinVals a b).length ≤ 16; rw [joinVals_all]; simp; omega, ?_, fun v hv => ?_⟩
  · show Srt (joinVals a b)
    rw [joinVals_all]
    exact (joinAll_srt ga.srt gb.srt).sublist (List.take_sublist _ _)
  · rcases joinAll_mem a b (List.mem_of_mem_take hv) with h | h
    · exact valOk_mono (ga.val v h) ((covers_join _ _ _).2 (.inl (valOk_covers (ga.val v h))))
    · exact valOk_mono (gb.val v h) ((covers_join _ _ _).2 (.inr (valOk_covers (gb.val v h))))

def Agree (a b : Sib) : Prop := ∀ v ∈ a.vals, ∀ w ∈ b.vals, v.dot = w.dot → v = w
theorem Agree.symm {a b : Sib} (h : Agree a b) : Agree b a := fun v hv w hw e => (h w hw v hv e.symm).symm
theorem foldA_mem {a b : Sib} (hg : Agree a b) {v : Val} : ∀ (l out : List Val), (∀ u ∈ l, u ∈ a.vals) → (v ∈ l.foldl (joinA b) out ↔ v ∈ out ∨ (v ∈ l ∧ (v ∈ b.vals ∨ b.seen.covers v.dot = false)))
  | [], out, _ => by simp
  | x :: l, out, hl => by
    rw [List.foldl_cons, foldA_mem hg l _ (fun u hu => hl u (by simp [hu]))]
    have hx := hl x (by simp)
    rcases joinA_cases b out x with ⟨e, hc, hno⟩ | ⟨w, e, hw, _, ⟨u, hu, hud, hwu⟩ | ⟨hc, hwx, hno⟩⟩
    · rw [e]
      constructor
      · rintro (h | ⟨h, h'⟩)
        · exact .inl h
        · exact .inr ⟨by simp [h], h'⟩
      · rintro (h | ⟨h, h'⟩)
        · exact .inl h
        · rcases List.mem_cons.1 h with rfl | h
          · rcases h' with h' | h'
            · exact absurd rfl (hno v h')
            · rw [hc] at h'; cases h'
          · exact .inr ⟨h, h'⟩
    · have hxu : x = u := hg x hx u hu hud.symm
      subst hxu
      have hwx : w = x := hwu.elim id id
      subst hwx
      rw [e, mem_insertV]
      constructor
      · rintro ((rfl | h) | ⟨h, h'⟩)
        · exact .inr ⟨by simp, .inl hu⟩
        · exact .inl h
        · exact .inr ⟨by simp [h], h'⟩
      · rintro (h | ⟨h, h'⟩)
        · exact .inl (.inr h)
        · rcases List.mem_cons.1 h with rfl | h
          · exact .inl (.inl rfl)
          · exact .inr ⟨h, h'⟩
    · subst hwx
      rw [e, mem_insertV]
      constructor
      · rintro ((rfl | h) | ⟨h, h'⟩)
        · exact .inr ⟨by simp, .inr hc⟩
        · exact .inl h
        · exact .inr ⟨by simp [h], h'⟩
      · rintro (h | ⟨h, h'⟩)
        · exact .inl (.inr h)
        · rcases List.mem_cons.1 h with rfl | h
          · exact .inl (.inl rfl)
          · exact .inr ⟨h, h'⟩
theorem foldB_mem {a : Sib} {v : Val} : ∀ (l out : List Val), (v ∈ l.foldl (joinB a) out ↔ v ∈ out ∨ (v ∈ l ∧ a.seen.covers v.dot = false ∧ ∀ u ∈ a.vals, u.dot ≠ v.dot))
  | [], out => by simp
  | x :: l, out => by
    rw [List.foldl_cons, foldB_mem l _]
    rcases joinB_cases a out x with ⟨e, hc, hno⟩ | ⟨e, hc⟩
    · rw [e, mem_insertV]
      constructor
      · rintro ((rfl | h) | ⟨h, h'⟩)
        · exact .inr ⟨by simp, hc, hno⟩
        · exact .inl h
        · exact .inr ⟨by simp [h], h'⟩
      · rintro (h | ⟨h, h'⟩)
        · exact .inl (.inr h)
        · rcases List.mem_cons.1 h with rfl | h
          · exact .inl (.inl rfl)
          · exact .inr ⟨h, h'⟩
    · rw [e]
      constructor
      · rintro (h | ⟨h, h'⟩)
        · exact .inl h
        · exact .inr ⟨by simp [h], h'⟩
      · rintro (h | ⟨h, h', h''⟩)
        · exact .inl h
        · rcases List.mem_cons.1 h with rfl | h
          · rcases hc with hc | ⟨u, hu, hud⟩
            · rw [h'] at hc; cases hc
            · exact absurd hud (h'' u hu)
          · exact .inr ⟨h, h', h''⟩
theorem mem_joinAll {a b : Sib} (ha : SGood a) (hb : SGood b) (hg : Agree a b) {v : Val} : v ∈ joinAll a b ↔ (v ∈ a.vals ∧ (v ∈ b.vals ∨ b.seen.covers v.dot = false)) ∨ (v ∈ b.vals ∧ (v ∈ a.vals ∨ a.seen.covers v.dot = false)) := by
  unfold joinAll
  rw [foldB_mem, foldA_mem hg a.vals [] (fun u hu => hu)]
  constructor
  · rintro ((h | h) | ⟨h1, h2, h3⟩)
    · cases h
    · exact .inl h
    · exact .inr ⟨h1, .inr h2⟩
  · rintro (h | ⟨h1, h2 | h2⟩)
    · exact .inl (.inr h)
    · exact .inl (.inr ⟨h2, .inl h1⟩)
    · refine .inr ⟨h1, h2, fun u hu hd => ?_⟩
      have := valOk_covers (ha.val u hu)
      rw [hd, h2] at this; cases this
theorem join_eq_of {a b r : Sib} (ha : a.may = true) (hb : b.may = true) (hr : r.may = true) (hg : Agree a b) (hs : a.seen.join b.seen = r.seen) (hm : ∀ v, v ∈ r.vals ↔ (v ∈ a.vals ∧ (v ∈ b.vals ∨ b.seen.covers v.dot = false)) ∨ (v ∈ b.vals ∧ (v ∈ a.vals ∨ a.seen.covers v.dot = false))) : a.join b = r := by
  have ga := (may_iff a).1 ha
  have gb := (may_iff b).1 hb
  have gr := (may_iff r).1 hr
  have h1 : a.join b = ⟨a.seen.join b.seen, joinVals a b⟩ := by unfold Sib.join; rw [ha, hb]; rfl
  have h2 : joinAll a b = r.vals := Srt.ext (joinAll_srt ga.srt gb.srt) gr.srt fun v => (mem_joinAll ga gb hg).trans (hm v).symm
  have h3 : joinVals a b = r.vals := by rw [joinVals_all, h2, List.take_of_length_le gr.len]
  rw [h1, h3, hs]
theorem zeroSib_may : zeroSib.may = true := by
  rw [may_iff]
  exact ⟨fun n hn => by have h0 : n = 0 := (by simpa [zeroSib, zeroVec] using hn); subst h0; exact ⟨by omega, by omega⟩, Nat.zero_le _, by simp [zeroSib, Srt], fun v hv => by cases hv⟩
theorem zero_join {a : Sib} (ha : a.may = true) : zeroSib.join a = a := by
  have ga := (may_iff a).1 ha
  refine join_eq_of zeroSib_may ha ha (fun v hv => by cases hv) (Vec.ext_l (zipMax_zero 8 a.seen.l a.seen.h (fun x hx => (ga.seen x hx).1))) fun v => ?_
  constructor
  · exact fun h => .inr ⟨h, .inr (zero_covers _)⟩
  · rintro (⟨h, _⟩ | ⟨h, _⟩)
    · cases h
    · exact h
end Go.Proofs.Ythkfjefoblmbhaa.V
