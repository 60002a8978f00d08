/- A table and the reference's: what is told of both is the same. -/
import Derived.Test.YtionebfmjjpnbaaGreatVmTE
import Derived.Test.YtionebfmjjpnbaaGreatVmR5F
import Derived.Test.YtionebfmjjpnbaaGreatVmTC
import Derived.Test.YtionebfmjjpnbaaGreatVmMI
set_option linter.unusedVariables false
set_option linter.unusedSimpArgs false
namespace Go.Proofs.YtionebfmjjpnbaaGreat.V
open Go.Vm

theorem bytesLess_of_lt : ∀ {a b : List UInt8}, a < b → bytesLess a b = true
  | a, b, h => by
    have key : ∀ a b : List UInt8, bytesLess a b = true ↔ a < b := by
      intro a
      induction a with
      | nil => intro b; cases b <;> simp [bytesLess]
      | cons x a ih =>
        intro b
        cases b with
        | nil => simp [bytesLess]
        | cons y b =>
          rw [List.cons_lt_cons_iff]
          simp only [bytesLess, Bool.or_eq_true, Bool.and_eq_true, decide_eq_true_eq, beq_iff_eq, ih b]
    exact (key a b).2 h
theorem allT_srt {l : List Ent} (hn : NDup l) : KSrt (allT l) := by
  unfold KSrt allT
  rw [List.map_map]
  have : (keysT l).map (Ent.key ∘ fun k => (⟨k, (findT l k).getD zeroSib⟩ : Ent)) = keysT l := by
    rw [show (Ent.key ∘ fun k => (⟨k, (findT l k).getD zeroSib⟩ : Ent)) = id from rfl, List.map_id]
  rw [this]
  exact (keysT_lt hn).imp bytesLess_of_lt
theorem tabAt_allT (l : List Ent) (k : List UInt8) : (∃ i s, tabAt (allT l) k = some i ∧ (allT l)[i]? = some ⟨k, s⟩ ∧ findT l k = some s) ∨ (tabAt (allT l) k = none ∧ findT l k = none) := by
  cases hf : tabAt (allT l) k with
  | some i =>
    obtain ⟨e, he, hk⟩ := tabAt_some hf
    have := mem_allT.1 (List.mem_of_getElem? he)
    refine .inl ⟨i, e.sib, rfl, ?_, hk ▸ this⟩
    rw [he, ← hk]
  | none =>
    refine .inr ⟨rfl, ?_⟩
    cases hs : findT l k with
    | none => rfl
    | some s => exact absurd rfl (tabAt_none hf ⟨k, s⟩ (mem_allT.2 hs))
theorem tabGet_allT (l : List Ent) (k : List UInt8) : tabGet (allT l) k = findT l k := by
  unfold tabGet
  rcases tabAt_allT l k with ⟨i, s, h1, h2, h3⟩ | ⟨h1, h2⟩
  · simp only [h1, h2, h3, Option.map_some]
  · simp only [h1, h2]
theorem allT_put_some {l : List Ent} (hn : NDup l) {k : List UInt8} {s0 s : Sib} {i : Nat} (h : findT l k = some s0) (hi : (allT l)[i]? = some ⟨k, s0⟩) : allT (putT l k s) = (allT l).set i ⟨k, s⟩ := by
  have hk : keysT (putT l k s) = keysT l := by
    unfold keysT
    rw [putT_keys, if_pos (findT_isSome.1 (by rw [h]; rfl))]
  have hnd : (keysT l).Nodup := (List.mergeSort_perm _ _).nodup_iff.2 hn
  have hik : (keysT l)[i]? = some k := by
    unfold allT at hi
    rw [List.getElem?_map] at hi
    cases hq : (keysT l)[i]? with
    | none => rw [hq] at hi; cases hi
    | some q => rw [hq] at hi; cases hi; rfl
  apply List.ext_getElem?
  intro j
  unfold allT
  rw [hk, List.getElem?_map, List.getElem?_set, List.getElem?_map, List.length_map]
  by_cases hij : i = j
  · subst hij
    rw [if_pos rfl, if_pos (List.getElem?_eq_some_iff.1 hik).1, hik]
    simp only [Option.map_some, findT_put, Option.getD_some]
  · rw [if_neg hij]
    cases hq : (keysT l)[j]? with
    | none => rfl
    | some q =>
      have hne : k ≠ q := fun e => by
        subst e
        obtain ⟨p1, e1⟩ := List.getElem?_eq_some_iff.1 hik
        obtain ⟨p2, e2⟩ := List.getElem?_eq_some_iff.1 hq
        exact hij ((List.getElem_inj hnd).1 (e1.trans e2.symm))
      simp only [Option.map_some, findT_put_ne hne]
theorem allT_put_none {l : List Ent} (hn : NDup l) {k : List UInt8} {s : Sib} (h : findT l k = none) : allT (putT l k s) = insertE (allT l) ⟨k, s⟩ := by
  have hne : ∀ x ∈ allT l, x.key ≠ k := fun x hx e => by
    have := mem_allT.1 hx
    rw [e, h] at this
    cases this
  refine KSrt.ext (allT_srt (putT_ndup hn _ _)) (insertE_keys (allT_srt hn) hne) fun v => ?_
  rw [mem_insertE, mem_allT, mem_allT]
  by_cases hv : v.key = k
  · rw [hv, findT_put, h]
    constructor
    · intro e
      refine .inl ?_
      cases v
      simp only at hv e
      cases e
      rw [hv]
    · rintro (e | e)
      · rw [e]
      · cases e
  · rw [findT_put_ne (fun e => hv e.symm)]
    exact ⟨.inr, fun h => h.resolve_left fun e => hv (by rw [e])⟩
/-- What is told when an entry is joined to a table with room. -/
noncomputable def jres (A : List Ent) (e : Ent) : Sib × Bool × Int := cnd e.may (nowT A e, (findT A e.key).isSome && decide ((findT A e.key).getD zeroSib = nowT A e), 0) (zeroSib, false, 1)
theorem tabJoin_allT {A : List Ent} (hn : NDup A) (hl : A.length < 256) (e : Ent) : tabJoin (allT A) e = (allT (joinT A e), (jres A e).1, (jres A e).2.1, (jres A e).2.2) := by
  unfold tabJoin joinT jres
  cases he : e.may with
  | false => rfl
  | true =>
    simp only [cnd_true]
    rcases tabAt_allT A e.key with ⟨i, s, h1, h2, h3⟩ | ⟨h1, h2⟩
    · have hnow : nowT A e = s.join e.sib := by unfold nowT; rw [h3]; rfl
      simp only [h1, h2, h3, hnow, Option.isSome_some, Option.getD_some, Bool.true_and]
      rw [allT_put_some hn h3 h2]
      simp only [Prod.mk.injEq, true_and, and_true]
      exact decide_eq_decide.2 eq_comm
    · have hnow : nowT A e = zeroSib.join e.sib := by unfold nowT; rw [h2]; rfl
      have hlen : decide (256 ≤ (allT A).length) = false := decide_eq_false (by rw [allT_len]; omega)
      simp only [h1, h2, hnow, hlen, cnd_false, Option.isSome_none, Bool.false_and]
      rw [allT_put_none hn h2]
theorem tblJoin_res {h : Heap} {i k : Nat} {T : List Ent} (t : TabAt h i k T) (hm : AllMay T) (e : Ent) (hl : T.length < 256) :
    ∃ fl, callL E F.table_Table_Join [.ptr (some (i, 0)), .agg e.c] h = some (.tup [.agg (jres T e).1.c, .bool (jres T e).2.1, .int .i64 (jres T e).2.2], hset h k (.map (mapE (joinT T e))), fl) ∧ FlUp k fl := by
  unfold joinT jres
  cases he : e.may with
  | false =>
    have g := tabJoin_no (h := h) (i := 0) e he (some (i, 0))
    exact ⟨.no, g.trans (by rw [cnd_false, cnd_false, Vm.hset_same t.map]), .no⟩
  | true =>
    have g := tblJoin_eq t hm he (.inr (by omega)) (by omega)
    exact ⟨_, g, .w fun x hx => by simp at hx; omega⟩
noncomputable def rb (A : List Ent) (k : List UInt8) : Bool := match findT A k with
  | some s => !decide (s = reapS s)
  | none => false
theorem tblReap_res {h : Heap} {i k : Nat} {T : List Ent} (t : TabAt h i k T) (hm : AllMay T) (key : List UInt8) :
    ∃ fl, callL E F.table_Table_Reap [.ptr (some (i, 0)), .str key] h = some (.bool (rb T key), hset h k (.map (mapE (reapT T key))), fl) ∧ FlUp k fl := by
  unfold reapT rb
  cases hf : findT T key with
  | none =>
    have g := tabReap_no t hm hf
    exact ⟨.no, g.trans (by rw [Vm.hset_same t.map]), .no⟩
  | some s =>
    exact ⟨_, tabReap_eq t hm hf, .w fun x hx => by simp at hx; omega⟩
theorem tabReap_allT {A : List Ent} (hn : NDup A) (k : List UInt8) : tabReapR (allT A) k = (allT (reapT A k), rb A k) := by
  unfold tabReapR reapT rb
  rcases tabAt_allT A k with ⟨i, s, h1, h2, h3⟩ | ⟨h1, h2⟩
  · simp only [h1, h2, h3]
    by_cases hs : reapS s = s
    · rw [decide_eq_true hs, cnd_true, hs, putT_id h3]
      simp
    · rw [decide_eq_false hs, cnd_false, allT_put_some hn h3 h2]
      have : ¬ s = reapS s := fun e => hs e.symm
      simp [this]
  · simp only [h1, h2]
theorem reapT_ndup {A : List Ent} (h : NDup A) (k : List UInt8) : NDup (reapT A k) := by
  unfold reapT
  cases findT A k with
  | none => exact h
  | some s => exact putT_ndup h _ _
theorem reapT_mayE {A : List Ent} (h : TMayE A) (k : List UInt8) : TMayE (reapT A k) := fun x hx => by
  unfold reapT at hx
  cases hf : findT A k with
  | none => rw [hf] at hx; exact h x hx
  | some s =>
    rw [hf] at hx
    rcases putT_mem hx with rfl | hx
    · obtain ⟨e, he, h1, h2⟩ := findT_mem hf
      subst h1 h2
      exact ent_may_of (s := e.sib) (h e he) (reap_may (ent_sib_may (h e he)))
    · exact h x hx
end Go.Proofs.YtionebfmjjpnbaaGreat.V
