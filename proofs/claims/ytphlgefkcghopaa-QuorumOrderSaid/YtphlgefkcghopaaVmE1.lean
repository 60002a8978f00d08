/- From the V-machine to a statement: a call at the start, arguments that came in. -/
import Derived.Test.YtphlgefkcghopaaVmC15
import Derived.Below
set_option linter.unusedVariables false
set_option linter.unusedSimpArgs false
namespace Go.Vm
open Go.RowKit

/-- At the start: no objects; what is there is not written. -/
def topG (w : World) : Gh := ⟨fun _ => none, fun b k => w.cell? ⟨b, k, none⟩⟩
theorem pre_top (w : World) : Pre [] (topG w) w where
  hr := ⟨fun i o h => by simp at h, fun b o u h => h⟩
  dom := fun i b h => by cases h
  muW := fun i b h => by cases h
  inj := fun i j b _ _ h => by cases h
  muimm := fun i b _ h => by cases h
  own := fun p sz u h => by
    cases p with
    | reg r off => obtain ⟨h1, _⟩ := h; simp at h1
    | cell i j => obtain ⟨cs, own, b, h1, _⟩ := h; simp at h1
  blk := fun p sz u b h => by
    cases p with
    | reg r off => obtain ⟨h1, _⟩ := h; simp at h1
    | cell i j => obtain ⟨cs, own, b, h1, _⟩ := h; simp at h1
  dis := fun p q sz sz' u u' b h => by
    cases p with
    | reg r off => obtain ⟨h1, _⟩ := h; simp at h1
    | cell i j => obtain ⟨cs, own, b, h1, _⟩ := h; simp at h1

section
variable {P : Program} {R : Nat → Option Nat}
theorem top_ok {E : Env} (hE : EnvOk P R E) {f : Nat} {v : VFun} (hp : E.prim f = none) (hf : E.fn f = some v) {vargs : List V} {b : Bool} {h' : Heap} {fl : Fl} (hr : callL E f vargs [] = some (.bool b, h', fl)) {w : World} {uargs : Array Value} (hargs : VRs (topG w) uargs.toList vargs) :
    Calls P f uargs w fun e w' => e = .returned (.bool b) ∧ Below w.heap.size w w' := by
  have hcall := call_sound hE f vargs [] _ hr (topG w) w uargs (pre_top w) hargs
  obtain ⟨fn, code, c, h1, h2, h3, _⟩ := (hE.fn f v hp hf).ok
  rcases hcall with ⟨_, h⟩ | ⟨u, w', h, _⟩
  · refine h.mono fun e w' ⟨u, he, g, hW, hG, _, hu, _⟩ => ?_
    subst he
    cases hu.bool_inv
    refine ⟨rfl, hW.os, hW.tape, hW.out, hW.hsz, fun k hk => hW.old k hk ?_⟩
    rintro (⟨i, ⟨o, ho, _⟩, _⟩ | ⟨i, j, sz, x, hx, _⟩)
    · simp at ho
    · obtain ⟨cs, own, b, h1, _⟩ := hx
      simp at h1
  · rw [callFunc_enter h1 h2 h3] at h
    cases h

/-- Numbers that came in as a slice. -/
def intsV (k : IntKind) (l : List Int) : V := .sl (l.map (V.int k))
theorem vr_ints {w : World} {k : IntKind} {a : Option Addr} {len cap : Nat} {zs : List Int} (ha : ∀ x, a = some x → x.spot = none)
    (h : (a = none ∧ len = 0 ∧ cap = 0 ∧ zs = []) ∨ ∃ x, a = some x ∧ len ≤ cap ∧ cap ≤ maxLen ∧ zs.length = cap ∧ (∀ i, i < zs.length → w.cell? (x.add i) = some (.int k (zs.getD i 0))) ∧ ∀ n ∈ zs, (Lit.int k n).wf = true) :
    VR (topG w) (.slice a len cap) (intsV k (zs.take len)) := by
  rcases h with ⟨rfl, rfl, rfl, rfl⟩ | ⟨⟨b, o, sp⟩, rfl, hl, hm, hz, hc, hw⟩
  · exact .cell .nils
  · have hsp := ha _ rfl
    simp only at hsp
    subst hsp
    have hlen : len = ((zs.take len).map (V.int k)).length := by simp; omega
    refine .cell (.sl (sz := 1) (us := (zs.take len).map (Value.int k)) hlen hl (fun x hx => ?_) (fun j u hu => ?_) ?_)
    · obtain ⟨n, _, rfl⟩ := List.mem_map.1 hx
      rfl
    · rw [List.getElem?_map] at hu
      obtain ⟨n, hn, rfl⟩ := Option.map_eq_some_iff.1 hu
      rw [List.getElem?_take] at hn
      split at hn
      · have hlt := (List.getElem?_eq_some_iff.1 hn).1
        have := hc j hlt
        rw [add_lit] at this
        rw [List.getD_eq_getElem?_getD, hn] at this
        exact this
      · cases hn
    · have : ∀ l : List Int, CRs (topG w).imm (l.map (Value.int k)) ((l.map (V.int k)).flatMap V.flat) := by
        intro l
        induction l with
        | nil => exact .nil
        | cons n l ih => exact .cons (.int k n) ih
      exact this _
theorem wf_take {k : IntKind} {w : World} {a : Option Addr} {len cap : Nat} {zs : List Int}
    (h : (a = none ∧ len = 0 ∧ cap = 0 ∧ zs = []) ∨ ∃ x, a = some x ∧ len ≤ cap ∧ cap ≤ maxLen ∧ zs.length = cap ∧ (∀ i, i < zs.length → w.cell? (x.add i) = some (.int k (zs.getD i 0))) ∧ ∀ n ∈ zs, (Lit.int k n).wf = true) :
    (zs.take len).length ≤ maxLen ∧ ∀ n ∈ zs.take len, (Lit.int k n).wf = true := by
  rcases h with ⟨rfl, rfl, rfl, rfl⟩ | ⟨x, rfl, hl, hm, hz, hc, hw⟩
  · simp
  · exact ⟨by simp; omega, fun n hn => hw n (List.mem_of_mem_take hn)⟩
/-- An argument's address is a plain one. -/
theorem spot_none {w : World} {r : Reach} {base : Nat} {t e : TypeId} {a : Addr} {len cap : Nat} (ht : P.underlying t = some (.slice e)) (h : Value.okWide P w r base t (.slice (some a) len cap)) : a.spot = none := by
  simp only [Value.okWide, ht, Cell.okWide, Cell.ok] at h
  exact h.2.2.2.1
end
end Go.Vm
