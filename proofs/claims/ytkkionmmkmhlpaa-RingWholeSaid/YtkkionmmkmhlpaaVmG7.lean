/- The V-machine, part 7. -/
import Derived.Test.YtkkionmmkmhlpaaVmG5
import Derived.Shelf.Lays2
import Derived.Shelf.SlGeneric
import Derived.Shelf.RegionOpenPlain
import Derived.WalkKit
import Derived.Lib.Walk
import Derived.Lib.SliceRun
import Derived.Lib.AppendZerosOnto
import Derived.Lib.Overlaps
import Derived.Laws.Externs
/- 'slices.Insert' of one element and 'slices.Delete' of one, on a list that is written in place: what the machine is told of them. -/
set_option linter.unusedVariables false
set_option linter.unusedSimpArgs false
namespace Go.Vm

def insertP (sz bytes : Nat) : List V → Heap → Option (V × Heap × Fl)
  | [s, .int .i64 i, .sl [x]], h => bnd (cnd (msize sz s) (mcells h s) none) fun c =>
      cnd (decide ((0 ≤ i ∧ i.toNat ≤ c.2) ∧ (c.2 + 1) * bytes ≤ 140737488355328 ∧ x.flat.length = sz))
        (some (.msl h.length 0 (c.2 + 1) sz, mkill h s ++ [.cells (c.1.take (i.toNat * sz) ++ (x.flat ++ c.1.drop (i.toNat * sz))) []], ⟨[], [], true⟩)) none
  | _, _ => none
def deleteP (sz : Nat) : List V → Heap → Option (V × Heap × Fl)
  | [s, .int .i64 i, .int .i64 j], h => bnd (cnd (msize sz s) (mcells h s) none) fun c =>
      cnd (decide ((0 ≤ i ∧ i.toNat < c.2) ∧ j = i + 1))
        (some (.msl h.length 0 (c.2 - 1) sz, mkill h s ++ [.cells (c.1.take (i.toNat * sz) ++ c.1.drop ((i.toNat + 1) * sz)) []], ⟨[], [], true⟩)) none
  | _, _ => none

def RowAt (w : World) (sz : Nat) (ad : Option Addr) (n cap : Nat) (us : List Value) : Prop :=
  us.length = n * sz ∧ (∀ u ∈ us, u.oneCell' = true) ∧ ((ad = none ∧ n = 0 ∧ cap = 0) ∨ ∃ b cur t, ad = some ⟨b, 0, none⟩ ∧ w.heap[b]? = some (.cells cur t (0, 0)) ∧ cap * sz ≤ cur.size ∧ cur.toList.take (n * sz) = us)
def RowNew (w w' : World) (sz : Nat) (us : List Value) (n : Nat) (u : Value) : Prop :=
  ∃ C row t, u = .slice (some ⟨w.heap.size, 0, none⟩) n C ∧ n ≤ C ∧ w'.heap[w.heap.size]? = some (.cells row t (0, 0)) ∧ C * sz ≤ row.size ∧ row.toList.take (n * sz) = us ∧ w.grownBy w' none ∧ w.drawn ≤ w'.drawn
def RowIn (w w' : World) (sz : Nat) (us : List Value) (n : Nat) (ad : Option Addr) (cap : Nat) (u : Value) : Prop :=
  ∃ b cur t cur', ad = some ⟨b, 0, none⟩ ∧ u = .slice ad n cap ∧ n ≤ cap ∧ w.heap[b]? = some (.cells cur t (0, 0)) ∧ w'.heap[b]? = some (.cells cur' t (0, 0)) ∧ cur'.size = cur.size ∧ cur'.toList.take (n * sz) = us ∧ w.grownBy w' (some b) ∧ w.drawn ≤ w'.drawn
structure InsertAt (P : Program) (f sz bytes : Nat) : Prop where
  pos : 0 < sz
  enters : ∀ args w, (callFunc f args).run P w = .ok (.enter f args) w
  run : ∀ (ad : Option Addr) (n cap i : Nat) (us vs : List Value) (vb vo vc : Nat) (w : World), i ≤ n → n ≤ cap → RowAt w sz ad n cap us → 1 ≤ vc → vs.length = sz → (∀ u ∈ vs, u.oneCell' = true) →
    (∀ (j : Nat) (u : Value), vs[j]? = some u → w.cell? ⟨vb, vo + j, none⟩ = some u) → (∀ b, ad = some ⟨b, 0, none⟩ → vb ≠ b) → (n + 1) * bytes ≤ 140737488355328 →
    Calls P f #[.slice ad n cap, .int .i64 i, .slice (some ⟨vb, vo, none⟩) 1 vc] w fun e w' => ∃ u, e = .returned u ∧
      (RowNew w w' sz (us.take (i * sz) ++ (vs ++ us.drop (i * sz))) (n + 1) u ∨ RowIn w w' sz (us.take (i * sz) ++ (vs ++ us.drop (i * sz))) (n + 1) ad cap u)
structure DeleteAt (P : Program) (f sz : Nat) : Prop where
  pos : 0 < sz
  enters : ∀ args w, (callFunc f args).run P w = .ok (.enter f args) w
  run : ∀ (ad : Option Addr) (n cap i : Nat) (us : List Value) (w : World), i < n → n ≤ cap → RowAt w sz ad n cap us →
    Calls P f #[.slice ad n cap, .int .i64 i, .int .i64 (i + 1)] w fun e w' => ∃ u, e = .returned u ∧ RowIn w w' sz (us.take (i * sz) ++ us.drop ((i + 1) * sz)) (n - 1) ad cap u

section
variable {P : Program} {R : Nat → Option Nat} {h : Heap} {g : Gh} {w : World}
end
end Go.Vm

/- The library's own text of 'slices.Insert' and 'slices.Delete' walked, for elements of any number of cells. The walks are after the kit's, for elements of one cell. -/
set_option linter.unusedVariables false
set_option linter.unusedSimpArgs false
namespace Go.Vm
open Go.Shelf Go.RowKit Go.Lib Go.Proofs

structure LaysI (P : Program) (ρ : Ren) (sz bytes : Nat) (z : Value) : Prop where
  mixed : P.follows .mixedOrders = true
  f22 : Bears P (ρ.f 22) (Body2.n22 ρ)
  f24 : Bears P (ρ.f 24) (Body2.n24 ρ)
  f29 : ∀ args w, (callFunc (ρ.f 29) args).run P w = ((Extern.SlicesOverlaps.overlaps #[(ρ.t 24), (ρ.t 24)] #[(ρ.t 4)] args).run P w).andThen fun v w' => .ok (.value v) w'
  t0 : P.underlying (ρ.t 0) = some (TypeDesc.tuple #[])
  a0 : ∀ w, (isAgg (ρ.t 0)).run P w = .ok false w
  z0 : ∀ w, (Go.sizeOf (ρ.t 0)).run P w = .ok 1 w
  v0 : ∀ w, (zeroValue (ρ.t 0)).run P w = .ok (Value.tuple #[]) w
  t3 : P.underlying (ρ.t 3) = some (TypeDesc.int IntKind.i64)
  a3 : ∀ w, (isAgg (ρ.t 3)).run P w = .ok false w
  z3 : ∀ w, (Go.sizeOf (ρ.t 3)).run P w = .ok 1 w
  v3 : ∀ w, (zeroValue (ρ.t 3)).run P w = .ok (Value.int IntKind.i64 0) w
  t4 : P.underlying (ρ.t 4) = some (TypeDesc.bool)
  a4 : ∀ w, (isAgg (ρ.t 4)).run P w = .ok false w
  z4 : ∀ w, (Go.sizeOf (ρ.t 4)).run P w = .ok 1 w
  v4 : ∀ w, (zeroValue (ρ.t 4)).run P w = .ok (Value.bool false) w
  z9 : ∀ w, (Go.sizeOf (ρ.t 9)).run P w = .ok sz w
  v9 : ∀ w, (zeroValue (ρ.t 9)).run P w = .ok z w
  t24 : P.underlying (ρ.t 24) = some (TypeDesc.slice (ρ.t 9))
  a24 : ∀ w, (isAgg (ρ.t 24)).run P w = .ok false w
  z24 : ∀ w, (Go.sizeOf (ρ.t 24)).run P w = .ok 1 w
  v24 : ∀ w, (zeroValue (ρ.t 24)).run P w = .ok (Value.slice none 0 0) w
  i9 : (P.info? (ρ.t 9)).map (fun i => (i.zero, i.size, i.bytes)) = some (some z, sz, bytes)
  zc : z.cells.size = sz
  z1 : ∀ u ∈ z.cells.toList, u.oneCell' = true
  pos : 0 < sz
  posb : 0 < bytes

section
variable {P : Program} {ρ : Ren} {w : World}
def laid (cur : Array Value) (k : Nat) (vs : List Value) : Array Value := (cur.toList.take k ++ vs ++ cur.toList.drop (k + vs.length)).toArray
end
end Go.Vm

/- 'slices.Insert' and 'slices.Delete' at a program: what the machine is told of them holds. -/
set_option linter.unusedVariables false
set_option linter.unusedSimpArgs false
namespace Go.Vm
open Go.Shelf Go.RowKit Go.Lib Go.Proofs

section
variable {P : Program} {ρ : Ren} {sz bytes : Nat} {z : Value}
end
end Go.Vm

