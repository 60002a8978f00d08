/-
  No cell of these rows narrows 'for every input' (looked for: loops, veiled, ifaces, maps, wideKeys, modest, calm, conditions, laid).
  DERIVED. THE GIVEN ROWS OF THIS SEAT. 5 by the template 'for every input the law returns true; each argument reads behind the call as it read before'; 0 by the template 'total and deterministic' (their statements: YtklmddbnjookiaaTotals.lean).
  GIVEN WITH THE SEED: the statements are not yours to turn. If you find one false, say at which input.
  Laid BY PROGRAM, IN A SANDBOX (cutbox-rows.mjs): the forced cells as the released guide's own fill.sh prints them over the translation 2b287f59ad323526… (all of the seat's roots in one cut). By AI agents, Wed Nov 11 2026. No macro, syntax, notation, axiom, sorry.
-/
import Derived.Test.YtklmddbnjookiaaChecked
import GoSem.Claim
import GoSem.ClaimJoined
import GoSem.ClaimMapViews
import Derived.JoinedTies
import Derived.KernelRfl
namespace Go.Proofs.Ytklmddbnjookiaa
/- THE CELL 'sum', in the pinned program and in every row, IS THE sha256 OF THE DUMP (.gsa) THAT YtklmddbnjookiaaProg.lean LOADS. Nothing in Lean hashes anything: it is a label: what it is worth is what the hold of that sum in a sandbox is worth. -/
noncomputable def Try.pinned : Pinned := { name := "ytklmddbnjookiaa", sum := "2b287f59ad323526a22f34b6a09464dd583089517f655bb2b624303d95d45c57", checked := Try.checked }
namespace Rows
def none {H : Type} : Left H := { results := [], args := [] }

/-- 'tattlerlaw22.CoordMany': WHATEVER THE INPUT: true; the input reads as it did. -/
def coordManySpec : ChangeSpec := { name := "coordMany", fn := fun _ => fun
  | [d] => { results := [.lit (.bool true)], args := [d] }
  | _ => none }
def coordManyRow : OpenClaim := { program := "ytklmddbnjookiaa", sum := "2b287f59ad323526a22f34b6a09464dd583089517f655bb2b624303d95d45c57", func := "tattler/tattlerlaw22.CoordMany", spec := "coordMany", inPlace := ["internal/bytealg.Compare"], unfollowed := true, recurses := true, apart := false }
def CoordManySaid : Prop := coordManyRow.holds Try.pinned (OpenSpec.ofChange coordManySpec)

/-- ITS FALSE NEIGHBOUR: 'it returns false'. Refute it at one input. -/
def coordManyWrong : ChangeSpec := { name := "coordMany", fn := fun _ => fun
  | [d] => { results := [.lit (.bool false)], args := [d] }
  | _ => none }
def CoordManyWrongFalsely : Prop := coordManyRow.holds Try.pinned (OpenSpec.ofChange coordManyWrong)

/-- 'tattlerlaw22.CoordJoins': WHATEVER THE INPUT: true; the input reads as it did. -/
def coordJoinsSpec : ChangeSpec := { name := "coordJoins", fn := fun _ => fun
  | [d1, d2, d3, d4] => { results := [.lit (.bool true)], args := [d1, d2, d3, d4] }
  | _ => none }
def coordJoinsRow : OpenClaim := { program := "ytklmddbnjookiaa", sum := "2b287f59ad323526a22f34b6a09464dd583089517f655bb2b624303d95d45c57", func := "tattler/tattlerlaw22.CoordJoins", spec := "coordJoins", inPlace := ["internal/bytealg.Compare"], unfollowed := true, recurses := true, apart := false }
def CoordJoinsSaid : Prop := coordJoinsRow.holds Try.pinned (OpenSpec.ofChange coordJoinsSpec)

/-- ITS FALSE NEIGHBOUR: 'it returns false'. Refute it at one input. -/
def coordJoinsWrong : ChangeSpec := { name := "coordJoins", fn := fun _ => fun
  | [d1, d2, d3, d4] => { results := [.lit (.bool false)], args := [d1, d2, d3, d4] }
  | _ => none }
def CoordJoinsWrongFalsely : Prop := coordJoinsRow.holds Try.pinned (OpenSpec.ofChange coordJoinsWrong)

/-- 'tattlerlaw22.CoordLate': WHATEVER THE INPUT: true; the input reads as it did. -/
def coordLateSpec : ChangeSpec := { name := "coordLate", fn := fun _ => fun
  | [d1, d2] => { results := [.lit (.bool true)], args := [d1, d2] }
  | _ => none }
def coordLateRow : OpenClaim := { program := "ytklmddbnjookiaa", sum := "2b287f59ad323526a22f34b6a09464dd583089517f655bb2b624303d95d45c57", func := "tattler/tattlerlaw22.CoordLate", spec := "coordLate", inPlace := ["internal/bytealg.Compare"], unfollowed := true, recurses := true, apart := false }
def CoordLateSaid : Prop := coordLateRow.holds Try.pinned (OpenSpec.ofChange coordLateSpec)

/-- ITS FALSE NEIGHBOUR: 'it returns false'. Refute it at one input. -/
def coordLateWrong : ChangeSpec := { name := "coordLate", fn := fun _ => fun
  | [d1, d2] => { results := [.lit (.bool false)], args := [d1, d2] }
  | _ => none }
def CoordLateWrongFalsely : Prop := coordLateRow.holds Try.pinned (OpenSpec.ofChange coordLateWrong)

/-- 'tattlerlaw22.CoordApart': WHATEVER THE INPUT: true; the input reads as it did. -/
def coordApartSpec : ChangeSpec := { name := "coordApart", fn := fun _ => fun
  | [d1, d2, d3, d4] => { results := [.lit (.bool true)], args := [d1, d2, d3, d4] }
  | _ => none }
def coordApartRow : OpenClaim := { program := "ytklmddbnjookiaa", sum := "2b287f59ad323526a22f34b6a09464dd583089517f655bb2b624303d95d45c57", func := "tattler/tattlerlaw22.CoordApart", spec := "coordApart", inPlace := ["internal/bytealg.Compare"], unfollowed := true, recurses := true, apart := false }
def CoordApartSaid : Prop := coordApartRow.holds Try.pinned (OpenSpec.ofChange coordApartSpec)

/-- ITS FALSE NEIGHBOUR: 'it returns false'. Refute it at one input. -/
def coordApartWrong : ChangeSpec := { name := "coordApart", fn := fun _ => fun
  | [d1, d2, d3, d4] => { results := [.lit (.bool false)], args := [d1, d2, d3, d4] }
  | _ => none }
def CoordApartWrongFalsely : Prop := coordApartRow.holds Try.pinned (OpenSpec.ofChange coordApartWrong)

/-- 'tattlerlaw22.CoordNil': WHATEVER THE INPUT: true; the input reads as it did. -/
def coordNilSpec : ChangeSpec := { name := "coordNil", fn := fun _ => fun
  | [d] => { results := [.lit (.bool true)], args := [d] }
  | _ => none }
def coordNilRow : OpenClaim := { program := "ytklmddbnjookiaa", sum := "2b287f59ad323526a22f34b6a09464dd583089517f655bb2b624303d95d45c57", func := "tattler/tattlerlaw22.CoordNil", spec := "coordNil", inPlace := ["internal/bytealg.Compare"], unfollowed := true, recurses := true, apart := false }
def CoordNilSaid : Prop := coordNilRow.holds Try.pinned (OpenSpec.ofChange coordNilSpec)

/-- ITS FALSE NEIGHBOUR: 'it returns false'. Refute it at one input. -/
def coordNilWrong : ChangeSpec := { name := "coordNil", fn := fun _ => fun
  | [d] => { results := [.lit (.bool false)], args := [d] }
  | _ => none }
def CoordNilWrongFalsely : Prop := coordNilRow.holds Try.pinned (OpenSpec.ofChange coordNilWrong)

/- THE SECOND FORM. 'bulk': how many values and letters a reading holds, each counted each time it is reached (what is shared counts as often as it is met; a slice's spare places count too). A statement '..UptoSaid' is the law's where the arguments, and the package variables that the reading takes, are together of bulk at most 1048576: NARROWER than '..Said'. Prove '..Said' where nothing that the law and all that it calls make is longer than what came in: it says more and counts as full. Else prove '..UptoSaid'. A law counts once. -/
mutual
def uptoBulk {H : Type} : DataW H → Nat
  | .lit (.string bytes) => bytes.length + 1
  | .lit _ => 1
  | .nil => 1
  | .ptr d => uptoBulk d + 1
  | .slice elems spare => uptoBulkAll elems + uptoBulkAll spare + 1
  | .agg parts => uptoBulkAll parts + 1
  | .iface _ d => uptoBulk d + 1
  | .map entries => uptoBulkEntries entries + 1
  | .held _ => 1
def uptoBulkAll {H : Type} : List (DataW H) → Nat
  | [] => 0
  | d :: r => uptoBulk d + uptoBulkAll r
def uptoBulkEntries {H : Type} : List (Lit × DataW H) → Nat
  | [] => 0
  | x :: r => uptoBulkEntry x + uptoBulkEntries r
def uptoBulkEntry {H : Type} : Lit × DataW H → Nat
  | (.string bytes, d) => bytes.length + uptoBulk d + 1
  | (_, d) => uptoBulk d + 1
 end
def uptoSmall : (H : Type) → List (DataW H) → Bool := fun _ ds => decide (uptoBulkAll ds ≤ 1048576)
def OpenSpec.upto (s : _root_.Go.ChangeSpec) : _root_.Go.OpenSpec := { _root_.Go.OpenSpec.ofChange s with cond := some uptoSmall }

/-- 'tattlerlaw22.CoordMany', WHERE WHAT IT READS IS OF BULK AT MOST 1048576: true; the input reads as it did. -/
def coordManyUptoRow : OpenClaim := { program := "ytklmddbnjookiaa", sum := "2b287f59ad323526a22f34b6a09464dd583089517f655bb2b624303d95d45c57", func := "tattler/tattlerlaw22.CoordMany", spec := "coordMany", inPlace := ["internal/bytealg.Compare"], unfollowed := true, recurses := true, apart := false, narrowed := true }
def CoordManyUptoSaid : Prop := coordManyUptoRow.holds Try.pinned (OpenSpec.upto coordManySpec)

/-- 'tattlerlaw22.CoordJoins', WHERE WHAT IT READS IS OF BULK AT MOST 1048576: true; the input reads as it did. -/
def coordJoinsUptoRow : OpenClaim := { program := "ytklmddbnjookiaa", sum := "2b287f59ad323526a22f34b6a09464dd583089517f655bb2b624303d95d45c57", func := "tattler/tattlerlaw22.CoordJoins", spec := "coordJoins", inPlace := ["internal/bytealg.Compare"], unfollowed := true, recurses := true, apart := false, narrowed := true }
def CoordJoinsUptoSaid : Prop := coordJoinsUptoRow.holds Try.pinned (OpenSpec.upto coordJoinsSpec)

/-- 'tattlerlaw22.CoordLate', WHERE WHAT IT READS IS OF BULK AT MOST 1048576: true; the input reads as it did. -/
def coordLateUptoRow : OpenClaim := { program := "ytklmddbnjookiaa", sum := "2b287f59ad323526a22f34b6a09464dd583089517f655bb2b624303d95d45c57", func := "tattler/tattlerlaw22.CoordLate", spec := "coordLate", inPlace := ["internal/bytealg.Compare"], unfollowed := true, recurses := true, apart := false, narrowed := true }
def CoordLateUptoSaid : Prop := coordLateUptoRow.holds Try.pinned (OpenSpec.upto coordLateSpec)

/-- 'tattlerlaw22.CoordApart', WHERE WHAT IT READS IS OF BULK AT MOST 1048576: true; the input reads as it did. -/
def coordApartUptoRow : OpenClaim := { program := "ytklmddbnjookiaa", sum := "2b287f59ad323526a22f34b6a09464dd583089517f655bb2b624303d95d45c57", func := "tattler/tattlerlaw22.CoordApart", spec := "coordApart", inPlace := ["internal/bytealg.Compare"], unfollowed := true, recurses := true, apart := false, narrowed := true }
def CoordApartUptoSaid : Prop := coordApartUptoRow.holds Try.pinned (OpenSpec.upto coordApartSpec)

/-- 'tattlerlaw22.CoordNil', WHERE WHAT IT READS IS OF BULK AT MOST 1048576: true; the input reads as it did. -/
def coordNilUptoRow : OpenClaim := { program := "ytklmddbnjookiaa", sum := "2b287f59ad323526a22f34b6a09464dd583089517f655bb2b624303d95d45c57", func := "tattler/tattlerlaw22.CoordNil", spec := "coordNil", inPlace := ["internal/bytealg.Compare"], unfollowed := true, recurses := true, apart := false, narrowed := true }
def CoordNilUptoSaid : Prop := coordNilUptoRow.holds Try.pinned (OpenSpec.upto coordNilSpec)

end Rows
end Go.Proofs.Ytklmddbnjookiaa
