/-
  No cell of these rows narrows 'for every input' (looked for: loops, veiled, ifaces, maps, wideKeys, modest, calm, conditions, laid).
  DERIVED. THE GIVEN ROWS OF THIS SEAT. 6 by the template 'for every input the law returns true; each argument reads behind the call as it read before'; 0 by the template 'total and deterministic' (their statements: YthkfjefoblmbhaaTotals.lean).
  GIVEN WITH THE SEED: the statements are not yours to turn. If you find one false, say at which input.
  Laid BY PROGRAM, IN A SANDBOX (cutbox-rows.mjs): the forced cells as the released guide's own fill.sh prints them over the translation 00f45fe23bb88c04… (all of the seat's roots in one cut). By AI agents, Wed Nov 11 2026. No macro, syntax, notation, axiom, sorry.
-/
import Derived.Test.YthkfjefoblmbhaaChecked
import GoSem.Claim
import GoSem.ClaimJoined
import GoSem.ClaimMapViews
import Derived.JoinedTies
import Derived.KernelRfl
namespace Go.Proofs.Ythkfjefoblmbhaa
/- THE CELL 'sum', in the pinned program and in every row, IS THE sha256 OF THE DUMP (.gsa) THAT YthkfjefoblmbhaaProg.lean LOADS. Nothing in Lean hashes anything: it is a label: what it is worth is what the hold of that sum in a sandbox is worth. -/
noncomputable def Try.pinned : Pinned := { name := "ythkfjefoblmbhaa", sum := "00f45fe23bb88c04916ca5991f38b974f7119388a1a86cd9986ba9930b0a519a", checked := Try.checked }
namespace Rows
def none {H : Type} : Left H := { results := [], args := [] }

/-- 'tattlerlaw11.HintsMany': WHATEVER THE INPUT: true; the input reads as it did. -/
def hintsManySpec : ChangeSpec := { name := "hintsMany", fn := fun _ => fun
  | [d] => { results := [.lit (.bool true)], args := [d] }
  | _ => none }
def hintsManyRow : OpenClaim := { program := "ythkfjefoblmbhaa", sum := "00f45fe23bb88c04916ca5991f38b974f7119388a1a86cd9986ba9930b0a519a", func := "tattler/tattlerlaw11.HintsMany", spec := "hintsMany", inPlace := ["internal/bytealg.Compare", "slices.overlaps[tattler/api.Hint]"], unfollowed := true, recurses := true, apart := false }
def HintsManySaid : Prop := hintsManyRow.holds Try.pinned (OpenSpec.ofChange hintsManySpec)

/-- ITS FALSE NEIGHBOUR: 'it returns false'. Refute it at one input. -/
def hintsManyWrong : ChangeSpec := { name := "hintsMany", fn := fun _ => fun
  | [d] => { results := [.lit (.bool false)], args := [d] }
  | _ => none }
def HintsManyWrongFalsely : Prop := hintsManyRow.holds Try.pinned (OpenSpec.ofChange hintsManyWrong)

/-- 'tattlerlaw11.HintsStay': WHATEVER THE INPUT: true; the input reads as it did. -/
def hintsStaySpec : ChangeSpec := { name := "hintsStay", fn := fun _ => fun
  | [d1, d2] => { results := [.lit (.bool true)], args := [d1, d2] }
  | _ => none }
def hintsStayRow : OpenClaim := { program := "ythkfjefoblmbhaa", sum := "00f45fe23bb88c04916ca5991f38b974f7119388a1a86cd9986ba9930b0a519a", func := "tattler/tattlerlaw11.HintsStay", spec := "hintsStay", inPlace := ["internal/bytealg.Compare", "slices.overlaps[tattler/api.Hint]"], unfollowed := true, recurses := true, apart := false }
def HintsStaySaid : Prop := hintsStayRow.holds Try.pinned (OpenSpec.ofChange hintsStaySpec)

/-- ITS FALSE NEIGHBOUR: 'it returns false'. Refute it at one input. -/
def hintsStayWrong : ChangeSpec := { name := "hintsStay", fn := fun _ => fun
  | [d1, d2] => { results := [.lit (.bool false)], args := [d1, d2] }
  | _ => none }
def HintsStayWrongFalsely : Prop := hintsStayRow.holds Try.pinned (OpenSpec.ofChange hintsStayWrong)

/-- 'tattlerlaw11.HintsGrow': WHATEVER THE INPUT: true; the input reads as it did. -/
def hintsGrowSpec : ChangeSpec := { name := "hintsGrow", fn := fun _ => fun
  | [d1, d2] => { results := [.lit (.bool true)], args := [d1, d2] }
  | _ => none }
def hintsGrowRow : OpenClaim := { program := "ythkfjefoblmbhaa", sum := "00f45fe23bb88c04916ca5991f38b974f7119388a1a86cd9986ba9930b0a519a", func := "tattler/tattlerlaw11.HintsGrow", spec := "hintsGrow", inPlace := ["internal/bytealg.Compare", "slices.overlaps[tattler/api.Hint]"], unfollowed := true, recurses := true, apart := false }
def HintsGrowSaid : Prop := hintsGrowRow.holds Try.pinned (OpenSpec.ofChange hintsGrowSpec)

/-- ITS FALSE NEIGHBOUR: 'it returns false'. Refute it at one input. -/
def hintsGrowWrong : ChangeSpec := { name := "hintsGrow", fn := fun _ => fun
  | [d1, d2] => { results := [.lit (.bool false)], args := [d1, d2] }
  | _ => none }
def HintsGrowWrongFalsely : Prop := hintsGrowRow.holds Try.pinned (OpenSpec.ofChange hintsGrowWrong)

/-- 'tattlerlaw11.HintsApart': WHATEVER THE INPUT: true; the input reads as it did. -/
def hintsApartSpec : ChangeSpec := { name := "hintsApart", fn := fun _ => fun
  | [d1, d2] => { results := [.lit (.bool true)], args := [d1, d2] }
  | _ => none }
def hintsApartRow : OpenClaim := { program := "ythkfjefoblmbhaa", sum := "00f45fe23bb88c04916ca5991f38b974f7119388a1a86cd9986ba9930b0a519a", func := "tattler/tattlerlaw11.HintsApart", spec := "hintsApart", inPlace := ["internal/bytealg.Compare", "slices.overlaps[tattler/api.Hint]"], unfollowed := true, recurses := true, apart := false }
def HintsApartSaid : Prop := hintsApartRow.holds Try.pinned (OpenSpec.ofChange hintsApartSpec)

/-- ITS FALSE NEIGHBOUR: 'it returns false'. Refute it at one input. -/
def hintsApartWrong : ChangeSpec := { name := "hintsApart", fn := fun _ => fun
  | [d1, d2] => { results := [.lit (.bool false)], args := [d1, d2] }
  | _ => none }
def HintsApartWrongFalsely : Prop := hintsApartRow.holds Try.pinned (OpenSpec.ofChange hintsApartWrong)

/-- 'tattlerlaw11.HintsPlay': WHATEVER THE INPUT: true; the input reads as it did. -/
def hintsPlaySpec : ChangeSpec := { name := "hintsPlay", fn := fun _ => fun
  | [d1, d2] => { results := [.lit (.bool true)], args := [d1, d2] }
  | _ => none }
def hintsPlayRow : OpenClaim := { program := "ythkfjefoblmbhaa", sum := "00f45fe23bb88c04916ca5991f38b974f7119388a1a86cd9986ba9930b0a519a", func := "tattler/tattlerlaw11.HintsPlay", spec := "hintsPlay", inPlace := ["internal/bytealg.Compare", "slices.overlaps[tattler/api.Hint]"], unfollowed := true, recurses := true, apart := false }
def HintsPlaySaid : Prop := hintsPlayRow.holds Try.pinned (OpenSpec.ofChange hintsPlaySpec)

/-- ITS FALSE NEIGHBOUR: 'it returns false'. Refute it at one input. -/
def hintsPlayWrong : ChangeSpec := { name := "hintsPlay", fn := fun _ => fun
  | [d1, d2] => { results := [.lit (.bool false)], args := [d1, d2] }
  | _ => none }
def HintsPlayWrongFalsely : Prop := hintsPlayRow.holds Try.pinned (OpenSpec.ofChange hintsPlayWrong)

/-- 'tattlerlaw11.HintsNil': WHATEVER THE INPUT: true; the input reads as it did. -/
def hintsNilSpec : ChangeSpec := { name := "hintsNil", fn := fun _ => fun
  | [d] => { results := [.lit (.bool true)], args := [d] }
  | _ => none }
def hintsNilRow : OpenClaim := { program := "ythkfjefoblmbhaa", sum := "00f45fe23bb88c04916ca5991f38b974f7119388a1a86cd9986ba9930b0a519a", func := "tattler/tattlerlaw11.HintsNil", spec := "hintsNil", inPlace := ["internal/bytealg.Compare", "slices.overlaps[tattler/api.Hint]"], unfollowed := true, recurses := true, apart := false }
def HintsNilSaid : Prop := hintsNilRow.holds Try.pinned (OpenSpec.ofChange hintsNilSpec)

/-- ITS FALSE NEIGHBOUR: 'it returns false'. Refute it at one input. -/
def hintsNilWrong : ChangeSpec := { name := "hintsNil", fn := fun _ => fun
  | [d] => { results := [.lit (.bool false)], args := [d] }
  | _ => none }
def HintsNilWrongFalsely : Prop := hintsNilRow.holds Try.pinned (OpenSpec.ofChange hintsNilWrong)

/- THE SECOND FORM. 'bulk': how many values and letters a reading holds, each counted each time it is reached (what is shared counts as often as it is met; a slice's spare places count too). A statement '..UptoSaid' is the law's where the arguments, and the package variables that the reading takes, are together of bulk at most 1048576: NARROWER than '..Said'. Prove '..Said' where nothing that the law and all that it calls make is longer than what came in: it says more and counts as full. Else prove '..UptoSaid'. A law counts once. -/
mutual
def uptoBulk {H : Type} : DataW H → Nat
  | .lit (.string bytes) => bytes.length + 1
  | .lit _ => 1
  | .nil => 1
  | .ptr d => uptoBulk d + 1
  | .slice elems spare => uptoBulkAll elems + uptoBulkAll spare + 1
  | .agg parts => uptoBulkAll parts + 1
  | .iface _ d => uptoBulk d + 1
  | .map entries => uptoBulkEntries entries + 1
  | .held _ => 1
def uptoBulkAll {H : Type} : List (DataW H) → Nat
  | [] => 0
  | d :: r => uptoBulk d + uptoBulkAll r
def uptoBulkEntries {H : Type} : List (Lit × DataW H) → Nat
  | [] => 0
  | x :: r => uptoBulkEntry x + uptoBulkEntries r
def uptoBulkEntry {H : Type} : Lit × DataW H → Nat
  | (.string bytes, d) => bytes.length + uptoBulk d + 1
  | (_, d) => uptoBulk d + 1
 end
def uptoSmall : (H : Type) → List (DataW H) → Bool := fun _ ds => decide (uptoBulkAll ds ≤ 1048576)
def OpenSpec.upto (s : _root_.Go.ChangeSpec) : _root_.Go.OpenSpec := { _root_.Go.OpenSpec.ofChange s with cond := some uptoSmall }

/-- 'tattlerlaw11.HintsMany', WHERE WHAT IT READS IS OF BULK AT MOST 1048576: true; the input reads as it did. -/
def hintsManyUptoRow : OpenClaim := { program := "ythkfjefoblmbhaa", sum := "00f45fe23bb88c04916ca5991f38b974f7119388a1a86cd9986ba9930b0a519a", func := "tattler/tattlerlaw11.HintsMany", spec := "hintsMany", inPlace := ["internal/bytealg.Compare", "slices.overlaps[tattler/api.Hint]"], unfollowed := true, recurses := true, apart := false, narrowed := true }
def HintsManyUptoSaid : Prop := hintsManyUptoRow.holds Try.pinned (OpenSpec.upto hintsManySpec)

/-- 'tattlerlaw11.HintsStay', WHERE WHAT IT READS IS OF BULK AT MOST 1048576: true; the input reads as it did. -/
def hintsStayUptoRow : OpenClaim := { program := "ythkfjefoblmbhaa", sum := "00f45fe23bb88c04916ca5991f38b974f7119388a1a86cd9986ba9930b0a519a", func := "tattler/tattlerlaw11.HintsStay", spec := "hintsStay", inPlace := ["internal/bytealg.Compare", "slices.overlaps[tattler/api.Hint]"], unfollowed := true, recurses := true, apart := false, narrowed := true }
def HintsStayUptoSaid : Prop := hintsStayUptoRow.holds Try.pinned (OpenSpec.upto hintsStaySpec)

/-- 'tattlerlaw11.HintsGrow', WHERE WHAT IT READS IS OF BULK AT MOST 1048576: true; the input reads as it did. -/
def hintsGrowUptoRow : OpenClaim := { program := "ythkfjefoblmbhaa", sum := "00f45fe23bb88c04916ca5991f38b974f7119388a1a86cd9986ba9930b0a519a", func := "tattler/tattlerlaw11.HintsGrow", spec := "hintsGrow", inPlace := ["internal/bytealg.Compare", "slices.overlaps[tattler/api.Hint]"], unfollowed := true, recurses := true, apart := false, narrowed := true }
def HintsGrowUptoSaid : Prop := hintsGrowUptoRow.holds Try.pinned (OpenSpec.upto hintsGrowSpec)

/-- 'tattlerlaw11.HintsApart', WHERE WHAT IT READS IS OF BULK AT MOST 1048576: true; the input reads as it did. -/
def hintsApartUptoRow : OpenClaim := { program := "ythkfjefoblmbhaa", sum := "00f45fe23bb88c04916ca5991f38b974f7119388a1a86cd9986ba9930b0a519a", func := "tattler/tattlerlaw11.HintsApart", spec := "hintsApart", inPlace := ["internal/bytealg.Compare", "slices.overlaps[tattler/api.Hint]"], unfollowed := true, recurses := true, apart := false, narrowed := true }
def HintsApartUptoSaid : Prop := hintsApartUptoRow.holds Try.pinned (OpenSpec.upto hintsApartSpec)

/-- 'tattlerlaw11.HintsPlay', WHERE WHAT IT READS IS OF BULK AT MOST 1048576: true; the input reads as it did. -/
def hintsPlayUptoRow : OpenClaim := { program := "ythkfjefoblmbhaa", sum := "00f45fe23bb88c04916ca5991f38b974f7119388a1a86cd9986ba9930b0a519a", func := "tattler/tattlerlaw11.HintsPlay", spec := "hintsPlay", inPlace := ["internal/bytealg.Compare", "slices.overlaps[tattler/api.Hint]"], unfollowed := true, recurses := true, apart := false, narrowed := true }
def HintsPlayUptoSaid : Prop := hintsPlayUptoRow.holds Try.pinned (OpenSpec.upto hintsPlaySpec)

/-- 'tattlerlaw11.HintsNil', WHERE WHAT IT READS IS OF BULK AT MOST 1048576: true; the input reads as it did. -/
def hintsNilUptoRow : OpenClaim := { program := "ythkfjefoblmbhaa", sum := "00f45fe23bb88c04916ca5991f38b974f7119388a1a86cd9986ba9930b0a519a", func := "tattler/tattlerlaw11.HintsNil", spec := "hintsNil", inPlace := ["internal/bytealg.Compare", "slices.overlaps[tattler/api.Hint]"], unfollowed := true, recurses := true, apart := false, narrowed := true }
def HintsNilUptoSaid : Prop := hintsNilUptoRow.holds Try.pinned (OpenSpec.upto hintsNilSpec)

end Rows
end Go.Proofs.Ythkfjefoblmbhaa
