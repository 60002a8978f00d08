/-
  No cell of these rows narrows 'for every input' (looked for: loops, veiled, ifaces, maps, wideKeys, modest, calm, conditions, laid).
  DERIVED. THE GIVEN ROWS OF THIS SEAT. 10 by the template 'for every input the law returns true; each argument reads behind the call as it read before'; 0 by the template 'total and deterministic' (their statements: YtphlgefkcghopaaTotals.lean).
  GIVEN WITH THE SEED: the statements are not yours to turn. If you find one false, say at which input.
  Laid BY PROGRAM, IN A SANDBOX (cutbox-rows.mjs): the forced cells as the released guide's own fill.sh prints them over the translation b760457938f7bde6… (all of the seat's roots in one cut). By AI agents, Wed Nov 11 2026. No macro, syntax, notation, axiom, sorry.
-/
import Derived.Test.YtphlgefkcghopaaChecked
import GoSem.Claim
import GoSem.ClaimJoined
import GoSem.ClaimMapViews
import Derived.JoinedTies
import Derived.KernelRfl
namespace Go.Proofs.Ytphlgefkcghopaa
/- THE CELL 'sum', in the pinned program and in every row, IS THE sha256 OF THE DUMP (.gsa) THAT YtphlgefkcghopaaProg.lean LOADS. Nothing in Lean hashes anything: it is a label: what it is worth is what the hold of that sum in a sandbox is worth. -/
noncomputable def Try.pinned : Pinned := { name := "ytphlgefkcghopaa", sum := "b760457938f7bde6b01017a7d52b0c087bf0e3ec2299fe0345dea72588a8d72a", checked := Try.checked }
namespace Rows
def none {H : Type} : Left H := { results := [], args := [] }

/-- 'tattlerlaw21.QuorumPlays': WHATEVER THE INPUT: true; the input reads as it did. -/
def quorumPlaysSpec : ChangeSpec := { name := "quorumPlays", fn := fun _ => fun
  | [d1, d2] => { results := [.lit (.bool true)], args := [d1, d2] }
  | _ => none }
def quorumPlaysRow : OpenClaim := { program := "ytphlgefkcghopaa", sum := "b760457938f7bde6b01017a7d52b0c087bf0e3ec2299fe0345dea72588a8d72a", func := "tattler/tattlerlaw21.QuorumPlays", spec := "quorumPlays", apart := false }
def QuorumPlaysSaid : Prop := quorumPlaysRow.holds Try.pinned (OpenSpec.ofChange quorumPlaysSpec)

/-- ITS FALSE NEIGHBOUR: 'it returns false'. Refute it at one input. -/
def quorumPlaysWrong : ChangeSpec := { name := "quorumPlays", fn := fun _ => fun
  | [d1, d2] => { results := [.lit (.bool false)], args := [d1, d2] }
  | _ => none }
def QuorumPlaysWrongFalsely : Prop := quorumPlaysRow.holds Try.pinned (OpenSpec.ofChange quorumPlaysWrong)

/-- 'tattlerlaw21.QuorumNil': WHATEVER THE INPUT: true; the input reads as it did. -/
def quorumNilSpec : ChangeSpec := { name := "quorumNil", fn := fun _ => fun
  | [d] => { results := [.lit (.bool true)], args := [d] }
  | _ => none }
def quorumNilRow : OpenClaim := { program := "ytphlgefkcghopaa", sum := "b760457938f7bde6b01017a7d52b0c087bf0e3ec2299fe0345dea72588a8d72a", func := "tattler/tattlerlaw21.QuorumNil", spec := "quorumNil", apart := false }
def QuorumNilSaid : Prop := quorumNilRow.holds Try.pinned (OpenSpec.ofChange quorumNilSpec)

/-- ITS FALSE NEIGHBOUR: 'it returns false'. Refute it at one input. -/
def quorumNilWrong : ChangeSpec := { name := "quorumNil", fn := fun _ => fun
  | [d] => { results := [.lit (.bool false)], args := [d] }
  | _ => none }
def QuorumNilWrongFalsely : Prop := quorumNilRow.holds Try.pinned (OpenSpec.ofChange quorumNilWrong)

/-- 'tattlerlaw21.QuorumMeets': WHATEVER THE INPUT: true; the input reads as it did. -/
def quorumMeetsSpec : ChangeSpec := { name := "quorumMeets", fn := fun _ => fun
  | [d1, d2, d3, d4, d5] => { results := [.lit (.bool true)], args := [d1, d2, d3, d4, d5] }
  | _ => none }
def quorumMeetsRow : OpenClaim := { program := "ytphlgefkcghopaa", sum := "b760457938f7bde6b01017a7d52b0c087bf0e3ec2299fe0345dea72588a8d72a", func := "tattler/tattlerlaw21.QuorumMeets", spec := "quorumMeets", apart := false }
def QuorumMeetsSaid : Prop := quorumMeetsRow.holds Try.pinned (OpenSpec.ofChange quorumMeetsSpec)

/-- ITS FALSE NEIGHBOUR: 'it returns false'. Refute it at one input. -/
def quorumMeetsWrong : ChangeSpec := { name := "quorumMeets", fn := fun _ => fun
  | [d1, d2, d3, d4, d5] => { results := [.lit (.bool false)], args := [d1, d2, d3, d4, d5] }
  | _ => none }
def QuorumMeetsWrongFalsely : Prop := quorumMeetsRow.holds Try.pinned (OpenSpec.ofChange quorumMeetsWrong)

/-- 'tattlerlaw21.QuorumOrder': WHATEVER THE INPUT: true; the input reads as it did. -/
def quorumOrderSpec : ChangeSpec := { name := "quorumOrder", fn := fun _ => fun
  | [d1, d2, d3] => { results := [.lit (.bool true)], args := [d1, d2, d3] }
  | _ => none }
def quorumOrderRow : OpenClaim := { program := "ytphlgefkcghopaa", sum := "b760457938f7bde6b01017a7d52b0c087bf0e3ec2299fe0345dea72588a8d72a", func := "tattler/tattlerlaw21.QuorumOrder", spec := "quorumOrder", apart := false }
def QuorumOrderSaid : Prop := quorumOrderRow.holds Try.pinned (OpenSpec.ofChange quorumOrderSpec)

/-- ITS FALSE NEIGHBOUR: 'it returns false'. Refute it at one input. -/
def quorumOrderWrong : ChangeSpec := { name := "quorumOrder", fn := fun _ => fun
  | [d1, d2, d3] => { results := [.lit (.bool false)], args := [d1, d2, d3] }
  | _ => none }
def QuorumOrderWrongFalsely : Prop := quorumOrderRow.holds Try.pinned (OpenSpec.ofChange quorumOrderWrong)

/-- 'tattlerlaw13.DigestPart': WHATEVER THE INPUT: true; the input reads as it did. -/
def digestPartSpec : ChangeSpec := { name := "digestPart", fn := fun _ => fun
  | [d1, d2, d3] => { results := [.lit (.bool true)], args := [d1, d2, d3] }
  | _ => none }
def digestPartRow : OpenClaim := { program := "ytphlgefkcghopaa", sum := "b760457938f7bde6b01017a7d52b0c087bf0e3ec2299fe0345dea72588a8d72a", func := "tattler/tattlerlaw13.DigestPart", spec := "digestPart", unfollowed := true, recurses := true, apart := false }
def DigestPartSaid : Prop := digestPartRow.holds Try.pinned (OpenSpec.ofChange digestPartSpec)

/-- ITS FALSE NEIGHBOUR: 'it returns false'. Refute it at one input. -/
def digestPartWrong : ChangeSpec := { name := "digestPart", fn := fun _ => fun
  | [d1, d2, d3] => { results := [.lit (.bool false)], args := [d1, d2, d3] }
  | _ => none }
def DigestPartWrongFalsely : Prop := digestPartRow.holds Try.pinned (OpenSpec.ofChange digestPartWrong)

/-- 'tattlerlaw13.DigestGrows': WHATEVER THE INPUT: true; the input reads as it did. -/
def digestGrowsSpec : ChangeSpec := { name := "digestGrows", fn := fun _ => fun
  | [d1, d2] => { results := [.lit (.bool true)], args := [d1, d2] }
  | _ => none }
def digestGrowsRow : OpenClaim := { program := "ytphlgefkcghopaa", sum := "b760457938f7bde6b01017a7d52b0c087bf0e3ec2299fe0345dea72588a8d72a", func := "tattler/tattlerlaw13.DigestGrows", spec := "digestGrows", unfollowed := true, recurses := true, apart := false }
def DigestGrowsSaid : Prop := digestGrowsRow.holds Try.pinned (OpenSpec.ofChange digestGrowsSpec)

/-- ITS FALSE NEIGHBOUR: 'it returns false'. Refute it at one input. -/
def digestGrowsWrong : ChangeSpec := { name := "digestGrows", fn := fun _ => fun
  | [d1, d2] => { results := [.lit (.bool false)], args := [d1, d2] }
  | _ => none }
def DigestGrowsWrongFalsely : Prop := digestGrowsRow.holds Try.pinned (OpenSpec.ofChange digestGrowsWrong)

/-- 'tattlerlaw13.DigestBelow': WHATEVER THE INPUT: true; the input reads as it did. -/
def digestBelowSpec : ChangeSpec := { name := "digestBelow", fn := fun _ => fun
  | [d] => { results := [.lit (.bool true)], args := [d] }
  | _ => none }
def digestBelowRow : OpenClaim := { program := "ytphlgefkcghopaa", sum := "b760457938f7bde6b01017a7d52b0c087bf0e3ec2299fe0345dea72588a8d72a", func := "tattler/tattlerlaw13.DigestBelow", spec := "digestBelow", unfollowed := true, recurses := true, apart := false }
def DigestBelowSaid : Prop := digestBelowRow.holds Try.pinned (OpenSpec.ofChange digestBelowSpec)

/-- ITS FALSE NEIGHBOUR: 'it returns false'. Refute it at one input. -/
def digestBelowWrong : ChangeSpec := { name := "digestBelow", fn := fun _ => fun
  | [d] => { results := [.lit (.bool false)], args := [d] }
  | _ => none }
def DigestBelowWrongFalsely : Prop := digestBelowRow.holds Try.pinned (OpenSpec.ofChange digestBelowWrong)

/-- 'tattlerlaw13.DigestOrder': WHATEVER THE INPUT: true; the input reads as it did. -/
def digestOrderSpec : ChangeSpec := { name := "digestOrder", fn := fun _ => fun
  | [d1, d2] => { results := [.lit (.bool true)], args := [d1, d2] }
  | _ => none }
def digestOrderRow : OpenClaim := { program := "ytphlgefkcghopaa", sum := "b760457938f7bde6b01017a7d52b0c087bf0e3ec2299fe0345dea72588a8d72a", func := "tattler/tattlerlaw13.DigestOrder", spec := "digestOrder", unfollowed := true, recurses := true, apart := false }
def DigestOrderSaid : Prop := digestOrderRow.holds Try.pinned (OpenSpec.ofChange digestOrderSpec)

/-- ITS FALSE NEIGHBOUR: 'it returns false'. Refute it at one input. -/
def digestOrderWrong : ChangeSpec := { name := "digestOrder", fn := fun _ => fun
  | [d1, d2] => { results := [.lit (.bool false)], args := [d1, d2] }
  | _ => none }
def DigestOrderWrongFalsely : Prop := digestOrderRow.holds Try.pinned (OpenSpec.ofChange digestOrderWrong)

/-- 'tattlerlaw13.DigestBack': WHATEVER THE INPUT: true; the input reads as it did. -/
def digestBackSpec : ChangeSpec := { name := "digestBack", fn := fun _ => fun
  | [d] => { results := [.lit (.bool true)], args := [d] }
  | _ => none }
def digestBackRow : OpenClaim := { program := "ytphlgefkcghopaa", sum := "b760457938f7bde6b01017a7d52b0c087bf0e3ec2299fe0345dea72588a8d72a", func := "tattler/tattlerlaw13.DigestBack", spec := "digestBack", unfollowed := true, recurses := true, apart := false }
def DigestBackSaid : Prop := digestBackRow.holds Try.pinned (OpenSpec.ofChange digestBackSpec)

/-- ITS FALSE NEIGHBOUR: 'it returns false'. Refute it at one input. -/
def digestBackWrong : ChangeSpec := { name := "digestBack", fn := fun _ => fun
  | [d] => { results := [.lit (.bool false)], args := [d] }
  | _ => none }
def DigestBackWrongFalsely : Prop := digestBackRow.holds Try.pinned (OpenSpec.ofChange digestBackWrong)

/-- 'tattlerlaw13.DigestExact': WHATEVER THE INPUT: true; the input reads as it did. -/
def digestExactSpec : ChangeSpec := { name := "digestExact", fn := fun _ => fun
  | [d1, d2, d3] => { results := [.lit (.bool true)], args := [d1, d2, d3] }
  | _ => none }
def digestExactRow : OpenClaim := { program := "ytphlgefkcghopaa", sum := "b760457938f7bde6b01017a7d52b0c087bf0e3ec2299fe0345dea72588a8d72a", func := "tattler/tattlerlaw13.DigestExact", spec := "digestExact", inPlace := ["internal/bytealg.Compare"], unfollowed := true, recurses := true, apart := false }
def DigestExactSaid : Prop := digestExactRow.holds Try.pinned (OpenSpec.ofChange digestExactSpec)

/-- ITS FALSE NEIGHBOUR: 'it returns false'. Refute it at one input. -/
def digestExactWrong : ChangeSpec := { name := "digestExact", fn := fun _ => fun
  | [d1, d2, d3] => { results := [.lit (.bool false)], args := [d1, d2, d3] }
  | _ => none }
def DigestExactWrongFalsely : Prop := digestExactRow.holds Try.pinned (OpenSpec.ofChange digestExactWrong)

/- THE SECOND FORM. 'bulk': how many values and letters a reading holds, each counted each time it is reached (what is shared counts as often as it is met; a slice's spare places count too). A statement '..UptoSaid' is the law's where the arguments, and the package variables that the reading takes, are together of bulk at most 1048576: NARROWER than '..Said'. Prove '..Said' where nothing that the law and all that it calls make is longer than what came in: it says more and counts as full. Else prove '..UptoSaid'. A law counts once. -/
mutual
def uptoBulk {H : Type} : DataW H → Nat
  | .lit (.string bytes) => bytes.length + 1
  | .lit _ => 1
  | .nil => 1
  | .ptr d => uptoBulk d + 1
  | .slice elems spare => uptoBulkAll elems + uptoBulkAll spare + 1
  | .agg parts => uptoBulkAll parts + 1
  | .iface _ d => uptoBulk d + 1
  | .map entries => uptoBulkEntries entries + 1
  | .held _ => 1
def uptoBulkAll {H : Type} : List (DataW H) → Nat
  | [] => 0
  | d :: r => uptoBulk d + uptoBulkAll r
def uptoBulkEntries {H : Type} : List (Lit × DataW H) → Nat
  | [] => 0
  | x :: r => uptoBulkEntry x + uptoBulkEntries r
def uptoBulkEntry {H : Type} : Lit × DataW H → Nat
  | (.string bytes, d) => bytes.length + uptoBulk d + 1
  | (_, d) => uptoBulk d + 1
 end
def uptoSmall : (H : Type) → List (DataW H) → Bool := fun _ ds => decide (uptoBulkAll ds ≤ 1048576)
def OpenSpec.upto (s : _root_.Go.ChangeSpec) : _root_.Go.OpenSpec := { _root_.Go.OpenSpec.ofChange s with cond := some uptoSmall }

/-- 'tattlerlaw21.QuorumPlays', WHERE WHAT IT READS IS OF BULK AT MOST 1048576: true; the input reads as it did. -/
def quorumPlaysUptoRow : OpenClaim := { program := "ytphlgefkcghopaa", sum := "b760457938f7bde6b01017a7d52b0c087bf0e3ec2299fe0345dea72588a8d72a", func := "tattler/tattlerlaw21.QuorumPlays", spec := "quorumPlays", apart := false, narrowed := true }
def QuorumPlaysUptoSaid : Prop := quorumPlaysUptoRow.holds Try.pinned (OpenSpec.upto quorumPlaysSpec)

/-- 'tattlerlaw21.QuorumNil', WHERE WHAT IT READS IS OF BULK AT MOST 1048576: true; the input reads as it did. -/
def quorumNilUptoRow : OpenClaim := { program := "ytphlgefkcghopaa", sum := "b760457938f7bde6b01017a7d52b0c087bf0e3ec2299fe0345dea72588a8d72a", func := "tattler/tattlerlaw21.QuorumNil", spec := "quorumNil", apart := false, narrowed := true }
def QuorumNilUptoSaid : Prop := quorumNilUptoRow.holds Try.pinned (OpenSpec.upto quorumNilSpec)

/-- 'tattlerlaw21.QuorumMeets', WHERE WHAT IT READS IS OF BULK AT MOST 1048576: true; the input reads as it did. -/
def quorumMeetsUptoRow : OpenClaim := { program := "ytphlgefkcghopaa", sum := "b760457938f7bde6b01017a7d52b0c087bf0e3ec2299fe0345dea72588a8d72a", func := "tattler/tattlerlaw21.QuorumMeets", spec := "quorumMeets", apart := false, narrowed := true }
def QuorumMeetsUptoSaid : Prop := quorumMeetsUptoRow.holds Try.pinned (OpenSpec.upto quorumMeetsSpec)

/-- 'tattlerlaw21.QuorumOrder', WHERE WHAT IT READS IS OF BULK AT MOST 1048576: true; the input reads as it did. -/
def quorumOrderUptoRow : OpenClaim := { program := "ytphlgefkcghopaa", sum := "b760457938f7bde6b01017a7d52b0c087bf0e3ec2299fe0345dea72588a8d72a", func := "tattler/tattlerlaw21.QuorumOrder", spec := "quorumOrder", apart := false, narrowed := true }
def QuorumOrderUptoSaid : Prop := quorumOrderUptoRow.holds Try.pinned (OpenSpec.upto quorumOrderSpec)

/-- 'tattlerlaw13.DigestPart', WHERE WHAT IT READS IS OF BULK AT MOST 1048576: true; the input reads as it did. -/
def digestPartUptoRow : OpenClaim := { program := "ytphlgefkcghopaa", sum := "b760457938f7bde6b01017a7d52b0c087bf0e3ec2299fe0345dea72588a8d72a", func := "tattler/tattlerlaw13.DigestPart", spec := "digestPart", unfollowed := true, recurses := true, apart := false, narrowed := true }
def DigestPartUptoSaid : Prop := digestPartUptoRow.holds Try.pinned (OpenSpec.upto digestPartSpec)

/-- 'tattlerlaw13.DigestGrows', WHERE WHAT IT READS IS OF BULK AT MOST 1048576: true; the input reads as it did. -/
def digestGrowsUptoRow : OpenClaim := { program := "ytphlgefkcghopaa", sum := "b760457938f7bde6b01017a7d52b0c087bf0e3ec2299fe0345dea72588a8d72a", func := "tattler/tattlerlaw13.DigestGrows", spec := "digestGrows", unfollowed := true, recurses := true, apart := false, narrowed := true }
def DigestGrowsUptoSaid : Prop := digestGrowsUptoRow.holds Try.pinned (OpenSpec.upto digestGrowsSpec)

/-- 'tattlerlaw13.DigestBelow', WHERE WHAT IT READS IS OF BULK AT MOST 1048576: true; the input reads as it did. -/
def digestBelowUptoRow : OpenClaim := { program := "ytphlgefkcghopaa", sum := "b760457938f7bde6b01017a7d52b0c087bf0e3ec2299fe0345dea72588a8d72a", func := "tattler/tattlerlaw13.DigestBelow", spec := "digestBelow", unfollowed := true, recurses := true, apart := false, narrowed := true }
def DigestBelowUptoSaid : Prop := digestBelowUptoRow.holds Try.pinned (OpenSpec.upto digestBelowSpec)

/-- 'tattlerlaw13.DigestOrder', WHERE WHAT IT READS IS OF BULK AT MOST 1048576: true; the input reads as it did. -/
def digestOrderUptoRow : OpenClaim := { program := "ytphlgefkcghopaa", sum := "b760457938f7bde6b01017a7d52b0c087bf0e3ec2299fe0345dea72588a8d72a", func := "tattler/tattlerlaw13.DigestOrder", spec := "digestOrder", unfollowed := true, recurses := true, apart := false, narrowed := true }
def DigestOrderUptoSaid : Prop := digestOrderUptoRow.holds Try.pinned (OpenSpec.upto digestOrderSpec)

/-- 'tattlerlaw13.DigestBack', WHERE WHAT IT READS IS OF BULK AT MOST 1048576: true; the input reads as it did. -/
def digestBackUptoRow : OpenClaim := { program := "ytphlgefkcghopaa", sum := "b760457938f7bde6b01017a7d52b0c087bf0e3ec2299fe0345dea72588a8d72a", func := "tattler/tattlerlaw13.DigestBack", spec := "digestBack", unfollowed := true, recurses := true, apart := false, narrowed := true }
def DigestBackUptoSaid : Prop := digestBackUptoRow.holds Try.pinned (OpenSpec.upto digestBackSpec)

/-- 'tattlerlaw13.DigestExact', WHERE WHAT IT READS IS OF BULK AT MOST 1048576: true; the input reads as it did. -/
def digestExactUptoRow : OpenClaim := { program := "ytphlgefkcghopaa", sum := "b760457938f7bde6b01017a7d52b0c087bf0e3ec2299fe0345dea72588a8d72a", func := "tattler/tattlerlaw13.DigestExact", spec := "digestExact", inPlace := ["internal/bytealg.Compare"], unfollowed := true, recurses := true, apart := false, narrowed := true }
def DigestExactUptoSaid : Prop := digestExactUptoRow.holds Try.pinned (OpenSpec.upto digestExactSpec)

end Rows
end Go.Proofs.Ytphlgefkcghopaa
