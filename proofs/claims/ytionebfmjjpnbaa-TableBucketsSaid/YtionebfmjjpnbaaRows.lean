/-
  No cell of these rows narrows 'for every input' (looked for: loops, veiled, ifaces, maps, wideKeys, modest, calm, conditions, laid).
  DERIVED. THE GIVEN ROWS OF THIS SEAT. 7 by the template 'for every input the law returns true; each argument reads behind the call as it read before'; 0 by the template 'total and deterministic' (their statements: YtionebfmjjpnbaaTotals.lean).
  GIVEN WITH THE SEED: the statements are not yours to turn. If you find one false, say at which input.
  Laid BY PROGRAM, IN A SANDBOX (cutbox-rows.mjs): the forced cells as the released guide's own fill.sh prints them over the translation 2021436dcd866233… (all of the seat's roots in one cut). By AI agents, Wed Nov 11 2026. No macro, syntax, notation, axiom, sorry.
-/
import Derived.Test.YtionebfmjjpnbaaChecked
import GoSem.Claim
import GoSem.ClaimJoined
import GoSem.ClaimMapViews
import Derived.JoinedTies
import Derived.KernelRfl
namespace Go.Proofs.Ytionebfmjjpnbaa
/- THE CELL 'sum', in the pinned program and in every row, IS THE sha256 OF THE DUMP (.gsa) THAT YtionebfmjjpnbaaProg.lean LOADS. Nothing in Lean hashes anything: it is a label: what it is worth is what the hold of that sum in a sandbox is worth. -/
noncomputable def Try.pinned : Pinned := { name := "ytionebfmjjpnbaa", sum := "2021436dcd8662335ba4fb6f8131baa041e02573724bc2bae79d8bf1d39e05d2", checked := Try.checked }
namespace Rows
def none {H : Type} : Left H := { results := [], args := [] }

/-- 'tattlerlaw10.TableMany': WHATEVER THE INPUT: true; the input reads as it did. -/
def tableManySpec : ChangeSpec := { name := "tableMany", fn := fun _ => fun
  | [d] => { results := [.lit (.bool true)], args := [d] }
  | _ => none }
def tableManyRow : OpenClaim := { program := "ytionebfmjjpnbaa", sum := "2021436dcd8662335ba4fb6f8131baa041e02573724bc2bae79d8bf1d39e05d2", func := "tattler/tattlerlaw10.TableMany", spec := "tableMany", inPlace := ["internal/bytealg.Compare"], unfollowed := true, recurses := true, apart := false }
def TableManySaid : Prop := tableManyRow.holds Try.pinned (OpenSpec.ofChange tableManySpec)

/-- ITS FALSE NEIGHBOUR: 'it returns false'. Refute it at one input. -/
def tableManyWrong : ChangeSpec := { name := "tableMany", fn := fun _ => fun
  | [d] => { results := [.lit (.bool false)], args := [d] }
  | _ => none }
def TableManyWrongFalsely : Prop := tableManyRow.holds Try.pinned (OpenSpec.ofChange tableManyWrong)

/-- 'tattlerlaw10.TableReaps': WHATEVER THE INPUT: true; the input reads as it did. -/
def tableReapsSpec : ChangeSpec := { name := "tableReaps", fn := fun _ => fun
  | [d1, d2] => { results := [.lit (.bool true)], args := [d1, d2] }
  | _ => none }
def tableReapsRow : OpenClaim := { program := "ytionebfmjjpnbaa", sum := "2021436dcd8662335ba4fb6f8131baa041e02573724bc2bae79d8bf1d39e05d2", func := "tattler/tattlerlaw10.TableReaps", spec := "tableReaps", inPlace := ["internal/bytealg.Compare"], unfollowed := true, recurses := true, apart := false }
def TableReapsSaid : Prop := tableReapsRow.holds Try.pinned (OpenSpec.ofChange tableReapsSpec)

/-- ITS FALSE NEIGHBOUR: 'it returns false'. Refute it at one input. -/
def tableReapsWrong : ChangeSpec := { name := "tableReaps", fn := fun _ => fun
  | [d1, d2] => { results := [.lit (.bool false)], args := [d1, d2] }
  | _ => none }
def TableReapsWrongFalsely : Prop := tableReapsRow.holds Try.pinned (OpenSpec.ofChange tableReapsWrong)

/-- 'tattlerlaw10.TableOrder': WHATEVER THE INPUT: true; the input reads as it did. -/
def tableOrderSpec : ChangeSpec := { name := "tableOrder", fn := fun _ => fun
  | [d] => { results := [.lit (.bool true)], args := [d] }
  | _ => none }
def tableOrderRow : OpenClaim := { program := "ytionebfmjjpnbaa", sum := "2021436dcd8662335ba4fb6f8131baa041e02573724bc2bae79d8bf1d39e05d2", func := "tattler/tattlerlaw10.TableOrder", spec := "tableOrder", inPlace := ["internal/bytealg.Compare"], unfollowed := true, recurses := true, apart := false }
def TableOrderSaid : Prop := tableOrderRow.holds Try.pinned (OpenSpec.ofChange tableOrderSpec)

/-- ITS FALSE NEIGHBOUR: 'it returns false'. Refute it at one input. -/
def tableOrderWrong : ChangeSpec := { name := "tableOrder", fn := fun _ => fun
  | [d] => { results := [.lit (.bool false)], args := [d] }
  | _ => none }
def TableOrderWrongFalsely : Prop := tableOrderRow.holds Try.pinned (OpenSpec.ofChange tableOrderWrong)

/-- 'tattlerlaw10.TableGrows': WHATEVER THE INPUT: true; the input reads as it did. -/
def tableGrowsSpec : ChangeSpec := { name := "tableGrows", fn := fun _ => fun
  | [d1, d2] => { results := [.lit (.bool true)], args := [d1, d2] }
  | _ => none }
def tableGrowsRow : OpenClaim := { program := "ytionebfmjjpnbaa", sum := "2021436dcd8662335ba4fb6f8131baa041e02573724bc2bae79d8bf1d39e05d2", func := "tattler/tattlerlaw10.TableGrows", spec := "tableGrows", inPlace := ["internal/bytealg.Compare"], unfollowed := true, recurses := true, apart := false }
def TableGrowsSaid : Prop := tableGrowsRow.holds Try.pinned (OpenSpec.ofChange tableGrowsSpec)

/-- ITS FALSE NEIGHBOUR: 'it returns false'. Refute it at one input. -/
def tableGrowsWrong : ChangeSpec := { name := "tableGrows", fn := fun _ => fun
  | [d1, d2] => { results := [.lit (.bool false)], args := [d1, d2] }
  | _ => none }
def TableGrowsWrongFalsely : Prop := tableGrowsRow.holds Try.pinned (OpenSpec.ofChange tableGrowsWrong)

/-- 'tattlerlaw10.TableBuckets': WHATEVER THE INPUT: true; the input reads as it did. -/
def tableBucketsSpec : ChangeSpec := { name := "tableBuckets", fn := fun _ => fun
  | [d] => { results := [.lit (.bool true)], args := [d] }
  | _ => none }
def tableBucketsRow : OpenClaim := { program := "ytionebfmjjpnbaa", sum := "2021436dcd8662335ba4fb6f8131baa041e02573724bc2bae79d8bf1d39e05d2", func := "tattler/tattlerlaw10.TableBuckets", spec := "tableBuckets", inPlace := ["internal/bytealg.Compare"], unfollowed := true, recurses := true, apart := false }
def TableBucketsSaid : Prop := tableBucketsRow.holds Try.pinned (OpenSpec.ofChange tableBucketsSpec)

/-- ITS FALSE NEIGHBOUR: 'it returns false'. Refute it at one input. -/
def tableBucketsWrong : ChangeSpec := { name := "tableBuckets", fn := fun _ => fun
  | [d] => { results := [.lit (.bool false)], args := [d] }
  | _ => none }
def TableBucketsWrongFalsely : Prop := tableBucketsRow.holds Try.pinned (OpenSpec.ofChange tableBucketsWrong)

/-- 'tattlerlaw10.TableCopies': WHATEVER THE INPUT: true; the input reads as it did. -/
def tableCopiesSpec : ChangeSpec := { name := "tableCopies", fn := fun _ => fun
  | [d1, d2] => { results := [.lit (.bool true)], args := [d1, d2] }
  | _ => none }
def tableCopiesRow : OpenClaim := { program := "ytionebfmjjpnbaa", sum := "2021436dcd8662335ba4fb6f8131baa041e02573724bc2bae79d8bf1d39e05d2", func := "tattler/tattlerlaw10.TableCopies", spec := "tableCopies", inPlace := ["internal/bytealg.Compare", "maps.clone"], unfollowed := true, recurses := true, apart := false }
def TableCopiesSaid : Prop := tableCopiesRow.holds Try.pinned (OpenSpec.ofChange tableCopiesSpec)

/-- ITS FALSE NEIGHBOUR: 'it returns false'. Refute it at one input. -/
def tableCopiesWrong : ChangeSpec := { name := "tableCopies", fn := fun _ => fun
  | [d1, d2] => { results := [.lit (.bool false)], args := [d1, d2] }
  | _ => none }
def TableCopiesWrongFalsely : Prop := tableCopiesRow.holds Try.pinned (OpenSpec.ofChange tableCopiesWrong)

/-- 'tattlerlaw10.TableNil': WHATEVER THE INPUT: true; the input reads as it did. -/
def tableNilSpec : ChangeSpec := { name := "tableNil", fn := fun _ => fun
  | [d1, d2] => { results := [.lit (.bool true)], args := [d1, d2] }
  | _ => none }
def tableNilRow : OpenClaim := { program := "ytionebfmjjpnbaa", sum := "2021436dcd8662335ba4fb6f8131baa041e02573724bc2bae79d8bf1d39e05d2", func := "tattler/tattlerlaw10.TableNil", spec := "tableNil", inPlace := ["internal/bytealg.Compare", "maps.clone"], unfollowed := true, recurses := true, apart := false }
def TableNilSaid : Prop := tableNilRow.holds Try.pinned (OpenSpec.ofChange tableNilSpec)

/-- ITS FALSE NEIGHBOUR: 'it returns false'. Refute it at one input. -/
def tableNilWrong : ChangeSpec := { name := "tableNil", fn := fun _ => fun
  | [d1, d2] => { results := [.lit (.bool false)], args := [d1, d2] }
  | _ => none }
def TableNilWrongFalsely : Prop := tableNilRow.holds Try.pinned (OpenSpec.ofChange tableNilWrong)

/- THE SECOND FORM. 'bulk': how many values and letters a reading holds, each counted each time it is reached (what is shared counts as often as it is met; a slice's spare places count too). A statement '..UptoSaid' is the law's where the arguments, and the package variables that the reading takes, are together of bulk at most 1048576: NARROWER than '..Said'. Prove '..Said' where nothing that the law and all that it calls make is longer than what came in: it says more and counts as full. Else prove '..UptoSaid'. A law counts once. -/
mutual
def uptoBulk {H : Type} : DataW H → Nat
  | .lit (.string bytes) => bytes.length + 1
  | .lit _ => 1
  | .nil => 1
  | .ptr d => uptoBulk d + 1
  | .slice elems spare => uptoBulkAll elems + uptoBulkAll spare + 1
  | .agg parts => uptoBulkAll parts + 1
  | .iface _ d => uptoBulk d + 1
  | .map entries => uptoBulkEntries entries + 1
  | .held _ => 1
def uptoBulkAll {H : Type} : List (DataW H) → Nat
  | [] => 0
  | d :: r => uptoBulk d + uptoBulkAll r
def uptoBulkEntries {H : Type} : List (Lit × DataW H) → Nat
  | [] => 0
  | x :: r => uptoBulkEntry x + uptoBulkEntries r
def uptoBulkEntry {H : Type} : Lit × DataW H → Nat
  | (.string bytes, d) => bytes.length + uptoBulk d + 1
  | (_, d) => uptoBulk d + 1
 end
def uptoSmall : (H : Type) → List (DataW H) → Bool := fun _ ds => decide (uptoBulkAll ds ≤ 1048576)
def OpenSpec.upto (s : _root_.Go.ChangeSpec) : _root_.Go.OpenSpec := { _root_.Go.OpenSpec.ofChange s with cond := some uptoSmall }

/-- 'tattlerlaw10.TableMany', WHERE WHAT IT READS IS OF BULK AT MOST 1048576: true; the input reads as it did. -/
def tableManyUptoRow : OpenClaim := { program := "ytionebfmjjpnbaa", sum := "2021436dcd8662335ba4fb6f8131baa041e02573724bc2bae79d8bf1d39e05d2", func := "tattler/tattlerlaw10.TableMany", spec := "tableMany", inPlace := ["internal/bytealg.Compare"], unfollowed := true, recurses := true, apart := false, narrowed := true }
def TableManyUptoSaid : Prop := tableManyUptoRow.holds Try.pinned (OpenSpec.upto tableManySpec)

/-- 'tattlerlaw10.TableReaps', WHERE WHAT IT READS IS OF BULK AT MOST 1048576: true; the input reads as it did. -/
def tableReapsUptoRow : OpenClaim := { program := "ytionebfmjjpnbaa", sum := "2021436dcd8662335ba4fb6f8131baa041e02573724bc2bae79d8bf1d39e05d2", func := "tattler/tattlerlaw10.TableReaps", spec := "tableReaps", inPlace := ["internal/bytealg.Compare"], unfollowed := true, recurses := true, apart := false, narrowed := true }
def TableReapsUptoSaid : Prop := tableReapsUptoRow.holds Try.pinned (OpenSpec.upto tableReapsSpec)

/-- 'tattlerlaw10.TableOrder', WHERE WHAT IT READS IS OF BULK AT MOST 1048576: true; the input reads as it did. -/
def tableOrderUptoRow : OpenClaim := { program := "ytionebfmjjpnbaa", sum := "2021436dcd8662335ba4fb6f8131baa041e02573724bc2bae79d8bf1d39e05d2", func := "tattler/tattlerlaw10.TableOrder", spec := "tableOrder", inPlace := ["internal/bytealg.Compare"], unfollowed := true, recurses := true, apart := false, narrowed := true }
def TableOrderUptoSaid : Prop := tableOrderUptoRow.holds Try.pinned (OpenSpec.upto tableOrderSpec)

/-- 'tattlerlaw10.TableGrows', WHERE WHAT IT READS IS OF BULK AT MOST 1048576: true; the input reads as it did. -/
def tableGrowsUptoRow : OpenClaim := { program := "ytionebfmjjpnbaa", sum := "2021436dcd8662335ba4fb6f8131baa041e02573724bc2bae79d8bf1d39e05d2", func := "tattler/tattlerlaw10.TableGrows", spec := "tableGrows", inPlace := ["internal/bytealg.Compare"], unfollowed := true, recurses := true, apart := false, narrowed := true }
def TableGrowsUptoSaid : Prop := tableGrowsUptoRow.holds Try.pinned (OpenSpec.upto tableGrowsSpec)

/-- 'tattlerlaw10.TableBuckets', WHERE WHAT IT READS IS OF BULK AT MOST 1048576: true; the input reads as it did. -/
def tableBucketsUptoRow : OpenClaim := { program := "ytionebfmjjpnbaa", sum := "2021436dcd8662335ba4fb6f8131baa041e02573724bc2bae79d8bf1d39e05d2", func := "tattler/tattlerlaw10.TableBuckets", spec := "tableBuckets", inPlace := ["internal/bytealg.Compare"], unfollowed := true, recurses := true, apart := false, narrowed := true }
def TableBucketsUptoSaid : Prop := tableBucketsUptoRow.holds Try.pinned (OpenSpec.upto tableBucketsSpec)

/-- 'tattlerlaw10.TableCopies', WHERE WHAT IT READS IS OF BULK AT MOST 1048576: true; the input reads as it did. -/
def tableCopiesUptoRow : OpenClaim := { program := "ytionebfmjjpnbaa", sum := "2021436dcd8662335ba4fb6f8131baa041e02573724bc2bae79d8bf1d39e05d2", func := "tattler/tattlerlaw10.TableCopies", spec := "tableCopies", inPlace := ["internal/bytealg.Compare", "maps.clone"], unfollowed := true, recurses := true, apart := false, narrowed := true }
def TableCopiesUptoSaid : Prop := tableCopiesUptoRow.holds Try.pinned (OpenSpec.upto tableCopiesSpec)

/-- 'tattlerlaw10.TableNil', WHERE WHAT IT READS IS OF BULK AT MOST 1048576: true; the input reads as it did. -/
def tableNilUptoRow : OpenClaim := { program := "ytionebfmjjpnbaa", sum := "2021436dcd8662335ba4fb6f8131baa041e02573724bc2bae79d8bf1d39e05d2", func := "tattler/tattlerlaw10.TableNil", spec := "tableNil", inPlace := ["internal/bytealg.Compare", "maps.clone"], unfollowed := true, recurses := true, apart := false, narrowed := true }
def TableNilUptoSaid : Prop := tableNilUptoRow.holds Try.pinned (OpenSpec.upto tableNilSpec)

end Rows
end Go.Proofs.Ytionebfmjjpnbaa
