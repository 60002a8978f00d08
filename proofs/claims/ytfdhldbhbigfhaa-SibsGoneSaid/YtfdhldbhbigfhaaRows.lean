/-
  No cell of these rows narrows 'for every input' (looked for: loops, veiled, ifaces, maps, wideKeys, modest, calm, conditions, laid).
  DERIVED. THE GIVEN ROWS OF THIS SEAT. 12 by the template 'for every input the law returns true; each argument reads behind the call as it read before'; 0 by the template 'total and deterministic' (their statements: YtfdhldbhbigfhaaTotals.lean).
  GIVEN WITH THE SEED: the statements are not yours to turn. If you find one false, say at which input.
  Laid BY PROGRAM, IN A SANDBOX (cutbox-rows.mjs): the forced cells as the released guide's own fill.sh prints them over the translation 239d6aae2f22728d… (all of the seat's roots in one cut). By AI agents, Wed Nov 11 2026. No macro, syntax, notation, axiom, sorry.
-/
import Derived.Test.YtfdhldbhbigfhaaChecked
import GoSem.Claim
import GoSem.ClaimJoined
import GoSem.ClaimMapViews
import Derived.JoinedTies
import Derived.KernelRfl
namespace Go.Proofs.Ytfdhldbhbigfhaa
/- THE CELL 'sum', in the pinned program and in every row, IS THE sha256 OF THE DUMP (.gsa) THAT YtfdhldbhbigfhaaProg.lean LOADS. Nothing in Lean hashes anything: it is a label: what it is worth is what the hold of that sum in a sandbox is worth. -/
noncomputable def Try.pinned : Pinned := { name := "ytfdhldbhbigfhaa", sum := "239d6aae2f22728d6a78969601427fa2348e189e4a9bdec693579eb1196957b2", checked := Try.checked }
namespace Rows
def none {H : Type} : Left H := { results := [], args := [] }

/-- 'tattlerlaw5.SibsJoins': WHATEVER THE INPUT: true; the input reads as it did. -/
def sibsJoinsSpec : ChangeSpec := { name := "sibsJoins", fn := fun _ => fun
  | [d1, d2] => { results := [.lit (.bool true)], args := [d1, d2] }
  | _ => none }
def sibsJoinsRow : OpenClaim := { program := "ytfdhldbhbigfhaa", sum := "239d6aae2f22728d6a78969601427fa2348e189e4a9bdec693579eb1196957b2", func := "tattler/tattlerlaw5.SibsJoins", spec := "sibsJoins", inPlace := ["internal/bytealg.Compare"], unfollowed := true, recurses := true, apart := false }
def SibsJoinsSaid : Prop := sibsJoinsRow.holds Try.pinned (OpenSpec.ofChange sibsJoinsSpec)

/-- ITS FALSE NEIGHBOUR: 'it returns false'. Refute it at one input. -/
def sibsJoinsWrong : ChangeSpec := { name := "sibsJoins", fn := fun _ => fun
  | [d1, d2] => { results := [.lit (.bool false)], args := [d1, d2] }
  | _ => none }
def SibsJoinsWrongFalsely : Prop := sibsJoinsRow.holds Try.pinned (OpenSpec.ofChange sibsJoinsWrong)

/-- 'tattlerlaw5.SibsPuts': WHATEVER THE INPUT: true; the input reads as it did. -/
def sibsPutsSpec : ChangeSpec := { name := "sibsPuts", fn := fun _ => fun
  | [d1, d2, d3, d4, d5] => { results := [.lit (.bool true)], args := [d1, d2, d3, d4, d5] }
  | _ => none }
def sibsPutsRow : OpenClaim := { program := "ytfdhldbhbigfhaa", sum := "239d6aae2f22728d6a78969601427fa2348e189e4a9bdec693579eb1196957b2", func := "tattler/tattlerlaw5.SibsPuts", spec := "sibsPuts", inPlace := ["internal/bytealg.Compare"], unfollowed := true, recurses := true, apart := false }
def SibsPutsSaid : Prop := sibsPutsRow.holds Try.pinned (OpenSpec.ofChange sibsPutsSpec)

/-- ITS FALSE NEIGHBOUR: 'it returns false'. Refute it at one input. -/
def sibsPutsWrong : ChangeSpec := { name := "sibsPuts", fn := fun _ => fun
  | [d1, d2, d3, d4, d5] => { results := [.lit (.bool false)], args := [d1, d2, d3, d4, d5] }
  | _ => none }
def SibsPutsWrongFalsely : Prop := sibsPutsRow.holds Try.pinned (OpenSpec.ofChange sibsPutsWrong)

/-- 'tattlerlaw5.SibsSide': WHATEVER THE INPUT: true; the input reads as it did. -/
def sibsSideSpec : ChangeSpec := { name := "sibsSide", fn := fun _ => fun
  | [d1, d2, d3, d4, d5, d6] => { results := [.lit (.bool true)], args := [d1, d2, d3, d4, d5, d6] }
  | _ => none }
def sibsSideRow : OpenClaim := { program := "ytfdhldbhbigfhaa", sum := "239d6aae2f22728d6a78969601427fa2348e189e4a9bdec693579eb1196957b2", func := "tattler/tattlerlaw5.SibsSide", spec := "sibsSide", inPlace := ["internal/bytealg.Compare"], unfollowed := true, recurses := true, apart := false }
def SibsSideSaid : Prop := sibsSideRow.holds Try.pinned (OpenSpec.ofChange sibsSideSpec)

/-- ITS FALSE NEIGHBOUR: 'it returns false'. Refute it at one input. -/
def sibsSideWrong : ChangeSpec := { name := "sibsSide", fn := fun _ => fun
  | [d1, d2, d3, d4, d5, d6] => { results := [.lit (.bool false)], args := [d1, d2, d3, d4, d5, d6] }
  | _ => none }
def SibsSideWrongFalsely : Prop := sibsSideRow.holds Try.pinned (OpenSpec.ofChange sibsSideWrong)

/-- 'tattlerlaw5.SibsMany': WHATEVER THE INPUT: true; the input reads as it did. -/
def sibsManySpec : ChangeSpec := { name := "sibsMany", fn := fun _ => fun
  | [d] => { results := [.lit (.bool true)], args := [d] }
  | _ => none }
def sibsManyRow : OpenClaim := { program := "ytfdhldbhbigfhaa", sum := "239d6aae2f22728d6a78969601427fa2348e189e4a9bdec693579eb1196957b2", func := "tattler/tattlerlaw5.SibsMany", spec := "sibsMany", inPlace := ["internal/bytealg.Compare"], unfollowed := true, recurses := true, apart := false }
def SibsManySaid : Prop := sibsManyRow.holds Try.pinned (OpenSpec.ofChange sibsManySpec)

/-- ITS FALSE NEIGHBOUR: 'it returns false'. Refute it at one input. -/
def sibsManyWrong : ChangeSpec := { name := "sibsMany", fn := fun _ => fun
  | [d] => { results := [.lit (.bool false)], args := [d] }
  | _ => none }
def SibsManyWrongFalsely : Prop := sibsManyRow.holds Try.pinned (OpenSpec.ofChange sibsManyWrong)

/-- 'tattlerlaw5.SibsOwn': WHATEVER THE INPUT: true; the input reads as it did. -/
def sibsOwnSpec : ChangeSpec := { name := "sibsOwn", fn := fun _ => fun
  | [d1, d2, d3] => { results := [.lit (.bool true)], args := [d1, d2, d3] }
  | _ => none }
def sibsOwnRow : OpenClaim := { program := "ytfdhldbhbigfhaa", sum := "239d6aae2f22728d6a78969601427fa2348e189e4a9bdec693579eb1196957b2", func := "tattler/tattlerlaw5.SibsOwn", spec := "sibsOwn", inPlace := ["internal/bytealg.Compare"], unfollowed := true, recurses := true, apart := false }
def SibsOwnSaid : Prop := sibsOwnRow.holds Try.pinned (OpenSpec.ofChange sibsOwnSpec)

/-- ITS FALSE NEIGHBOUR: 'it returns false'. Refute it at one input. -/
def sibsOwnWrong : ChangeSpec := { name := "sibsOwn", fn := fun _ => fun
  | [d1, d2, d3] => { results := [.lit (.bool false)], args := [d1, d2, d3] }
  | _ => none }
def SibsOwnWrongFalsely : Prop := sibsOwnRow.holds Try.pinned (OpenSpec.ofChange sibsOwnWrong)

/-- 'tattlerlaw5.SibsOrder': WHATEVER THE INPUT: true; the input reads as it did. -/
def sibsOrderSpec : ChangeSpec := { name := "sibsOrder", fn := fun _ => fun
  | [d1, d2, d3] => { results := [.lit (.bool true)], args := [d1, d2, d3] }
  | _ => none }
def sibsOrderRow : OpenClaim := { program := "ytfdhldbhbigfhaa", sum := "239d6aae2f22728d6a78969601427fa2348e189e4a9bdec693579eb1196957b2", func := "tattler/tattlerlaw5.SibsOrder", spec := "sibsOrder", inPlace := ["internal/bytealg.Compare"], unfollowed := true, recurses := true, apart := false }
def SibsOrderSaid : Prop := sibsOrderRow.holds Try.pinned (OpenSpec.ofChange sibsOrderSpec)

/-- ITS FALSE NEIGHBOUR: 'it returns false'. Refute it at one input. -/
def sibsOrderWrong : ChangeSpec := { name := "sibsOrder", fn := fun _ => fun
  | [d1, d2, d3] => { results := [.lit (.bool false)], args := [d1, d2, d3] }
  | _ => none }
def SibsOrderWrongFalsely : Prop := sibsOrderRow.holds Try.pinned (OpenSpec.ofChange sibsOrderWrong)

/-- 'tattlerlaw5.SibsGone': WHATEVER THE INPUT: true; the input reads as it did. -/
def sibsGoneSpec : ChangeSpec := { name := "sibsGone", fn := fun _ => fun
  | [d1, d2, d3, d4] => { results := [.lit (.bool true)], args := [d1, d2, d3, d4] }
  | _ => none }
def sibsGoneRow : OpenClaim := { program := "ytfdhldbhbigfhaa", sum := "239d6aae2f22728d6a78969601427fa2348e189e4a9bdec693579eb1196957b2", func := "tattler/tattlerlaw5.SibsGone", spec := "sibsGone", inPlace := ["internal/bytealg.Compare"], unfollowed := true, recurses := true, apart := false }
def SibsGoneSaid : Prop := sibsGoneRow.holds Try.pinned (OpenSpec.ofChange sibsGoneSpec)

/-- ITS FALSE NEIGHBOUR: 'it returns false'. Refute it at one input. -/
def sibsGoneWrong : ChangeSpec := { name := "sibsGone", fn := fun _ => fun
  | [d1, d2, d3, d4] => { results := [.lit (.bool false)], args := [d1, d2, d3, d4] }
  | _ => none }
def SibsGoneWrongFalsely : Prop := sibsGoneRow.holds Try.pinned (OpenSpec.ofChange sibsGoneWrong)

/-- 'tattlerlaw5.SibsLess': WHATEVER THE INPUT: true; the input reads as it did. -/
def sibsLessSpec : ChangeSpec := { name := "sibsLess", fn := fun _ => fun
  | [d1, d2] => { results := [.lit (.bool true)], args := [d1, d2] }
  | _ => none }
def sibsLessRow : OpenClaim := { program := "ytfdhldbhbigfhaa", sum := "239d6aae2f22728d6a78969601427fa2348e189e4a9bdec693579eb1196957b2", func := "tattler/tattlerlaw5.SibsLess", spec := "sibsLess", inPlace := ["internal/bytealg.Compare"], unfollowed := true, recurses := true, apart := false }
def SibsLessSaid : Prop := sibsLessRow.holds Try.pinned (OpenSpec.ofChange sibsLessSpec)

/-- ITS FALSE NEIGHBOUR: 'it returns false'. Refute it at one input. -/
def sibsLessWrong : ChangeSpec := { name := "sibsLess", fn := fun _ => fun
  | [d1, d2] => { results := [.lit (.bool false)], args := [d1, d2] }
  | _ => none }
def SibsLessWrongFalsely : Prop := sibsLessRow.holds Try.pinned (OpenSpec.ofChange sibsLessWrong)

/-- 'tattlerlaw5.SibsGrow': WHATEVER THE INPUT: true; the input reads as it did. -/
def sibsGrowSpec : ChangeSpec := { name := "sibsGrow", fn := fun _ => fun
  | [d1, d2, d3, d4] => { results := [.lit (.bool true)], args := [d1, d2, d3, d4] }
  | _ => none }
def sibsGrowRow : OpenClaim := { program := "ytfdhldbhbigfhaa", sum := "239d6aae2f22728d6a78969601427fa2348e189e4a9bdec693579eb1196957b2", func := "tattler/tattlerlaw5.SibsGrow", spec := "sibsGrow", inPlace := ["internal/bytealg.Compare"], unfollowed := true, recurses := true, apart := false }
def SibsGrowSaid : Prop := sibsGrowRow.holds Try.pinned (OpenSpec.ofChange sibsGrowSpec)

/-- ITS FALSE NEIGHBOUR: 'it returns false'. Refute it at one input. -/
def sibsGrowWrong : ChangeSpec := { name := "sibsGrow", fn := fun _ => fun
  | [d1, d2, d3, d4] => { results := [.lit (.bool false)], args := [d1, d2, d3, d4] }
  | _ => none }
def SibsGrowWrongFalsely : Prop := sibsGrowRow.holds Try.pinned (OpenSpec.ofChange sibsGrowWrong)

/-- 'tattlerlaw5.SibsLives': WHATEVER THE INPUT: true; the input reads as it did. -/
def sibsLivesSpec : ChangeSpec := { name := "sibsLives", fn := fun _ => fun
  | [d] => { results := [.lit (.bool true)], args := [d] }
  | _ => none }
def sibsLivesRow : OpenClaim := { program := "ytfdhldbhbigfhaa", sum := "239d6aae2f22728d6a78969601427fa2348e189e4a9bdec693579eb1196957b2", func := "tattler/tattlerlaw5.SibsLives", spec := "sibsLives", inPlace := ["internal/bytealg.Compare"], unfollowed := true, recurses := true, apart := false }
def SibsLivesSaid : Prop := sibsLivesRow.holds Try.pinned (OpenSpec.ofChange sibsLivesSpec)

/-- ITS FALSE NEIGHBOUR: 'it returns false'. Refute it at one input. -/
def sibsLivesWrong : ChangeSpec := { name := "sibsLives", fn := fun _ => fun
  | [d] => { results := [.lit (.bool false)], args := [d] }
  | _ => none }
def SibsLivesWrongFalsely : Prop := sibsLivesRow.holds Try.pinned (OpenSpec.ofChange sibsLivesWrong)

/-- 'tattlerlaw5.SibsMay': WHATEVER THE INPUT: true; the input reads as it did. -/
def sibsMaySpec : ChangeSpec := { name := "sibsMay", fn := fun _ => fun
  | [d1, d2, d3] => { results := [.lit (.bool true)], args := [d1, d2, d3] }
  | _ => none }
def sibsMayRow : OpenClaim := { program := "ytfdhldbhbigfhaa", sum := "239d6aae2f22728d6a78969601427fa2348e189e4a9bdec693579eb1196957b2", func := "tattler/tattlerlaw5.SibsMay", spec := "sibsMay", inPlace := ["internal/bytealg.Compare"], unfollowed := true, recurses := true, apart := false }
def SibsMaySaid : Prop := sibsMayRow.holds Try.pinned (OpenSpec.ofChange sibsMaySpec)

/-- ITS FALSE NEIGHBOUR: 'it returns false'. Refute it at one input. -/
def sibsMayWrong : ChangeSpec := { name := "sibsMay", fn := fun _ => fun
  | [d1, d2, d3] => { results := [.lit (.bool false)], args := [d1, d2, d3] }
  | _ => none }
def SibsMayWrongFalsely : Prop := sibsMayRow.holds Try.pinned (OpenSpec.ofChange sibsMayWrong)

/-- 'tattlerlaw5.SibsBack': WHATEVER THE INPUT: true; the input reads as it did. -/
def sibsBackSpec : ChangeSpec := { name := "sibsBack", fn := fun _ => fun
  | [d1, d2, d3] => { results := [.lit (.bool true)], args := [d1, d2, d3] }
  | _ => none }
def sibsBackRow : OpenClaim := { program := "ytfdhldbhbigfhaa", sum := "239d6aae2f22728d6a78969601427fa2348e189e4a9bdec693579eb1196957b2", func := "tattler/tattlerlaw5.SibsBack", spec := "sibsBack", inPlace := ["internal/bytealg.Compare"], unfollowed := true, recurses := true, apart := false }
def SibsBackSaid : Prop := sibsBackRow.holds Try.pinned (OpenSpec.ofChange sibsBackSpec)

/-- ITS FALSE NEIGHBOUR: 'it returns false'. Refute it at one input. -/
def sibsBackWrong : ChangeSpec := { name := "sibsBack", fn := fun _ => fun
  | [d1, d2, d3] => { results := [.lit (.bool false)], args := [d1, d2, d3] }
  | _ => none }
def SibsBackWrongFalsely : Prop := sibsBackRow.holds Try.pinned (OpenSpec.ofChange sibsBackWrong)

/- THE SECOND FORM. 'bulk': how many values and letters a reading holds, each counted each time it is reached (what is shared counts as often as it is met; a slice's spare places count too). A statement '..UptoSaid' is the law's where the arguments, and the package variables that the reading takes, are together of bulk at most 1048576: NARROWER than '..Said'. Prove '..Said' where nothing that the law and all that it calls make is longer than what came in: it says more and counts as full. Else prove '..UptoSaid'. A law counts once. -/
mutual
def uptoBulk {H : Type} : DataW H → Nat
  | .lit (.string bytes) => bytes.length + 1
  | .lit _ => 1
  | .nil => 1
  | .ptr d => uptoBulk d + 1
  | .slice elems spare => uptoBulkAll elems + uptoBulkAll spare + 1
  | .agg parts => uptoBulkAll parts + 1
  | .iface _ d => uptoBulk d + 1
  | .map entries => uptoBulkEntries entries + 1
  | .held _ => 1
def uptoBulkAll {H : Type} : List (DataW H) → Nat
  | [] => 0
  | d :: r => uptoBulk d + uptoBulkAll r
def uptoBulkEntries {H : Type} : List (Lit × DataW H) → Nat
  | [] => 0
  | x :: r => uptoBulkEntry x + uptoBulkEntries r
def uptoBulkEntry {H : Type} : Lit × DataW H → Nat
  | (.string bytes, d) => bytes.length + uptoBulk d + 1
  | (_, d) => uptoBulk d + 1
 end
def uptoSmall : (H : Type) → List (DataW H) → Bool := fun _ ds => decide (uptoBulkAll ds ≤ 1048576)
def OpenSpec.upto (s : _root_.Go.ChangeSpec) : _root_.Go.OpenSpec := { _root_.Go.OpenSpec.ofChange s with cond := some uptoSmall }

/-- 'tattlerlaw5.SibsJoins', WHERE WHAT IT READS IS OF BULK AT MOST 1048576: true; the input reads as it did. -/
def sibsJoinsUptoRow : OpenClaim := { program := "ytfdhldbhbigfhaa", sum := "239d6aae2f22728d6a78969601427fa2348e189e4a9bdec693579eb1196957b2", func := "tattler/tattlerlaw5.SibsJoins", spec := "sibsJoins", inPlace := ["internal/bytealg.Compare"], unfollowed := true, recurses := true, apart := false, narrowed := true }
def SibsJoinsUptoSaid : Prop := sibsJoinsUptoRow.holds Try.pinned (OpenSpec.upto sibsJoinsSpec)

/-- 'tattlerlaw5.SibsPuts', WHERE WHAT IT READS IS OF BULK AT MOST 1048576: true; the input reads as it did. -/
def sibsPutsUptoRow : OpenClaim := { program := "ytfdhldbhbigfhaa", sum := "239d6aae2f22728d6a78969601427fa2348e189e4a9bdec693579eb1196957b2", func := "tattler/tattlerlaw5.SibsPuts", spec := "sibsPuts", inPlace := ["internal/bytealg.Compare"], unfollowed := true, recurses := true, apart := false, narrowed := true }
def SibsPutsUptoSaid : Prop := sibsPutsUptoRow.holds Try.pinned (OpenSpec.upto sibsPutsSpec)

/-- 'tattlerlaw5.SibsSide', WHERE WHAT IT READS IS OF BULK AT MOST 1048576: true; the input reads as it did. -/
def sibsSideUptoRow : OpenClaim := { program := "ytfdhldbhbigfhaa", sum := "239d6aae2f22728d6a78969601427fa2348e189e4a9bdec693579eb1196957b2", func := "tattler/tattlerlaw5.SibsSide", spec := "sibsSide", inPlace := ["internal/bytealg.Compare"], unfollowed := true, recurses := true, apart := false, narrowed := true }
def SibsSideUptoSaid : Prop := sibsSideUptoRow.holds Try.pinned (OpenSpec.upto sibsSideSpec)

/-- 'tattlerlaw5.SibsMany', WHERE WHAT IT READS IS OF BULK AT MOST 1048576: true; the input reads as it did. -/
def sibsManyUptoRow : OpenClaim := { program := "ytfdhldbhbigfhaa", sum := "239d6aae2f22728d6a78969601427fa2348e189e4a9bdec693579eb1196957b2", func := "tattler/tattlerlaw5.SibsMany", spec := "sibsMany", inPlace := ["internal/bytealg.Compare"], unfollowed := true, recurses := true, apart := false, narrowed := true }
def SibsManyUptoSaid : Prop := sibsManyUptoRow.holds Try.pinned (OpenSpec.upto sibsManySpec)

/-- 'tattlerlaw5.SibsOwn', WHERE WHAT IT READS IS OF BULK AT MOST 1048576: true; the input reads as it did. -/
def sibsOwnUptoRow : OpenClaim := { program := "ytfdhldbhbigfhaa", sum := "239d6aae2f22728d6a78969601427fa2348e189e4a9bdec693579eb1196957b2", func := "tattler/tattlerlaw5.SibsOwn", spec := "sibsOwn", inPlace := ["internal/bytealg.Compare"], unfollowed := true, recurses := true, apart := false, narrowed := true }
def SibsOwnUptoSaid : Prop := sibsOwnUptoRow.holds Try.pinned (OpenSpec.upto sibsOwnSpec)

/-- 'tattlerlaw5.SibsOrder', WHERE WHAT IT READS IS OF BULK AT MOST 1048576: true; the input reads as it did. -/
def sibsOrderUptoRow : OpenClaim := { program := "ytfdhldbhbigfhaa", sum := "239d6aae2f22728d6a78969601427fa2348e189e4a9bdec693579eb1196957b2", func := "tattler/tattlerlaw5.SibsOrder", spec := "sibsOrder", inPlace := ["internal/bytealg.Compare"], unfollowed := true, recurses := true, apart := false, narrowed := true }
def SibsOrderUptoSaid : Prop := sibsOrderUptoRow.holds Try.pinned (OpenSpec.upto sibsOrderSpec)

/-- 'tattlerlaw5.SibsGone', WHERE WHAT IT READS IS OF BULK AT MOST 1048576: true; the input reads as it did. -/
def sibsGoneUptoRow : OpenClaim := { program := "ytfdhldbhbigfhaa", sum := "239d6aae2f22728d6a78969601427fa2348e189e4a9bdec693579eb1196957b2", func := "tattler/tattlerlaw5.SibsGone", spec := "sibsGone", inPlace := ["internal/bytealg.Compare"], unfollowed := true, recurses := true, apart := false, narrowed := true }
def SibsGoneUptoSaid : Prop := sibsGoneUptoRow.holds Try.pinned (OpenSpec.upto sibsGoneSpec)

/-- 'tattlerlaw5.SibsLess', WHERE WHAT IT READS IS OF BULK AT MOST 1048576: true; the input reads as it did. -/
def sibsLessUptoRow : OpenClaim := { program := "ytfdhldbhbigfhaa", sum := "239d6aae2f22728d6a78969601427fa2348e189e4a9bdec693579eb1196957b2", func := "tattler/tattlerlaw5.SibsLess", spec := "sibsLess", inPlace := ["internal/bytealg.Compare"], unfollowed := true, recurses := true, apart := false, narrowed := true }
def SibsLessUptoSaid : Prop := sibsLessUptoRow.holds Try.pinned (OpenSpec.upto sibsLessSpec)

/-- 'tattlerlaw5.SibsGrow', WHERE WHAT IT READS IS OF BULK AT MOST 1048576: true; the input reads as it did. -/
def sibsGrowUptoRow : OpenClaim := { program := "ytfdhldbhbigfhaa", sum := "239d6aae2f22728d6a78969601427fa2348e189e4a9bdec693579eb1196957b2", func := "tattler/tattlerlaw5.SibsGrow", spec := "sibsGrow", inPlace := ["internal/bytealg.Compare"], unfollowed := true, recurses := true, apart := false, narrowed := true }
def SibsGrowUptoSaid : Prop := sibsGrowUptoRow.holds Try.pinned (OpenSpec.upto sibsGrowSpec)

/-- 'tattlerlaw5.SibsLives', WHERE WHAT IT READS IS OF BULK AT MOST 1048576: true; the input reads as it did. -/
def sibsLivesUptoRow : OpenClaim := { program := "ytfdhldbhbigfhaa", sum := "239d6aae2f22728d6a78969601427fa2348e189e4a9bdec693579eb1196957b2", func := "tattler/tattlerlaw5.SibsLives", spec := "sibsLives", inPlace := ["internal/bytealg.Compare"], unfollowed := true, recurses := true, apart := false, narrowed := true }
def SibsLivesUptoSaid : Prop := sibsLivesUptoRow.holds Try.pinned (OpenSpec.upto sibsLivesSpec)

/-- 'tattlerlaw5.SibsMay', WHERE WHAT IT READS IS OF BULK AT MOST 1048576: true; the input reads as it did. -/
def sibsMayUptoRow : OpenClaim := { program := "ytfdhldbhbigfhaa", sum := "239d6aae2f22728d6a78969601427fa2348e189e4a9bdec693579eb1196957b2", func := "tattler/tattlerlaw5.SibsMay", spec := "sibsMay", inPlace := ["internal/bytealg.Compare"], unfollowed := true, recurses := true, apart := false, narrowed := true }
def SibsMayUptoSaid : Prop := sibsMayUptoRow.holds Try.pinned (OpenSpec.upto sibsMaySpec)

/-- 'tattlerlaw5.SibsBack', WHERE WHAT IT READS IS OF BULK AT MOST 1048576: true; the input reads as it did. -/
def sibsBackUptoRow : OpenClaim := { program := "ytfdhldbhbigfhaa", sum := "239d6aae2f22728d6a78969601427fa2348e189e4a9bdec693579eb1196957b2", func := "tattler/tattlerlaw5.SibsBack", spec := "sibsBack", inPlace := ["internal/bytealg.Compare"], unfollowed := true, recurses := true, apart := false, narrowed := true }
def SibsBackUptoSaid : Prop := sibsBackUptoRow.holds Try.pinned (OpenSpec.upto sibsBackSpec)

end Rows
end Go.Proofs.Ytfdhldbhbigfhaa
