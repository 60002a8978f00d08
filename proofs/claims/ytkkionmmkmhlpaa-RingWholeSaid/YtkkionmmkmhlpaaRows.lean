/-
  No cell of these rows narrows 'for every input' (looked for: loops, veiled, ifaces, maps, wideKeys, modest, calm, conditions, laid).
  DERIVED. THE GIVEN ROWS OF THIS SEAT. 4 by the template 'for every input the law returns true; each argument reads behind the call as it read before'; 0 by the template 'total and deterministic' (their statements: YtkkionmmkmhlpaaTotals.lean).
  GIVEN WITH THE SEED: the statements are not yours to turn. If you find one false, say at which input.
  Laid BY PROGRAM, IN A SANDBOX (cutbox-rows.mjs): the forced cells as the released guide's own fill.sh prints them over the translation da8b8e52c91a8ad5… (all of the seat's roots in one cut). By AI agents, Wed Nov 11 2026. No macro, syntax, notation, axiom, sorry.
-/
import Derived.Test.YtkkionmmkmhlpaaChecked
import GoSem.Claim
import GoSem.ClaimJoined
import GoSem.ClaimMapViews
import Derived.JoinedTies
import Derived.KernelRfl
namespace Go.Proofs.Ytkkionmmkmhlpaa
/- THE CELL 'sum', in the pinned program and in every row, IS THE sha256 OF THE DUMP (.gsa) THAT YtkkionmmkmhlpaaProg.lean LOADS. Nothing in Lean hashes anything: it is a label: what it is worth is what the hold of that sum in a sandbox is worth. -/
noncomputable def Try.pinned : Pinned := { name := "ytkkionmmkmhlpaa", sum := "da8b8e52c91a8ad5f3462f598684720afd295fb82fbe412f9047a828ef07e023", checked := Try.checked }
namespace Rows
def none {H : Type} : Left H := { results := [], args := [] }

/-- 'tattlerlaw14.RingPlaces': WHATEVER THE INPUT: true; the input reads as it did. -/
def ringPlacesSpec : ChangeSpec := { name := "ringPlaces", fn := fun _ => fun
  | [d1, d2] => { results := [.lit (.bool true)], args := [d1, d2] }
  | _ => none }
def ringPlacesRow : OpenClaim := { program := "ytkkionmmkmhlpaa", sum := "da8b8e52c91a8ad5f3462f598684720afd295fb82fbe412f9047a828ef07e023", func := "tattler/tattlerlaw14.RingPlaces", spec := "ringPlaces", inPlace := ["sync/atomic.AddInt32", "sync/atomic.LoadUint32", "(*internal/sync.Mutex).Lock", "internal/race.Disable", "sync/atomic.CompareAndSwapInt32", "internal/race.Enable", "internal/race.Acquire", "(*internal/sync.Mutex).lockSlow", "internal/sync.runtime_canSpin", "internal/sync.runtime_doSpin", "internal/sync.throw", "internal/sync.runtime_nanotime", "internal/sync.runtime_SemacquireMutex", "(*internal/sync.Mutex).Unlock", "internal/race.ReleaseMerge", "(*internal/sync.Mutex).unlockSlow", "internal/sync.fatal", "internal/sync.runtime_Semrelease", "sync/atomic.StoreUint32"], unfollowed := true, recurses := true, apart := false }
def RingPlacesSaid : Prop := ringPlacesRow.holds Try.pinned (OpenSpec.ofChange ringPlacesSpec)

/-- ITS FALSE NEIGHBOUR: 'it returns false'. Refute it at one input. -/
def ringPlacesWrong : ChangeSpec := { name := "ringPlaces", fn := fun _ => fun
  | [d1, d2] => { results := [.lit (.bool false)], args := [d1, d2] }
  | _ => none }
def RingPlacesWrongFalsely : Prop := ringPlacesRow.holds Try.pinned (OpenSpec.ofChange ringPlacesWrong)

/-- 'tattlerlaw14.RingWhole': WHATEVER THE INPUT: true; the input reads as it did. -/
def ringWholeSpec : ChangeSpec := { name := "ringWhole", fn := fun _ => fun
  | [d1, d2, d3, d4] => { results := [.lit (.bool true)], args := [d1, d2, d3, d4] }
  | _ => none }
def ringWholeRow : OpenClaim := { program := "ytkkionmmkmhlpaa", sum := "da8b8e52c91a8ad5f3462f598684720afd295fb82fbe412f9047a828ef07e023", func := "tattler/tattlerlaw14.RingWhole", spec := "ringWhole", inPlace := ["sync/atomic.AddInt32", "sync/atomic.LoadUint32", "(*internal/sync.Mutex).Lock", "internal/race.Disable", "sync/atomic.CompareAndSwapInt32", "internal/race.Enable", "internal/race.Acquire", "(*internal/sync.Mutex).lockSlow", "internal/sync.runtime_canSpin", "internal/sync.runtime_doSpin", "internal/sync.throw", "internal/sync.runtime_nanotime", "internal/sync.runtime_SemacquireMutex", "(*internal/sync.Mutex).Unlock", "internal/race.ReleaseMerge", "(*internal/sync.Mutex).unlockSlow", "internal/sync.fatal", "internal/sync.runtime_Semrelease", "sync/atomic.StoreUint32"], unfollowed := true, recurses := true, apart := false }
def RingWholeSaid : Prop := ringWholeRow.holds Try.pinned (OpenSpec.ofChange ringWholeSpec)

/-- ITS FALSE NEIGHBOUR: 'it returns false'. Refute it at one input. -/
def ringWholeWrong : ChangeSpec := { name := "ringWhole", fn := fun _ => fun
  | [d1, d2, d3, d4] => { results := [.lit (.bool false)], args := [d1, d2, d3, d4] }
  | _ => none }
def RingWholeWrongFalsely : Prop := ringWholeRow.holds Try.pinned (OpenSpec.ofChange ringWholeWrong)

/-- 'tattlerlaw14.RingOrders': WHATEVER THE INPUT: true; the input reads as it did. -/
def ringOrdersSpec : ChangeSpec := { name := "ringOrders", fn := fun _ => fun
  | [d1, d2, d3, d4] => { results := [.lit (.bool true)], args := [d1, d2, d3, d4] }
  | _ => none }
def ringOrdersRow : OpenClaim := { program := "ytkkionmmkmhlpaa", sum := "da8b8e52c91a8ad5f3462f598684720afd295fb82fbe412f9047a828ef07e023", func := "tattler/tattlerlaw14.RingOrders", spec := "ringOrders", inPlace := ["sync/atomic.AddInt32", "sync/atomic.LoadUint32", "(*internal/sync.Mutex).Lock", "internal/race.Disable", "sync/atomic.CompareAndSwapInt32", "internal/race.Enable", "internal/race.Acquire", "(*internal/sync.Mutex).lockSlow", "internal/sync.runtime_canSpin", "internal/sync.runtime_doSpin", "internal/sync.throw", "internal/sync.runtime_nanotime", "internal/sync.runtime_SemacquireMutex", "(*internal/sync.Mutex).Unlock", "internal/race.ReleaseMerge", "(*internal/sync.Mutex).unlockSlow", "internal/sync.fatal", "internal/sync.runtime_Semrelease", "sync/atomic.StoreUint32"], unfollowed := true, recurses := true, apart := false }
def RingOrdersSaid : Prop := ringOrdersRow.holds Try.pinned (OpenSpec.ofChange ringOrdersSpec)

/-- ITS FALSE NEIGHBOUR: 'it returns false'. Refute it at one input. -/
def ringOrdersWrong : ChangeSpec := { name := "ringOrders", fn := fun _ => fun
  | [d1, d2, d3, d4] => { results := [.lit (.bool false)], args := [d1, d2, d3, d4] }
  | _ => none }
def RingOrdersWrongFalsely : Prop := ringOrdersRow.holds Try.pinned (OpenSpec.ofChange ringOrdersWrong)

/-- 'tattlerlaw14.RingNil': WHATEVER THE INPUT: true; the input reads as it did. -/
def ringNilSpec : ChangeSpec := { name := "ringNil", fn := fun _ => fun
  | [d1, d2] => { results := [.lit (.bool true)], args := [d1, d2] }
  | _ => none }
def ringNilRow : OpenClaim := { program := "ytkkionmmkmhlpaa", sum := "da8b8e52c91a8ad5f3462f598684720afd295fb82fbe412f9047a828ef07e023", func := "tattler/tattlerlaw14.RingNil", spec := "ringNil", inPlace := ["sync/atomic.AddInt32", "sync/atomic.LoadUint32", "(*internal/sync.Mutex).Lock", "internal/race.Disable", "sync/atomic.CompareAndSwapInt32", "internal/race.Enable", "internal/race.Acquire", "(*internal/sync.Mutex).lockSlow", "internal/sync.runtime_canSpin", "internal/sync.runtime_doSpin", "internal/sync.throw", "internal/sync.runtime_nanotime", "internal/sync.runtime_SemacquireMutex", "(*internal/sync.Mutex).Unlock", "internal/race.ReleaseMerge", "(*internal/sync.Mutex).unlockSlow", "internal/sync.fatal", "internal/sync.runtime_Semrelease", "sync/atomic.StoreUint32", "sync/atomic.LoadInt32"], unfollowed := true, recurses := true, apart := false }
def RingNilSaid : Prop := ringNilRow.holds Try.pinned (OpenSpec.ofChange ringNilSpec)

/-- ITS FALSE NEIGHBOUR: 'it returns false'. Refute it at one input. -/
def ringNilWrong : ChangeSpec := { name := "ringNil", fn := fun _ => fun
  | [d1, d2] => { results := [.lit (.bool false)], args := [d1, d2] }
  | _ => none }
def RingNilWrongFalsely : Prop := ringNilRow.holds Try.pinned (OpenSpec.ofChange ringNilWrong)

/- THE SECOND FORM. 'bulk': how many values and letters a reading holds, each counted each time it is reached (what is shared counts as often as it is met; a slice's spare places count too). A statement '..UptoSaid' is the law's where the arguments, and the package variables that the reading takes, are together of bulk at most 1048576: NARROWER than '..Said'. Prove '..Said' where nothing that the law and all that it calls make is longer than what came in: it says more and counts as full. Else prove '..UptoSaid'. A law counts once. -/
mutual
def uptoBulk {H : Type} : DataW H → Nat
  | .lit (.string bytes) => bytes.length + 1
  | .lit _ => 1
  | .nil => 1
  | .ptr d => uptoBulk d + 1
  | .slice elems spare => uptoBulkAll elems + uptoBulkAll spare + 1
  | .agg parts => uptoBulkAll parts + 1
  | .iface _ d => uptoBulk d + 1
  | .map entries => uptoBulkEntries entries + 1
  | .held _ => 1
def uptoBulkAll {H : Type} : List (DataW H) → Nat
  | [] => 0
  | d :: r => uptoBulk d + uptoBulkAll r
def uptoBulkEntries {H : Type} : List (Lit × DataW H) → Nat
  | [] => 0
  | x :: r => uptoBulkEntry x + uptoBulkEntries r
def uptoBulkEntry {H : Type} : Lit × DataW H → Nat
  | (.string bytes, d) => bytes.length + uptoBulk d + 1
  | (_, d) => uptoBulk d + 1
 end
def uptoSmall : (H : Type) → List (DataW H) → Bool := fun _ ds => decide (uptoBulkAll ds ≤ 1048576)
def OpenSpec.upto (s : _root_.Go.ChangeSpec) : _root_.Go.OpenSpec := { _root_.Go.OpenSpec.ofChange s with cond := some uptoSmall }

/-- 'tattlerlaw14.RingPlaces', WHERE WHAT IT READS IS OF BULK AT MOST 1048576: true; the input reads as it did. -/
def ringPlacesUptoRow : OpenClaim := { program := "ytkkionmmkmhlpaa", sum := "da8b8e52c91a8ad5f3462f598684720afd295fb82fbe412f9047a828ef07e023", func := "tattler/tattlerlaw14.RingPlaces", spec := "ringPlaces", inPlace := ["sync/atomic.AddInt32", "sync/atomic.LoadUint32", "(*internal/sync.Mutex).Lock", "internal/race.Disable", "sync/atomic.CompareAndSwapInt32", "internal/race.Enable", "internal/race.Acquire", "(*internal/sync.Mutex).lockSlow", "internal/sync.runtime_canSpin", "internal/sync.runtime_doSpin", "internal/sync.throw", "internal/sync.runtime_nanotime", "internal/sync.runtime_SemacquireMutex", "(*internal/sync.Mutex).Unlock", "internal/race.ReleaseMerge", "(*internal/sync.Mutex).unlockSlow", "internal/sync.fatal", "internal/sync.runtime_Semrelease", "sync/atomic.StoreUint32"], unfollowed := true, recurses := true, apart := false, narrowed := true }
def RingPlacesUptoSaid : Prop := ringPlacesUptoRow.holds Try.pinned (OpenSpec.upto ringPlacesSpec)

/-- 'tattlerlaw14.RingWhole', WHERE WHAT IT READS IS OF BULK AT MOST 1048576: true; the input reads as it did. -/
def ringWholeUptoRow : OpenClaim := { program := "ytkkionmmkmhlpaa", sum := "da8b8e52c91a8ad5f3462f598684720afd295fb82fbe412f9047a828ef07e023", func := "tattler/tattlerlaw14.RingWhole", spec := "ringWhole", inPlace := ["sync/atomic.AddInt32", "sync/atomic.LoadUint32", "(*internal/sync.Mutex).Lock", "internal/race.Disable", "sync/atomic.CompareAndSwapInt32", "internal/race.Enable", "internal/race.Acquire", "(*internal/sync.Mutex).lockSlow", "internal/sync.runtime_canSpin", "internal/sync.runtime_doSpin", "internal/sync.throw", "internal/sync.runtime_nanotime", "internal/sync.runtime_SemacquireMutex", "(*internal/sync.Mutex).Unlock", "internal/race.ReleaseMerge", "(*internal/sync.Mutex).unlockSlow", "internal/sync.fatal", "internal/sync.runtime_Semrelease", "sync/atomic.StoreUint32"], unfollowed := true, recurses := true, apart := false, narrowed := true }
def RingWholeUptoSaid : Prop := ringWholeUptoRow.holds Try.pinned (OpenSpec.upto ringWholeSpec)

/-- 'tattlerlaw14.RingOrders', WHERE WHAT IT READS IS OF BULK AT MOST 1048576: true; the input reads as it did. -/
def ringOrdersUptoRow : OpenClaim := { program := "ytkkionmmkmhlpaa", sum := "da8b8e52c91a8ad5f3462f598684720afd295fb82fbe412f9047a828ef07e023", func := "tattler/tattlerlaw14.RingOrders", spec := "ringOrders", inPlace := ["sync/atomic.AddInt32", "sync/atomic.LoadUint32", "(*internal/sync.Mutex).Lock", "internal/race.Disable", "sync/atomic.CompareAndSwapInt32", "internal/race.Enable", "internal/race.Acquire", "(*internal/sync.Mutex).lockSlow", "internal/sync.runtime_canSpin", "internal/sync.runtime_doSpin", "internal/sync.throw", "internal/sync.runtime_nanotime", "internal/sync.runtime_SemacquireMutex", "(*internal/sync.Mutex).Unlock", "internal/race.ReleaseMerge", "(*internal/sync.Mutex).unlockSlow", "internal/sync.fatal", "internal/sync.runtime_Semrelease", "sync/atomic.StoreUint32"], unfollowed := true, recurses := true, apart := false, narrowed := true }
def RingOrdersUptoSaid : Prop := ringOrdersUptoRow.holds Try.pinned (OpenSpec.upto ringOrdersSpec)

/-- 'tattlerlaw14.RingNil', WHERE WHAT IT READS IS OF BULK AT MOST 1048576: true; the input reads as it did. -/
def ringNilUptoRow : OpenClaim := { program := "ytkkionmmkmhlpaa", sum := "da8b8e52c91a8ad5f3462f598684720afd295fb82fbe412f9047a828ef07e023", func := "tattler/tattlerlaw14.RingNil", spec := "ringNil", inPlace := ["sync/atomic.AddInt32", "sync/atomic.LoadUint32", "(*internal/sync.Mutex).Lock", "internal/race.Disable", "sync/atomic.CompareAndSwapInt32", "internal/race.Enable", "internal/race.Acquire", "(*internal/sync.Mutex).lockSlow", "internal/sync.runtime_canSpin", "internal/sync.runtime_doSpin", "internal/sync.throw", "internal/sync.runtime_nanotime", "internal/sync.runtime_SemacquireMutex", "(*internal/sync.Mutex).Unlock", "internal/race.ReleaseMerge", "(*internal/sync.Mutex).unlockSlow", "internal/sync.fatal", "internal/sync.runtime_Semrelease", "sync/atomic.StoreUint32", "sync/atomic.LoadInt32"], unfollowed := true, recurses := true, apart := false, narrowed := true }
def RingNilUptoSaid : Prop := ringNilUptoRow.holds Try.pinned (OpenSpec.upto ringNilSpec)

end Rows
end Go.Proofs.Ytkkionmmkmhlpaa
