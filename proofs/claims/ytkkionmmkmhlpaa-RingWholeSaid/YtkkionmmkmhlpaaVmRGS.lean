/- 'slices.SortFunc' of points by the kit's contract, laid at this program; 'doSlow' of sync.Once, walked. -/
import Derived.Test.YtkkionmmkmhlpaaVmRGD
import Derived.Tactics
import Derived.Tactics2
import Derived.Defers
import Derived.Laws.Pointers
import Derived.Laws.LoneSync
import Derived.RegionTactic
import Derived.RegionCalls
import Derived.KernelRfl
import Derived.WalkKit
set_option linter.unusedVariables false
set_option linter.unusedSimpArgs false
namespace Go.Proofs.Ytkkionmmkmhlpaa.V0
open Go.Vm Go.RowKit Go.Proofs.Ytkkionmmkmhlpaa.V
set_option maxRecDepth 100000
def sortLays_ren : Go.Shelf.Ren := ⟨fun | 6 => 29 | 15 => 43 | 14 => 42 | 28 => 59 | 29 => 60 | 20 => 51 | 21 => 52 | 22 => 53 | 23 => 54 | 24 => 55 | 25 => 56 | 26 => 57 | 27 => 58 | 46 => 68 | 47 => 69 | 48 => 70 | 49 => 71 | 50 => 72 | 57 => 80 | n => n, fun | 22 => 57 | 24 => 63 | 25 => 75 | 3 => 3 | 39 => 64 | 0 => 0 | 53 => 27 | 55 => 22 | 4 => 4 | 46 => 96 | 45 => 95 | 50 => 100 | 5 => 5 | 9 => 9 | 66 => 109 | 70 => 113 | 76 => 118 | 77 => 119 | n => n, fun | n => n⟩
theorem sortLays : Go.Proofs.SlLaysF0.n6 Try.prog sortLays_ren := {
  mixed := by kernel_rfl,
  f6 := ⟨Try.f29.name, by kernel_rfl, Try.func29.trans (congrArg some (by kernel_rfl))⟩,
  f14 := ⟨Try.f42.name, by kernel_rfl, Try.func42.trans (congrArg some (by kernel_rfl))⟩,
  f15 := Try.func43.trans (congrArg some (by kernel_rfl)),
  f20 := ⟨Try.f51.name, by kernel_rfl, Try.func51.trans (congrArg some (by kernel_rfl))⟩,
  f21 := ⟨Try.f52.name, by kernel_rfl, Try.func52.trans (congrArg some (by kernel_rfl))⟩,
  f22 := ⟨Try.f53.name, by kernel_rfl, Try.func53.trans (congrArg some (by kernel_rfl))⟩,
  f23 := ⟨Try.f54.name, by kernel_rfl, Try.func54.trans (congrArg some (by kernel_rfl))⟩,
  f24 := ⟨Try.f55.name, by kernel_rfl, Try.func55.trans (congrArg some (by kernel_rfl))⟩,
  f25 := ⟨Try.f56.name, by kernel_rfl, Try.func56.trans (congrArg some (by kernel_rfl))⟩,
  f26 := ⟨Try.f57.name, by kernel_rfl, Try.func57.trans (congrArg some (by kernel_rfl))⟩,
  f27 := ⟨Try.f58.name, by kernel_rfl, Try.func58.trans (congrArg some (by kernel_rfl))⟩,
  f28 := Try.func59.trans (congrArg some (by kernel_rfl)),
  f29 := Try.func60.trans (congrArg some (by kernel_rfl)),
  f46 := ⟨Try.f68.name, by kernel_rfl, Try.func68.trans (congrArg some (by kernel_rfl))⟩,
  f47 := Try.func69.trans (congrArg some (by kernel_rfl)),
  f48 := Try.func70.trans (congrArg some (by kernel_rfl)),
  f49 := ⟨Try.f71.name, by kernel_rfl, Try.func71.trans (congrArg some (by kernel_rfl))⟩,
  f50 := ⟨Try.f72.name, by kernel_rfl, Try.func72.trans (congrArg some (by kernel_rfl))⟩,
  f57 := ⟨Try.f80.name, by kernel_rfl, Try.func80.trans (congrArg some (by kernel_rfl))⟩,
  t0 := Try.underlying0,
  a0 := Try.isAgg0,
  z0 := Try.sizeOf0,
  v0 := Try.zeroValue0,
  t3 := Try.underlying3,
  a3 := Try.isAgg3,
  z3 := Try.sizeOf3,
  v3 := Try.zeroValue3,
  t4 := Try.underlying4,
  a4 := Try.isAgg4,
  z4 := Try.sizeOf4,
  v4 := Try.zeroValue4,
  t5 := Try.underlying5,
  a5 := Try.isAgg5,
  z5 := Try.sizeOf5,
  v5 := Try.zeroValue5,
  t9 := Try.underlying9,
  a9 := Try.isAgg9,
  z9 := Try.sizeOf9,
  v9 := Try.zeroValue9,
  t22 := Try.underlying57,
  a22 := Try.isAgg57,
  z22 := Try.sizeOf57,
  v22 := Try.zeroValue57,
  t25 := Try.underlying75,
  a25 := Try.isAgg75,
  z25 := Try.sizeOf75,
  v25 := Try.zeroValue75,
  t39 := Try.underlying64,
  a39 := Try.isAgg64,
  z39 := Try.sizeOf64,
  v39 := Try.zeroValue64,
  t45 := Try.underlying95,
  a45 := Try.isAgg95,
  z45 := Try.sizeOf95,
  v45 := Try.zeroValue95,
  t46 := Try.underlying96,
  a46 := Try.isAgg96,
  z46 := Try.sizeOf96,
  v46 := Try.zeroValue96,
  t50 := Try.underlying100,
  a50 := Try.isAgg100,
  z50 := Try.sizeOf100,
  v50 := Try.zeroValue100,
  t53 := Try.underlying27,
  a53 := Try.isAgg27,
  z53 := Try.sizeOf27,
  v53 := Try.zeroValue27,
  t55 := Try.underlying22,
  a55 := Try.isAgg22,
  z55 := Try.sizeOf22,
  v55 := Try.zeroValue22,
  t66 := Try.underlying109,
  a66 := Try.isAgg109,
  z66 := Try.sizeOf109,
  v66 := Try.zeroValue109,
  t70 := Try.underlying113,
  a70 := Try.isAgg113,
  z70 := Try.sizeOf113,
  v70 := Try.zeroValue113,
  t76 := Try.underlying118,
  a76 := Try.isAgg118,
  z76 := Try.sizeOf118,
  v76 := Try.zeroValue118,
  t77 := Try.underlying119,
  a77 := Try.isAgg119,
  z77 := Try.sizeOf119,
  v77 := Try.zeroValue119 }
theorem cmpOk : CmpAll3 Try.prog F.ring_Ring_fill_c1 := cmp_all3 envOk rfl fn_ring_Ring_fill_c1 fillC_eq rfl
theorem sortAt : SortAt3 Try.prog 29 F.ring_Ring_fill_c1 :=
  sortAt3_of sortLays Try.isAgg63 Try.sizeOf63 (enters_of Try.func30 (by kernel_rfl) rfl) cmpOk (enters_of Try.func29 (by kernel_rfl) rfl)

theorem disable (w : World) : (callFunc 61 #[]).run Try.prog w = .ok (.value (.tuple #[])) w := run_call_mark0 Try.func61 (by kernel_rfl) (by kernel_rfl) (by kernel_rfl) .disable (by kernel_rfl) w
theorem enable (w : World) : (callFunc 63 #[]).run Try.prog w = .ok (.value (.tuple #[])) w := run_call_mark0 Try.func63 (by kernel_rfl) (by kernel_rfl) (by kernel_rfl) .enable (by kernel_rfl) w
theorem acquire (a : Addr) (w : World) : (callFunc 64 #[.pointer (some a)]).run Try.prog w = .ok (.value (.tuple #[])) w := run_call_marked Try.func64 (by kernel_rfl) (by kernel_rfl) (by kernel_rfl) .acquire (by kernel_rfl) a w
theorem releaseMerge (a : Addr) (w : World) : (callFunc 66 #[.pointer (some a)]).run Try.prog w = .ok (.value (.tuple #[])) w := run_call_marked Try.func66 (by kernel_rfl) (by kernel_rfl) (by kernel_rfl) .releaseMerge (by kernel_rfl) a w
theorem store_deferred (a : Addr) (x : Value) (u : FrameMode) (w : World) (hc : w.cell? a = some x) (hz : w.frozen? a = false) :
    CallsD Try.prog 41 #[.pointer (some a), .bool true] u w fun e u' w' => u' = u ∧ (e = .returned (.tuple #[]) ∧ w' = w.drew.setCell a (.int .u32 1)) := by
  have hc' : w.drew.cell? a = some x := by go_simp
  have hz' : w.drew.frozen? a = false := by go_simp
  have hst := run_call_store (P := Try.prog) Try.func49 (by kernel_rfl) (by kernel_rfl) (by kernel_rfl) (by kernel_rfl) (k := .u32) (y := 1) hc' hz'
  go_enter_d Try.func41, Try.ntmps41
  go_wp2
  go_region_calls
  all_goals (go_end0; exact ⟨rfl, rfl⟩)
theorem unlock_deferred (a : Addr) (u : FrameMode) (w : World) (hc : w.cell? a = some (.int .i32 1)) (hz : w.frozen? a = false) :
    CallsD Try.prog 40 #[.pointer (some a)] u w fun e u' w' => u' = u ∧ (e = .returned (.tuple #[]) ∧ w' = w.setCell a (.int .i32 0)) := by
  have hd := disable
  have he := enable
  have hr := releaseMerge
  have hadd := run_call_add (P := Try.prog) Try.func46 (by kernel_rfl) (by kernel_rfl) (by kernel_rfl) .i32 (by kernel_rfl) (y := -1) (s := 0) hc hz (by simp [go_sem]; rfl)
  have hcv := run_convert_to_unsafe (P := Try.prog) (src := 104) (dst := 107) Try.underlying104 Try.underlying107 (by kernel_rfl) hc
  go_enter_d Try.func40, Try.ntmps40
  go_wp2
  go_end0
  go_wp2
  go_end0
  exact ⟨rfl, rfl⟩
theorem lock_free (a : Addr) (w : World) (hc : w.cell? a = some (.int .i32 0)) (hz : w.frozen? a = false) :
    Calls Try.prog 39 #[.pointer (some a)] w fun e w' => e = .returned (.tuple #[]) ∧ w' = w.setCell a (.int .i32 1) := by
  have hd := disable
  have he := enable
  have ha := acquire
  have hcas := run_call_cas_hit (P := Try.prog) Try.func62 (by kernel_rfl) (by kernel_rfl) (by kernel_rfl) .i32 (by kernel_rfl) (y := 1) hc hz
  have hc' : (w.setCell a (.int .i32 1)).cell? a = some (.int .i32 1) := World.cell?_setCell_same w a _ hc
  have hcv := run_convert_to_unsafe (P := Try.prog) (src := 104) (dst := 107) Try.underlying104 Try.underlying107 (by kernel_rfl) hc'
  go_enter Try.func39, Try.ntmps39
  go_wp2
  first | go_end0 | (simp only [Exit.inBlock, Exit.then]; refine bodyPost_ret (results_none rfl _ _ _) rfl ?_) | refine bodyPost_ret (results_none rfl _ _ _) rfl ?_
  go_wp2
  go_end0
  exact ⟨rfl, rfl⟩
set_option maxHeartbeats 1600000 in
theorem slowAt : SlowAt Try.prog 27 where
  enters := enters_of Try.func27 (by kernel_rfl) rfl
  run := by
    intro b o gf us vs w Q h0 h1 f0 f1 hent hcall
    have hl := run_call_load (P := Try.prog) Try.func38 (by kernel_rfl) (by kernel_rfl) (by kernel_rfl) .u32 (by kernel_rfl) (w := w.setCell ⟨b, o + 1, none⟩ (.int .i32 1)) (a := ⟨b, o, none⟩) (x := 0) ((World.cell?_setCell_other _ ⟨b, o + 1, none⟩ ⟨b, o, none⟩ _ (by simp)).trans h0)
    have hnot : ∀ (x : Bool) (w : World), (Op.unary .not (.bool x)).run Try.prog w = .ok (.bool (!x)) w := fun _ _ => rfl
    go_enter_defers Try.func27, Try.ntmps27
    go_wp2_with (go_at_call 39; refine (lock_free ⟨b, o + 1, none⟩ _ (by go_simp) (by go_simp)).mono ?_; rintro e w' ⟨rfl, rfl⟩)
    go_wp2
    refine hcall.mono ?_
    rintro e w2 ⟨rfl, ⟨z1, z2, t1, t2⟩, hq⟩
    rename_i _ K hK
    refine hK _ _ ?_
    go_wp2
    refine leaves_cons (f := 41) (args := #[.pointer (some ⟨b, o, none⟩), .bool true]) (by simp) (by simp [go_sem]) ?_
    refine (store_deferred ⟨b, o, none⟩ (.int .u32 0) .returning _ z1 t1).mono ?_
    rintro e u' w'' ⟨rfl, rfl, rfl⟩
    refine leaves_cons (f := 40) (args := #[.pointer (some ⟨b, o + 1, none⟩)]) (by simp [settle]) (by simp [go_sem]) ?_
    refine (unlock_deferred ⟨b, o + 1, none⟩ _ _ ?_ (by simpa using t2)).mono ?_
    · refine (World.cell?_setCell_other _ ⟨b, o, none⟩ ⟨b, o + 1, none⟩ _ (by simp)).trans ?_
      rw [World.cell?_drew]
      exact z2
    rintro e u' w'' ⟨rfl, rfl, rfl⟩
    simp [Leaves, settle, results, Try.results27]
    exact hq
end Go.Proofs.Ytkkionmmkmhlpaa.V0
