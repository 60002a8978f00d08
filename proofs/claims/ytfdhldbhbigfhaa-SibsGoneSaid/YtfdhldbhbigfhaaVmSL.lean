/- 'slices.SortFunc' by the kit's contract, laid at this program; 'sibs.sorted' turns a list as 'sortV' says. -/
import Derived.Test.YtfdhldbhbigfhaaVmSK
import Derived.KernelRfl
import Derived.WalkKit
set_option linter.unusedVariables false
set_option linter.unusedSimpArgs false
namespace Go.Proofs.Ytfdhldbhbigfhaa.V0
open Go.Vm Go.RowKit
set_option maxRecDepth 100000
def sortLays_ren : Go.Shelf.Ren := ⟨fun | 6 => 80 | 15 => 102 | 14 => 101 | 28 => 116 | 29 => 117 | 20 => 108 | 21 => 109 | 22 => 110 | 23 => 111 | 24 => 112 | 25 => 113 | 26 => 114 | 27 => 115 | 46 => 118 | 47 => 119 | 48 => 120 | 49 => 121 | 50 => 122 | 57 => 123 | n => n, fun | 22 => 24 | 24 => 44 | 25 => 106 | 3 => 3 | 39 => 125 | 0 => 0 | 53 => 140 | 55 => 36 | 4 => 4 | 46 => 133 | 45 => 132 | 50 => 137 | 5 => 5 | 9 => 9 | 66 => 142 | 70 => 145 | 76 => 147 | 77 => 148 | n => n, fun | n => n⟩
theorem sortLays : Go.Proofs.SlLaysF0.n6 Try.prog sortLays_ren := {
  mixed := by kernel_rfl,
  f6 := ⟨Try.f80.name, by kernel_rfl, Try.func80.trans (congrArg some (by kernel_rfl))⟩,
  f14 := ⟨Try.f101.name, by kernel_rfl, Try.func101.trans (congrArg some (by kernel_rfl))⟩,
  f15 := Try.func102.trans (congrArg some (by kernel_rfl)),
  f20 := ⟨Try.f108.name, by kernel_rfl, Try.func108.trans (congrArg some (by kernel_rfl))⟩,
  f21 := ⟨Try.f109.name, by kernel_rfl, Try.func109.trans (congrArg some (by kernel_rfl))⟩,
  f22 := ⟨Try.f110.name, by kernel_rfl, Try.func110.trans (congrArg some (by kernel_rfl))⟩,
  f23 := ⟨Try.f111.name, by kernel_rfl, Try.func111.trans (congrArg some (by kernel_rfl))⟩,
  f24 := ⟨Try.f112.name, by kernel_rfl, Try.func112.trans (congrArg some (by kernel_rfl))⟩,
  f25 := ⟨Try.f113.name, by kernel_rfl, Try.func113.trans (congrArg some (by kernel_rfl))⟩,
  f26 := ⟨Try.f114.name, by kernel_rfl, Try.func114.trans (congrArg some (by kernel_rfl))⟩,
  f27 := ⟨Try.f115.name, by kernel_rfl, Try.func115.trans (congrArg some (by kernel_rfl))⟩,
  f28 := Try.func116.trans (congrArg some (by kernel_rfl)),
  f29 := Try.func117.trans (congrArg some (by kernel_rfl)),
  f46 := ⟨Try.f118.name, by kernel_rfl, Try.func118.trans (congrArg some (by kernel_rfl))⟩,
  f47 := Try.func119.trans (congrArg some (by kernel_rfl)),
  f48 := Try.func120.trans (congrArg some (by kernel_rfl)),
  f49 := ⟨Try.f121.name, by kernel_rfl, Try.func121.trans (congrArg some (by kernel_rfl))⟩,
  f50 := ⟨Try.f122.name, by kernel_rfl, Try.func122.trans (congrArg some (by kernel_rfl))⟩,
  f57 := ⟨Try.f123.name, by kernel_rfl, Try.func123.trans (congrArg some (by kernel_rfl))⟩,
  t0 := Try.underlying0,
  a0 := Try.isAgg0,
  z0 := Try.sizeOf0,
  v0 := Try.zeroValue0,
  t3 := Try.underlying3,
  a3 := Try.isAgg3,
  z3 := Try.sizeOf3,
  v3 := Try.zeroValue3,
  t4 := Try.underlying4,
  a4 := Try.isAgg4,
  z4 := Try.sizeOf4,
  v4 := Try.zeroValue4,
  t5 := Try.underlying5,
  a5 := Try.isAgg5,
  z5 := Try.sizeOf5,
  v5 := Try.zeroValue5,
  t9 := Try.underlying9,
  a9 := Try.isAgg9,
  z9 := Try.sizeOf9,
  v9 := Try.zeroValue9,
  t22 := Try.underlying24,
  a22 := Try.isAgg24,
  z22 := Try.sizeOf24,
  v22 := Try.zeroValue24,
  t25 := Try.underlying106,
  a25 := Try.isAgg106,
  z25 := Try.sizeOf106,
  v25 := Try.zeroValue106,
  t39 := Try.underlying125,
  a39 := Try.isAgg125,
  z39 := Try.sizeOf125,
  v39 := Try.zeroValue125,
  t45 := Try.underlying132,
  a45 := Try.isAgg132,
  z45 := Try.sizeOf132,
  v45 := Try.zeroValue132,
  t46 := Try.underlying133,
  a46 := Try.isAgg133,
  z46 := Try.sizeOf133,
  v46 := Try.zeroValue133,
  t50 := Try.underlying137,
  a50 := Try.isAgg137,
  z50 := Try.sizeOf137,
  v50 := Try.zeroValue137,
  t53 := Try.underlying140,
  a53 := Try.isAgg140,
  z53 := Try.sizeOf140,
  v53 := Try.zeroValue140,
  t55 := Try.underlying36,
  a55 := Try.isAgg36,
  z55 := Try.sizeOf36,
  v55 := Try.zeroValue36,
  t66 := Try.underlying142,
  a66 := Try.isAgg142,
  z66 := Try.sizeOf142,
  v66 := Try.zeroValue142,
  t70 := Try.underlying145,
  a70 := Try.isAgg145,
  z70 := Try.sizeOf145,
  v70 := Try.zeroValue145,
  t76 := Try.underlying147,
  a76 := Try.isAgg147,
  z76 := Try.sizeOf147,
  v76 := Try.zeroValue147,
  t77 := Try.underlying148,
  a77 := Try.isAgg148,
  z77 := Try.sizeOf148,
  v77 := Try.zeroValue148 }
theorem cmpOk : CmpAll Try.prog F.sibs_sorted_c1 := cmp_all envOk rfl fn_sibs_sorted_c1 sortedC_eq rfl
theorem sorted_con {xs ys : List V} (hF : sortV xs [] = some ys) {h : Heap} {g : Gh} {w : World} {u : Value} (hp : Pre h g w) (hl : LinR w g.imm 4 u) (hc : LinC g.imm w 4 xs u) :
    Calls Try.prog 80 #[u, .func (.func 81) #[] #[]] w fun e w' => e = .returned (.tuple #[]) ∧ LinPost g w u 4 ys u w' g.imm :=
  sort_post sortLays Try.isAgg44 Try.sizeOf44 (enters_of Try.func81 (by kernel_rfl) rfl) cmpOk hF hp hl hc
set_option maxHeartbeats 1000000 in
theorem sorted_walk {u : Value} {w : World} {Q : World → Prop} (hcon : Calls Try.prog 80 #[u, .func (.func 81) #[] #[]] w fun e w' => e = .returned (.tuple #[]) ∧ Q w') :
    Calls Try.prog 53 #[u] w fun e w' => e = .returned u ∧ Q w' := by
  go_enter Try.func53, Try.ntmps53
  go_wp2_with (go_at_call 80; refine hcon.mono ?_; rintro e w' ⟨rfl, post⟩)
  go_ret
  exact ⟨rfl, post⟩
theorem sorted_lin : LinOk Try.prog 53 4 sortV := by
  intro xs args ys hF h g w u uargs hp hl hc ha
  cases args with
  | cons x l => cases hF
  | nil =>
    have hu : uargs = #[] := by
      obtain ⟨us⟩ := uargs
      cases ha
      rfl
    subst hu
    refine .inl ⟨callFunc_enter (fn := Try.f53) Try.func53 rfl (by kernel_rfl) _ _, ?_⟩
    exact (sorted_walk (sorted_con hF hp hl hc)).mono fun e w' ⟨he, hq⟩ => ⟨u, he, g.imm, hq⟩
end Go.Proofs.Ytfdhldbhbigfhaa.V0
