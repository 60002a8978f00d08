/- 'slices.SortFunc' by the kit's contract, laid at this program; 'sibs.sorted' turns a list as 'sortV' says. -/
import Derived.Test.YtklmddbnjookiaaVmSK
import Derived.KernelRfl
import Derived.WalkKit
set_option linter.unusedVariables false
set_option linter.unusedSimpArgs false
namespace Go.Proofs.Ytklmddbnjookiaa.V0
open Go.Vm Go.RowKit
set_option maxRecDepth 100000
def sortLays_ren : Go.Shelf.Ren := ⟨fun | 6 => 65 | 15 => 69 | 14 => 74 | 28 => 84 | 29 => 85 | 20 => 88 | 21 => 89 | 22 => 90 | 23 => 91 | 24 => 92 | 25 => 93 | 26 => 94 | 27 => 95 | 46 => 101 | 47 => 97 | 48 => 98 | 49 => 102 | 50 => 103 | 57 => 105 | n => n, fun | 22 => 30 | 24 => 80 | 25 => 110 | 3 => 3 | 39 => 114 | 0 => 0 | 53 => 129 | 55 => 24 | 4 => 4 | 46 => 121 | 45 => 120 | 50 => 126 | 5 => 5 | 9 => 9 | 66 => 136 | 70 => 140 | 76 => 144 | 77 => 145 | n => n, fun | n => n⟩
theorem sortLays : Go.Proofs.SlLaysF0.n6 Try.prog sortLays_ren := {
  mixed := by kernel_rfl,
  f6 := ⟨Try.f65.name, by kernel_rfl, Try.func65.trans (congrArg some (by kernel_rfl))⟩,
  f14 := ⟨Try.f74.name, by kernel_rfl, Try.func74.trans (congrArg some (by kernel_rfl))⟩,
  f15 := Try.func69.trans (congrArg some (by kernel_rfl)),
  f20 := ⟨Try.f88.name, by kernel_rfl, Try.func88.trans (congrArg some (by kernel_rfl))⟩,
  f21 := ⟨Try.f89.name, by kernel_rfl, Try.func89.trans (congrArg some (by kernel_rfl))⟩,
  f22 := ⟨Try.f90.name, by kernel_rfl, Try.func90.trans (congrArg some (by kernel_rfl))⟩,
  f23 := ⟨Try.f91.name, by kernel_rfl, Try.func91.trans (congrArg some (by kernel_rfl))⟩,
  f24 := ⟨Try.f92.name, by kernel_rfl, Try.func92.trans (congrArg some (by kernel_rfl))⟩,
  f25 := ⟨Try.f93.name, by kernel_rfl, Try.func93.trans (congrArg some (by kernel_rfl))⟩,
  f26 := ⟨Try.f94.name, by kernel_rfl, Try.func94.trans (congrArg some (by kernel_rfl))⟩,
  f27 := ⟨Try.f95.name, by kernel_rfl, Try.func95.trans (congrArg some (by kernel_rfl))⟩,
  f28 := Try.func84.trans (congrArg some (by kernel_rfl)),
  f29 := Try.func85.trans (congrArg some (by kernel_rfl)),
  f46 := ⟨Try.f101.name, by kernel_rfl, Try.func101.trans (congrArg some (by kernel_rfl))⟩,
  f47 := Try.func97.trans (congrArg some (by kernel_rfl)),
  f48 := Try.func98.trans (congrArg some (by kernel_rfl)),
  f49 := ⟨Try.f102.name, by kernel_rfl, Try.func102.trans (congrArg some (by kernel_rfl))⟩,
  f50 := ⟨Try.f103.name, by kernel_rfl, Try.func103.trans (congrArg some (by kernel_rfl))⟩,
  f57 := ⟨Try.f105.name, by kernel_rfl, Try.func105.trans (congrArg some (by kernel_rfl))⟩,
  t0 := Try.underlying0,
  a0 := Try.isAgg0,
  z0 := Try.sizeOf0,
  v0 := Try.zeroValue0,
  t3 := Try.underlying3,
  a3 := Try.isAgg3,
  z3 := Try.sizeOf3,
  v3 := Try.zeroValue3,
  t4 := Try.underlying4,
  a4 := Try.isAgg4,
  z4 := Try.sizeOf4,
  v4 := Try.zeroValue4,
  t5 := Try.underlying5,
  a5 := Try.isAgg5,
  z5 := Try.sizeOf5,
  v5 := Try.zeroValue5,
  t9 := Try.underlying9,
  a9 := Try.isAgg9,
  z9 := Try.sizeOf9,
  v9 := Try.zeroValue9,
  t22 := Try.underlying30,
  a22 := Try.isAgg30,
  z22 := Try.sizeOf30,
  v22 := Try.zeroValue30,
  t25 := Try.underlying110,
  a25 := Try.isAgg110,
  z25 := Try.sizeOf110,
  v25 := Try.zeroValue110,
  t39 := Try.underlying114,
  a39 := Try.isAgg114,
  z39 := Try.sizeOf114,
  v39 := Try.zeroValue114,
  t45 := Try.underlying120,
  a45 := Try.isAgg120,
  z45 := Try.sizeOf120,
  v45 := Try.zeroValue120,
  t46 := Try.underlying121,
  a46 := Try.isAgg121,
  z46 := Try.sizeOf121,
  v46 := Try.zeroValue121,
  t50 := Try.underlying126,
  a50 := Try.isAgg126,
  z50 := Try.sizeOf126,
  v50 := Try.zeroValue126,
  t53 := Try.underlying129,
  a53 := Try.isAgg129,
  z53 := Try.sizeOf129,
  v53 := Try.zeroValue129,
  t55 := Try.underlying24,
  a55 := Try.isAgg24,
  z55 := Try.sizeOf24,
  v55 := Try.zeroValue24,
  t66 := Try.underlying136,
  a66 := Try.isAgg136,
  z66 := Try.sizeOf136,
  v66 := Try.zeroValue136,
  t70 := Try.underlying140,
  a70 := Try.isAgg140,
  z70 := Try.sizeOf140,
  v70 := Try.zeroValue140,
  t76 := Try.underlying144,
  a76 := Try.isAgg144,
  z76 := Try.sizeOf144,
  v76 := Try.zeroValue144,
  t77 := Try.underlying145,
  a77 := Try.isAgg145,
  z77 := Try.sizeOf145,
  v77 := Try.zeroValue145 }
theorem cmpOk : CmpAll Try.prog F.sibs_sorted_c1 := cmp_all envOk rfl fn_sibs_sorted_c1 sortedC_eq rfl
theorem sorted_con {xs ys : List V} (hF : sortV xs [] = some ys) {h : Heap} {g : Gh} {w : World} {u : Value} (hp : Pre h g w) (hl : LinR w g.imm 4 u) (hc : LinC g.imm w 4 xs u) :
    Calls Try.prog 65 #[u, .func (.func 66) #[] #[]] w fun e w' => e = .returned (.tuple #[]) ∧ LinPost g w u 4 ys u w' g.imm :=
  sort_post sortLays Try.isAgg80 Try.sizeOf80 (enters_of Try.func66 (by kernel_rfl) rfl) cmpOk hF hp hl hc
set_option maxHeartbeats 1000000 in
theorem sorted_walk {u : Value} {w : World} {Q : World → Prop} (hcon : Calls Try.prog 65 #[u, .func (.func 66) #[] #[]] w fun e w' => e = .returned (.tuple #[]) ∧ Q w') :
    Calls Try.prog 51 #[u] w fun e w' => e = .returned u ∧ Q w' := by
  go_enter Try.func51, Try.ntmps51
  go_wp2_with (go_at_call 65; refine hcon.mono ?_; rintro e w' ⟨rfl, post⟩)
  go_ret
  exact ⟨rfl, post⟩
theorem sorted_lin : LinOk Try.prog 51 4 sortV := by
  intro xs args ys hF h g w u uargs hp hl hc ha
  cases args with
  | cons x l => cases hF
  | nil =>
    have hu : uargs = #[] := by
      obtain ⟨us⟩ := uargs
      cases ha
      rfl
    subst hu
    refine .inl ⟨callFunc_enter (fn := Try.f51) Try.func51 rfl (by kernel_rfl) _ _, ?_⟩
    exact (sorted_walk (sorted_con hF hp hl hc)).mono fun e w' ⟨he, hq⟩ => ⟨u, he, g.imm, hq⟩
end Go.Proofs.Ytklmddbnjookiaa.V0
