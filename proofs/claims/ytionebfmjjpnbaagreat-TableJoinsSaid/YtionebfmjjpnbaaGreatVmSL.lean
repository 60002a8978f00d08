/- 'slices.SortFunc' by the kit's contract, laid at this program; 'sibs.sorted' turns a list as 'sortV' says. -/
import Derived.Test.YtionebfmjjpnbaaGreatVmSK
import Derived.KernelRfl
import Derived.WalkKit
set_option linter.unusedVariables false
set_option linter.unusedSimpArgs false
namespace Go.Proofs.YtionebfmjjpnbaaGreat.V0
open Go.Vm Go.RowKit
set_option maxRecDepth 100000
def sortLays_ren : Go.Shelf.Ren := ⟨fun | 6 => 63 | 15 => 73 | 14 => 78 | 28 => 89 | 29 => 90 | 20 => 93 | 21 => 94 | 22 => 95 | 23 => 96 | 24 => 97 | 25 => 98 | 26 => 99 | 27 => 100 | 46 => 107 | 47 => 102 | 48 => 103 | 49 => 108 | 50 => 109 | 57 => 111 | n => n, fun | 22 => 33 | 24 => 54 | 25 => 90 | 3 => 3 | 39 => 97 | 0 => 0 | 53 => 113 | 55 => 115 | 4 => 4 | 46 => 105 | 45 => 104 | 50 => 110 | 5 => 5 | 9 => 9 | 66 => 123 | 70 => 127 | 76 => 131 | 77 => 132 | n => n, fun | n => n⟩
theorem sortLays : Go.Proofs.SlLaysF0.n6 Tryz.prog sortLays_ren := {
  mixed := by kernel_rfl,
  f6 := ⟨Tryz.f63.name, by kernel_rfl, Tryz.func63.trans (congrArg some (by kernel_rfl))⟩,
  f14 := ⟨Tryz.f78.name, by kernel_rfl, Tryz.func78.trans (congrArg some (by kernel_rfl))⟩,
  f15 := Tryz.func73.trans (congrArg some (by kernel_rfl)),
  f20 := ⟨Tryz.f93.name, by kernel_rfl, Tryz.func93.trans (congrArg some (by kernel_rfl))⟩,
  f21 := ⟨Tryz.f94.name, by kernel_rfl, Tryz.func94.trans (congrArg some (by kernel_rfl))⟩,
  f22 := ⟨Tryz.f95.name, by kernel_rfl, Tryz.func95.trans (congrArg some (by kernel_rfl))⟩,
  f23 := ⟨Tryz.f96.name, by kernel_rfl, Tryz.func96.trans (congrArg some (by kernel_rfl))⟩,
  f24 := ⟨Tryz.f97.name, by kernel_rfl, Tryz.func97.trans (congrArg some (by kernel_rfl))⟩,
  f25 := ⟨Tryz.f98.name, by kernel_rfl, Tryz.func98.trans (congrArg some (by kernel_rfl))⟩,
  f26 := ⟨Tryz.f99.name, by kernel_rfl, Tryz.func99.trans (congrArg some (by kernel_rfl))⟩,
  f27 := ⟨Tryz.f100.name, by kernel_rfl, Tryz.func100.trans (congrArg some (by kernel_rfl))⟩,
  f28 := Tryz.func89.trans (congrArg some (by kernel_rfl)),
  f29 := Tryz.func90.trans (congrArg some (by kernel_rfl)),
  f46 := ⟨Tryz.f107.name, by kernel_rfl, Tryz.func107.trans (congrArg some (by kernel_rfl))⟩,
  f47 := Tryz.func102.trans (congrArg some (by kernel_rfl)),
  f48 := Tryz.func103.trans (congrArg some (by kernel_rfl)),
  f49 := ⟨Tryz.f108.name, by kernel_rfl, Tryz.func108.trans (congrArg some (by kernel_rfl))⟩,
  f50 := ⟨Tryz.f109.name, by kernel_rfl, Tryz.func109.trans (congrArg some (by kernel_rfl))⟩,
  f57 := ⟨Tryz.f111.name, by kernel_rfl, Tryz.func111.trans (congrArg some (by kernel_rfl))⟩,
  t0 := Tryz.underlying0,
  a0 := Tryz.isAgg0,
  z0 := Tryz.sizeOf0,
  v0 := Tryz.zeroValue0,
  t3 := Tryz.underlying3,
  a3 := Tryz.isAgg3,
  z3 := Tryz.sizeOf3,
  v3 := Tryz.zeroValue3,
  t4 := Tryz.underlying4,
  a4 := Tryz.isAgg4,
  z4 := Tryz.sizeOf4,
  v4 := Tryz.zeroValue4,
  t5 := Tryz.underlying5,
  a5 := Tryz.isAgg5,
  z5 := Tryz.sizeOf5,
  v5 := Tryz.zeroValue5,
  t9 := Tryz.underlying9,
  a9 := Tryz.isAgg9,
  z9 := Tryz.sizeOf9,
  v9 := Tryz.zeroValue9,
  t22 := Tryz.underlying33,
  a22 := Tryz.isAgg33,
  z22 := Tryz.sizeOf33,
  v22 := Tryz.zeroValue33,
  t25 := Tryz.underlying90,
  a25 := Tryz.isAgg90,
  z25 := Tryz.sizeOf90,
  v25 := Tryz.zeroValue90,
  t39 := Tryz.underlying97,
  a39 := Tryz.isAgg97,
  z39 := Tryz.sizeOf97,
  v39 := Tryz.zeroValue97,
  t45 := Tryz.underlying104,
  a45 := Tryz.isAgg104,
  z45 := Tryz.sizeOf104,
  v45 := Tryz.zeroValue104,
  t46 := Tryz.underlying105,
  a46 := Tryz.isAgg105,
  z46 := Tryz.sizeOf105,
  v46 := Tryz.zeroValue105,
  t50 := Tryz.underlying110,
  a50 := Tryz.isAgg110,
  z50 := Tryz.sizeOf110,
  v50 := Tryz.zeroValue110,
  t53 := Tryz.underlying113,
  a53 := Tryz.isAgg113,
  z53 := Tryz.sizeOf113,
  v53 := Tryz.zeroValue113,
  t55 := Tryz.underlying115,
  a55 := Tryz.isAgg115,
  z55 := Tryz.sizeOf115,
  v55 := Tryz.zeroValue115,
  t66 := Tryz.underlying123,
  a66 := Tryz.isAgg123,
  z66 := Tryz.sizeOf123,
  v66 := Tryz.zeroValue123,
  t70 := Tryz.underlying127,
  a70 := Tryz.isAgg127,
  z70 := Tryz.sizeOf127,
  v70 := Tryz.zeroValue127,
  t76 := Tryz.underlying131,
  a76 := Tryz.isAgg131,
  z76 := Tryz.sizeOf131,
  v76 := Tryz.zeroValue131,
  t77 := Tryz.underlying132,
  a77 := Tryz.isAgg132,
  z77 := Tryz.sizeOf132,
  v77 := Tryz.zeroValue132 }
theorem cmpOk : CmpAll Tryz.prog F.sibs_sorted_c1 := cmp_all envOk rfl fn_sibs_sorted_c1 sortedC_eq rfl
theorem sorted_con {xs ys : List V} (hF : sortV xs [] = some ys) {h : Heap} {g : Gh} {w : World} {u : Value} (hp : Pre h g w) (hl : LinR w g.imm 4 u) (hc : LinC g.imm w 4 xs u) :
    Calls Tryz.prog 63 #[u, .func (.func 64) #[] #[]] w fun e w' => e = .returned (.tuple #[]) ∧ LinPost g w u 4 ys u w' g.imm :=
  sort_post sortLays Tryz.isAgg54 Tryz.sizeOf54 (enters_of Tryz.func64 (by kernel_rfl) rfl) cmpOk hF hp hl hc
set_option maxHeartbeats 1000000 in
theorem sorted_walk {u : Value} {w : World} {Q : World → Prop} (hcon : Calls Tryz.prog 63 #[u, .func (.func 64) #[] #[]] w fun e w' => e = .returned (.tuple #[]) ∧ Q w') :
    Calls Tryz.prog 38 #[u] w fun e w' => e = .returned u ∧ Q w' := by
  go_enter Tryz.func38, Tryz.ntmps38
  go_wp2_with (go_at_call 63; refine hcon.mono ?_; rintro e w' ⟨rfl, post⟩)
  go_ret
  exact ⟨rfl, post⟩
theorem sorted_lin : LinOk Tryz.prog 38 4 sortV := by
  intro xs args ys hF h g w u uargs hp hl hc ha
  cases args with
  | cons x l => cases hF
  | nil =>
    have hu : uargs = #[] := by
      obtain ⟨us⟩ := uargs
      cases ha
      rfl
    subst hu
    refine .inl ⟨callFunc_enter (fn := Tryz.f38) Tryz.func38 rfl (by kernel_rfl) _ _, ?_⟩
    exact (sorted_walk (sorted_con hF hp hl hc)).mono fun e w' ⟨he, hq⟩ => ⟨u, he, g.imm, hq⟩
end Go.Proofs.YtionebfmjjpnbaaGreat.V0
