/- 'slices.SortFunc' by the kit's contract, laid at this program; 'sibs.sorted' turns a list as 'sortV' says. -/
import Derived.Test.YthkfjefoblmbhaaVmSK
import Derived.KernelRfl
import Derived.WalkKit
set_option linter.unusedVariables false
set_option linter.unusedSimpArgs false
namespace Go.Proofs.Ythkfjefoblmbhaa.V0
open Go.Vm Go.RowKit
set_option maxRecDepth 100000
def sortLays_ren : Go.Shelf.Ren := ⟨fun | 6 => 70 | 15 => 76 | 14 => 75 | 28 => 87 | 29 => 88 | 20 => 79 | 21 => 80 | 22 => 81 | 23 => 82 | 24 => 83 | 25 => 84 | 26 => 85 | 27 => 86 | 46 => 89 | 47 => 90 | 48 => 91 | 49 => 92 | 50 => 93 | 57 => 94 | n => n, fun | 22 => 31 | 24 => 81 | 25 => 104 | 3 => 3 | 39 => 99 | 0 => 0 | 53 => 118 | 55 => 24 | 4 => 4 | 46 => 112 | 45 => 111 | 50 => 65 | 5 => 5 | 9 => 9 | 66 => 120 | 70 => 124 | 76 => 126 | 77 => 127 | n => n, fun | n => n⟩
theorem sortLays : Go.Proofs.SlLaysF0.n6 Try.prog sortLays_ren := {
  mixed := by kernel_rfl,
  f6 := ⟨Try.f70.name, by kernel_rfl, Try.func70.trans (congrArg some (by kernel_rfl))⟩,
  f14 := ⟨Try.f75.name, by kernel_rfl, Try.func75.trans (congrArg some (by kernel_rfl))⟩,
  f15 := Try.func76.trans (congrArg some (by kernel_rfl)),
  f20 := ⟨Try.f79.name, by kernel_rfl, Try.func79.trans (congrArg some (by kernel_rfl))⟩,
  f21 := ⟨Try.f80.name, by kernel_rfl, Try.func80.trans (congrArg some (by kernel_rfl))⟩,
  f22 := ⟨Try.f81.name, by kernel_rfl, Try.func81.trans (congrArg some (by kernel_rfl))⟩,
  f23 := ⟨Try.f82.name, by kernel_rfl, Try.func82.trans (congrArg some (by kernel_rfl))⟩,
  f24 := ⟨Try.f83.name, by kernel_rfl, Try.func83.trans (congrArg some (by kernel_rfl))⟩,
  f25 := ⟨Try.f84.name, by kernel_rfl, Try.func84.trans (congrArg some (by kernel_rfl))⟩,
  f26 := ⟨Try.f85.name, by kernel_rfl, Try.func85.trans (congrArg some (by kernel_rfl))⟩,
  f27 := ⟨Try.f86.name, by kernel_rfl, Try.func86.trans (congrArg some (by kernel_rfl))⟩,
  f28 := Try.func87.trans (congrArg some (by kernel_rfl)),
  f29 := Try.func88.trans (congrArg some (by kernel_rfl)),
  f46 := ⟨Try.f89.name, by kernel_rfl, Try.func89.trans (congrArg some (by kernel_rfl))⟩,
  f47 := Try.func90.trans (congrArg some (by kernel_rfl)),
  f48 := Try.func91.trans (congrArg some (by kernel_rfl)),
  f49 := ⟨Try.f92.name, by kernel_rfl, Try.func92.trans (congrArg some (by kernel_rfl))⟩,
  f50 := ⟨Try.f93.name, by kernel_rfl, Try.func93.trans (congrArg some (by kernel_rfl))⟩,
  f57 := ⟨Try.f94.name, by kernel_rfl, Try.func94.trans (congrArg some (by kernel_rfl))⟩,
  t0 := Try.underlying0,
  a0 := Try.isAgg0,
  z0 := Try.sizeOf0,
  v0 := Try.zeroValue0,
  t3 := Try.underlying3,
  a3 := Try.isAgg3,
  z3 := Try.sizeOf3,
  v3 := Try.zeroValue3,
  t4 := Try.underlying4,
  a4 := Try.isAgg4,
  z4 := Try.sizeOf4,
  v4 := Try.zeroValue4,
  t5 := Try.underlying5,
  a5 := Try.isAgg5,
  z5 := Try.sizeOf5,
  v5 := Try.zeroValue5,
  t9 := Try.underlying9,
  a9 := Try.isAgg9,
  z9 := Try.sizeOf9,
  v9 := Try.zeroValue9,
  t22 := Try.underlying31,
  a22 := Try.isAgg31,
  z22 := Try.sizeOf31,
  v22 := Try.zeroValue31,
  t25 := Try.underlying104,
  a25 := Try.isAgg104,
  z25 := Try.sizeOf104,
  v25 := Try.zeroValue104,
  t39 := Try.underlying99,
  a39 := Try.isAgg99,
  z39 := Try.sizeOf99,
  v39 := Try.zeroValue99,
  t45 := Try.underlying111,
  a45 := Try.isAgg111,
  z45 := Try.sizeOf111,
  v45 := Try.zeroValue111,
  t46 := Try.underlying112,
  a46 := Try.isAgg112,
  z46 := Try.sizeOf112,
  v46 := Try.zeroValue112,
  t50 := Try.underlying65,
  a50 := Try.isAgg65,
  z50 := Try.sizeOf65,
  v50 := Try.zeroValue65,
  t53 := Try.underlying118,
  a53 := Try.isAgg118,
  z53 := Try.sizeOf118,
  v53 := Try.zeroValue118,
  t55 := Try.underlying24,
  a55 := Try.isAgg24,
  z55 := Try.sizeOf24,
  v55 := Try.zeroValue24,
  t66 := Try.underlying120,
  a66 := Try.isAgg120,
  z66 := Try.sizeOf120,
  v66 := Try.zeroValue120,
  t70 := Try.underlying124,
  a70 := Try.isAgg124,
  z70 := Try.sizeOf124,
  v70 := Try.zeroValue124,
  t76 := Try.underlying126,
  a76 := Try.isAgg126,
  z76 := Try.sizeOf126,
  v76 := Try.zeroValue126,
  t77 := Try.underlying127,
  a77 := Try.isAgg127,
  z77 := Try.sizeOf127,
  v77 := Try.zeroValue127 }
theorem cmpOk : CmpAll Try.prog F.sibs_sorted_c1 := cmp_all envOk rfl fn_sibs_sorted_c1 sortedC_eq rfl
theorem sorted_con {xs ys : List V} (hF : sortV xs [] = some ys) {h : Heap} {g : Gh} {w : World} {u : Value} (hp : Pre h g w) (hl : LinR w g.imm 4 u) (hc : LinC g.imm w 4 xs u) :
    Calls Try.prog 70 #[u, .func (.func 71) #[] #[]] w fun e w' => e = .returned (.tuple #[]) ∧ LinPost g w u 4 ys u w' g.imm :=
  sort_post sortLays Try.isAgg81 Try.sizeOf81 (enters_of Try.func71 (by kernel_rfl) rfl) cmpOk hF hp hl hc
set_option maxHeartbeats 1000000 in
theorem sorted_walk {u : Value} {w : World} {Q : World → Prop} (hcon : Calls Try.prog 70 #[u, .func (.func 71) #[] #[]] w fun e w' => e = .returned (.tuple #[]) ∧ Q w') :
    Calls Try.prog 46 #[u] w fun e w' => e = .returned u ∧ Q w' := by
  go_enter Try.func46, Try.ntmps46
  go_wp2_with (go_at_call 70; refine hcon.mono ?_; rintro e w' ⟨rfl, post⟩)
  go_ret
  exact ⟨rfl, post⟩
theorem sorted_lin : LinOk Try.prog 46 4 sortV := by
  intro xs args ys hF h g w u uargs hp hl hc ha
  cases args with
  | cons x l => cases hF
  | nil =>
    have hu : uargs = #[] := by
      obtain ⟨us⟩ := uargs
      cases ha
      rfl
    subst hu
    refine .inl ⟨callFunc_enter (fn := Try.f46) Try.func46 rfl (by kernel_rfl) _ _, ?_⟩
    exact (sorted_walk (sorted_con hF hp hl hc)).mono fun e w' ⟨he, hq⟩ => ⟨u, he, g.imm, hq⟩
end Go.Proofs.Ythkfjefoblmbhaa.V0
