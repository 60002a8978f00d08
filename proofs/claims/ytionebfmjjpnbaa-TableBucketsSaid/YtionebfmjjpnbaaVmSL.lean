/- 'slices.SortFunc' by the kit's contract, laid at this program; 'sibs.sorted' turns a list as 'sortV' says. -/
import Derived.Test.YtionebfmjjpnbaaVmSK
import Derived.KernelRfl
import Derived.WalkKit
set_option linter.unusedVariables false
set_option linter.unusedSimpArgs false
namespace Go.Proofs.Ytionebfmjjpnbaa.V0
open Go.Vm Go.RowKit
set_option maxRecDepth 100000
def sortLays_ren : Go.Shelf.Ren := ⟨fun | 6 => 62 | 15 => 70 | 14 => 72 | 28 => 84 | 29 => 85 | 20 => 86 | 21 => 87 | 22 => 88 | 23 => 89 | 24 => 90 | 25 => 91 | 26 => 92 | 27 => 93 | 46 => 100 | 47 => 95 | 48 => 96 | 49 => 101 | 50 => 102 | 57 => 104 | n => n, fun | 22 => 27 | 24 => 64 | 25 => 93 | 3 => 3 | 39 => 101 | 0 => 0 | 53 => 115 | 55 => 24 | 4 => 4 | 46 => 107 | 45 => 106 | 50 => 112 | 5 => 5 | 9 => 9 | 66 => 122 | 70 => 126 | 76 => 130 | 77 => 131 | n => n, fun | n => n⟩
theorem sortLays : Go.Proofs.SlLaysF0.n6 Try.prog sortLays_ren := {
  mixed := by kernel_rfl,
  f6 := ⟨Try.f62.name, by kernel_rfl, Try.func62.trans (congrArg some (by kernel_rfl))⟩,
  f14 := ⟨Try.f72.name, by kernel_rfl, Try.func72.trans (congrArg some (by kernel_rfl))⟩,
  f15 := Try.func70.trans (congrArg some (by kernel_rfl)),
  f20 := ⟨Try.f86.name, by kernel_rfl, Try.func86.trans (congrArg some (by kernel_rfl))⟩,
  f21 := ⟨Try.f87.name, by kernel_rfl, Try.func87.trans (congrArg some (by kernel_rfl))⟩,
  f22 := ⟨Try.f88.name, by kernel_rfl, Try.func88.trans (congrArg some (by kernel_rfl))⟩,
  f23 := ⟨Try.f89.name, by kernel_rfl, Try.func89.trans (congrArg some (by kernel_rfl))⟩,
  f24 := ⟨Try.f90.name, by kernel_rfl, Try.func90.trans (congrArg some (by kernel_rfl))⟩,
  f25 := ⟨Try.f91.name, by kernel_rfl, Try.func91.trans (congrArg some (by kernel_rfl))⟩,
  f26 := ⟨Try.f92.name, by kernel_rfl, Try.func92.trans (congrArg some (by kernel_rfl))⟩,
  f27 := ⟨Try.f93.name, by kernel_rfl, Try.func93.trans (congrArg some (by kernel_rfl))⟩,
  f28 := Try.func84.trans (congrArg some (by kernel_rfl)),
  f29 := Try.func85.trans (congrArg some (by kernel_rfl)),
  f46 := ⟨Try.f100.name, by kernel_rfl, Try.func100.trans (congrArg some (by kernel_rfl))⟩,
  f47 := Try.func95.trans (congrArg some (by kernel_rfl)),
  f48 := Try.func96.trans (congrArg some (by kernel_rfl)),
  f49 := ⟨Try.f101.name, by kernel_rfl, Try.func101.trans (congrArg some (by kernel_rfl))⟩,
  f50 := ⟨Try.f102.name, by kernel_rfl, Try.func102.trans (congrArg some (by kernel_rfl))⟩,
  f57 := ⟨Try.f104.name, by kernel_rfl, Try.func104.trans (congrArg some (by kernel_rfl))⟩,
  t0 := Try.underlying0,
  a0 := Try.isAgg0,
  z0 := Try.sizeOf0,
  v0 := Try.zeroValue0,
  t3 := Try.underlying3,
  a3 := Try.isAgg3,
  z3 := Try.sizeOf3,
  v3 := Try.zeroValue3,
  t4 := Try.underlying4,
  a4 := Try.isAgg4,
  z4 := Try.sizeOf4,
  v4 := Try.zeroValue4,
  t5 := Try.underlying5,
  a5 := Try.isAgg5,
  z5 := Try.sizeOf5,
  v5 := Try.zeroValue5,
  t9 := Try.underlying9,
  a9 := Try.isAgg9,
  z9 := Try.sizeOf9,
  v9 := Try.zeroValue9,
  t22 := Try.underlying27,
  a22 := Try.isAgg27,
  z22 := Try.sizeOf27,
  v22 := Try.zeroValue27,
  t25 := Try.underlying93,
  a25 := Try.isAgg93,
  z25 := Try.sizeOf93,
  v25 := Try.zeroValue93,
  t39 := Try.underlying101,
  a39 := Try.isAgg101,
  z39 := Try.sizeOf101,
  v39 := Try.zeroValue101,
  t45 := Try.underlying106,
  a45 := Try.isAgg106,
  z45 := Try.sizeOf106,
  v45 := Try.zeroValue106,
  t46 := Try.underlying107,
  a46 := Try.isAgg107,
  z46 := Try.sizeOf107,
  v46 := Try.zeroValue107,
  t50 := Try.underlying112,
  a50 := Try.isAgg112,
  z50 := Try.sizeOf112,
  v50 := Try.zeroValue112,
  t53 := Try.underlying115,
  a53 := Try.isAgg115,
  z53 := Try.sizeOf115,
  v53 := Try.zeroValue115,
  t55 := Try.underlying24,
  a55 := Try.isAgg24,
  z55 := Try.sizeOf24,
  v55 := Try.zeroValue24,
  t66 := Try.underlying122,
  a66 := Try.isAgg122,
  z66 := Try.sizeOf122,
  v66 := Try.zeroValue122,
  t70 := Try.underlying126,
  a70 := Try.isAgg126,
  z70 := Try.sizeOf126,
  v70 := Try.zeroValue126,
  t76 := Try.underlying130,
  a76 := Try.isAgg130,
  z76 := Try.sizeOf130,
  v76 := Try.zeroValue130,
  t77 := Try.underlying131,
  a77 := Try.isAgg131,
  z77 := Try.sizeOf131,
  v77 := Try.zeroValue131 }
theorem cmpOk : CmpAll Try.prog F.sibs_sorted_c1 := cmp_all envOk rfl fn_sibs_sorted_c1 sortedC_eq rfl
theorem sorted_con {xs ys : List V} (hF : sortV xs [] = some ys) {h : Heap} {g : Gh} {w : World} {u : Value} (hp : Pre h g w) (hl : LinR w g.imm 4 u) (hc : LinC g.imm w 4 xs u) :
    Calls Try.prog 62 #[u, .func (.func 63) #[] #[]] w fun e w' => e = .returned (.tuple #[]) ∧ LinPost g w u 4 ys u w' g.imm :=
  sort_post sortLays Try.isAgg64 Try.sizeOf64 (enters_of Try.func63 (by kernel_rfl) rfl) cmpOk hF hp hl hc
set_option maxHeartbeats 1000000 in
theorem sorted_walk {u : Value} {w : World} {Q : World → Prop} (hcon : Calls Try.prog 62 #[u, .func (.func 63) #[] #[]] w fun e w' => e = .returned (.tuple #[]) ∧ Q w') :
    Calls Try.prog 47 #[u] w fun e w' => e = .returned u ∧ Q w' := by
  go_enter Try.func47, Try.ntmps47
  go_wp2_with (go_at_call 62; refine hcon.mono ?_; rintro e w' ⟨rfl, post⟩)
  go_ret
  exact ⟨rfl, post⟩
theorem sorted_lin : LinOk Try.prog 47 4 sortV := by
  intro xs args ys hF h g w u uargs hp hl hc ha
  cases args with
  | cons x l => cases hF
  | nil =>
    have hu : uargs = #[] := by
      obtain ⟨us⟩ := uargs
      cases ha
      rfl
    subst hu
    refine .inl ⟨callFunc_enter (fn := Try.f47) Try.func47 rfl (by kernel_rfl) _ _, ?_⟩
    exact (sorted_walk (sorted_con hF hp hl hc)).mono fun e w' ⟨he, hq⟩ => ⟨u, he, g.imm, hq⟩
end Go.Proofs.Ytionebfmjjpnbaa.V0
