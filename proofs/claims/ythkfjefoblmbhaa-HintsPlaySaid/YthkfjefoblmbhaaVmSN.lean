/- 'slices.Insert' and 'slices.Delete' of hints, laid at this program. -/
import Derived.Test.YthkfjefoblmbhaaVmG7
import Derived.Test.YthkfjefoblmbhaaChecked
import Derived.KernelRfl
set_option linter.unusedVariables false
set_option linter.unusedSimpArgs false
namespace Go.Proofs.Ythkfjefoblmbhaa.V0
open Go.Vm Go.RowKit Go.Shelf
set_option maxRecDepth 100000
def insLays_ren : Go.Shelf.Ren := ⟨fun | 22 => 28 | 24 => 30 | 29 => 51 | 30 => 52 | 36 => 72 | 17 => 77 | n => n, fun | 24 => 45 | 9 => 37 | 3 => 3 | n => n, fun | n => n⟩
def hintZ : Value := .agg #[.int .i64 0, .string ⟨#[]⟩, .int .i64 0, .int .i64 0, .int .i64 0, .int .i64 0, .int .i64 0, .int .i64 0, .int .i64 0, .int .i64 0, .slice none 0 0]
theorem insLays : LaysI Try.prog insLays_ren 11 112 hintZ := {
  mixed := by kernel_rfl,
  f22 := ⟨Try.f28.name, by kernel_rfl, Try.func28.trans (congrArg some (by kernel_rfl))⟩,
  f24 := ⟨Try.f30.name, by kernel_rfl, Try.func30.trans (congrArg some (by kernel_rfl))⟩,
  f29 := run_callFunc_extern Try.func51 (by kernel_rfl) (by kernel_rfl) (by kernel_rfl) (by kernel_rfl),
  t0 := Try.underlying0, a0 := Try.isAgg0, z0 := Try.sizeOf0, v0 := Try.zeroValue0,
  t3 := Try.underlying3, a3 := Try.isAgg3, z3 := Try.sizeOf3, v3 := Try.zeroValue3,
  t4 := Try.underlying4, a4 := Try.isAgg4, z4 := Try.sizeOf4, v4 := Try.zeroValue4,
  z9 := Try.sizeOf37, v9 := Try.zeroValue37,
  t24 := Try.underlying45, a24 := Try.isAgg45, z24 := Try.sizeOf45, v24 := Try.zeroValue45,
  i9 := by kernel_rfl,
  zc := rfl,
  z1 := fun u hu => by
    simp only [hintZ, Value.cells, List.mem_cons, List.not_mem_nil, or_false] at hu
    rcases hu with rfl | rfl | rfl | rfl | rfl | rfl | rfl | rfl | rfl | rfl | rfl <;> rfl,
  pos := by omega, posb := by omega }
theorem insertAt : InsertAt Try.prog 28 11 112 := insertAt_of insLays (enters_of Try.func28 (by kernel_rfl) rfl)
theorem deleteAt : DeleteAt Try.prog 30 11 := deleteAt_of insLays (enters_of Try.func30 (by kernel_rfl) rfl)
end Go.Proofs.Ythkfjefoblmbhaa.V0
