/- A table of functions over another one: its functions' code, and what the other tells. -/
import Derived.Test.YtkkionmmkmhlpaaVT
import Derived.Test.YtkkionmmkmhlpaaVmRGS
import Derived.KernelRfl
namespace Go.Proofs.Ytkkionmmkmhlpaa.W1
open Go.Vm Go.Proofs.Ytkkionmmkmhlpaa Go.Proofs.Ytkkionmmkmhlpaa.V
set_option maxRecDepth 100000
set_option linter.unusedVariables false
set_option linter.unusedSimpArgs false
def F.ring_Ring_fill : Nat := 22
def F.slices_SortFunc_ring_point_ring_point : Nat := 29
def c_ring_Ring_fill_l0 : VCode := (.seq (.ops [⟨some 12, none, .bin .lss .no (.r 11) (.c (.int .i64 4))⟩] [0, 2, 7, 8, 11, 12])
  (.seq (.cond (.r 12) .skip (.exit 2))
  (.seq (.block 3 (.seq (.ops [⟨some 13, none, .mv (.r 11)⟩,
        ⟨some 3, none, .asg (.r 13)⟩] [0, 2, 3, 7, 8, 11])
      (.dops 12 [⟨some 14, none, .mv (.r 0)⟩,
      ⟨some 15, none, .mv (.r 0)⟩,
      ⟨some 16, none, .nilck (.r 15)⟩,
      ⟨some 17, none, .faddr 5 (.r 16)⟩,
      ⟨some 18, none, .load false 1 (.r 17)⟩,
      ⟨some 19, none, .mv (.r 2)⟩,
      ⟨some 20, none, .mv (.r 3)⟩,
      ⟨some 21, none, .call true F.keys_Point [(.r 19), (.r 20)]⟩,
      ⟨some 22, none, .mv (.r 2)⟩,
      ⟨some 23, none, .mv (.r 3)⟩,
      ⟨some 24, none, .build [(.int .u32 0), (.int .i64 0), (.int .i64 0)] [(0, 1, (.r 21)), (1, 1, (.r 22)), (2, 1, (.r 23))]⟩,
      ⟨some 25, none, .bslice (.agg [(.int .u32 0), (.int .i64 0), (.int .i64 0)]) 3 1 [(0, (.r 24))]⟩,
      ⟨some 26, none, .appm 3 24 (.r 18) (.r 25)⟩,
      ⟨some 27, none, .nilck (.r 14)⟩,
      ⟨some 28, none, .faddr 5 (.r 27)⟩,
      ⟨none, none, .store 1 (.r 28) (.r 26) [] none⟩] [0, 2, 7, 8, 11])))
  (.ops [⟨some 29, none, .bin .add .no (.r 11) (.c (.int .i64 1))⟩,
  ⟨some 11, none, .mv (.r 29)⟩] [0, 2, 7, 8, 11]))))
def c_ring_Ring_fill_l1 : VCode := (.seq (.ops [⟨some 9, none, .bin .lss .no (.r 8) (.r 7)⟩] [0, 7, 8, 9])
  (.seq (.cond (.r 9) .skip (.exit 0))
  (.seq (.block 1 (.seq (.ops [⟨some 10, none, .mv (.r 8)⟩,
        ⟨some 2, none, .asg (.r 10)⟩] [0, 2, 7, 8])
      (.seq (.ops [⟨some 11, none, .mv (.c (.int .i64 0))⟩] [0, 2, 7, 8, 11])
      (.block 2 (.loop [0, 2, 7, 8, 11] [] c_ring_Ring_fill_l0)))))
  (.ops [⟨some 30, none, .bin .add .no (.r 8) (.c (.int .i64 1))⟩,
  ⟨some 8, none, .mv (.r 30)⟩] [0, 7, 8]))))
def c_ring_Ring_fill : VFun := ⟨1,
  (.seq (.seq (.ops [⟨some 4, none, .mv (.r 0)⟩,
      ⟨some 5, none, .nilck (.r 4)⟩,
      ⟨some 6, none, .faddr 0 (.r 5)⟩,
      ⟨some 7, none, .load false 1 (.r 6)⟩,
      ⟨some 8, none, .mv (.c (.int .i64 0))⟩] [0, 7, 8])
    (.block 0 (.loop [0, 7, 8] [] c_ring_Ring_fill_l1)))
  (.seq (.ops [⟨some 31, none, .mv (.r 0)⟩,
    ⟨some 32, none, .nilck (.r 31)⟩,
    ⟨some 33, none, .faddr 5 (.r 32)⟩,
    ⟨some 34, none, .load false 1 (.r 33)⟩,
    ⟨some 35, none, .call false F.slices_SortFunc_ring_point_ring_point [(.r 34), (.c (.fn F.ring_Ring_fill_c1 [] []))]⟩] [0])
  (.ops [⟨some 36, none, .mv (.r 0)⟩,
  ⟨some 37, none, .nilck (.r 36)⟩,
  ⟨some 38, none, .faddr 4 (.r 37)⟩,
  ⟨some 39, none, .call false F.sync_atomic_Int32_Add [(.r 38), (.c (.int .i32 1))]⟩] []))),
  [], none⟩
theorem ok_ring_Ring_fill : FunOk Try.prog V.R F.ring_Ring_fill c_ring_Ring_fill := funOk_of Try.func22 rfl (by kernel_rfl) (by kernel_rfl) (by kernel_rfl) (by kernel_rfl) (linC_of (by kernel_rfl)) (by kernel_rfl) (of_decide_eq_true (by kernel_rfl)) (by kernel_rfl)
def tab : List (Nat × VFun) := [(F.ring_Ring_fill, c_ring_Ring_fill)]
noncomputable def prims : List (Nat × Prim) := [(F.keys_Point, callL V.E F.keys_Point), (F.sync_atomic_Int32_Add, callL V.E F.sync_atomic_Int32_Add), (F.slices_SortFunc_ring_point_ring_point, sort3P F.ring_Ring_fill_c1)]
noncomputable abbrev E : Env := ⟨tabFn tab, primFn prims⟩
theorem envOk : EnvOk Try.prog V.R E := env_prims Try.checked.mixed ⟨prim_env V.envOk id rfl, prim_env V.envOk id rfl, sort3_ok V0.sortAt rfl, trivial⟩ ⟨ok_ring_Ring_fill, trivial⟩
theorem fn_ring_Ring_fill : E.fn F.ring_Ring_fill = some c_ring_Ring_fill := rfl
theorem up_keys_Point {a : List V} {h : Heap} {r} (g : callL V.E F.keys_Point a h = some r) : callL E F.keys_Point a h = some r := callL_prim rfl g
theorem up_sync_atomic_Int32_Add {a : List V} {h : Heap} {r} (g : callL V.E F.sync_atomic_Int32_Add a h = some r) : callL E F.sync_atomic_Int32_Add a h = some r := callL_prim rfl g
end Go.Proofs.Ytkkionmmkmhlpaa.W1
