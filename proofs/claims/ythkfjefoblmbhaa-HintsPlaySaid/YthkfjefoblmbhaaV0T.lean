/- The functions' code as the V-machine has it; the kernel sees that it is theirs. -/
import Derived.Test.YthkfjefoblmbhaaVmG5
import Derived.Test.YthkfjefoblmbhaaChecked
import Derived.KernelRfl
namespace Go.Proofs.Ythkfjefoblmbhaa.V0
open Go.Vm
set_option maxRecDepth 100000
set_option linter.unusedVariables false
set_option linter.unusedSimpArgs false
def F.cmp_Compare_int : Nat := 40
def F.cmp_Compare_int64 : Nat := 73
def F.cmp_Or_int : Nat := 39
def F.cmp_isNaN_int : Nat := 65
def F.cmp_isNaN_int64 : Nat := 78
def F.sibs_sorted_c1 : Nat := 71
def F.vector_Less : Nat := 63
def c_cmp_Or_int_l0 : VCode := (.seq (.ops [⟨some 9, none, .bin .lss .no (.r 8) (.r 7)⟩] [3, 6, 7, 8, 9])
  (.seq (.cond (.r 9) .skip (.exit 0))
  (.seq (.block 1 (.seq (.ops [⟨some 10, none, .iaddr none 1 (.r 6) (.r 8)⟩,
        ⟨some 11, none, .load false 1 (.r 10)⟩,
        ⟨some 5, none, .asg (.r 11)⟩] [3, 5, 6, 7, 8])
      (.seq (.ops [⟨some 12, none, .mv (.r 5)⟩,
        ⟨some 13, none, .mv (.r 3)⟩,
        ⟨some 14, none, .bin .neq .no (.r 12) (.r 13)⟩] [3, 5, 6, 7, 8, 14])
      (.cond (.r 14) (.seq (.ops [⟨some 15, none, .mv (.r 5)⟩,
          ⟨some 2, none, .asg (.r 15)⟩] [2])
        .ret) .skip))))
  (.ops [⟨some 16, none, .bin .add .no (.r 8) (.c (.int .i64 1))⟩,
  ⟨some 8, none, .mv (.r 16)⟩] [3, 6, 7, 8]))))
def c_cmp_Or_int : VFun := ⟨1,
  (.seq (.ops [⟨some 2, none, .asg (.c (.int .i64 0))⟩] [0])
  (.seq (.ops [⟨some 3, none, .asg (.c (.int .i64 0))⟩] [0, 3])
  (.seq (.seq (.ops [⟨some 6, none, .mv (.r 0)⟩,
      ⟨some 7, none, .len .sl (.r 6)⟩,
      ⟨some 8, none, .mv (.c (.int .i64 0))⟩] [3, 6, 7, 8])
    (.block 0 (.loop [3, 6, 7, 8] [] c_cmp_Or_int_l0)))
  (.seq (.ops [⟨some 17, none, .mv (.r 3)⟩,
    ⟨some 2, none, .asg (.r 17)⟩] [2])
  .ret)))),
  [.r 2], none⟩
def c_cmp_Compare_int : VFun := ⟨2,
  (.seq (.ops [⟨some 4, none, .asg (.c (.int .i64 0))⟩] [0, 1])
  (.seq (.ops [⟨some 7, none, .mv (.r 0)⟩,
    ⟨some 8, none, .call false F.cmp_isNaN_int [(.r 7)]⟩,
    ⟨some 5, none, .asg (.r 8)⟩] [0, 1, 5])
  (.seq (.ops [⟨some 9, none, .mv (.r 1)⟩,
    ⟨some 10, none, .call false F.cmp_isNaN_int [(.r 9)]⟩,
    ⟨some 6, none, .asg (.r 10)⟩] [0, 1, 5, 6])
  (.seq (.seq (.ops [⟨some 11, none, .mv (.r 5)⟩] [0, 1, 6, 11])
    (.cond (.r 11) (.seq (.seq (.ops [⟨some 12, none, .mv (.r 6)⟩] [12])
        (.cond (.r 12) (.seq (.ops [⟨some 4, none, .asg (.c (.int .i64 0))⟩] [4])
          .ret) .skip))
      (.seq (.ops [⟨some 4, none, .asg (.c (.int .i64 (-1)))⟩] [4])
      .ret)) .skip))
  (.seq (.seq (.ops [⟨some 13, none, .mv (.r 6)⟩] [0, 1, 13])
    (.cond (.r 13) (.seq (.ops [⟨some 4, none, .asg (.c (.int .i64 1))⟩] [4])
      .ret) .skip))
  (.seq (.seq (.ops [⟨some 14, none, .mv (.r 0)⟩,
      ⟨some 15, none, .mv (.r 1)⟩,
      ⟨some 16, none, .bin .lss .no (.r 14) (.r 15)⟩] [0, 1, 16])
    (.cond (.r 16) (.seq (.ops [⟨some 4, none, .asg (.c (.int .i64 (-1)))⟩] [4])
      .ret) .skip))
  (.seq (.seq (.ops [⟨some 17, none, .mv (.r 0)⟩,
      ⟨some 18, none, .mv (.r 1)⟩,
      ⟨some 19, none, .bin .gtr .no (.r 17) (.r 18)⟩] [19])
    (.cond (.r 19) (.seq (.ops [⟨some 4, none, .asg (.c (.int .i64 1))⟩] [4])
      .ret) .skip))
  (.seq (.ops [⟨some 4, none, .asg (.c (.int .i64 0))⟩] [4])
  .ret)))))))),
  [.r 4], none⟩
def c_vector_Less : VFun := ⟨2,
  (.seq (.ops [⟨some 2, none, .box 2 (.r 0)⟩,
    ⟨some 3, none, .box 2 (.r 1)⟩,
    ⟨some 4, none, .asg (.c (.bool false))⟩] [2, 3])
  (.seq (.dops 9 [⟨some 5, none, .faddr 0 (.r 2)⟩,
    ⟨some 6, none, .load false 1 (.r 5)⟩,
    ⟨some 7, none, .faddr 0 (.r 3)⟩,
    ⟨some 8, none, .load false 1 (.r 7)⟩,
    ⟨some 9, none, .call true F.cmp_Compare_int [(.r 6), (.r 8)]⟩,
    ⟨some 10, none, .faddr 1 (.r 2)⟩,
    ⟨some 11, none, .load false 1 (.r 10)⟩,
    ⟨some 12, none, .faddr 1 (.r 3)⟩,
    ⟨some 13, none, .load false 1 (.r 12)⟩,
    ⟨some 14, none, .call false F.cmp_Compare_int64 [(.r 11), (.r 13)]⟩,
    ⟨some 15, none, .bslice (.int .i64 0) 1 2 [(0, (.r 9)), (1, (.r 14))]⟩,
    ⟨some 16, none, .call false F.cmp_Or_int [(.r 15)]⟩,
    ⟨some 17, none, .bin .lss .no (.r 16) (.c (.int .i64 0))⟩,
    ⟨some 4, none, .asg (.r 17)⟩] [4])
  .ret)),
  [.r 4], none⟩
def c_cmp_isNaN_int : VFun := ⟨1,
  (.seq (.ops [⟨some 2, none, .asg (.c (.bool false))⟩] [0])
  (.seq (.ops [⟨some 3, none, .mv (.r 0)⟩,
    ⟨some 4, none, .mv (.r 0)⟩,
    ⟨some 5, none, .bin .neq .no (.r 3) (.r 4)⟩,
    ⟨some 2, none, .asg (.r 5)⟩] [2])
  .ret)),
  [.r 2], none⟩
def c_sibs_sorted_c1 : VFun := ⟨2,
  (.seq (.ops [⟨some 2, none, .box 4 (.r 0)⟩,
    ⟨some 3, none, .box 4 (.r 1)⟩,
    ⟨some 4, none, .asg (.c (.int .i64 0))⟩] [2, 3])
  (.seq (.block 0 (.seq (.ops [⟨some 6, none, .faddr 0 (.r 2)⟩,
        ⟨some 7, none, .load true 2 (.r 6)⟩,
        ⟨some 8, none, .faddr 0 (.r 3)⟩,
        ⟨some 9, none, .load true 2 (.r 8)⟩,
        ⟨some 10, none, .call false F.vector_Less [(.r 7), (.r 9)]⟩,
        ⟨some 5, none, .asg (.r 10)⟩] [2, 3, 5])
      (.cond (.r 5) (.seq (.ops [⟨some 4, none, .asg (.c (.int .i64 (-1)))⟩] [4])
        .ret) (.seq (.ops [⟨some 12, none, .faddr 0 (.r 3)⟩,
          ⟨some 13, none, .load true 2 (.r 12)⟩,
          ⟨some 14, none, .faddr 0 (.r 2)⟩,
          ⟨some 15, none, .load true 2 (.r 14)⟩,
          ⟨some 16, none, .call false F.vector_Less [(.r 13), (.r 15)]⟩,
          ⟨some 11, none, .asg (.r 16)⟩] [11])
        (.cond (.r 11) (.seq (.ops [⟨some 4, none, .asg (.c (.int .i64 1))⟩] [4])
          .ret) .skip)))))
  (.seq (.ops [⟨some 4, none, .asg (.c (.int .i64 0))⟩] [4])
  .ret))),
  [.r 4], none⟩
def c_cmp_Compare_int64 : VFun := ⟨2,
  (.seq (.ops [⟨some 4, none, .asg (.c (.int .i64 0))⟩] [0, 1])
  (.seq (.ops [⟨some 7, none, .mv (.r 0)⟩,
    ⟨some 8, none, .call false F.cmp_isNaN_int64 [(.r 7)]⟩,
    ⟨some 5, none, .asg (.r 8)⟩] [0, 1, 5])
  (.seq (.ops [⟨some 9, none, .mv (.r 1)⟩,
    ⟨some 10, none, .call false F.cmp_isNaN_int64 [(.r 9)]⟩,
    ⟨some 6, none, .asg (.r 10)⟩] [0, 1, 5, 6])
  (.seq (.seq (.ops [⟨some 11, none, .mv (.r 5)⟩] [0, 1, 6, 11])
    (.cond (.r 11) (.seq (.seq (.ops [⟨some 12, none, .mv (.r 6)⟩] [12])
        (.cond (.r 12) (.seq (.ops [⟨some 4, none, .asg (.c (.int .i64 0))⟩] [4])
          .ret) .skip))
      (.seq (.ops [⟨some 4, none, .asg (.c (.int .i64 (-1)))⟩] [4])
      .ret)) .skip))
  (.seq (.seq (.ops [⟨some 13, none, .mv (.r 6)⟩] [0, 1, 13])
    (.cond (.r 13) (.seq (.ops [⟨some 4, none, .asg (.c (.int .i64 1))⟩] [4])
      .ret) .skip))
  (.seq (.seq (.ops [⟨some 14, none, .mv (.r 0)⟩,
      ⟨some 15, none, .mv (.r 1)⟩,
      ⟨some 16, none, .bin .lss .no (.r 14) (.r 15)⟩] [0, 1, 16])
    (.cond (.r 16) (.seq (.ops [⟨some 4, none, .asg (.c (.int .i64 (-1)))⟩] [4])
      .ret) .skip))
  (.seq (.seq (.ops [⟨some 17, none, .mv (.r 0)⟩,
      ⟨some 18, none, .mv (.r 1)⟩,
      ⟨some 19, none, .bin .gtr .no (.r 17) (.r 18)⟩] [19])
    (.cond (.r 19) (.seq (.ops [⟨some 4, none, .asg (.c (.int .i64 1))⟩] [4])
      .ret) .skip))
  (.seq (.ops [⟨some 4, none, .asg (.c (.int .i64 0))⟩] [4])
  .ret)))))))),
  [.r 4], none⟩
def c_cmp_isNaN_int64 : VFun := ⟨1,
  (.seq (.ops [⟨some 2, none, .asg (.c (.bool false))⟩] [0])
  (.seq (.ops [⟨some 3, none, .mv (.r 0)⟩,
    ⟨some 4, none, .mv (.r 0)⟩,
    ⟨some 5, none, .bin .neq .no (.r 3) (.r 4)⟩,
    ⟨some 2, none, .asg (.r 5)⟩] [2])
  .ret)),
  [.r 2], none⟩
def R : Nat → Option Nat := fun _ => none
theorem ok_cmp_Or_int : FunOk Try.prog R F.cmp_Or_int c_cmp_Or_int := funOk_of Try.func39 rfl (by kernel_rfl) (by kernel_rfl) (by kernel_rfl) (by kernel_rfl) (linC_of (by kernel_rfl)) (by kernel_rfl) (of_decide_eq_true (by kernel_rfl)) (by kernel_rfl)
theorem ok_cmp_Compare_int : FunOk Try.prog R F.cmp_Compare_int c_cmp_Compare_int := funOk_of Try.func40 rfl (by kernel_rfl) (by kernel_rfl) (by kernel_rfl) (by kernel_rfl) (linC_of (by kernel_rfl)) (by kernel_rfl) (of_decide_eq_true (by kernel_rfl)) (by kernel_rfl)
theorem ok_vector_Less : FunOk Try.prog R F.vector_Less c_vector_Less := funOk_of Try.func63 rfl (by kernel_rfl) (by kernel_rfl) (by kernel_rfl) (by kernel_rfl) (linC_of (by kernel_rfl)) (by kernel_rfl) (of_decide_eq_true (by kernel_rfl)) (by kernel_rfl)
theorem ok_cmp_isNaN_int : FunOk Try.prog R F.cmp_isNaN_int c_cmp_isNaN_int := funOk_of Try.func65 rfl (by kernel_rfl) (by kernel_rfl) (by kernel_rfl) (by kernel_rfl) (linC_of (by kernel_rfl)) (by kernel_rfl) (of_decide_eq_true (by kernel_rfl)) (by kernel_rfl)
theorem ok_sibs_sorted_c1 : FunOk Try.prog R F.sibs_sorted_c1 c_sibs_sorted_c1 := funOk_of Try.func71 rfl (by kernel_rfl) (by kernel_rfl) (by kernel_rfl) (by kernel_rfl) (linC_of (by kernel_rfl)) (by kernel_rfl) (of_decide_eq_true (by kernel_rfl)) (by kernel_rfl)
theorem ok_cmp_Compare_int64 : FunOk Try.prog R F.cmp_Compare_int64 c_cmp_Compare_int64 := funOk_of Try.func73 rfl (by kernel_rfl) (by kernel_rfl) (by kernel_rfl) (by kernel_rfl) (linC_of (by kernel_rfl)) (by kernel_rfl) (of_decide_eq_true (by kernel_rfl)) (by kernel_rfl)
theorem ok_cmp_isNaN_int64 : FunOk Try.prog R F.cmp_isNaN_int64 c_cmp_isNaN_int64 := funOk_of Try.func78 rfl (by kernel_rfl) (by kernel_rfl) (by kernel_rfl) (by kernel_rfl) (linC_of (by kernel_rfl)) (by kernel_rfl) (of_decide_eq_true (by kernel_rfl)) (by kernel_rfl)
def tab : List (Nat × VFun) := [(F.cmp_Or_int, c_cmp_Or_int), (F.cmp_Compare_int, c_cmp_Compare_int), (F.vector_Less, c_vector_Less), (F.cmp_isNaN_int, c_cmp_isNaN_int), (F.sibs_sorted_c1, c_sibs_sorted_c1), (F.cmp_Compare_int64, c_cmp_Compare_int64), (F.cmp_isNaN_int64, c_cmp_isNaN_int64)]
def prims : List (Nat × Prim) := []
abbrev E : Env := ⟨tabFn tab, primFn prims⟩
theorem envOk : EnvOk Try.prog R E := env_prims Try.checked.mixed trivial ⟨ok_cmp_Or_int, ok_cmp_Compare_int, ok_vector_Less, ok_cmp_isNaN_int, ok_sibs_sorted_c1, ok_cmp_Compare_int64, ok_cmp_isNaN_int64, trivial⟩
theorem fn_cmp_Or_int : E.fn F.cmp_Or_int = some c_cmp_Or_int := rfl
theorem fn_cmp_Compare_int : E.fn F.cmp_Compare_int = some c_cmp_Compare_int := rfl
theorem fn_vector_Less : E.fn F.vector_Less = some c_vector_Less := rfl
theorem fn_cmp_isNaN_int : E.fn F.cmp_isNaN_int = some c_cmp_isNaN_int := rfl
theorem fn_sibs_sorted_c1 : E.fn F.sibs_sorted_c1 = some c_sibs_sorted_c1 := rfl
theorem fn_cmp_Compare_int64 : E.fn F.cmp_Compare_int64 = some c_cmp_Compare_int64 := rfl
theorem fn_cmp_isNaN_int64 : E.fn F.cmp_isNaN_int64 = some c_cmp_isNaN_int64 := rfl
end Go.Proofs.Ythkfjefoblmbhaa.V0

