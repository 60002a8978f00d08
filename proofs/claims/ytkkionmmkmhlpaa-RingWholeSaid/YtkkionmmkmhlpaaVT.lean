/- The functions' code as the V-machine has it; the kernel sees that it is theirs. -/
import Derived.Test.YtkkionmmkmhlpaaVmG5
import Derived.Test.YtkkionmmkmhlpaaChecked
import Derived.KernelRfl
import Derived.Test.YtkkionmmkmhlpaaVmG8
namespace Go.Proofs.Ytkkionmmkmhlpaa.V
open Go.Vm
set_option maxRecDepth 100000
set_option linter.unusedVariables false
set_option linter.unusedSimpArgs false
def F.cmp_Compare_int : Nat := 33
def F.cmp_Compare_uint32 : Nat := 32
def F.cmp_Or_int : Nat := 31
def F.cmp_isNaN_int : Nat := 45
def F.cmp_isNaN_uint32 : Nat := 44
def F.keys_Place : Nat := 23
def F.keys_Point : Nat := 28
def F.lazy_Mix : Nat := 35
def F.ring_New : Nat := 7
def F.ring_Ring_Made : Nat := 20
def F.ring_Ring_Nodes : Nat := 16
def F.ring_Ring_fill_c1 : Nat := 30
def F.slices_Contains_int_int : Nat := 24
def F.slices_Index_int_int : Nat := 36
def F.sync_atomic_AddInt32 : Nat := 46
def F.sync_atomic_Bool_Load : Nat := 26
def F.sync_atomic_Int32_Add : Nat := 34
def F.sync_atomic_Int32_Load : Nat := 25
def F.sync_atomic_LoadInt32 : Nat := 37
def F.sync_atomic_LoadUint32 : Nat := 38
def F.tattlerlaw14_RingPlaces_c1 : Nat := 10
def F.tattlerref14_In : Nat := 19
def F.tattlerref1_Mix : Nat := 9
def F.tattlerref5_Point : Nat := 11
def F.tattlerref5_SameInts : Nat := 14
def c_ring_New : VFun := ⟨1,
  (.seq (.ops [⟨some 2, none, .asg (.c (.ptr none))⟩] [0])
  (.seq (.ops [⟨some 3, none, .mv (.r 0)⟩,
    ⟨some 4, none, .mn [(.r 3), (.c (.int .i64 8))]⟩,
    ⟨some 5, none, .mx [(.c (.int .i64 0)), (.r 4)]⟩,
    ⟨some 6, none, .bld [(.int .i64 0), (.int .u32 0), (.int .i32 0), (.int .u32 0), (.int .i32 0), .nsl] [(0, 1, (.r 5))] []⟩,
    ⟨some 7, none, .box 6 (.r 6)⟩,
    ⟨some 2, none, .asg (.r 7)⟩] [2])
  .ret)),
  [.r 2], none⟩
def c_tattlerref1_Mix_l0 : VCode := (.seq (.ops [⟨some 9, none, .bin .lss .no (.r 8) (.r 7)⟩] [3, 6, 7, 8, 9])
  (.seq (.cond (.r 9) .skip (.exit 0))
  (.seq (.block 1 (.seq (.ops [⟨some 10, none, .iaddr none 1 (.r 6) (.r 8)⟩,
        ⟨some 11, none, .load false 1 (.r 10)⟩,
        ⟨some 5, none, .asg (.r 11)⟩] [3, 5, 6, 7, 8])
      (.ops [⟨some 12, none, .mv (.r 3)⟩,
      ⟨some 13, none, .mv (.r 5)⟩,
      ⟨some 14, none, .conv (.toInt .u32) (.r 13)⟩,
      ⟨some 15, none, .bin .xor .no (.r 12) (.r 14)⟩,
      ⟨some 16, none, .bin .mul .no (.r 15) (.c (.int .u32 16777619))⟩,
      ⟨some 3, none, .asg (.r 16)⟩] [3, 6, 7, 8])))
  (.ops [⟨some 17, none, .bin .add .no (.r 8) (.c (.int .i64 1))⟩,
  ⟨some 8, none, .mv (.r 17)⟩] [3, 6, 7, 8]))))
def c_tattlerref1_Mix : VFun := ⟨1,
  (.seq (.ops [⟨some 2, none, .asg (.c (.int .u32 0))⟩] [0])
  (.seq (.ops [⟨some 3, none, .asg (.c (.int .u32 2166136261))⟩] [0, 3])
  (.seq (.seq (.ops [⟨some 6, none, .mv (.r 0)⟩,
      ⟨some 7, none, .len .sl (.r 6)⟩,
      ⟨some 8, none, .mv (.c (.int .i64 0))⟩] [3, 6, 7, 8])
    (.block 0 (.loop [3, 6, 7, 8] [] c_tattlerref1_Mix_l0)))
  (.seq (.ops [⟨some 18, none, .mv (.r 3)⟩,
    ⟨some 19, none, .mv (.r 3)⟩,
    ⟨some 20, none, .bin .shr .no (.r 19) (.c (.int .u64 15))⟩,
    ⟨some 21, none, .bin .xor .no (.r 18) (.r 20)⟩,
    ⟨some 3, none, .asg (.r 21)⟩] [3])
  (.seq (.ops [⟨some 22, none, .mv (.r 3)⟩,
    ⟨some 23, none, .bin .mul .no (.r 22) (.c (.int .u32 2246822507))⟩,
    ⟨some 3, none, .asg (.r 23)⟩] [3])
  (.seq (.ops [⟨some 24, none, .mv (.r 3)⟩,
    ⟨some 25, none, .mv (.r 3)⟩,
    ⟨some 26, none, .bin .shr .no (.r 25) (.c (.int .u64 13))⟩,
    ⟨some 27, none, .bin .xor .no (.r 24) (.r 26)⟩,
    ⟨some 2, none, .asg (.r 27)⟩] [2])
  .ret)))))),
  [.r 2], none⟩
def c_tattlerlaw14_RingPlaces_c1_l0 : VCode := (.seq (.ops [⟨some 7, none, .bin .lss .no (.r 6) (.c (.int .i64 4))⟩] [0, 1, 4, 6, 7])
  (.seq (.cond (.r 7) .skip (.exit 0))
  (.seq (.block 1 (.seq (.ops [⟨some 8, none, .mv (.r 6)⟩,
        ⟨some 5, none, .asg (.r 8)⟩] [0, 1, 4, 5, 6])
      (.dops 6 [⟨some 9, none, .mv (.r 4)⟩,
      ⟨some 10, none, .mv (.r 0)⟩,
      ⟨some 11, none, .mv (.r 5)⟩,
      ⟨some 12, none, .call true F.tattlerref5_Point [(.r 10), (.r 11)]⟩,
      ⟨some 13, none, .load false 1 (.r 1)⟩,
      ⟨some 14, none, .bin .sub .no (.r 12) (.r 13)⟩,
      ⟨some 15, none, .mn [(.r 9), (.r 14)]⟩,
      ⟨some 4, none, .asg (.r 15)⟩] [0, 1, 4, 6])))
  (.ops [⟨some 16, none, .bin .add .no (.r 6) (.c (.int .i64 1))⟩,
  ⟨some 6, none, .mv (.r 16)⟩] [0, 1, 4, 6]))))
def c_tattlerlaw14_RingPlaces_c1 : VFun := ⟨2,
  (.seq (.ops [⟨some 3, none, .asg (.c (.int .u32 0))⟩] [0, 1])
  (.seq (.ops [⟨some 4, none, .asg (.c (.int .u32 4294967295))⟩] [0, 1, 4])
  (.seq (.seq (.ops [⟨some 6, none, .mv (.c (.int .i64 0))⟩] [0, 1, 4, 6])
    (.block 0 (.loop [0, 1, 4, 6] [] c_tattlerlaw14_RingPlaces_c1_l0)))
  (.seq (.ops [⟨some 17, none, .mv (.r 4)⟩,
    ⟨some 3, none, .asg (.r 17)⟩] [3])
  .ret)))),
  [.r 3], none⟩
def c_tattlerref5_Point : VFun := ⟨2,
  (.seq (.ops [⟨some 4, none, .asg (.c (.int .u32 0))⟩] [0, 1])
  (.seq (.ops [⟨some 5, none, .mv (.r 0)⟩,
    ⟨some 6, none, .conv (.toInt .u8) (.r 5)⟩,
    ⟨some 7, none, .mv (.r 1)⟩,
    ⟨some 8, none, .conv (.toInt .u8) (.r 7)⟩,
    ⟨some 9, none, .bslice (.int .u8 0) 1 4 [(0, (.c (.int .u8 110))), (1, (.r 6)), (2, (.c (.int .u8 112))), (3, (.r 8))]⟩,
    ⟨some 10, none, .call false F.tattlerref1_Mix [(.r 9)]⟩,
    ⟨some 4, none, .asg (.r 10)⟩] [4])
  .ret)),
  [.r 4], none⟩
def c_tattlerref5_SameInts_l0 : VCode := (.seq (.ops [⟨some 14, none, .bin .lss .no (.r 13) (.r 12)⟩] [0, 1, 12, 13, 14])
  (.seq (.cond (.r 14) .skip (.exit 0))
  (.seq (.block 1 (.seq (.ops [⟨some 15, none, .mv (.r 13)⟩,
        ⟨some 5, none, .asg (.r 15)⟩] [0, 1, 5, 12, 13])
      (.seq (.dops 8 [⟨some 16, none, .mv (.r 0)⟩,
        ⟨some 17, none, .mv (.r 5)⟩,
        ⟨some 18, none, .iaddr none 1 (.r 16) (.r 17)⟩,
        ⟨some 19, none, .load false 1 (.r 18)⟩,
        ⟨some 20, none, .mv (.r 1)⟩,
        ⟨some 21, none, .mv (.r 5)⟩,
        ⟨some 22, none, .iaddr none 1 (.r 20) (.r 21)⟩,
        ⟨some 23, none, .load false 1 (.r 22)⟩,
        ⟨some 24, none, .bin .neq .no (.r 19) (.r 23)⟩] [0, 1, 12, 13, 24])
      (.cond (.r 24) (.seq (.ops [⟨some 4, none, .asg (.c (.bool false))⟩] [4])
        .ret) .skip))))
  (.ops [⟨some 25, none, .bin .add .no (.r 13) (.c (.int .i64 1))⟩,
  ⟨some 13, none, .mv (.r 25)⟩] [0, 1, 12, 13]))))
def c_tattlerref5_SameInts : VFun := ⟨2,
  (.seq (.ops [⟨some 4, none, .asg (.c (.bool false))⟩] [0, 1])
  (.seq (.seq (.ops [⟨some 6, none, .mv (.r 0)⟩,
      ⟨some 7, none, .len .sl (.r 6)⟩,
      ⟨some 8, none, .mv (.r 1)⟩,
      ⟨some 9, none, .len .sl (.r 8)⟩,
      ⟨some 10, none, .bin .neq .no (.r 7) (.r 9)⟩] [0, 1, 10])
    (.cond (.r 10) (.seq (.ops [⟨some 4, none, .asg (.c (.bool false))⟩] [4])
      .ret) .skip))
  (.seq (.seq (.ops [⟨some 11, none, .mv (.r 0)⟩,
      ⟨some 12, none, .len .sl (.r 11)⟩,
      ⟨some 13, none, .mv (.c (.int .i64 0))⟩] [0, 1, 12, 13])
    (.block 0 (.loop [0, 1, 12, 13] [] c_tattlerref5_SameInts_l0)))
  (.seq (.ops [⟨some 4, none, .asg (.c (.bool true))⟩] [4])
  .ret)))),
  [.r 4], none⟩
def c_ring_Ring_Nodes : VFun := ⟨1,
  (.seq (.ops [⟨some 2, none, .asg (.c (.int .i64 0))⟩] [0])
  (.seq (.seq (.ops [⟨some 3, none, .mv (.r 0)⟩,
      ⟨some 4, none, .bin .eql .ptr (.r 3) (.c (.ptr none))⟩] [0, 4])
    (.cond (.r 4) (.seq (.ops [⟨some 2, none, .asg (.c (.int .i64 0))⟩] [2])
      .ret) .skip))
  (.seq (.ops [⟨some 5, none, .mv (.r 0)⟩,
    ⟨some 6, none, .nilck (.r 5)⟩,
    ⟨some 7, none, .faddr 0 (.r 6)⟩,
    ⟨some 8, none, .load false 1 (.r 7)⟩,
    ⟨some 2, none, .asg (.r 8)⟩] [2])
  .ret))),
  [.r 2], none⟩
def c_tattlerref14_In_l0 : VCode := (.seq (.ops [⟨some 10, none, .bin .lss .no (.r 9) (.r 8)⟩] [1, 7, 8, 9, 10])
  (.seq (.cond (.r 10) .skip (.exit 0))
  (.seq (.block 1 (.seq (.ops [⟨some 11, none, .iaddr none 1 (.r 7) (.r 9)⟩,
        ⟨some 12, none, .load false 1 (.r 11)⟩,
        ⟨some 6, none, .asg (.r 12)⟩] [1, 6, 7, 8, 9])
      (.seq (.ops [⟨some 13, none, .mv (.r 6)⟩,
        ⟨some 14, none, .mv (.r 1)⟩,
        ⟨some 15, none, .bin .eql .no (.r 13) (.r 14)⟩] [1, 7, 8, 9, 15])
      (.cond (.r 15) (.seq (.ops [⟨some 4, none, .asg (.c (.bool true))⟩] [4])
        .ret) .skip))))
  (.ops [⟨some 16, none, .bin .add .no (.r 9) (.c (.int .i64 1))⟩,
  ⟨some 9, none, .mv (.r 16)⟩] [1, 7, 8, 9]))))
def c_tattlerref14_In : VFun := ⟨2,
  (.seq (.ops [⟨some 4, none, .asg (.c (.bool false))⟩] [0, 1])
  (.seq (.seq (.ops [⟨some 7, none, .mv (.r 0)⟩,
      ⟨some 8, none, .len .sl (.r 7)⟩,
      ⟨some 9, none, .mv (.c (.int .i64 0))⟩] [1, 7, 8, 9])
    (.block 0 (.loop [1, 7, 8, 9] [] c_tattlerref14_In_l0)))
  (.seq (.ops [⟨some 4, none, .asg (.c (.bool false))⟩] [4])
  .ret))),
  [.r 4], none⟩
def c_ring_Ring_Made : VFun := ⟨1,
  (.seq (.ops [⟨some 2, none, .asg (.c (.int .i64 0))⟩] [0])
  (.seq (.seq (.ops [⟨some 3, none, .mv (.r 0)⟩,
      ⟨some 4, none, .bin .eql .ptr (.r 3) (.c (.ptr none))⟩] [0, 4])
    (.cond (.r 4) (.seq (.ops [⟨some 2, none, .asg (.c (.int .i64 0))⟩] [2])
      .ret) .skip))
  (.seq (.ops [⟨some 5, none, .mv (.r 0)⟩,
    ⟨some 6, none, .nilck (.r 5)⟩,
    ⟨some 7, none, .faddr 4 (.r 6)⟩,
    ⟨some 8, none, .call false F.sync_atomic_Int32_Load [(.r 7)]⟩,
    ⟨some 9, none, .conv (.toInt .i64) (.r 8)⟩,
    ⟨some 2, none, .asg (.r 9)⟩] [2])
  .ret))),
  [.r 2], none⟩
def c_keys_Place : VFun := ⟨1,
  (.seq (.ops [⟨some 2, none, .asg (.c (.int .u32 0))⟩] [0])
  (.seq (.ops [⟨some 3, none, .mv (.r 0)⟩,
    ⟨some 4, none, .bstr (.r 3)⟩,
    ⟨some 5, none, .call false F.lazy_Mix [(.r 4)]⟩,
    ⟨some 2, none, .asg (.r 5)⟩] [2])
  .ret)),
  [.r 2], none⟩
def c_slices_Contains_int_int : VFun := ⟨2,
  (.seq (.ops [⟨some 4, none, .asg (.c (.bool false))⟩] [0, 1])
  (.seq (.ops [⟨some 5, none, .mv (.r 0)⟩,
    ⟨some 6, none, .mv (.r 1)⟩,
    ⟨some 7, none, .call false F.slices_Index_int_int [(.r 5), (.r 6)]⟩,
    ⟨some 8, none, .bin .geq .no (.r 7) (.c (.int .i64 0))⟩,
    ⟨some 4, none, .asg (.r 8)⟩] [4])
  .ret)),
  [.r 4], none⟩
def c_sync_atomic_Int32_Load : VFun := ⟨1,
  (.seq (.ops [⟨some 2, none, .asg (.c (.int .i32 0))⟩] [0])
  (.seq (.ops [⟨some 3, none, .mv (.r 0)⟩,
    ⟨some 4, none, .nilck (.r 3)⟩,
    ⟨some 5, none, .faddr 0 (.r 4)⟩,
    ⟨some 6, none, .call false F.sync_atomic_LoadInt32 [(.r 5)]⟩,
    ⟨some 2, none, .asg (.r 6)⟩] [2])
  .ret)),
  [.r 2], none⟩
def c_sync_atomic_Bool_Load : VFun := ⟨1,
  (.seq (.ops [⟨some 2, none, .asg (.c (.bool false))⟩] [0])
  (.seq (.ops [⟨some 3, none, .mv (.r 0)⟩,
    ⟨some 4, none, .nilck (.r 3)⟩,
    ⟨some 5, none, .faddr 0 (.r 4)⟩,
    ⟨some 6, none, .call false F.sync_atomic_LoadUint32 [(.r 5)]⟩,
    ⟨some 7, none, .bin .neq .no (.r 6) (.c (.int .u32 0))⟩,
    ⟨some 2, none, .asg (.r 7)⟩] [2])
  .ret)),
  [.r 2], none⟩
def c_keys_Point : VFun := ⟨2,
  (.seq (.ops [⟨some 4, none, .asg (.c (.int .u32 0))⟩] [0, 1])
  (.seq (.ops [⟨some 6, none, .mv (.r 0)⟩,
    ⟨some 7, none, .conv (.toInt .u8) (.r 6)⟩,
    ⟨some 8, none, .mv (.r 1)⟩,
    ⟨some 9, none, .conv (.toInt .u8) (.r 8)⟩,
    ⟨some 10, none, .build [(.int .u8 0), (.int .u8 0), (.int .u8 0), (.int .u8 0)] [(0, 1, (.c (.int .u8 110))), (1, 1, (.r 7)), (2, 1, (.c (.int .u8 112))), (3, 1, (.r 9))]⟩,
    ⟨some 5, none, .alloc [(.int .u8 0), (.int .u8 0), (.int .u8 0), (.int .u8 0)] []⟩,
    ⟨none, none, .store 4 (.r 5) (.r 10) [] none⟩] [5])
  (.seq (.ops [⟨some 11, none, .sliceArr 4 1 (.r 5)⟩,
    ⟨some 12, none, .call false F.lazy_Mix [(.r 11)]⟩,
    ⟨some 4, none, .asg (.r 12)⟩] [4])
  .ret))),
  [.r 4], none⟩
def c_ring_Ring_fill_c1 : VFun := ⟨2,
  (.seq (.ops [⟨some 2, none, .box 3 (.r 0)⟩,
    ⟨some 3, none, .box 3 (.r 1)⟩,
    ⟨some 4, none, .asg (.c (.int .i64 0))⟩] [2, 3])
  (.seq (.dops 14 [⟨some 5, none, .faddr 0 (.r 2)⟩,
    ⟨some 6, none, .load false 1 (.r 5)⟩,
    ⟨some 7, none, .faddr 0 (.r 3)⟩,
    ⟨some 8, none, .load false 1 (.r 7)⟩,
    ⟨some 9, none, .call true F.cmp_Compare_uint32 [(.r 6), (.r 8)]⟩,
    ⟨some 10, none, .faddr 1 (.r 2)⟩,
    ⟨some 11, none, .load false 1 (.r 10)⟩,
    ⟨some 12, none, .faddr 1 (.r 3)⟩,
    ⟨some 13, none, .load false 1 (.r 12)⟩,
    ⟨some 14, none, .call true F.cmp_Compare_int [(.r 11), (.r 13)]⟩,
    ⟨some 15, none, .faddr 2 (.r 2)⟩,
    ⟨some 16, none, .load false 1 (.r 15)⟩,
    ⟨some 17, none, .faddr 2 (.r 3)⟩,
    ⟨some 18, none, .load false 1 (.r 17)⟩,
    ⟨some 19, none, .call false F.cmp_Compare_int [(.r 16), (.r 18)]⟩,
    ⟨some 20, none, .bslice (.int .i64 0) 1 3 [(0, (.r 9)), (1, (.r 14)), (2, (.r 19))]⟩,
    ⟨some 21, none, .call false F.cmp_Or_int [(.r 20)]⟩,
    ⟨some 4, none, .asg (.r 21)⟩] [4])
  .ret)),
  [.r 4], none⟩
def c_cmp_Or_int_l0 : VCode := (.seq (.ops [⟨some 9, none, .bin .lss .no (.r 8) (.r 7)⟩] [3, 6, 7, 8, 9])
  (.seq (.cond (.r 9) .skip (.exit 0))
  (.seq (.block 1 (.seq (.ops [⟨some 10, none, .iaddr none 1 (.r 6) (.r 8)⟩,
        ⟨some 11, none, .load false 1 (.r 10)⟩,
        ⟨some 5, none, .asg (.r 11)⟩] [3, 5, 6, 7, 8])
      (.seq (.ops [⟨some 12, none, .mv (.r 5)⟩,
        ⟨some 13, none, .mv (.r 3)⟩,
        ⟨some 14, none, .bin .neq .no (.r 12) (.r 13)⟩] [3, 5, 6, 7, 8, 14])
      (.cond (.r 14) (.seq (.ops [⟨some 15, none, .mv (.r 5)⟩,
          ⟨some 2, none, .asg (.r 15)⟩] [2])
        .ret) .skip))))
  (.ops [⟨some 16, none, .bin .add .no (.r 8) (.c (.int .i64 1))⟩,
  ⟨some 8, none, .mv (.r 16)⟩] [3, 6, 7, 8]))))
def c_cmp_Or_int : VFun := ⟨1,
  (.seq (.ops [⟨some 2, none, .asg (.c (.int .i64 0))⟩] [0])
  (.seq (.ops [⟨some 3, none, .asg (.c (.int .i64 0))⟩] [0, 3])
  (.seq (.seq (.ops [⟨some 6, none, .mv (.r 0)⟩,
      ⟨some 7, none, .len .sl (.r 6)⟩,
      ⟨some 8, none, .mv (.c (.int .i64 0))⟩] [3, 6, 7, 8])
    (.block 0 (.loop [3, 6, 7, 8] [] c_cmp_Or_int_l0)))
  (.seq (.ops [⟨some 17, none, .mv (.r 3)⟩,
    ⟨some 2, none, .asg (.r 17)⟩] [2])
  .ret)))),
  [.r 2], none⟩
def c_cmp_Compare_uint32 : VFun := ⟨2,
  (.seq (.ops [⟨some 4, none, .asg (.c (.int .i64 0))⟩] [0, 1])
  (.seq (.ops [⟨some 7, none, .mv (.r 0)⟩,
    ⟨some 8, none, .call false F.cmp_isNaN_uint32 [(.r 7)]⟩,
    ⟨some 5, none, .asg (.r 8)⟩] [0, 1, 5])
  (.seq (.ops [⟨some 9, none, .mv (.r 1)⟩,
    ⟨some 10, none, .call false F.cmp_isNaN_uint32 [(.r 9)]⟩,
    ⟨some 6, none, .asg (.r 10)⟩] [0, 1, 5, 6])
  (.seq (.seq (.ops [⟨some 11, none, .mv (.r 5)⟩] [0, 1, 6, 11])
    (.cond (.r 11) (.seq (.seq (.ops [⟨some 12, none, .mv (.r 6)⟩] [12])
        (.cond (.r 12) (.seq (.ops [⟨some 4, none, .asg (.c (.int .i64 0))⟩] [4])
          .ret) .skip))
      (.seq (.ops [⟨some 4, none, .asg (.c (.int .i64 (-1)))⟩] [4])
      .ret)) .skip))
  (.seq (.seq (.ops [⟨some 13, none, .mv (.r 6)⟩] [0, 1, 13])
    (.cond (.r 13) (.seq (.ops [⟨some 4, none, .asg (.c (.int .i64 1))⟩] [4])
      .ret) .skip))
  (.seq (.seq (.ops [⟨some 14, none, .mv (.r 0)⟩,
      ⟨some 15, none, .mv (.r 1)⟩,
      ⟨some 16, none, .bin .lss .no (.r 14) (.r 15)⟩] [0, 1, 16])
    (.cond (.r 16) (.seq (.ops [⟨some 4, none, .asg (.c (.int .i64 (-1)))⟩] [4])
      .ret) .skip))
  (.seq (.seq (.ops [⟨some 17, none, .mv (.r 0)⟩,
      ⟨some 18, none, .mv (.r 1)⟩,
      ⟨some 19, none, .bin .gtr .no (.r 17) (.r 18)⟩] [19])
    (.cond (.r 19) (.seq (.ops [⟨some 4, none, .asg (.c (.int .i64 1))⟩] [4])
      .ret) .skip))
  (.seq (.ops [⟨some 4, none, .asg (.c (.int .i64 0))⟩] [4])
  .ret)))))))),
  [.r 4], none⟩
def c_cmp_Compare_int : VFun := ⟨2,
  (.seq (.ops [⟨some 4, none, .asg (.c (.int .i64 0))⟩] [0, 1])
  (.seq (.ops [⟨some 7, none, .mv (.r 0)⟩,
    ⟨some 8, none, .call false F.cmp_isNaN_int [(.r 7)]⟩,
    ⟨some 5, none, .asg (.r 8)⟩] [0, 1, 5])
  (.seq (.ops [⟨some 9, none, .mv (.r 1)⟩,
    ⟨some 10, none, .call false F.cmp_isNaN_int [(.r 9)]⟩,
    ⟨some 6, none, .asg (.r 10)⟩] [0, 1, 5, 6])
  (.seq (.seq (.ops [⟨some 11, none, .mv (.r 5)⟩] [0, 1, 6, 11])
    (.cond (.r 11) (.seq (.seq (.ops [⟨some 12, none, .mv (.r 6)⟩] [12])
        (.cond (.r 12) (.seq (.ops [⟨some 4, none, .asg (.c (.int .i64 0))⟩] [4])
          .ret) .skip))
      (.seq (.ops [⟨some 4, none, .asg (.c (.int .i64 (-1)))⟩] [4])
      .ret)) .skip))
  (.seq (.seq (.ops [⟨some 13, none, .mv (.r 6)⟩] [0, 1, 13])
    (.cond (.r 13) (.seq (.ops [⟨some 4, none, .asg (.c (.int .i64 1))⟩] [4])
      .ret) .skip))
  (.seq (.seq (.ops [⟨some 14, none, .mv (.r 0)⟩,
      ⟨some 15, none, .mv (.r 1)⟩,
      ⟨some 16, none, .bin .lss .no (.r 14) (.r 15)⟩] [0, 1, 16])
    (.cond (.r 16) (.seq (.ops [⟨some 4, none, .asg (.c (.int .i64 (-1)))⟩] [4])
      .ret) .skip))
  (.seq (.seq (.ops [⟨some 17, none, .mv (.r 0)⟩,
      ⟨some 18, none, .mv (.r 1)⟩,
      ⟨some 19, none, .bin .gtr .no (.r 17) (.r 18)⟩] [19])
    (.cond (.r 19) (.seq (.ops [⟨some 4, none, .asg (.c (.int .i64 1))⟩] [4])
      .ret) .skip))
  (.seq (.ops [⟨some 4, none, .asg (.c (.int .i64 0))⟩] [4])
  .ret)))))))),
  [.r 4], none⟩
def c_sync_atomic_Int32_Add : VFun := ⟨2,
  (.seq (.ops [⟨some 4, none, .asg (.c (.int .i32 0))⟩] [0, 1])
  (.seq (.ops [⟨some 5, none, .mv (.r 0)⟩,
    ⟨some 6, none, .nilck (.r 5)⟩,
    ⟨some 7, none, .faddr 0 (.r 6)⟩,
    ⟨some 8, none, .mv (.r 1)⟩,
    ⟨some 9, none, .call false F.sync_atomic_AddInt32 [(.r 7), (.r 8)]⟩,
    ⟨some 4, none, .asg (.r 9)⟩] [4])
  .ret)),
  [.r 4], none⟩
def c_lazy_Mix_l0 : VCode := (.seq (.ops [⟨some 9, none, .bin .lss .no (.r 8) (.r 7)⟩] [3, 6, 7, 8, 9])
  (.seq (.cond (.r 9) .skip (.exit 0))
  (.seq (.block 1 (.seq (.ops [⟨some 10, none, .iaddr none 1 (.r 6) (.r 8)⟩,
        ⟨some 11, none, .load false 1 (.r 10)⟩,
        ⟨some 5, none, .asg (.r 11)⟩] [3, 5, 6, 7, 8])
      (.ops [⟨some 12, none, .mv (.r 3)⟩,
      ⟨some 13, none, .mv (.r 5)⟩,
      ⟨some 14, none, .conv (.toInt .u32) (.r 13)⟩,
      ⟨some 15, none, .bin .xor .no (.r 12) (.r 14)⟩,
      ⟨some 16, none, .bin .mul .no (.r 15) (.c (.int .u32 16777619))⟩,
      ⟨some 3, none, .asg (.r 16)⟩] [3, 6, 7, 8])))
  (.ops [⟨some 17, none, .bin .add .no (.r 8) (.c (.int .i64 1))⟩,
  ⟨some 8, none, .mv (.r 17)⟩] [3, 6, 7, 8]))))
def c_lazy_Mix : VFun := ⟨1,
  (.seq (.ops [⟨some 2, none, .asg (.c (.int .u32 0))⟩] [0])
  (.seq (.ops [⟨some 3, none, .asg (.c (.int .u32 2166136261))⟩] [0, 3])
  (.seq (.seq (.ops [⟨some 6, none, .mv (.r 0)⟩,
      ⟨some 7, none, .len .sl (.r 6)⟩,
      ⟨some 8, none, .mv (.c (.int .i64 0))⟩] [3, 6, 7, 8])
    (.block 0 (.loop [3, 6, 7, 8] [] c_lazy_Mix_l0)))
  (.seq (.ops [⟨some 18, none, .mv (.r 3)⟩,
    ⟨some 19, none, .mv (.r 3)⟩,
    ⟨some 20, none, .bin .shr .no (.r 19) (.c (.int .u64 15))⟩,
    ⟨some 21, none, .bin .xor .no (.r 18) (.r 20)⟩,
    ⟨some 22, none, .bin .mul .no (.r 21) (.c (.int .u32 2246822507))⟩,
    ⟨some 3, none, .asg (.r 22)⟩] [3])
  (.seq (.ops [⟨some 23, none, .mv (.r 3)⟩,
    ⟨some 24, none, .mv (.r 3)⟩,
    ⟨some 25, none, .bin .shr .no (.r 24) (.c (.int .u64 13))⟩,
    ⟨some 26, none, .bin .xor .no (.r 23) (.r 25)⟩,
    ⟨some 2, none, .asg (.r 26)⟩] [2])
  .ret))))),
  [.r 2], none⟩
def c_slices_Index_int_int_l0 : VCode := (.seq (.ops [⟨some 9, none, .bin .lss .no (.r 8) (.r 7)⟩] [0, 1, 7, 8, 9])
  (.seq (.cond (.r 9) .skip (.exit 0))
  (.seq (.block 1 (.seq (.ops [⟨some 10, none, .mv (.r 8)⟩,
        ⟨some 5, none, .asg (.r 10)⟩] [0, 1, 5, 7, 8])
      (.seq (.ops [⟨some 11, none, .mv (.r 1)⟩,
        ⟨some 12, none, .mv (.r 0)⟩,
        ⟨some 13, none, .mv (.r 5)⟩,
        ⟨some 14, none, .iaddr none 1 (.r 12) (.r 13)⟩,
        ⟨some 15, none, .load false 1 (.r 14)⟩,
        ⟨some 16, none, .bin .eql .no (.r 11) (.r 15)⟩] [0, 1, 5, 7, 8, 16])
      (.cond (.r 16) (.seq (.ops [⟨some 17, none, .mv (.r 5)⟩,
          ⟨some 4, none, .asg (.r 17)⟩] [4])
        .ret) .skip))))
  (.ops [⟨some 18, none, .bin .add .no (.r 8) (.c (.int .i64 1))⟩,
  ⟨some 8, none, .mv (.r 18)⟩] [0, 1, 7, 8]))))
def c_slices_Index_int_int : VFun := ⟨2,
  (.seq (.ops [⟨some 4, none, .asg (.c (.int .i64 0))⟩] [0, 1])
  (.seq (.seq (.ops [⟨some 6, none, .mv (.r 0)⟩,
      ⟨some 7, none, .len .sl (.r 6)⟩,
      ⟨some 8, none, .mv (.c (.int .i64 0))⟩] [0, 1, 7, 8])
    (.block 0 (.loop [0, 1, 7, 8] [] c_slices_Index_int_int_l0)))
  (.seq (.ops [⟨some 4, none, .asg (.c (.int .i64 (-1)))⟩] [4])
  .ret))),
  [.r 4], none⟩
def c_cmp_isNaN_uint32 : VFun := ⟨1,
  (.seq (.ops [⟨some 2, none, .asg (.c (.bool false))⟩] [0])
  (.seq (.ops [⟨some 3, none, .mv (.r 0)⟩,
    ⟨some 4, none, .mv (.r 0)⟩,
    ⟨some 5, none, .bin .neq .no (.r 3) (.r 4)⟩,
    ⟨some 2, none, .asg (.r 5)⟩] [2])
  .ret)),
  [.r 2], none⟩
def c_cmp_isNaN_int : VFun := ⟨1,
  (.seq (.ops [⟨some 2, none, .asg (.c (.bool false))⟩] [0])
  (.seq (.ops [⟨some 3, none, .mv (.r 0)⟩,
    ⟨some 4, none, .mv (.r 0)⟩,
    ⟨some 5, none, .bin .neq .no (.r 3) (.r 4)⟩,
    ⟨some 2, none, .asg (.r 5)⟩] [2])
  .ret)),
  [.r 2], none⟩
def R : Nat → Option Nat := fun _ => none
theorem ok_ring_New : FunOk Try.prog R F.ring_New c_ring_New := funOk_of Try.func7 rfl (by kernel_rfl) (by kernel_rfl) (by kernel_rfl) (by kernel_rfl) (linC_of (by kernel_rfl)) (by kernel_rfl) (of_decide_eq_true (by kernel_rfl)) (by kernel_rfl)
theorem ok_tattlerref1_Mix : FunOk Try.prog R F.tattlerref1_Mix c_tattlerref1_Mix := funOk_of Try.func9 rfl (by kernel_rfl) (by kernel_rfl) (by kernel_rfl) (by kernel_rfl) (linC_of (by kernel_rfl)) (by kernel_rfl) (of_decide_eq_true (by kernel_rfl)) (by kernel_rfl)
theorem ok_tattlerlaw14_RingPlaces_c1 : FunOk Try.prog R F.tattlerlaw14_RingPlaces_c1 c_tattlerlaw14_RingPlaces_c1 := funOk_of Try.func10 rfl (by kernel_rfl) (by kernel_rfl) (by kernel_rfl) (by kernel_rfl) (linC_of (by kernel_rfl)) (by kernel_rfl) (of_decide_eq_true (by kernel_rfl)) (by kernel_rfl)
theorem ok_tattlerref5_Point : FunOk Try.prog R F.tattlerref5_Point c_tattlerref5_Point := funOk_of Try.func11 rfl (by kernel_rfl) (by kernel_rfl) (by kernel_rfl) (by kernel_rfl) (linC_of (by kernel_rfl)) (by kernel_rfl) (of_decide_eq_true (by kernel_rfl)) (by kernel_rfl)
theorem ok_tattlerref5_SameInts : FunOk Try.prog R F.tattlerref5_SameInts c_tattlerref5_SameInts := funOk_of Try.func14 rfl (by kernel_rfl) (by kernel_rfl) (by kernel_rfl) (by kernel_rfl) (linC_of (by kernel_rfl)) (by kernel_rfl) (of_decide_eq_true (by kernel_rfl)) (by kernel_rfl)
theorem ok_ring_Ring_Nodes : FunOk Try.prog R F.ring_Ring_Nodes c_ring_Ring_Nodes := funOk_of Try.func16 rfl (by kernel_rfl) (by kernel_rfl) (by kernel_rfl) (by kernel_rfl) (linC_of (by kernel_rfl)) (by kernel_rfl) (of_decide_eq_true (by kernel_rfl)) (by kernel_rfl)
theorem ok_tattlerref14_In : FunOk Try.prog R F.tattlerref14_In c_tattlerref14_In := funOk_of Try.func19 rfl (by kernel_rfl) (by kernel_rfl) (by kernel_rfl) (by kernel_rfl) (linC_of (by kernel_rfl)) (by kernel_rfl) (of_decide_eq_true (by kernel_rfl)) (by kernel_rfl)
theorem ok_ring_Ring_Made : FunOk Try.prog R F.ring_Ring_Made c_ring_Ring_Made := funOk_of Try.func20 rfl (by kernel_rfl) (by kernel_rfl) (by kernel_rfl) (by kernel_rfl) (linC_of (by kernel_rfl)) (by kernel_rfl) (of_decide_eq_true (by kernel_rfl)) (by kernel_rfl)
theorem ok_keys_Place : FunOk Try.prog R F.keys_Place c_keys_Place := funOk_of Try.func23 rfl (by kernel_rfl) (by kernel_rfl) (by kernel_rfl) (by kernel_rfl) (linC_of (by kernel_rfl)) (by kernel_rfl) (of_decide_eq_true (by kernel_rfl)) (by kernel_rfl)
theorem ok_slices_Contains_int_int : FunOk Try.prog R F.slices_Contains_int_int c_slices_Contains_int_int := funOk_of Try.func24 rfl (by kernel_rfl) (by kernel_rfl) (by kernel_rfl) (by kernel_rfl) (linC_of (by kernel_rfl)) (by kernel_rfl) (of_decide_eq_true (by kernel_rfl)) (by kernel_rfl)
theorem ok_sync_atomic_Int32_Load : FunOk Try.prog R F.sync_atomic_Int32_Load c_sync_atomic_Int32_Load := funOk_of Try.func25 rfl (by kernel_rfl) (by kernel_rfl) (by kernel_rfl) (by kernel_rfl) (linC_of (by kernel_rfl)) (by kernel_rfl) (of_decide_eq_true (by kernel_rfl)) (by kernel_rfl)
theorem ok_sync_atomic_Bool_Load : FunOk Try.prog R F.sync_atomic_Bool_Load c_sync_atomic_Bool_Load := funOk_of Try.func26 rfl (by kernel_rfl) (by kernel_rfl) (by kernel_rfl) (by kernel_rfl) (linC_of (by kernel_rfl)) (by kernel_rfl) (of_decide_eq_true (by kernel_rfl)) (by kernel_rfl)
theorem ok_keys_Point : FunOk Try.prog R F.keys_Point c_keys_Point := funOk_of Try.func28 rfl (by kernel_rfl) (by kernel_rfl) (by kernel_rfl) (by kernel_rfl) (linC_of (by kernel_rfl)) (by kernel_rfl) (of_decide_eq_true (by kernel_rfl)) (by kernel_rfl)
theorem ok_ring_Ring_fill_c1 : FunOk Try.prog R F.ring_Ring_fill_c1 c_ring_Ring_fill_c1 := funOk_of Try.func30 rfl (by kernel_rfl) (by kernel_rfl) (by kernel_rfl) (by kernel_rfl) (linC_of (by kernel_rfl)) (by kernel_rfl) (of_decide_eq_true (by kernel_rfl)) (by kernel_rfl)
theorem ok_cmp_Or_int : FunOk Try.prog R F.cmp_Or_int c_cmp_Or_int := funOk_of Try.func31 rfl (by kernel_rfl) (by kernel_rfl) (by kernel_rfl) (by kernel_rfl) (linC_of (by kernel_rfl)) (by kernel_rfl) (of_decide_eq_true (by kernel_rfl)) (by kernel_rfl)
theorem ok_cmp_Compare_uint32 : FunOk Try.prog R F.cmp_Compare_uint32 c_cmp_Compare_uint32 := funOk_of Try.func32 rfl (by kernel_rfl) (by kernel_rfl) (by kernel_rfl) (by kernel_rfl) (linC_of (by kernel_rfl)) (by kernel_rfl) (of_decide_eq_true (by kernel_rfl)) (by kernel_rfl)
theorem ok_cmp_Compare_int : FunOk Try.prog R F.cmp_Compare_int c_cmp_Compare_int := funOk_of Try.func33 rfl (by kernel_rfl) (by kernel_rfl) (by kernel_rfl) (by kernel_rfl) (linC_of (by kernel_rfl)) (by kernel_rfl) (of_decide_eq_true (by kernel_rfl)) (by kernel_rfl)
theorem ok_sync_atomic_Int32_Add : FunOk Try.prog R F.sync_atomic_Int32_Add c_sync_atomic_Int32_Add := funOk_of Try.func34 rfl (by kernel_rfl) (by kernel_rfl) (by kernel_rfl) (by kernel_rfl) (linC_of (by kernel_rfl)) (by kernel_rfl) (of_decide_eq_true (by kernel_rfl)) (by kernel_rfl)
theorem ok_lazy_Mix : FunOk Try.prog R F.lazy_Mix c_lazy_Mix := funOk_of Try.func35 rfl (by kernel_rfl) (by kernel_rfl) (by kernel_rfl) (by kernel_rfl) (linC_of (by kernel_rfl)) (by kernel_rfl) (of_decide_eq_true (by kernel_rfl)) (by kernel_rfl)
theorem ok_slices_Index_int_int : FunOk Try.prog R F.slices_Index_int_int c_slices_Index_int_int := funOk_of Try.func36 rfl (by kernel_rfl) (by kernel_rfl) (by kernel_rfl) (by kernel_rfl) (linC_of (by kernel_rfl)) (by kernel_rfl) (of_decide_eq_true (by kernel_rfl)) (by kernel_rfl)
theorem ok_cmp_isNaN_uint32 : FunOk Try.prog R F.cmp_isNaN_uint32 c_cmp_isNaN_uint32 := funOk_of Try.func44 rfl (by kernel_rfl) (by kernel_rfl) (by kernel_rfl) (by kernel_rfl) (linC_of (by kernel_rfl)) (by kernel_rfl) (of_decide_eq_true (by kernel_rfl)) (by kernel_rfl)
theorem ok_cmp_isNaN_int : FunOk Try.prog R F.cmp_isNaN_int c_cmp_isNaN_int := funOk_of Try.func45 rfl (by kernel_rfl) (by kernel_rfl) (by kernel_rfl) (by kernel_rfl) (linC_of (by kernel_rfl)) (by kernel_rfl) (of_decide_eq_true (by kernel_rfl)) (by kernel_rfl)
def tab : List (Nat × VFun) := [(F.ring_New, c_ring_New), (F.tattlerref1_Mix, c_tattlerref1_Mix), (F.tattlerlaw14_RingPlaces_c1, c_tattlerlaw14_RingPlaces_c1), (F.tattlerref5_Point, c_tattlerref5_Point), (F.tattlerref5_SameInts, c_tattlerref5_SameInts), (F.ring_Ring_Nodes, c_ring_Ring_Nodes), (F.tattlerref14_In, c_tattlerref14_In), (F.ring_Ring_Made, c_ring_Ring_Made), (F.keys_Place, c_keys_Place), (F.slices_Contains_int_int, c_slices_Contains_int_int), (F.sync_atomic_Int32_Load, c_sync_atomic_Int32_Load), (F.sync_atomic_Bool_Load, c_sync_atomic_Bool_Load), (F.keys_Point, c_keys_Point), (F.ring_Ring_fill_c1, c_ring_Ring_fill_c1), (F.cmp_Or_int, c_cmp_Or_int), (F.cmp_Compare_uint32, c_cmp_Compare_uint32), (F.cmp_Compare_int, c_cmp_Compare_int), (F.sync_atomic_Int32_Add, c_sync_atomic_Int32_Add), (F.lazy_Mix, c_lazy_Mix), (F.slices_Index_int_int, c_slices_Index_int_int), (F.cmp_isNaN_uint32, c_cmp_isNaN_uint32), (F.cmp_isNaN_int, c_cmp_isNaN_int)]
theorem prim_sync_atomic_LoadInt32 : PrimOk Try.prog R F.sync_atomic_LoadInt32 (aloadP .i32) := aload_ok (fn := Try.f37) Try.func37 (by kernel_rfl) (by kernel_rfl) (by kernel_rfl) (by kernel_rfl) rfl
theorem prim_sync_atomic_LoadUint32 : PrimOk Try.prog R F.sync_atomic_LoadUint32 (aloadP .u32) := aload_ok (fn := Try.f38) Try.func38 (by kernel_rfl) (by kernel_rfl) (by kernel_rfl) (by kernel_rfl) rfl
theorem prim_sync_atomic_AddInt32 : PrimOk Try.prog R F.sync_atomic_AddInt32 aaddP := aadd_ok (fn := Try.f46) Try.func46 (by kernel_rfl) (by kernel_rfl) (by kernel_rfl) (by kernel_rfl) rfl
def prims : List (Nat × Prim) := [(F.sync_atomic_LoadInt32, (aloadP .i32)), (F.sync_atomic_LoadUint32, (aloadP .u32)), (F.sync_atomic_AddInt32, aaddP)]
abbrev E : Env := ⟨tabFn tab, primFn prims⟩
theorem envOk : EnvOk Try.prog R E := env_prims Try.checked.mixed ⟨prim_sync_atomic_LoadInt32, prim_sync_atomic_LoadUint32, prim_sync_atomic_AddInt32, trivial⟩ ⟨ok_ring_New, ok_tattlerref1_Mix, ok_tattlerlaw14_RingPlaces_c1, ok_tattlerref5_Point, ok_tattlerref5_SameInts, ok_ring_Ring_Nodes, ok_tattlerref14_In, ok_ring_Ring_Made, ok_keys_Place, ok_slices_Contains_int_int, ok_sync_atomic_Int32_Load, ok_sync_atomic_Bool_Load, ok_keys_Point, ok_ring_Ring_fill_c1, ok_cmp_Or_int, ok_cmp_Compare_uint32, ok_cmp_Compare_int, ok_sync_atomic_Int32_Add, ok_lazy_Mix, ok_slices_Index_int_int, ok_cmp_isNaN_uint32, ok_cmp_isNaN_int, trivial⟩
theorem fn_ring_New : E.fn F.ring_New = some c_ring_New := rfl
theorem fn_tattlerref1_Mix : E.fn F.tattlerref1_Mix = some c_tattlerref1_Mix := rfl
theorem fn_tattlerref5_SameInts : E.fn F.tattlerref5_SameInts = some c_tattlerref5_SameInts := rfl
theorem fn_keys_Place : E.fn F.keys_Place = some c_keys_Place := rfl
theorem fn_slices_Contains_int_int : E.fn F.slices_Contains_int_int = some c_slices_Contains_int_int := rfl
theorem fn_sync_atomic_Bool_Load : E.fn F.sync_atomic_Bool_Load = some c_sync_atomic_Bool_Load := rfl
theorem fn_keys_Point : E.fn F.keys_Point = some c_keys_Point := rfl
theorem fn_ring_Ring_fill_c1 : E.fn F.ring_Ring_fill_c1 = some c_ring_Ring_fill_c1 := rfl
theorem fn_cmp_Or_int : E.fn F.cmp_Or_int = some c_cmp_Or_int := rfl
theorem fn_cmp_Compare_uint32 : E.fn F.cmp_Compare_uint32 = some c_cmp_Compare_uint32 := rfl
theorem fn_cmp_Compare_int : E.fn F.cmp_Compare_int = some c_cmp_Compare_int := rfl
theorem fn_sync_atomic_Int32_Add : E.fn F.sync_atomic_Int32_Add = some c_sync_atomic_Int32_Add := rfl
theorem fn_lazy_Mix : E.fn F.lazy_Mix = some c_lazy_Mix := rfl
theorem fn_slices_Index_int_int : E.fn F.slices_Index_int_int = some c_slices_Index_int_int := rfl
theorem fn_cmp_isNaN_uint32 : E.fn F.cmp_isNaN_uint32 = some c_cmp_isNaN_uint32 := rfl
theorem fn_cmp_isNaN_int : E.fn F.cmp_isNaN_int = some c_cmp_isNaN_int := rfl
end Go.Proofs.Ytkkionmmkmhlpaa.V

