/- The functions' code as the V-machine has it; the kernel sees that it is theirs. -/
import Derived.Test.YtfdhldbhbigfhaaVmG5
import Derived.Test.YtfdhldbhbigfhaaChecked
import Derived.KernelRfl
import Derived.Test.YtfdhldbhbigfhaaVmSL
namespace Go.Proofs.Ytfdhldbhbigfhaa.V
open Go.Vm
set_option maxRecDepth 100000
set_option linter.unusedVariables false
set_option linter.unusedSimpArgs false
def F.bytealg_Compare : Nat := 100
def F.bytes_Compare : Nat := 78
def F.cmp_Compare_int : Nat := 83
def F.cmp_Compare_int64 : Nat := 84
def F.cmp_Or_int : Nat := 82
def F.cmp_isNaN_int : Nat := 103
def F.cmp_isNaN_int64 : Nat := 104
def F.sibs_Join : Nat := 17
def F.sibs_Live : Nat := 23
def F.sibs_May : Nat := 24
def F.sibs_Put : Nat := 20
def F.sibs_Reap : Nat := 30
def F.sibs_Reap_c1 : Nat := 71
def F.sibs_better : Nat := 51
def F.sibs_copied : Nat := 72
def F.sibs_find : Nat := 49
def F.sibs_mayValue : Nat := 60
def F.sibs_own : Nat := 50
def F.sibs_sorted : Nat := 53
def F.slices_Clone_byte_byte : Nat := 58
def F.slices_ContainsFunc_api_Value_api_Value : Nat := 70
def F.slices_IndexFunc_api_Value_api_Value : Nat := 85
def F.tattlerlaw5_SibsGone : Nat := 9
def F.tattlerlaw5_awake : Nat := 19
def F.tattlerlaw5_few : Nat := 26
def F.tattlerref1_Covers : Nat := 33
def F.tattlerref1_Less : Nat := 65
def F.tattlerref1_May : Nat := 29
def F.tattlerref5_May : Nat := 22
def F.vector_Covers : Nat := 52
def F.vector_Join : Nat := 28
def F.vector_Less : Nat := 66
def F.vector_May : Nat := 59
def F.vector_Next : Nat := 61
def F.vector_With : Nat := 62
def F.vector_is : Nat := 79
def c_tattlerlaw5_SibsGone_l0 : VCode := (.seq (.ops [⟨some 46, none, .bin .lss .no (.r 45) (.r 44)⟩] [3, 4, 5, 6, 11, 12, 30, 31, 32, 38, 39, 43, 44, 45, 46])
  (.seq (.cond (.r 46) .skip (.exit 4))
  (.seq (.block 5 (.seq (.ops [⟨some 47, none, .iaddr none 4 (.r 43) (.r 45)⟩,
        ⟨some 48, none, .load true 4 (.r 47)⟩,
        ⟨some 16, none, .alloc [(.int .i64 0), (.int .i64 0), (.sl []), (.bool false)] []⟩,
        ⟨none, none, .store 4 (.r 16) (.r 48) [] none⟩] [3, 4, 5, 6, 11, 12, 16, 30, 31, 32, 38, 39, 43, 44, 45])
      (.ops [⟨some 49, none, .mv (.r 12)⟩,
      ⟨some 50, none, .mv (.r 49)⟩,
      ⟨some 51, some (50, false), .faddr 0 (.r 16)⟩,
      ⟨some 52, some (50, false), .load true 2 (.r 51)⟩,
      ⟨some 53, some (50, false), .faddr 0 (.r 11)⟩,
      ⟨some 54, some (50, false), .load true 2 (.r 53)⟩,
      ⟨some 55, some (50, false), .bin .eql (.agg [.i, .i]) (.r 52) (.r 54)⟩,
      ⟨some 56, none, .pick (.r 50) (.c (.bool true)) (.r 55)⟩,
      ⟨some 12, none, .asg (.r 56)⟩] [3, 4, 5, 6, 11, 12, 30, 31, 32, 38, 39, 43, 44, 45])))
  (.ops [⟨some 57, none, .bin .add .no (.r 45) (.c (.int .i64 1))⟩,
  ⟨some 45, none, .mv (.r 57)⟩] [3, 4, 5, 6, 11, 12, 30, 31, 32, 38, 39, 43, 44, 45]))))
def c_tattlerlaw5_SibsGone_l1 : VCode := (.seq (.ops [⟨some 40, none, .bin .lss .no (.r 39) (.c (.int .i64 2))⟩] [3, 4, 5, 6, 11, 12, 30, 31, 32, 38, 39, 40])
  (.seq (.cond (.r 40) .skip (.exit 2))
  (.seq (.block 3 (.seq (.ops [⟨some 41, none, .index false 2 9 true (.r 38) (.r 39)⟩,
        ⟨some 14, none, .alloc [(.int .i64 0), (.int .i64 0), (.int .i64 0), (.int .i64 0), (.int .i64 0), (.int .i64 0), (.int .i64 0), (.int .i64 0), (.sl [])] []⟩,
        ⟨none, none, .store 9 (.r 14) (.r 41) [] none⟩] [3, 4, 5, 6, 11, 12, 14, 30, 31, 32, 38, 39])
      (.seq (.ops [⟨some 42, none, .faddr 8 (.r 14)⟩,
        ⟨some 43, none, .load false 1 (.r 42)⟩,
        ⟨some 44, none, .len .sl (.r 43)⟩,
        ⟨some 45, none, .mv (.c (.int .i64 0))⟩] [3, 4, 5, 6, 11, 12, 30, 31, 32, 38, 39, 43, 44, 45])
      (.block 4 (.loop [3, 4, 5, 6, 11, 12, 30, 31, 32, 38, 39, 43, 44, 45] [(22, 0, 0)] c_tattlerlaw5_SibsGone_l0)))))
  (.ops [⟨some 58, none, .bin .add .no (.r 39) (.c (.int .i64 1))⟩,
  ⟨some 39, none, .mv (.r 58)⟩] [3, 4, 5, 6, 11, 12, 30, 31, 32, 38, 39]))))
def c_tattlerlaw5_SibsGone_l2 : VCode := (.seq (.ops [⟨some 33, none, .bin .lss .no (.r 32) (.r 31)⟩] [3, 4, 5, 6, 30, 31, 32, 33])
  (.seq (.cond (.r 33) .skip (.exit 0))
  (.seq (.block 1 (.seq (.ops [⟨some 34, none, .iaddr none 4 (.r 30) (.r 32)⟩,
        ⟨some 35, none, .load true 4 (.r 34)⟩,
        ⟨some 11, none, .alloc [(.int .i64 0), (.int .i64 0), (.sl []), (.bool false)] []⟩,
        ⟨none, none, .store 4 (.r 11) (.r 35) [] none⟩] [3, 4, 5, 6, 11, 30, 31, 32])
      (.seq (.ops [⟨some 12, none, .asg (.c (.bool false))⟩] [3, 4, 5, 6, 11, 12, 30, 31, 32])
      (.seq (.seq (.ops [⟨some 36, none, .load true 9 (.r 4)⟩,
          ⟨some 37, none, .load true 9 (.r 5)⟩,
          ⟨some 38, none, .build [(.int .i64 0), (.int .i64 0), (.int .i64 0), (.int .i64 0), (.int .i64 0), (.int .i64 0), (.int .i64 0), (.int .i64 0), (.sl []), (.int .i64 0), (.int .i64 0), (.int .i64 0), (.int .i64 0), (.int .i64 0), (.int .i64 0), (.int .i64 0), (.int .i64 0), (.sl [])] [(0, 9, (.r 36)), (9, 9, (.r 37))]⟩,
          ⟨some 39, none, .mv (.c (.int .i64 0))⟩] [3, 4, 5, 6, 11, 12, 30, 31, 32, 38, 39])
        (.block 2 (.loop [3, 4, 5, 6, 11, 12, 30, 31, 32, 38, 39] [(22, 0, 0)] c_tattlerlaw5_SibsGone_l1)))
      (.seq (.ops [⟨some 59, none, .mv (.r 12)⟩,
        ⟨some 60, none, .un .not (.r 59)⟩] [3, 4, 5, 6, 30, 31, 32, 60])
      (.cond (.r 60) (.seq (.ops [⟨some 8, none, .asg (.c (.bool false))⟩] [8])
        .ret) .skip))))))
  (.ops [⟨some 61, none, .bin .add .no (.r 32) (.c (.int .i64 1))⟩,
  ⟨some 32, none, .mv (.r 61)⟩] [3, 4, 5, 6, 30, 31, 32]))))
/-- tattler/tattlerlaw5.SibsGone -/
def c_tattlerlaw5_SibsGone : VFun := ⟨4,
  (.seq (.ops [⟨some 4, none, .box 9 (.r 0)⟩,
    ⟨some 5, none, .box 9 (.r 1)⟩,
    ⟨some 6, none, .box 8 (.r 2)⟩,
    ⟨some 8, none, .asg (.c (.bool false))⟩] [3, 4, 5, 6])
  (.seq (.seq (.ops [⟨some 20, none, .load true 9 (.r 4)⟩,
      ⟨some 21, none, .load true 9 (.r 5)⟩,
      ⟨some 22, none, .bslice (.agg [(.int .i64 0), (.int .i64 0), (.int .i64 0), (.int .i64 0), (.int .i64 0), (.int .i64 0), (.int .i64 0), (.int .i64 0), (.sl [])]) 9 2 [(0, (.r 20)), (1, (.r 21))]⟩,
      ⟨some 23, none, .call false F.tattlerlaw5_few [(.r 22)]⟩,
      ⟨some 24, none, .un .not (.r 23)⟩] [3, 4, 5, 6, 24])
    (.cond (.r 24) (.seq (.ops [⟨some 25, none, .call false F.tattlerlaw5_awake []⟩,
        ⟨some 8, none, .asg (.r 25)⟩] [8])
      .ret) .skip))
  (.seq (.ops [⟨some 26, none, .load true 9 (.r 4)⟩,
    ⟨some 27, none, .load true 9 (.r 5)⟩,
    ⟨some 28, none, .call false F.sibs_Join [(.r 26), (.r 27)]⟩,
    ⟨some 9, none, .alloc [(.int .i64 0), (.int .i64 0), (.int .i64 0), (.int .i64 0), (.int .i64 0), (.int .i64 0), (.int .i64 0), (.int .i64 0), (.sl [])] []⟩,
    ⟨none, none, .store 9 (.r 9) (.r 28) [] none⟩] [3, 4, 5, 6, 9])
  (.seq (.seq (.ops [⟨some 29, none, .faddr 8 (.r 9)⟩,
      ⟨some 30, none, .load false 1 (.r 29)⟩,
      ⟨some 31, none, .len .sl (.r 30)⟩,
      ⟨some 32, none, .mv (.c (.int .i64 0))⟩] [3, 4, 5, 6, 30, 31, 32])
    (.block 0 (.loop [3, 4, 5, 6, 30, 31, 32] [(22, 0, 0)] c_tattlerlaw5_SibsGone_l2)))
  (.seq (.xops 11 10 [0, 2, 3, 4, 6] [⟨some 63, none, .load true 9 (.r 4)⟩,
    ⟨some 64, none, .faddr 0 (.r 4)⟩,
    ⟨some 65, none, .load true 8 (.r 64)⟩,
    ⟨some 66, none, .load true 8 (.r 6)⟩,
    ⟨some 67, none, .call true F.vector_Join [(.r 65), (.r 66)]⟩,
    ⟨some 68, none, .mv (.r 3)⟩,
    ⟨some 69, none, .call true F.sibs_Put [(.r 63), (.r 67), (.r 68), (.c (.sl [])), (.c (.bool true))]⟩,
    ⟨some 62, none, .mv (.r 69)⟩,
    ⟨some 70, none, .extract 0 (.r 62)⟩,
    ⟨some 71, none, .extract 1 (.r 62)⟩,
    ⟨some 17, none, .alloc [(.int .i64 0), (.int .i64 0), (.int .i64 0), (.int .i64 0), (.int .i64 0), (.int .i64 0), (.int .i64 0), (.int .i64 0), (.sl [])] []⟩,
    ⟨none, none, .store 9 (.r 17) (.r 70) [] none⟩,
    ⟨some 18, none, .asg (.r 71)⟩] [4, 6, 17, 18])
  (.seq (.seq (.ops [⟨some 72, none, .mv (.r 18)⟩,
      ⟨some 73, none, .bin .neq .no (.r 72) (.c (.int .i64 0))⟩,
      ⟨some 74, none, .mv (.r 73)⟩,
      ⟨some 75, some (74, false), .load true 8 (.r 6)⟩,
      ⟨some 76, some (74, false), .call false F.tattlerref1_May [(.r 75)]⟩,
      ⟨some 77, some (74, false), .un .not (.r 76)⟩,
      ⟨some 78, none, .pick (.r 74) (.c (.bool true)) (.r 77)⟩] [4, 17, 78])
    (.cond (.r 78) (.seq (.ops [⟨some 79, none, .call false F.tattlerlaw5_awake []⟩,
        ⟨some 8, none, .asg (.r 79)⟩] [8])
      .ret) .skip))
  (.seq (.xops 5 4 [0, 1, 2, 3] [⟨some 80, none, .load true 9 (.r 17)⟩,
    ⟨some 81, none, .call true F.sibs_Reap [(.r 80)]⟩,
    ⟨some 82, none, .load true 9 (.r 4)⟩,
    ⟨some 83, none, .call true F.sibs_Join [(.r 81), (.r 82)]⟩,
    ⟨some 19, none, .alloc [(.int .i64 0), (.int .i64 0), (.int .i64 0), (.int .i64 0), (.int .i64 0), (.int .i64 0), (.int .i64 0), (.int .i64 0), (.sl [])] []⟩,
    ⟨none, none, .store 9 (.r 19) (.r 83) [] none⟩] [4, 17, 19])
  (.seq (.ops [⟨some 84, none, .faddr 8 (.r 17)⟩,
    ⟨some 85, none, .load false 1 (.r 84)⟩,
    ⟨some 86, none, .len .sl (.r 85)⟩,
    ⟨some 87, none, .bin .eql .no (.r 86) (.c (.int .i64 1))⟩,
    ⟨some 88, none, .mv (.r 87)⟩,
    ⟨some 89, some (88, true), .faddr 8 (.r 19)⟩,
    ⟨some 90, some (88, true), .load false 1 (.r 89)⟩,
    ⟨some 91, some (88, true), .len .sl (.r 90)⟩,
    ⟨some 92, some (88, true), .bin .eql .no (.r 91) (.c (.int .i64 0))⟩,
    ⟨some 93, none, .pick (.r 88) (.r 92) (.c (.bool false))⟩,
    ⟨some 94, none, .mv (.r 93)⟩,
    ⟨some 95, some (94, true), .load true 9 (.r 17)⟩,
    ⟨some 96, some (94, true), .load true 9 (.r 4)⟩,
    ⟨some 97, some (94, true), .call false F.sibs_Join [(.r 95), (.r 96)]⟩,
    ⟨some 98, some (94, true), .call false F.sibs_Live [(.r 97)]⟩,
    ⟨some 99, some (94, true), .len .sl (.r 98)⟩,
    ⟨some 100, some (94, true), .bin .eql .no (.r 99) (.c (.int .i64 0))⟩,
    ⟨some 101, none, .pick (.r 94) (.r 100) (.c (.bool false))⟩,
    ⟨some 102, none, .mv (.r 101)⟩,
    ⟨some 103, some (102, true), .call false F.tattlerlaw5_awake []⟩,
    ⟨some 104, none, .pick (.r 102) (.r 103) (.c (.bool false))⟩,
    ⟨some 8, none, .asg (.r 104)⟩] [8])
  .ret)))))))),
  [.r 8], none⟩
def c_sibs_Join_l0 : VCode := (.seq (.ops [⟨some 25, none, .bin .lss .no (.r 24) (.r 23)⟩] [2, 3, 4, 5, 22, 23, 24, 25])
  (.seq (.cond (.r 25) .skip (.exit 0))
  (.seq (.block 1 (.seq (.ops [⟨some 26, none, .iaddr none 4 (.r 22) (.r 24)⟩,
        ⟨some 27, none, .load true 4 (.r 26)⟩,
        ⟨some 7, none, .alloc [(.int .i64 0), (.int .i64 0), (.sl []), (.bool false)] []⟩,
        ⟨none, none, .store 4 (.r 7) (.r 27) [] none⟩] [2, 3, 4, 5, 7, 22, 23, 24])
      (.seq (.ops [⟨some 29, none, .load true 9 (.r 3)⟩,
        ⟨some 30, none, .faddr 0 (.r 7)⟩,
        ⟨some 31, none, .load true 2 (.r 30)⟩,
        ⟨some 32, none, .call false F.sibs_find [(.r 29), (.r 31)]⟩,
        ⟨some 28, none, .mv (.r 32)⟩,
        ⟨some 33, none, .extract 0 (.r 28)⟩,
        ⟨some 34, none, .extract 1 (.r 28)⟩,
        ⟨some 8, none, .alloc [(.int .i64 0), (.int .i64 0), (.sl []), (.bool false)] []⟩,
        ⟨none, none, .store 4 (.r 8) (.r 33) [] none⟩,
        ⟨some 9, none, .asg (.r 34)⟩] [2, 3, 4, 5, 7, 8, 9, 22, 23, 24])
      (.seq (.ops [⟨some 35, none, .mv (.r 9)⟩] [2, 3, 4, 5, 7, 8, 22, 23, 24, 35])
      (.cond (.r 35) (.ops [⟨some 36, none, .mv (.r 5)⟩,
        ⟨some 37, none, .load true 4 (.r 7)⟩,
        ⟨some 38, none, .load true 4 (.r 8)⟩,
        ⟨some 39, none, .call false F.sibs_better [(.r 37), (.r 38)]⟩,
        ⟨some 40, none, .call false F.sibs_own [(.r 39)]⟩,
        ⟨some 41, none, .bslice (.agg [(.int .i64 0), (.int .i64 0), (.sl []), (.bool false)]) 4 1 [(0, (.r 40))]⟩,
        ⟨some 42, none, .appl 5 4 48 (.r 36) (.r 41)⟩,
        ⟨some 5, none, .asg (.r 42)⟩] [2, 3, 4, 5, 22, 23, 24]) (.seq (.ops [⟨some 43, none, .faddr 0 (.r 3)⟩,
          ⟨some 44, none, .load true 8 (.r 43)⟩,
          ⟨some 45, none, .faddr 0 (.r 7)⟩,
          ⟨some 46, none, .load true 2 (.r 45)⟩,
          ⟨some 47, none, .call false F.vector_Covers [(.r 44), (.r 46)]⟩,
          ⟨some 48, none, .un .not (.r 47)⟩] [2, 3, 4, 5, 7, 22, 23, 24, 48])
        (.cond (.r 48) (.ops [⟨some 49, none, .mv (.r 5)⟩,
          ⟨some 50, none, .load true 4 (.r 7)⟩,
          ⟨some 51, none, .call false F.sibs_own [(.r 50)]⟩,
          ⟨some 52, none, .bslice (.agg [(.int .i64 0), (.int .i64 0), (.sl []), (.bool false)]) 4 1 [(0, (.r 51))]⟩,
          ⟨some 53, none, .appl 5 4 48 (.r 49) (.r 52)⟩,
          ⟨some 5, none, .asg (.r 53)⟩] [2, 3, 4, 5, 22, 23, 24]) .skip)))))))
  (.ops [⟨some 54, none, .bin .add .no (.r 24) (.c (.int .i64 1))⟩,
  ⟨some 24, none, .mv (.r 54)⟩] [2, 3, 4, 5, 22, 23, 24]))))
def c_sibs_Join_l1 : VCode := (.seq (.ops [⟨some 59, none, .bin .lss .no (.r 58) (.r 57)⟩] [2, 3, 4, 5, 56, 57, 58, 59])
  (.seq (.cond (.r 59) .skip (.exit 2))
  (.seq (.block 3 (.seq (.ops [⟨some 60, none, .iaddr none 4 (.r 56) (.r 58)⟩,
        ⟨some 61, none, .load true 4 (.r 60)⟩,
        ⟨some 11, none, .alloc [(.int .i64 0), (.int .i64 0), (.sl []), (.bool false)] []⟩,
        ⟨none, none, .store 4 (.r 11) (.r 61) [] none⟩] [2, 3, 4, 5, 11, 56, 57, 58])
      (.seq (.ops [⟨some 62, none, .faddr 0 (.r 2)⟩,
        ⟨some 63, none, .load true 8 (.r 62)⟩,
        ⟨some 64, none, .faddr 0 (.r 11)⟩,
        ⟨some 65, none, .load true 2 (.r 64)⟩,
        ⟨some 66, none, .call false F.vector_Covers [(.r 63), (.r 65)]⟩,
        ⟨some 67, none, .un .not (.r 66)⟩] [2, 3, 4, 5, 11, 56, 57, 58, 67])
      (.cond (.r 67) (.ops [⟨some 68, none, .mv (.r 5)⟩,
        ⟨some 69, none, .load true 4 (.r 11)⟩,
        ⟨some 70, none, .call false F.sibs_own [(.r 69)]⟩,
        ⟨some 71, none, .bslice (.agg [(.int .i64 0), (.int .i64 0), (.sl []), (.bool false)]) 4 1 [(0, (.r 70))]⟩,
        ⟨some 72, none, .appl 5 4 48 (.r 68) (.r 71)⟩,
        ⟨some 5, none, .asg (.r 72)⟩] [2, 3, 4, 5, 56, 57, 58]) .skip))))
  (.ops [⟨some 73, none, .bin .add .no (.r 58) (.c (.int .i64 1))⟩,
  ⟨some 58, none, .mv (.r 73)⟩] [2, 3, 4, 5, 56, 57, 58]))))
/-- tattler/sibs.Join -/
def c_sibs_Join : VFun := ⟨2,
  (.seq (.ops [⟨some 2, none, .box 9 (.r 0)⟩,
    ⟨some 3, none, .box 9 (.r 1)⟩,
    ⟨some 4, none, .alloc [(.int .i64 0), (.int .i64 0), (.int .i64 0), (.int .i64 0), (.int .i64 0), (.int .i64 0), (.int .i64 0), (.int .i64 0), (.sl [])] []⟩] [2, 3, 4])
  (.seq (.seq (.ops [⟨some 12, none, .load true 9 (.r 2)⟩,
      ⟨some 13, none, .call false F.sibs_May [(.r 12)]⟩,
      ⟨some 14, none, .un .not (.r 13)⟩,
      ⟨some 15, none, .mv (.r 14)⟩,
      ⟨some 16, some (15, false), .load true 9 (.r 3)⟩,
      ⟨some 17, some (15, false), .call false F.sibs_May [(.r 16)]⟩,
      ⟨some 18, some (15, false), .un .not (.r 17)⟩,
      ⟨some 19, none, .pick (.r 15) (.c (.bool true)) (.r 18)⟩] [2, 3, 4, 19])
    (.cond (.r 19) (.seq (.ops [⟨some 20, none, .build [(.int .i64 0), (.int .i64 0), (.int .i64 0), (.int .i64 0), (.int .i64 0), (.int .i64 0), (.int .i64 0), (.int .i64 0), (.sl [])] []⟩,
        ⟨none, none, .store 9 (.r 4) (.r 20) [] none⟩] [4])
      .ret) .skip))
  (.seq (.ops [⟨some 5, none, .newl 4⟩] [2, 3, 4, 5])
  (.seq (.seq (.ops [⟨some 21, none, .faddr 8 (.r 2)⟩,
      ⟨some 22, none, .load false 1 (.r 21)⟩,
      ⟨some 23, none, .len .sl (.r 22)⟩,
      ⟨some 24, none, .mv (.c (.int .i64 0))⟩] [2, 3, 4, 5, 22, 23, 24])
    (.block 0 (.loop [2, 3, 4, 5, 22, 23, 24] [(5, 0, 1000004)] c_sibs_Join_l0)))
  (.seq (.seq (.ops [⟨some 55, none, .faddr 8 (.r 3)⟩,
      ⟨some 56, none, .load false 1 (.r 55)⟩,
      ⟨some 57, none, .len .sl (.r 56)⟩,
      ⟨some 58, none, .mv (.c (.int .i64 0))⟩] [2, 3, 4, 5, 56, 57, 58])
    (.block 2 (.loop [2, 3, 4, 5, 56, 57, 58] [(5, 0, 1000004)] c_sibs_Join_l1)))
  (.seq (.ops [⟨some 74, none, .mv (.r 5)⟩,
    ⟨some 75, none, .calll F.sibs_sorted 5 4 sortV (.r 74) []⟩,
    ⟨some 5, none, .asg (.r 75)⟩,
    ⟨some 5, none, .frzl 5 4⟩] [2, 3, 4, 5])
  (.seq (.dops 10 [⟨some 76, none, .faddr 0 (.r 2)⟩,
    ⟨some 77, none, .load true 8 (.r 76)⟩,
    ⟨some 78, none, .faddr 0 (.r 3)⟩,
    ⟨some 79, none, .load true 8 (.r 78)⟩,
    ⟨some 80, none, .call true F.vector_Join [(.r 77), (.r 79)]⟩,
    ⟨some 81, none, .mv (.r 5)⟩,
    ⟨some 82, none, .mv (.r 5)⟩,
    ⟨some 83, none, .len .sl (.r 82)⟩,
    ⟨some 84, none, .mn [(.r 83), (.c (.int .i64 16))]⟩,
    ⟨some 85, none, .slice false 4 (.r 81) none (some (.r 84)) none⟩,
    ⟨some 86, none, .build [(.int .i64 0), (.int .i64 0), (.int .i64 0), (.int .i64 0), (.int .i64 0), (.int .i64 0), (.int .i64 0), (.int .i64 0), (.sl [])] [(0, 8, (.r 80)), (8, 1, (.r 85))]⟩,
    ⟨none, none, .store 9 (.r 4) (.r 86) [] none⟩] [4])
  .ret))))))),
  [.cell 4 true 9], none⟩
/-- tattler/tattlerlaw5.awake -/
def c_tattlerlaw5_awake : VFun := ⟨0,
  (.seq (.ops [⟨some 0, none, .asg (.c (.bool false))⟩] [])
  (.seq (.ops [⟨some 7, none, .build [(.int .i64 0), (.int .i64 0), (.int .i64 0), (.int .i64 0), (.int .i64 0), (.int .i64 0), (.int .i64 0), (.int .i64 0), (.sl [])] []⟩,
    ⟨some 8, none, .build [(.int .i64 0), (.int .i64 0), (.int .i64 0), (.int .i64 0), (.int .i64 0), (.int .i64 0), (.int .i64 0), (.int .i64 0)] []⟩,
    ⟨some 9, none, .bsll (.int .u8 0) 1 1 [(0, (.c (.int .u8 120)))]⟩,
    ⟨some 10, none, .mrk 9 (.r 9)⟩,
    ⟨some 11, none, .call false F.sibs_Put [(.r 7), (.r 8), (.c (.int .i64 1)), (.r 10), (.c (.bool false))]⟩,
    ⟨some 6, none, .mv (.r 11)⟩,
    ⟨some 12, none, .extract 0 (.r 6)⟩,
    ⟨some 13, none, .extract 1 (.r 6)⟩,
    ⟨some 1, none, .alloc [(.int .i64 0), (.int .i64 0), (.int .i64 0), (.int .i64 0), (.int .i64 0), (.int .i64 0), (.int .i64 0), (.int .i64 0), (.sl [])] []⟩,
    ⟨none, none, .store 9 (.r 1) (.r 12) [] none⟩,
    ⟨some 2, none, .asg (.r 13)⟩] [1, 2])
  (.seq (.ops [⟨some 15, none, .build [(.int .i64 0), (.int .i64 0), (.int .i64 0), (.int .i64 0), (.int .i64 0), (.int .i64 0), (.int .i64 0), (.int .i64 0), (.sl [])] []⟩,
    ⟨some 16, none, .build [(.int .i64 0), (.int .i64 0), (.int .i64 0), (.int .i64 0), (.int .i64 0), (.int .i64 0), (.int .i64 0), (.int .i64 0)] []⟩,
    ⟨some 17, none, .bsll (.int .u8 0) 1 1 [(0, (.c (.int .u8 121)))]⟩,
    ⟨some 18, none, .mrk 17 (.r 17)⟩,
    ⟨some 19, none, .call false F.sibs_Put [(.r 15), (.r 16), (.c (.int .i64 2)), (.r 18), (.c (.bool false))]⟩,
    ⟨some 14, none, .mv (.r 19)⟩,
    ⟨some 20, none, .extract 0 (.r 14)⟩,
    ⟨some 21, none, .extract 1 (.r 14)⟩,
    ⟨some 3, none, .alloc [(.int .i64 0), (.int .i64 0), (.int .i64 0), (.int .i64 0), (.int .i64 0), (.int .i64 0), (.int .i64 0), (.int .i64 0), (.sl [])] []⟩,
    ⟨none, none, .store 9 (.r 3) (.r 20) [] none⟩,
    ⟨some 4, none, .asg (.r 21)⟩] [1, 2, 3, 4])
  (.seq (.ops [⟨some 22, none, .load true 9 (.r 1)⟩,
    ⟨some 23, none, .load true 9 (.r 3)⟩,
    ⟨some 24, none, .call false F.sibs_Join [(.r 22), (.r 23)]⟩,
    ⟨some 5, none, .alloc [(.int .i64 0), (.int .i64 0), (.int .i64 0), (.int .i64 0), (.int .i64 0), (.int .i64 0), (.int .i64 0), (.int .i64 0), (.sl [])] []⟩,
    ⟨none, none, .store 9 (.r 5) (.r 24) [] none⟩] [1, 2, 4, 5])
  (.seq (.ops [⟨some 25, none, .mv (.r 2)⟩,
    ⟨some 26, none, .bin .eql .no (.r 25) (.c (.int .i64 0))⟩,
    ⟨some 27, none, .mv (.r 26)⟩,
    ⟨some 28, some (27, true), .mv (.r 4)⟩,
    ⟨some 29, some (27, true), .bin .eql .no (.r 28) (.c (.int .i64 0))⟩,
    ⟨some 30, none, .pick (.r 27) (.r 29) (.c (.bool false))⟩,
    ⟨some 31, none, .mv (.r 30)⟩,
    ⟨some 32, some (31, true), .faddr 0 (.r 1)⟩,
    ⟨some 33, some (31, true), .iaddr (some 8) 1 (.r 32) (.c (.int .i64 1))⟩,
    ⟨some 34, some (31, true), .load false 1 (.r 33)⟩,
    ⟨some 35, some (31, true), .bin .eql .no (.r 34) (.c (.int .i64 1))⟩,
    ⟨some 36, none, .pick (.r 31) (.r 35) (.c (.bool false))⟩,
    ⟨some 37, none, .mv (.r 36)⟩,
    ⟨some 38, some (37, true), .faddr 8 (.r 5)⟩,
    ⟨some 39, some (37, true), .load false 1 (.r 38)⟩,
    ⟨some 40, some (37, true), .len .sl (.r 39)⟩,
    ⟨some 41, some (37, true), .bin .eql .no (.r 40) (.c (.int .i64 2))⟩,
    ⟨some 42, none, .pick (.r 37) (.r 41) (.c (.bool false))⟩,
    ⟨some 43, none, .mv (.r 42)⟩,
    ⟨some 44, some (43, true), .load true 9 (.r 5)⟩,
    ⟨some 45, some (43, true), .call false F.sibs_Live [(.r 44)]⟩,
    ⟨some 46, some (43, true), .len .sl (.r 45)⟩,
    ⟨some 47, some (43, true), .bin .eql .no (.r 46) (.c (.int .i64 2))⟩,
    ⟨some 48, none, .pick (.r 43) (.r 47) (.c (.bool false))⟩,
    ⟨some 0, none, .asg (.r 48)⟩] [0])
  .ret))))),
  [.r 0], none⟩
def c_sibs_Put_l0 : VCode := (.seq (.ops [⟨some 67, none, .bin .lss .no (.r 66) (.r 65)⟩] [6, 10, 13, 14, 16, 64, 65, 66, 67])
  (.seq (.cond (.r 67) .skip (.exit 0))
  (.seq (.block 1 (.seq (.ops [⟨some 68, none, .iaddr none 4 (.r 64) (.r 66)⟩,
        ⟨some 69, none, .load true 4 (.r 68)⟩,
        ⟨some 18, none, .alloc [(.int .i64 0), (.int .i64 0), (.sl []), (.bool false)] []⟩,
        ⟨none, none, .store 4 (.r 18) (.r 69) [] none⟩] [6, 10, 13, 14, 16, 18, 64, 65, 66])
      (.seq (.ops [⟨some 70, none, .load true 8 (.r 6)⟩,
        ⟨some 71, none, .faddr 0 (.r 18)⟩,
        ⟨some 72, none, .load true 2 (.r 71)⟩,
        ⟨some 73, none, .call false F.vector_Covers [(.r 70), (.r 72)]⟩,
        ⟨some 74, none, .un .not (.r 73)⟩] [6, 10, 13, 14, 16, 18, 64, 65, 66, 74])
      (.cond (.r 74) (.ops [⟨some 75, none, .mv (.r 16)⟩,
        ⟨some 76, none, .load true 4 (.r 18)⟩,
        ⟨some 77, none, .call false F.sibs_own [(.r 76)]⟩,
        ⟨some 78, none, .bslice (.agg [(.int .i64 0), (.int .i64 0), (.sl []), (.bool false)]) 4 1 [(0, (.r 77))]⟩,
        ⟨some 79, none, .appl 16 4 48 (.r 75) (.r 78)⟩,
        ⟨some 16, none, .asg (.r 79)⟩] [6, 10, 13, 14, 16, 64, 65, 66]) .skip))))
  (.ops [⟨some 80, none, .bin .add .no (.r 66) (.c (.int .i64 1))⟩,
  ⟨some 66, none, .mv (.r 80)⟩] [6, 10, 13, 14, 16, 64, 65, 66]))))
/-- tattler/sibs.Put -/
def c_sibs_Put : VFun := ⟨5,
  (.seq (.ops [⟨some 5, none, .box 9 (.r 0)⟩,
    ⟨some 6, none, .box 8 (.r 1)⟩,
    ⟨some 10, none, .alloc [(.int .i64 0), (.int .i64 0), (.int .i64 0), (.int .i64 0), (.int .i64 0), (.int .i64 0), (.int .i64 0), (.int .i64 0), (.sl [])] []⟩,
    ⟨some 11, none, .asg (.c (.int .i64 0))⟩] [2, 3, 4, 5, 6, 10])
  (.seq (.ops [⟨some 19, none, .mv (.r 3)⟩,
    ⟨some 20, none, .call false F.slices_Clone_byte_byte [(.r 19)]⟩,
    ⟨some 21, none, .mv (.r 4)⟩,
    ⟨some 22, none, .build [(.int .i64 0), (.int .i64 0), (.sl []), (.bool false)] [(2, 1, (.r 20)), (3, 1, (.r 21))]⟩,
    ⟨some 12, none, .alloc [(.int .i64 0), (.int .i64 0), (.sl []), (.bool false)] []⟩,
    ⟨none, none, .store 4 (.r 12) (.r 22) [] none⟩] [2, 5, 6, 10, 12])
  (.seq (.seq (.ops [⟨some 23, none, .load true 9 (.r 5)⟩,
      ⟨some 24, none, .call false F.sibs_May [(.r 23)]⟩,
      ⟨some 25, none, .un .not (.r 24)⟩,
      ⟨some 26, none, .mv (.r 25)⟩,
      ⟨some 27, some (26, false), .load true 8 (.r 6)⟩,
      ⟨some 28, some (26, false), .call false F.vector_May [(.r 27)]⟩,
      ⟨some 29, some (26, false), .un .not (.r 28)⟩,
      ⟨some 30, none, .pick (.r 26) (.c (.bool true)) (.r 29)⟩,
      ⟨some 31, none, .mv (.r 30)⟩,
      ⟨some 32, some (31, false), .mv (.r 2)⟩,
      ⟨some 33, some (31, false), .bin .lss .no (.r 32) (.c (.int .i64 0))⟩,
      ⟨some 34, none, .pick (.r 31) (.c (.bool true)) (.r 33)⟩,
      ⟨some 35, none, .mv (.r 34)⟩,
      ⟨some 36, some (35, false), .mv (.r 2)⟩,
      ⟨some 37, some (35, false), .bin .geq .no (.r 36) (.c (.int .i64 8))⟩,
      ⟨some 38, none, .pick (.r 35) (.c (.bool true)) (.r 37)⟩,
      ⟨some 39, none, .mv (.r 38)⟩,
      ⟨some 40, some (39, false), .load true 4 (.r 12)⟩,
      ⟨some 41, some (39, false), .call false F.sibs_mayValue [(.r 40)]⟩,
      ⟨some 42, some (39, false), .un .not (.r 41)⟩,
      ⟨some 43, none, .pick (.r 39) (.c (.bool true)) (.r 42)⟩] [2, 5, 6, 10, 12, 43])
    (.cond (.r 43) (.seq (.ops [⟨some 44, none, .build [(.int .i64 0), (.int .i64 0), (.int .i64 0), (.int .i64 0), (.int .i64 0), (.int .i64 0), (.int .i64 0), (.int .i64 0), (.sl [])] []⟩,
        ⟨none, none, .store 9 (.r 10) (.r 44) [] none⟩,
        ⟨some 11, none, .asg (.c (.int .i64 1))⟩] [10, 11])
      .ret) .skip))
  (.seq (.ops [⟨some 45, none, .faddr 0 (.r 5)⟩,
    ⟨some 46, none, .load true 8 (.r 45)⟩,
    ⟨some 47, none, .load true 8 (.r 6)⟩,
    ⟨some 48, none, .call false F.vector_Join [(.r 46), (.r 47)]⟩,
    ⟨some 13, none, .alloc [(.int .i64 0), (.int .i64 0), (.int .i64 0), (.int .i64 0), (.int .i64 0), (.int .i64 0), (.int .i64 0), (.int .i64 0)] []⟩,
    ⟨none, none, .store 8 (.r 13) (.r 48) [] none⟩] [2, 5, 6, 10, 12, 13])
  (.seq (.ops [⟨some 50, none, .load true 8 (.r 13)⟩,
    ⟨some 51, none, .mv (.r 2)⟩,
    ⟨some 52, none, .call false F.vector_Next [(.r 50), (.r 51)]⟩,
    ⟨some 49, none, .mv (.r 52)⟩,
    ⟨some 53, none, .extract 0 (.r 49)⟩,
    ⟨some 54, none, .extract 1 (.r 49)⟩,
    ⟨some 14, none, .alloc [(.int .i64 0), (.int .i64 0)] []⟩,
    ⟨none, none, .store 2 (.r 14) (.r 53) [] none⟩,
    ⟨some 15, none, .asg (.r 54)⟩] [5, 6, 10, 12, 13, 14, 15])
  (.seq (.seq (.ops [⟨some 55, none, .mv (.r 15)⟩,
      ⟨some 56, none, .bin .neq .no (.r 55) (.c (.int .i64 0))⟩] [5, 6, 10, 12, 13, 14, 15, 56])
    (.cond (.r 56) (.seq (.ops [⟨some 57, none, .build [(.int .i64 0), (.int .i64 0), (.int .i64 0), (.int .i64 0), (.int .i64 0), (.int .i64 0), (.int .i64 0), (.int .i64 0), (.sl [])] []⟩,
        ⟨some 58, none, .mv (.r 15)⟩,
        ⟨none, none, .store 9 (.r 10) (.r 57) [] none⟩,
        ⟨some 11, none, .asg (.r 58)⟩] [10, 11])
      .ret) .skip))
  (.seq (.ops [⟨some 59, none, .load true 2 (.r 14)⟩,
    ⟨some 60, none, .faddr 0 (.r 12)⟩,
    ⟨none, none, .store 2 (.r 60) (.r 59) [] none⟩] [5, 6, 10, 12, 13, 14])
  (.seq (.ops [⟨some 61, none, .load true 4 (.r 12)⟩,
    ⟨some 62, none, .bsll (.agg [(.int .i64 0), (.int .i64 0), (.sl []), (.bool false)]) 4 1 [(0, (.r 61))]⟩,
    ⟨some 16, none, .asg (.r 62)⟩] [5, 6, 10, 13, 14, 16])
  (.seq (.seq (.ops [⟨some 63, none, .faddr 8 (.r 5)⟩,
      ⟨some 64, none, .load false 1 (.r 63)⟩,
      ⟨some 65, none, .len .sl (.r 64)⟩,
      ⟨some 66, none, .mv (.c (.int .i64 0))⟩] [6, 10, 13, 14, 16, 64, 65, 66])
    (.block 0 (.loop [6, 10, 13, 14, 16, 64, 65, 66] [(16, 0, 1000004)] c_sibs_Put_l0)))
  (.seq (.seq (.ops [⟨some 81, none, .mv (.r 16)⟩,
      ⟨some 82, none, .lenl 16 (.r 81)⟩,
      ⟨some 83, none, .bin .gtr .no (.r 82) (.c (.int .i64 16))⟩] [10, 13, 14, 16, 83])
    (.cond (.r 83) (.seq (.ops [⟨some 84, none, .build [(.int .i64 0), (.int .i64 0), (.int .i64 0), (.int .i64 0), (.int .i64 0), (.int .i64 0), (.int .i64 0), (.int .i64 0), (.sl [])] []⟩,
        ⟨none, none, .store 9 (.r 10) (.r 84) [] none⟩,
        ⟨some 11, none, .asg (.c (.int .i64 11))⟩] [10, 11])
      .ret) .skip))
  (.seq (.ops [⟨some 85, none, .load true 8 (.r 13)⟩,
    ⟨some 86, none, .load true 2 (.r 14)⟩,
    ⟨some 87, none, .call false F.vector_With [(.r 85), (.r 86)]⟩,
    ⟨some 88, none, .mv (.r 16)⟩,
    ⟨some 89, none, .calll F.sibs_sorted 16 4 sortV (.r 88) []⟩,
    ⟨some 89, none, .frzl 89 4⟩,
    ⟨some 90, none, .build [(.int .i64 0), (.int .i64 0), (.int .i64 0), (.int .i64 0), (.int .i64 0), (.int .i64 0), (.int .i64 0), (.int .i64 0), (.sl [])] [(0, 8, (.r 87)), (8, 1, (.r 89))]⟩,
    ⟨none, none, .store 9 (.r 10) (.r 90) [] none⟩,
    ⟨some 11, none, .asg (.c (.int .i64 0))⟩] [10, 11])
  .ret))))))))))),
  [.cell 10 true 9, .r 11], none⟩
def c_tattlerref5_May_l0 : VCode := (.seq (.ops [⟨some 19, none, .bin .lss .no (.r 18) (.r 17)⟩] [1, 16, 17, 18, 19])
  (.seq (.cond (.r 19) .skip (.exit 0))
  (.seq (.block 1 (.seq (.ops [⟨some 20, none, .mv (.r 18)⟩,
        ⟨some 21, none, .iaddr none 4 (.r 16) (.r 18)⟩,
        ⟨some 22, none, .load true 4 (.r 21)⟩,
        ⟨some 4, none, .alloc [(.int .i64 0), (.int .i64 0), (.sl []), (.bool false)] []⟩,
        ⟨some 3, none, .asg (.r 20)⟩,
        ⟨none, none, .store 4 (.r 4) (.r 22) [] none⟩] [1, 3, 4, 16, 17, 18])
      (.seq (.dops 19 [⟨some 23, none, .faddr 0 (.r 1)⟩,
        ⟨some 24, none, .load true 8 (.r 23)⟩,
        ⟨some 25, none, .faddr 0 (.r 4)⟩,
        ⟨some 26, none, .load true 2 (.r 25)⟩,
        ⟨some 27, none, .call true F.tattlerref1_Covers [(.r 24), (.r 26)]⟩,
        ⟨some 28, none, .un .not (.r 27)⟩,
        ⟨some 29, none, .mv (.r 28)⟩,
        ⟨some 30, some (29, false), .mv (.r 3)⟩,
        ⟨some 31, some (29, false), .bin .gtr .no (.r 30) (.c (.int .i64 0))⟩,
        ⟨some 32, some (29, false), .mv (.r 31)⟩,
        ⟨some 33, some (32, true), .faddr 8 (.r 1)⟩,
        ⟨some 34, some (32, true), .load false 1 (.r 33)⟩,
        ⟨some 35, some (32, true), .mv (.r 3)⟩,
        ⟨some 36, some (32, true), .bin .sub .no (.r 35) (.c (.int .i64 1))⟩,
        ⟨some 37, some (32, true), .iaddr none 4 (.r 34) (.r 36)⟩,
        ⟨some 38, some (32, true), .faddr 0 (.r 37)⟩,
        ⟨some 39, some (32, true), .load true 2 (.r 38)⟩,
        ⟨some 40, some (32, true), .faddr 0 (.r 4)⟩,
        ⟨some 41, some (32, true), .load true 2 (.r 40)⟩,
        ⟨some 42, some (32, true), .call false F.tattlerref1_Less [(.r 39), (.r 41)]⟩,
        ⟨some 43, some (32, true), .un .not (.r 42)⟩,
        ⟨some 44, some (29, false), .pick (.r 32) (.r 43) (.c (.bool false))⟩,
        ⟨some 45, none, .pick (.r 29) (.c (.bool true)) (.r 44)⟩,
        ⟨some 46, none, .mv (.r 45)⟩,
        ⟨some 47, some (46, false), .faddr 2 (.r 4)⟩,
        ⟨some 48, some (46, false), .load false 1 (.r 47)⟩,
        ⟨some 49, some (46, false), .len .sl (.r 48)⟩,
        ⟨some 50, some (46, false), .bin .gtr .no (.r 49) (.c (.int .i64 200))⟩,
        ⟨some 51, none, .pick (.r 46) (.c (.bool true)) (.r 50)⟩,
        ⟨some 52, none, .mv (.r 51)⟩,
        ⟨some 53, some (52, false), .faddr 3 (.r 4)⟩,
        ⟨some 54, some (52, false), .load false 1 (.r 53)⟩,
        ⟨some 55, some (52, false), .mv (.r 54)⟩,
        ⟨some 56, some (55, true), .faddr 2 (.r 4)⟩,
        ⟨some 57, some (55, true), .load false 1 (.r 56)⟩,
        ⟨some 58, some (55, true), .len .sl (.r 57)⟩,
        ⟨some 59, some (55, true), .bin .gtr .no (.r 58) (.c (.int .i64 0))⟩,
        ⟨some 60, some (52, false), .pick (.r 55) (.r 59) (.c (.bool false))⟩,
        ⟨some 61, none, .pick (.r 52) (.c (.bool true)) (.r 60)⟩] [1, 16, 17, 18, 61])
      (.cond (.r 61) (.seq (.ops [⟨some 2, none, .asg (.c (.bool false))⟩] [2])
        .ret) .skip))))
  (.ops [⟨some 62, none, .bin .add .no (.r 18) (.c (.int .i64 1))⟩,
  ⟨some 18, none, .mv (.r 62)⟩] [1, 16, 17, 18]))))
/-- tattler/tattlerref5.May -/
def c_tattlerref5_May : VFun := ⟨1,
  (.seq (.ops [⟨some 1, none, .box 9 (.r 0)⟩,
    ⟨some 2, none, .asg (.c (.bool false))⟩] [1])
  (.seq (.seq (.ops [⟨some 5, none, .faddr 0 (.r 1)⟩,
      ⟨some 6, none, .load true 8 (.r 5)⟩,
      ⟨some 7, none, .call false F.tattlerref1_May [(.r 6)]⟩,
      ⟨some 8, none, .un .not (.r 7)⟩,
      ⟨some 9, none, .mv (.r 8)⟩,
      ⟨some 10, some (9, false), .faddr 8 (.r 1)⟩,
      ⟨some 11, some (9, false), .load false 1 (.r 10)⟩,
      ⟨some 12, some (9, false), .len .sl (.r 11)⟩,
      ⟨some 13, some (9, false), .bin .gtr .no (.r 12) (.c (.int .i64 16))⟩,
      ⟨some 14, none, .pick (.r 9) (.c (.bool true)) (.r 13)⟩] [1, 14])
    (.cond (.r 14) (.seq (.ops [⟨some 2, none, .asg (.c (.bool false))⟩] [2])
      .ret) .skip))
  (.seq (.seq (.ops [⟨some 15, none, .faddr 8 (.r 1)⟩,
      ⟨some 16, none, .load false 1 (.r 15)⟩,
      ⟨some 17, none, .len .sl (.r 16)⟩,
      ⟨some 18, none, .mv (.c (.int .i64 0))⟩] [1, 16, 17, 18])
    (.block 0 (.loop [1, 16, 17, 18] [] c_tattlerref5_May_l0)))
  (.seq (.ops [⟨some 2, none, .asg (.c (.bool true))⟩] [2])
  .ret)))),
  [.r 2], none⟩
def c_sibs_Live_l0 : VCode := (.seq (.ops [⟨some 13, none, .bin .lss .no (.r 12) (.r 11)⟩] [3, 10, 11, 12, 13])
  (.seq (.cond (.r 13) .skip (.exit 0))
  (.seq (.block 1 (.seq (.ops [⟨some 14, none, .iaddr none 4 (.r 10) (.r 12)⟩,
        ⟨some 15, none, .load true 4 (.r 14)⟩,
        ⟨some 5, none, .alloc [(.int .i64 0), (.int .i64 0), (.sl []), (.bool false)] []⟩,
        ⟨none, none, .store 4 (.r 5) (.r 15) [] none⟩] [3, 5, 10, 11, 12])
      (.seq (.ops [⟨some 16, none, .faddr 3 (.r 5)⟩,
        ⟨some 17, none, .load false 1 (.r 16)⟩,
        ⟨some 18, none, .un .not (.r 17)⟩] [3, 5, 10, 11, 12, 18])
      (.cond (.r 18) (.ops [⟨some 19, none, .mv (.r 3)⟩,
        ⟨some 20, none, .faddr 2 (.r 5)⟩,
        ⟨some 21, none, .load false 1 (.r 20)⟩,
        ⟨some 22, none, .call false F.slices_Clone_byte_byte [(.r 21)]⟩,
        ⟨some 23, none, .bslice (.sl []) 1 1 [(0, (.r 22))]⟩,
        ⟨some 24, none, .app (.reg 3) 1 24 (.r 19) (.r 23)⟩,
        ⟨some 3, none, .asg (.r 24)⟩] [3, 10, 11, 12]) .skip))))
  (.ops [⟨some 25, none, .bin .add .no (.r 12) (.c (.int .i64 1))⟩,
  ⟨some 12, none, .mv (.r 25)⟩] [3, 10, 11, 12]))))
/-- tattler/sibs.Live -/
def c_sibs_Live : VFun := ⟨1,
  (.seq (.ops [⟨some 1, none, .box 9 (.r 0)⟩,
    ⟨some 2, none, .asg (.c (.sl []))⟩] [1])
  (.seq (.seq (.ops [⟨some 6, none, .load true 9 (.r 1)⟩,
      ⟨some 7, none, .call false F.sibs_May [(.r 6)]⟩,
      ⟨some 8, none, .un .not (.r 7)⟩] [1, 8])
    (.cond (.r 8) (.seq (.ops [⟨some 2, none, .asg (.c (.sl []))⟩] [2])
      .ret) .skip))
  (.seq (.ops [⟨some 3, none, .asg (.c (.sl []))⟩] [1, 3])
  (.seq (.seq (.ops [⟨some 9, none, .faddr 8 (.r 1)⟩,
      ⟨some 10, none, .load false 1 (.r 9)⟩,
      ⟨some 11, none, .len .sl (.r 10)⟩,
      ⟨some 12, none, .mv (.c (.int .i64 0))⟩] [3, 10, 11, 12])
    (.block 0 (.loop [3, 10, 11, 12] [(2, 0, 0), (3, 0, 1)] c_sibs_Live_l0)))
  (.seq (.ops [⟨some 26, none, .mv (.r 3)⟩,
    ⟨some 2, none, .asg (.r 26)⟩] [2])
  .ret))))),
  [.r 2], none⟩
def c_sibs_May_l0 : VCode := (.seq (.ops [⟨some 19, none, .bin .lss .no (.r 18) (.r 17)⟩] [1, 16, 17, 18, 19])
  (.seq (.cond (.r 19) .skip (.exit 0))
  (.seq (.block 1 (.seq (.ops [⟨some 20, none, .mv (.r 18)⟩,
        ⟨some 21, none, .iaddr none 4 (.r 16) (.r 18)⟩,
        ⟨some 22, none, .load true 4 (.r 21)⟩,
        ⟨some 4, none, .alloc [(.int .i64 0), (.int .i64 0), (.sl []), (.bool false)] []⟩,
        ⟨some 3, none, .asg (.r 20)⟩,
        ⟨none, none, .store 4 (.r 4) (.r 22) [] none⟩] [1, 3, 4, 16, 17, 18])
      (.seq (.dops 24 [⟨some 23, none, .load true 4 (.r 4)⟩,
        ⟨some 24, none, .call true F.sibs_mayValue [(.r 23)]⟩,
        ⟨some 25, none, .un .not (.r 24)⟩,
        ⟨some 26, none, .mv (.r 25)⟩,
        ⟨some 27, some (26, false), .faddr 0 (.r 1)⟩,
        ⟨some 28, some (26, false), .load true 8 (.r 27)⟩,
        ⟨some 29, some (26, false), .faddr 0 (.r 4)⟩,
        ⟨some 30, some (26, false), .load true 2 (.r 29)⟩,
        ⟨some 31, some (26, false), .call true F.vector_Covers [(.r 28), (.r 30)]⟩,
        ⟨some 32, some (26, false), .un .not (.r 31)⟩,
        ⟨some 33, none, .pick (.r 26) (.c (.bool true)) (.r 32)⟩,
        ⟨some 34, none, .mv (.r 33)⟩,
        ⟨some 35, some (34, false), .mv (.r 3)⟩,
        ⟨some 36, some (34, false), .bin .gtr .no (.r 35) (.c (.int .i64 0))⟩,
        ⟨some 37, some (34, false), .mv (.r 36)⟩,
        ⟨some 38, some (37, true), .faddr 8 (.r 1)⟩,
        ⟨some 39, some (37, true), .load false 1 (.r 38)⟩,
        ⟨some 40, some (37, true), .mv (.r 3)⟩,
        ⟨some 41, some (37, true), .bin .sub .no (.r 40) (.c (.int .i64 1))⟩,
        ⟨some 42, some (37, true), .iaddr none 4 (.r 39) (.r 41)⟩,
        ⟨some 43, some (37, true), .faddr 0 (.r 42)⟩,
        ⟨some 44, some (37, true), .load true 2 (.r 43)⟩,
        ⟨some 45, some (37, true), .faddr 0 (.r 4)⟩,
        ⟨some 46, some (37, true), .load true 2 (.r 45)⟩,
        ⟨some 47, some (37, true), .call false F.vector_Less [(.r 44), (.r 46)]⟩,
        ⟨some 48, some (37, true), .un .not (.r 47)⟩,
        ⟨some 49, some (34, false), .pick (.r 37) (.r 48) (.c (.bool false))⟩,
        ⟨some 50, none, .pick (.r 34) (.c (.bool true)) (.r 49)⟩] [1, 16, 17, 18, 50])
      (.cond (.r 50) (.seq (.ops [⟨some 2, none, .asg (.c (.bool false))⟩] [2])
        .ret) .skip))))
  (.ops [⟨some 51, none, .bin .add .no (.r 18) (.c (.int .i64 1))⟩,
  ⟨some 18, none, .mv (.r 51)⟩] [1, 16, 17, 18]))))
/-- tattler/sibs.May -/
def c_sibs_May : VFun := ⟨1,
  (.seq (.ops [⟨some 1, none, .box 9 (.r 0)⟩,
    ⟨some 2, none, .asg (.c (.bool false))⟩] [1])
  (.seq (.seq (.ops [⟨some 5, none, .faddr 0 (.r 1)⟩,
      ⟨some 6, none, .load true 8 (.r 5)⟩,
      ⟨some 7, none, .call false F.vector_May [(.r 6)]⟩,
      ⟨some 8, none, .un .not (.r 7)⟩,
      ⟨some 9, none, .mv (.r 8)⟩,
      ⟨some 10, some (9, false), .faddr 8 (.r 1)⟩,
      ⟨some 11, some (9, false), .load false 1 (.r 10)⟩,
      ⟨some 12, some (9, false), .len .sl (.r 11)⟩,
      ⟨some 13, some (9, false), .bin .gtr .no (.r 12) (.c (.int .i64 16))⟩,
      ⟨some 14, none, .pick (.r 9) (.c (.bool true)) (.r 13)⟩] [1, 14])
    (.cond (.r 14) (.seq (.ops [⟨some 2, none, .asg (.c (.bool false))⟩] [2])
      .ret) .skip))
  (.seq (.seq (.ops [⟨some 15, none, .faddr 8 (.r 1)⟩,
      ⟨some 16, none, .load false 1 (.r 15)⟩,
      ⟨some 17, none, .len .sl (.r 16)⟩,
      ⟨some 18, none, .mv (.c (.int .i64 0))⟩] [1, 16, 17, 18])
    (.block 0 (.loop [1, 16, 17, 18] [] c_sibs_May_l0)))
  (.seq (.ops [⟨some 2, none, .asg (.c (.bool true))⟩] [2])
  .ret)))),
  [.r 2], none⟩
def c_tattlerlaw5_few_l0 : VCode := (.seq (.ops [⟨some 9, none, .bin .lss .no (.r 8) (.r 7)⟩] [3, 6, 7, 8, 9])
  (.seq (.cond (.r 9) .skip (.exit 0))
  (.seq (.block 1 (.seq (.ops [⟨some 10, none, .iaddr none 9 (.r 6) (.r 8)⟩,
        ⟨some 11, none, .load true 9 (.r 10)⟩,
        ⟨some 5, none, .alloc [(.int .i64 0), (.int .i64 0), (.int .i64 0), (.int .i64 0), (.int .i64 0), (.int .i64 0), (.int .i64 0), (.int .i64 0), (.sl [])] []⟩,
        ⟨none, none, .store 9 (.r 5) (.r 11) [] none⟩] [3, 5, 6, 7, 8])
      (.seq (.seq (.ops [⟨some 12, none, .load true 9 (.r 5)⟩,
          ⟨some 13, none, .call false F.tattlerref5_May [(.r 12)]⟩,
          ⟨some 14, none, .un .not (.r 13)⟩] [3, 5, 6, 7, 8, 14])
        (.cond (.r 14) (.seq (.ops [⟨some 2, none, .asg (.c (.bool false))⟩] [2])
          .ret) .skip))
      (.ops [⟨some 15, none, .mv (.r 3)⟩,
      ⟨some 16, none, .faddr 8 (.r 5)⟩,
      ⟨some 17, none, .load false 1 (.r 16)⟩,
      ⟨some 18, none, .len .sl (.r 17)⟩,
      ⟨some 19, none, .bin .add .no (.r 15) (.r 18)⟩,
      ⟨some 3, none, .asg (.r 19)⟩] [3, 6, 7, 8]))))
  (.ops [⟨some 20, none, .bin .add .no (.r 8) (.c (.int .i64 1))⟩,
  ⟨some 8, none, .mv (.r 20)⟩] [3, 6, 7, 8]))))
/-- tattler/tattlerlaw5.few -/
def c_tattlerlaw5_few : VFun := ⟨1,
  (.seq (.ops [⟨some 2, none, .asg (.c (.bool false))⟩] [0])
  (.seq (.ops [⟨some 3, none, .asg (.c (.int .i64 0))⟩] [0, 3])
  (.seq (.seq (.ops [⟨some 6, none, .mv (.r 0)⟩,
      ⟨some 7, none, .len .sl (.r 6)⟩,
      ⟨some 8, none, .mv (.c (.int .i64 0))⟩] [3, 6, 7, 8])
    (.block 0 (.loop [3, 6, 7, 8] [] c_tattlerlaw5_few_l0)))
  (.seq (.ops [⟨some 21, none, .mv (.r 3)⟩,
    ⟨some 22, none, .bin .leq .no (.r 21) (.c (.int .i64 16))⟩,
    ⟨some 2, none, .asg (.r 22)⟩] [2])
  .ret)))),
  [.r 2], none⟩
def c_vector_Join_l0 : VCode := (.seq (.ops [⟨some 9, none, .bin .lss .no (.r 8) (.c (.int .i64 8))⟩] [2, 4, 7, 8, 9])
  (.seq (.cond (.r 9) .skip (.exit 0))
  (.seq (.block 1 (.seq (.ops [⟨some 10, none, .mv (.r 8)⟩,
        ⟨some 11, none, .index false 8 1 false (.r 7) (.r 8)⟩,
        ⟨some 5, none, .asg (.r 10)⟩,
        ⟨some 6, none, .asg (.r 11)⟩] [2, 4, 5, 6, 7, 8])
      (.ops [⟨some 12, none, .mv (.r 5)⟩,
      ⟨some 13, none, .mv (.r 5)⟩,
      ⟨some 14, none, .iaddr (some 8) 1 (.r 2) (.r 13)⟩,
      ⟨some 15, none, .load false 1 (.r 14)⟩,
      ⟨some 16, none, .mv (.r 6)⟩,
      ⟨some 17, none, .mx [(.r 15), (.r 16)]⟩,
      ⟨some 18, none, .iaddr (some 8) 1 (.r 2) (.r 12)⟩,
      ⟨none, none, .store 1 (.r 18) (.r 17) [] none⟩] [2, 4, 7, 8])))
  (.ops [⟨some 19, none, .bin .add .no (.r 8) (.c (.int .i64 1))⟩,
  ⟨some 8, none, .mv (.r 19)⟩] [2, 4, 7, 8]))))
/-- tattler/vector.Join -/
def c_vector_Join : VFun := ⟨2,
  (.seq (.ops [⟨some 2, none, .box 8 (.r 0)⟩,
    ⟨some 3, none, .box 8 (.r 1)⟩,
    ⟨some 4, none, .alloc [(.int .i64 0), (.int .i64 0), (.int .i64 0), (.int .i64 0), (.int .i64 0), (.int .i64 0), (.int .i64 0), (.int .i64 0)] []⟩] [2, 3, 4])
  (.seq (.seq (.ops [⟨some 7, none, .load true 8 (.r 3)⟩,
      ⟨some 8, none, .mv (.c (.int .i64 0))⟩] [2, 4, 7, 8])
    (.block 0 (.loop [2, 4, 7, 8] [] c_vector_Join_l0)))
  (.seq (.ops [⟨some 20, none, .load true 8 (.r 2)⟩,
    ⟨none, none, .store 8 (.r 4) (.r 20) [] none⟩] [4])
  .ret))),
  [.cell 4 true 8], none⟩
def c_tattlerref1_May_l0 : VCode := (.seq (.ops [⟨some 7, none, .bin .lss .no (.r 6) (.c (.int .i64 8))⟩] [5, 6, 7])
  (.seq (.cond (.r 7) .skip (.exit 0))
  (.seq (.block 1 (.seq (.ops [⟨some 8, none, .index false 8 1 false (.r 5) (.r 6)⟩,
        ⟨some 4, none, .asg (.r 8)⟩] [4, 5, 6])
      (.seq (.ops [⟨some 9, none, .mv (.r 4)⟩,
        ⟨some 10, none, .bin .lss .no (.r 9) (.c (.int .i64 0))⟩,
        ⟨some 11, none, .mv (.r 10)⟩,
        ⟨some 12, some (11, false), .mv (.r 4)⟩,
        ⟨some 13, some (11, false), .bin .gtr .no (.r 12) (.c (.int .i64 1099511627776))⟩,
        ⟨some 14, none, .pick (.r 11) (.c (.bool true)) (.r 13)⟩] [5, 6, 14])
      (.cond (.r 14) (.seq (.ops [⟨some 2, none, .asg (.c (.bool false))⟩] [2])
        .ret) .skip))))
  (.ops [⟨some 15, none, .bin .add .no (.r 6) (.c (.int .i64 1))⟩,
  ⟨some 6, none, .mv (.r 15)⟩] [5, 6]))))
/-- tattler/tattlerref1.May -/
def c_tattlerref1_May : VFun := ⟨1,
  (.seq (.ops [⟨some 1, none, .box 8 (.r 0)⟩,
    ⟨some 2, none, .asg (.c (.bool false))⟩] [1])
  (.seq (.seq (.ops [⟨some 5, none, .load true 8 (.r 1)⟩,
      ⟨some 6, none, .mv (.c (.int .i64 0))⟩] [5, 6])
    (.block 0 (.loop [5, 6] [] c_tattlerref1_May_l0)))
  (.seq (.ops [⟨some 2, none, .asg (.c (.bool true))⟩] [2])
  .ret))),
  [.r 2], none⟩
/-- tattler/sibs.Reap -/
def c_sibs_Reap : VFun := ⟨1,
  (.seq (.ops [⟨some 1, none, .box 9 (.r 0)⟩,
    ⟨some 2, none, .alloc [(.int .i64 0), (.int .i64 0), (.int .i64 0), (.int .i64 0), (.int .i64 0), (.int .i64 0), (.int .i64 0), (.int .i64 0), (.sl [])] []⟩] [1, 2])
  (.seq (.seq (.ops [⟨some 3, none, .load true 9 (.r 1)⟩,
      ⟨some 4, none, .call false F.sibs_May [(.r 3)]⟩,
      ⟨some 5, none, .un .not (.r 4)⟩] [1, 2, 5])
    (.cond (.r 5) (.seq (.ops [⟨some 6, none, .build [(.int .i64 0), (.int .i64 0), (.int .i64 0), (.int .i64 0), (.int .i64 0), (.int .i64 0), (.int .i64 0), (.int .i64 0), (.sl [])] []⟩,
        ⟨none, none, .store 9 (.r 2) (.r 6) [] none⟩] [2])
      .ret) .skip))
  (.seq (.seq (.ops [⟨some 7, none, .faddr 8 (.r 1)⟩,
      ⟨some 8, none, .load false 1 (.r 7)⟩,
      ⟨some 9, none, .call false F.slices_ContainsFunc_api_Value_api_Value [(.r 8), (.c (.fn F.sibs_Reap_c1 [] []))]⟩] [1, 2, 9])
    (.cond (.r 9) (.seq (.ops [⟨some 10, none, .load true 9 (.r 1)⟩,
        ⟨some 11, none, .call false F.sibs_copied [(.r 10)]⟩,
        ⟨none, none, .store 9 (.r 2) (.r 11) [] none⟩] [2])
      .ret) .skip))
  (.seq (.ops [⟨some 12, none, .faddr 0 (.r 1)⟩,
    ⟨some 13, none, .load true 8 (.r 12)⟩,
    ⟨some 14, none, .build [(.int .i64 0), (.int .i64 0), (.int .i64 0), (.int .i64 0), (.int .i64 0), (.int .i64 0), (.int .i64 0), (.int .i64 0), (.sl [])] [(0, 8, (.r 13))]⟩,
    ⟨none, none, .store 9 (.r 2) (.r 14) [] none⟩] [2])
  .ret)))),
  [.cell 2 true 9], none⟩
/-- tattler/tattlerref1.Covers -/
def c_tattlerref1_Covers : VFun := ⟨2,
  (.seq (.ops [⟨some 2, none, .box 8 (.r 0)⟩,
    ⟨some 3, none, .box 2 (.r 1)⟩,
    ⟨some 4, none, .asg (.c (.bool false))⟩] [2, 3])
  (.seq (.dops 20 [⟨some 5, none, .faddr 0 (.r 3)⟩,
    ⟨some 6, none, .load false 1 (.r 5)⟩,
    ⟨some 7, none, .bin .geq .no (.r 6) (.c (.int .i64 0))⟩,
    ⟨some 8, none, .mv (.r 7)⟩,
    ⟨some 9, some (8, true), .faddr 0 (.r 3)⟩,
    ⟨some 10, some (8, true), .load false 1 (.r 9)⟩,
    ⟨some 11, some (8, true), .bin .lss .no (.r 10) (.c (.int .i64 8))⟩,
    ⟨some 12, none, .pick (.r 8) (.r 11) (.c (.bool false))⟩,
    ⟨some 13, none, .mv (.r 12)⟩,
    ⟨some 14, some (13, true), .faddr 1 (.r 3)⟩,
    ⟨some 15, some (13, true), .load false 1 (.r 14)⟩,
    ⟨some 16, some (13, true), .bin .geq .no (.r 15) (.c (.int .i64 1))⟩,
    ⟨some 17, none, .pick (.r 13) (.r 16) (.c (.bool false))⟩,
    ⟨some 18, none, .mv (.r 17)⟩,
    ⟨some 19, some (18, true), .faddr 1 (.r 3)⟩,
    ⟨some 20, some (18, true), .load false 1 (.r 19)⟩,
    ⟨some 21, some (18, true), .faddr 0 (.r 3)⟩,
    ⟨some 22, some (18, true), .load false 1 (.r 21)⟩,
    ⟨some 23, some (18, true), .iaddr (some 8) 1 (.r 2) (.r 22)⟩,
    ⟨some 24, some (18, true), .load false 1 (.r 23)⟩,
    ⟨some 25, some (18, true), .bin .leq .no (.r 20) (.r 24)⟩,
    ⟨some 26, none, .pick (.r 18) (.r 25) (.c (.bool false))⟩,
    ⟨some 4, none, .asg (.r 26)⟩] [4])
  .ret)),
  [.r 4], none⟩
def c_sibs_find_l0 : VCode := (.seq (.ops [⟨some 12, none, .bin .lss .no (.r 11) (.r 10)⟩] [3, 4, 9, 10, 11, 12])
  (.seq (.cond (.r 12) .skip (.exit 0))
  (.seq (.block 1 (.seq (.ops [⟨some 13, none, .iaddr none 4 (.r 9) (.r 11)⟩,
        ⟨some 14, none, .load true 4 (.r 13)⟩,
        ⟨some 7, none, .alloc [(.int .i64 0), (.int .i64 0), (.sl []), (.bool false)] []⟩,
        ⟨none, none, .store 4 (.r 7) (.r 14) [] none⟩] [3, 4, 7, 9, 10, 11])
      (.seq (.ops [⟨some 15, none, .faddr 0 (.r 7)⟩,
        ⟨some 16, none, .load true 2 (.r 15)⟩,
        ⟨some 17, none, .load true 2 (.r 3)⟩,
        ⟨some 18, none, .bin .eql (.agg [.i, .i]) (.r 16) (.r 17)⟩] [3, 4, 7, 9, 10, 11, 18])
      (.cond (.r 18) (.seq (.ops [⟨some 19, none, .load true 4 (.r 7)⟩,
          ⟨none, none, .store 4 (.r 4) (.r 19) [] none⟩,
          ⟨some 5, none, .asg (.c (.bool true))⟩] [4, 5])
        .ret) .skip))))
  (.ops [⟨some 20, none, .bin .add .no (.r 11) (.c (.int .i64 1))⟩,
  ⟨some 11, none, .mv (.r 20)⟩] [3, 4, 9, 10, 11]))))
/-- tattler/sibs.find -/
def c_sibs_find : VFun := ⟨2,
  (.seq (.ops [⟨some 2, none, .box 9 (.r 0)⟩,
    ⟨some 3, none, .box 2 (.r 1)⟩,
    ⟨some 4, none, .alloc [(.int .i64 0), (.int .i64 0), (.sl []), (.bool false)] []⟩,
    ⟨some 5, none, .asg (.c (.bool false))⟩] [2, 3, 4])
  (.seq (.seq (.ops [⟨some 8, none, .faddr 8 (.r 2)⟩,
      ⟨some 9, none, .load false 1 (.r 8)⟩,
      ⟨some 10, none, .len .sl (.r 9)⟩,
      ⟨some 11, none, .mv (.c (.int .i64 0))⟩] [3, 4, 9, 10, 11])
    (.block 0 (.loop [3, 4, 9, 10, 11] [] c_sibs_find_l0)))
  (.seq (.ops [⟨some 21, none, .build [(.int .i64 0), (.int .i64 0), (.sl []), (.bool false)] []⟩,
    ⟨none, none, .store 4 (.r 4) (.r 21) [] none⟩,
    ⟨some 5, none, .asg (.c (.bool false))⟩] [4, 5])
  .ret))),
  [.cell 4 true 4, .r 5], none⟩
/-- tattler/sibs.own -/
def c_sibs_own : VFun := ⟨1,
  (.seq (.ops [⟨some 1, none, .box 4 (.r 0)⟩,
    ⟨some 2, none, .alloc [(.int .i64 0), (.int .i64 0), (.sl []), (.bool false)] []⟩] [1, 2])
  (.seq (.ops [⟨some 3, none, .faddr 2 (.r 1)⟩,
    ⟨some 4, none, .load false 1 (.r 3)⟩,
    ⟨some 5, none, .call false F.slices_Clone_byte_byte [(.r 4)]⟩,
    ⟨some 6, none, .faddr 2 (.r 1)⟩,
    ⟨none, none, .store 1 (.r 6) (.r 5) [] none⟩] [1, 2])
  (.seq (.ops [⟨some 7, none, .load true 4 (.r 1)⟩,
    ⟨none, none, .store 4 (.r 2) (.r 7) [] none⟩] [2])
  .ret))),
  [.cell 2 true 4], none⟩
/-- tattler/sibs.better -/
def c_sibs_better : VFun := ⟨2,
  (.seq (.ops [⟨some 2, none, .box 4 (.r 0)⟩,
    ⟨some 3, none, .box 4 (.r 1)⟩,
    ⟨some 4, none, .alloc [(.int .i64 0), (.int .i64 0), (.sl []), (.bool false)] []⟩] [2, 3, 4])
  (.seq (.block 0 (.seq (.ops [⟨some 6, none, .faddr 3 (.r 2)⟩,
        ⟨some 7, none, .load false 1 (.r 6)⟩,
        ⟨some 8, none, .faddr 3 (.r 3)⟩,
        ⟨some 9, none, .load false 1 (.r 8)⟩,
        ⟨some 10, none, .bin .neq .bool (.r 7) (.r 9)⟩,
        ⟨some 11, none, .mv (.r 10)⟩,
        ⟨some 12, some (11, true), .faddr 3 (.r 2)⟩,
        ⟨some 13, some (11, true), .load false 1 (.r 12)⟩,
        ⟨some 14, none, .pick (.r 11) (.r 13) (.c (.bool false))⟩,
        ⟨some 5, none, .asg (.r 14)⟩] [2, 3, 4, 5])
      (.cond (.r 5) (.seq (.ops [⟨some 15, none, .load true 4 (.r 3)⟩,
          ⟨none, none, .store 4 (.r 4) (.r 15) [] none⟩] [4])
        .ret) (.seq (.ops [⟨some 17, none, .faddr 3 (.r 2)⟩,
          ⟨some 18, none, .load false 1 (.r 17)⟩,
          ⟨some 19, none, .faddr 3 (.r 3)⟩,
          ⟨some 20, none, .load false 1 (.r 19)⟩,
          ⟨some 21, none, .bin .neq .bool (.r 18) (.r 20)⟩,
          ⟨some 16, none, .asg (.r 21)⟩] [2, 3, 4, 16])
        (.cond (.r 16) (.seq (.ops [⟨some 22, none, .load true 4 (.r 2)⟩,
            ⟨none, none, .store 4 (.r 4) (.r 22) [] none⟩] [4])
          .ret) (.seq (.ops [⟨some 24, none, .faddr 2 (.r 3)⟩,
            ⟨some 25, none, .load false 1 (.r 24)⟩,
            ⟨some 26, none, .faddr 2 (.r 2)⟩,
            ⟨some 27, none, .load false 1 (.r 26)⟩,
            ⟨some 28, none, .call false F.bytes_Compare [(.r 25), (.r 27)]⟩,
            ⟨some 29, none, .bin .lss .no (.r 28) (.c (.int .i64 0))⟩,
            ⟨some 23, none, .asg (.r 29)⟩] [2, 3, 4, 23])
          (.cond (.r 23) (.seq (.ops [⟨some 30, none, .load true 4 (.r 3)⟩,
              ⟨none, none, .store 4 (.r 4) (.r 30) [] none⟩] [4])
            .ret) .skip)))))))
  (.seq (.ops [⟨some 31, none, .load true 4 (.r 2)⟩,
    ⟨none, none, .store 4 (.r 4) (.r 31) [] none⟩] [4])
  .ret))),
  [.cell 4 true 4], none⟩
/-- tattler/vector.Covers -/
def c_vector_Covers : VFun := ⟨2,
  (.seq (.ops [⟨some 2, none, .box 8 (.r 0)⟩,
    ⟨some 3, none, .box 2 (.r 1)⟩,
    ⟨some 4, none, .asg (.c (.bool false))⟩] [2, 3])
  (.seq (.dops 15 [⟨some 5, none, .faddr 0 (.r 3)⟩,
    ⟨some 6, none, .load false 1 (.r 5)⟩,
    ⟨some 7, none, .call true F.vector_is [(.r 6)]⟩,
    ⟨some 8, none, .mv (.r 7)⟩,
    ⟨some 9, some (8, true), .faddr 1 (.r 3)⟩,
    ⟨some 10, some (8, true), .load false 1 (.r 9)⟩,
    ⟨some 11, some (8, true), .bin .geq .no (.r 10) (.c (.int .i64 1))⟩,
    ⟨some 12, none, .pick (.r 8) (.r 11) (.c (.bool false))⟩,
    ⟨some 13, none, .mv (.r 12)⟩,
    ⟨some 14, some (13, true), .faddr 1 (.r 3)⟩,
    ⟨some 15, some (13, true), .load false 1 (.r 14)⟩,
    ⟨some 16, some (13, true), .faddr 0 (.r 3)⟩,
    ⟨some 17, some (13, true), .load false 1 (.r 16)⟩,
    ⟨some 18, some (13, true), .iaddr (some 8) 1 (.r 2) (.r 17)⟩,
    ⟨some 19, some (13, true), .load false 1 (.r 18)⟩,
    ⟨some 20, some (13, true), .bin .leq .no (.r 15) (.r 19)⟩,
    ⟨some 21, none, .pick (.r 13) (.r 20) (.c (.bool false))⟩,
    ⟨some 4, none, .asg (.r 21)⟩] [4])
  .ret)),
  [.r 4], none⟩
/-- slices.Clone[[]byte,byte] -/
def c_slices_Clone_byte_byte : VFun := ⟨1,
  (.seq (.ops [⟨some 2, none, .asg (.c (.sl []))⟩] [0])
  (.amb (.ops [⟨some 3, none, .mv (.r 0)⟩,
    ⟨some 4, none, .isnil (.r 3)⟩] [0, 4]) (.r 4) (.seq (.ops [⟨some 2, none, .asg (.c (.sl []))⟩] [2])
    .ret) .skip
  (.seq (.ops [⟨some 5, none, .bslice (.int .u8 0) 1 0 []⟩,
      ⟨some 6, none, .mv (.r 0)⟩,
      ⟨some 7, none, .app (.reg 5) 1 1 (.r 5) (.r 6)⟩,
      ⟨some 2, none, .asg (.r 7)⟩] [2])
    .ret))),
  [.r 2], none⟩
def c_vector_May_l0 : VCode := (.seq (.ops [⟨some 7, none, .bin .lss .no (.r 6) (.c (.int .i64 8))⟩] [5, 6, 7])
  (.seq (.cond (.r 7) .skip (.exit 0))
  (.seq (.block 1 (.seq (.ops [⟨some 8, none, .index false 8 1 false (.r 5) (.r 6)⟩,
        ⟨some 4, none, .asg (.r 8)⟩] [4, 5, 6])
      (.seq (.ops [⟨some 9, none, .mv (.r 4)⟩,
        ⟨some 10, none, .bin .lss .no (.r 9) (.c (.int .i64 0))⟩,
        ⟨some 11, none, .mv (.r 10)⟩,
        ⟨some 12, some (11, false), .mv (.r 4)⟩,
        ⟨some 13, some (11, false), .bin .gtr .no (.r 12) (.c (.int .i64 1099511627776))⟩,
        ⟨some 14, none, .pick (.r 11) (.c (.bool true)) (.r 13)⟩] [5, 6, 14])
      (.cond (.r 14) (.seq (.ops [⟨some 2, none, .asg (.c (.bool false))⟩] [2])
        .ret) .skip))))
  (.ops [⟨some 15, none, .bin .add .no (.r 6) (.c (.int .i64 1))⟩,
  ⟨some 6, none, .mv (.r 15)⟩] [5, 6]))))
/-- tattler/vector.May -/
def c_vector_May : VFun := ⟨1,
  (.seq (.ops [⟨some 1, none, .box 8 (.r 0)⟩,
    ⟨some 2, none, .asg (.c (.bool false))⟩] [1])
  (.seq (.seq (.ops [⟨some 5, none, .load true 8 (.r 1)⟩,
      ⟨some 6, none, .mv (.c (.int .i64 0))⟩] [5, 6])
    (.block 0 (.loop [5, 6] [] c_vector_May_l0)))
  (.seq (.ops [⟨some 2, none, .asg (.c (.bool true))⟩] [2])
  .ret))),
  [.r 2], none⟩
/-- tattler/sibs.mayValue -/
def c_sibs_mayValue : VFun := ⟨1,
  (.seq (.ops [⟨some 1, none, .box 4 (.r 0)⟩,
    ⟨some 2, none, .asg (.c (.bool false))⟩] [1])
  (.seq (.ops [⟨some 3, none, .faddr 2 (.r 1)⟩,
    ⟨some 4, none, .load false 1 (.r 3)⟩,
    ⟨some 5, none, .len .sl (.r 4)⟩,
    ⟨some 6, none, .bin .leq .no (.r 5) (.c (.int .i64 200))⟩,
    ⟨some 7, none, .mv (.r 6)⟩,
    ⟨some 8, some (7, true), .faddr 3 (.r 1)⟩,
    ⟨some 9, some (7, true), .load false 1 (.r 8)⟩,
    ⟨some 10, some (7, true), .un .not (.r 9)⟩,
    ⟨some 11, some (7, true), .mv (.r 10)⟩,
    ⟨some 12, some (11, false), .faddr 2 (.r 1)⟩,
    ⟨some 13, some (11, false), .load false 1 (.r 12)⟩,
    ⟨some 14, some (11, false), .len .sl (.r 13)⟩,
    ⟨some 15, some (11, false), .bin .eql .no (.r 14) (.c (.int .i64 0))⟩,
    ⟨some 16, some (7, true), .pick (.r 11) (.c (.bool true)) (.r 15)⟩,
    ⟨some 17, none, .pick (.r 7) (.r 16) (.c (.bool false))⟩,
    ⟨some 2, none, .asg (.r 17)⟩] [2])
  .ret)),
  [.r 2], none⟩
/-- tattler/vector.Next -/
def c_vector_Next : VFun := ⟨2,
  (.seq (.ops [⟨some 2, none, .box 8 (.r 0)⟩,
    ⟨some 4, none, .alloc [(.int .i64 0), (.int .i64 0)] []⟩,
    ⟨some 5, none, .asg (.c (.int .i64 0))⟩] [1, 2, 4])
  (.seq (.block 0 (.seq (.ops [⟨some 7, none, .mv (.r 1)⟩,
        ⟨some 8, none, .call false F.vector_is [(.r 7)]⟩,
        ⟨some 9, none, .un .not (.r 8)⟩,
        ⟨some 6, none, .asg (.r 9)⟩] [1, 2, 4, 6])
      (.cond (.r 6) (.seq (.ops [⟨some 10, none, .build [(.int .i64 0), (.int .i64 0)] []⟩,
          ⟨none, none, .store 2 (.r 4) (.r 10) [] none⟩,
          ⟨some 5, none, .asg (.c (.int .i64 1))⟩] [4, 5])
        .ret) (.seq (.ops [⟨some 12, none, .mv (.r 1)⟩,
          ⟨some 13, none, .iaddr (some 8) 1 (.r 2) (.r 12)⟩,
          ⟨some 14, none, .load false 1 (.r 13)⟩,
          ⟨some 15, none, .bin .geq .no (.r 14) (.c (.int .i64 1099511627776))⟩,
          ⟨some 11, none, .asg (.r 15)⟩] [1, 2, 4, 11])
        (.cond (.r 11) (.seq (.ops [⟨some 16, none, .build [(.int .i64 0), (.int .i64 0)] []⟩,
            ⟨none, none, .store 2 (.r 4) (.r 16) [] none⟩,
            ⟨some 5, none, .asg (.c (.int .i64 11))⟩] [4, 5])
          .ret) .skip)))))
  (.seq (.ops [⟨some 17, none, .mv (.r 1)⟩,
    ⟨some 18, none, .mv (.r 1)⟩,
    ⟨some 19, none, .iaddr (some 8) 1 (.r 2) (.r 18)⟩,
    ⟨some 20, none, .load false 1 (.r 19)⟩,
    ⟨some 21, none, .bin .add .no (.r 20) (.c (.int .i64 1))⟩,
    ⟨some 22, none, .build [(.int .i64 0), (.int .i64 0)] [(0, 1, (.r 17)), (1, 1, (.r 21))]⟩,
    ⟨none, none, .store 2 (.r 4) (.r 22) [] none⟩,
    ⟨some 5, none, .asg (.c (.int .i64 0))⟩] [4, 5])
  .ret))),
  [.cell 4 true 2, .r 5], none⟩
/-- tattler/vector.With -/
def c_vector_With : VFun := ⟨2,
  (.seq (.ops [⟨some 2, none, .box 8 (.r 0)⟩,
    ⟨some 3, none, .box 2 (.r 1)⟩,
    ⟨some 4, none, .alloc [(.int .i64 0), (.int .i64 0), (.int .i64 0), (.int .i64 0), (.int .i64 0), (.int .i64 0), (.int .i64 0), (.int .i64 0)] []⟩] [2, 3, 4])
  (.seq (.seq (.ops [⟨some 5, none, .faddr 0 (.r 3)⟩,
      ⟨some 6, none, .load false 1 (.r 5)⟩,
      ⟨some 7, none, .call false F.vector_is [(.r 6)]⟩] [2, 3, 4, 7])
    (.cond (.r 7) (.dops 9 [⟨some 8, none, .faddr 0 (.r 3)⟩,
      ⟨some 9, none, .load false 1 (.r 8)⟩,
      ⟨some 10, none, .faddr 0 (.r 3)⟩,
      ⟨some 11, none, .load false 1 (.r 10)⟩,
      ⟨some 12, none, .iaddr (some 8) 1 (.r 2) (.r 11)⟩,
      ⟨some 13, none, .load false 1 (.r 12)⟩,
      ⟨some 14, none, .faddr 1 (.r 3)⟩,
      ⟨some 15, none, .load false 1 (.r 14)⟩,
      ⟨some 16, none, .mx [(.r 13), (.r 15)]⟩,
      ⟨some 17, none, .iaddr (some 8) 1 (.r 2) (.r 9)⟩,
      ⟨none, none, .store 1 (.r 17) (.r 16) [] none⟩] [2, 4]) .skip))
  (.seq (.ops [⟨some 18, none, .load true 8 (.r 2)⟩,
    ⟨none, none, .store 8 (.r 4) (.r 18) [] none⟩] [4])
  .ret))),
  [.cell 4 true 8], none⟩
/-- tattler/tattlerref1.Less -/
def c_tattlerref1_Less : VFun := ⟨2,
  (.seq (.ops [⟨some 2, none, .box 2 (.r 0)⟩,
    ⟨some 3, none, .box 2 (.r 1)⟩,
    ⟨some 4, none, .asg (.c (.bool false))⟩] [2, 3])
  (.seq (.ops [⟨some 5, none, .faddr 0 (.r 2)⟩,
    ⟨some 6, none, .load false 1 (.r 5)⟩,
    ⟨some 7, none, .faddr 0 (.r 3)⟩,
    ⟨some 8, none, .load false 1 (.r 7)⟩,
    ⟨some 9, none, .bin .lss .no (.r 6) (.r 8)⟩,
    ⟨some 10, none, .mv (.r 9)⟩,
    ⟨some 11, some (10, false), .faddr 0 (.r 2)⟩,
    ⟨some 12, some (10, false), .load false 1 (.r 11)⟩,
    ⟨some 13, some (10, false), .faddr 0 (.r 3)⟩,
    ⟨some 14, some (10, false), .load false 1 (.r 13)⟩,
    ⟨some 15, some (10, false), .bin .eql .no (.r 12) (.r 14)⟩,
    ⟨some 16, some (10, false), .mv (.r 15)⟩,
    ⟨some 17, some (16, true), .faddr 1 (.r 2)⟩,
    ⟨some 18, some (16, true), .load false 1 (.r 17)⟩,
    ⟨some 19, some (16, true), .faddr 1 (.r 3)⟩,
    ⟨some 20, some (16, true), .load false 1 (.r 19)⟩,
    ⟨some 21, some (16, true), .bin .lss .no (.r 18) (.r 20)⟩,
    ⟨some 22, some (10, false), .pick (.r 16) (.r 21) (.c (.bool false))⟩,
    ⟨some 23, none, .pick (.r 10) (.c (.bool true)) (.r 22)⟩,
    ⟨some 4, none, .asg (.r 23)⟩] [4])
  .ret)),
  [.r 4], none⟩
/-- tattler/vector.Less -/
def c_vector_Less : VFun := ⟨2,
  (.seq (.ops [⟨some 2, none, .box 2 (.r 0)⟩,
    ⟨some 3, none, .box 2 (.r 1)⟩,
    ⟨some 4, none, .asg (.c (.bool false))⟩] [2, 3])
  (.seq (.dops 9 [⟨some 5, none, .faddr 0 (.r 2)⟩,
    ⟨some 6, none, .load false 1 (.r 5)⟩,
    ⟨some 7, none, .faddr 0 (.r 3)⟩,
    ⟨some 8, none, .load false 1 (.r 7)⟩,
    ⟨some 9, none, .call true F.cmp_Compare_int [(.r 6), (.r 8)]⟩,
    ⟨some 10, none, .faddr 1 (.r 2)⟩,
    ⟨some 11, none, .load false 1 (.r 10)⟩,
    ⟨some 12, none, .faddr 1 (.r 3)⟩,
    ⟨some 13, none, .load false 1 (.r 12)⟩,
    ⟨some 14, none, .call false F.cmp_Compare_int64 [(.r 11), (.r 13)]⟩,
    ⟨some 15, none, .bslice (.int .i64 0) 1 2 [(0, (.r 9)), (1, (.r 14))]⟩,
    ⟨some 16, none, .call false F.cmp_Or_int [(.r 15)]⟩,
    ⟨some 17, none, .bin .lss .no (.r 16) (.c (.int .i64 0))⟩,
    ⟨some 4, none, .asg (.r 17)⟩] [4])
  .ret)),
  [.r 4], none⟩
/-- slices.ContainsFunc[[]tattler/api.Value,tattler/api.Value] -/
def c_slices_ContainsFunc_api_Value_api_Value : VFun := ⟨2,
  (.seq (.ops [⟨some 4, none, .asg (.c (.bool false))⟩] [0, 1])
  (.seq (.ops [⟨some 5, none, .mv (.r 0)⟩,
    ⟨some 6, none, .mv (.r 1)⟩,
    ⟨some 7, none, .call false F.slices_IndexFunc_api_Value_api_Value [(.r 5), (.r 6)]⟩,
    ⟨some 8, none, .bin .geq .no (.r 7) (.c (.int .i64 0))⟩,
    ⟨some 4, none, .asg (.r 8)⟩] [4])
  .ret)),
  [.r 4], none⟩
/-- tattler/sibs.Reap$1 -/
def c_sibs_Reap_c1 : VFun := ⟨1,
  (.seq (.ops [⟨some 1, none, .box 4 (.r 0)⟩,
    ⟨some 2, none, .asg (.c (.bool false))⟩] [1])
  (.seq (.ops [⟨some 3, none, .faddr 3 (.r 1)⟩,
    ⟨some 4, none, .load false 1 (.r 3)⟩,
    ⟨some 5, none, .un .not (.r 4)⟩,
    ⟨some 2, none, .asg (.r 5)⟩] [2])
  .ret)),
  [.r 2], none⟩
def c_sibs_copied_l0 : VCode := (.seq (.ops [⟨some 10, none, .bin .lss .no (.r 9) (.r 8)⟩] [1, 2, 3, 7, 8, 9, 10])
  (.seq (.cond (.r 10) .skip (.exit 0))
  (.seq (.block 1 (.seq (.ops [⟨some 11, none, .iaddr none 4 (.r 7) (.r 9)⟩,
        ⟨some 12, none, .load true 4 (.r 11)⟩,
        ⟨some 5, none, .alloc [(.int .i64 0), (.int .i64 0), (.sl []), (.bool false)] []⟩,
        ⟨none, none, .store 4 (.r 5) (.r 12) [] none⟩] [1, 2, 3, 5, 7, 8, 9])
      (.ops [⟨some 13, none, .mv (.r 3)⟩,
      ⟨some 14, none, .load true 4 (.r 5)⟩,
      ⟨some 15, none, .call false F.sibs_own [(.r 14)]⟩,
      ⟨some 16, none, .bslice (.agg [(.int .i64 0), (.int .i64 0), (.sl []), (.bool false)]) 4 1 [(0, (.r 15))]⟩,
      ⟨some 17, none, .app (.reg 3) 4 48 (.r 13) (.r 16)⟩,
      ⟨some 3, none, .asg (.r 17)⟩] [1, 2, 3, 7, 8, 9])))
  (.ops [⟨some 18, none, .bin .add .no (.r 9) (.c (.int .i64 1))⟩,
  ⟨some 9, none, .mv (.r 18)⟩] [1, 2, 3, 7, 8, 9]))))
/-- tattler/sibs.copied -/
def c_sibs_copied : VFun := ⟨1,
  (.seq (.ops [⟨some 1, none, .box 9 (.r 0)⟩,
    ⟨some 2, none, .alloc [(.int .i64 0), (.int .i64 0), (.int .i64 0), (.int .i64 0), (.int .i64 0), (.int .i64 0), (.int .i64 0), (.int .i64 0), (.sl [])] []⟩] [1, 2])
  (.seq (.ops [⟨some 3, none, .asg (.c (.sl []))⟩] [1, 2, 3])
  (.seq (.seq (.ops [⟨some 6, none, .faddr 8 (.r 1)⟩,
      ⟨some 7, none, .load false 1 (.r 6)⟩,
      ⟨some 8, none, .len .sl (.r 7)⟩,
      ⟨some 9, none, .mv (.c (.int .i64 0))⟩] [1, 2, 3, 7, 8, 9])
    (.block 0 (.loop [1, 2, 3, 7, 8, 9] [(3, 0, 4)] c_sibs_copied_l0)))
  (.seq (.ops [⟨some 19, none, .faddr 0 (.r 1)⟩,
    ⟨some 20, none, .load true 8 (.r 19)⟩,
    ⟨some 21, none, .mv (.r 3)⟩,
    ⟨some 22, none, .build [(.int .i64 0), (.int .i64 0), (.int .i64 0), (.int .i64 0), (.int .i64 0), (.int .i64 0), (.int .i64 0), (.int .i64 0), (.sl [])] [(0, 8, (.r 20)), (8, 1, (.r 21))]⟩,
    ⟨none, none, .store 9 (.r 2) (.r 22) [] none⟩] [2])
  .ret)))),
  [.cell 2 true 9], none⟩
/-- bytes.Compare -/
def c_bytes_Compare : VFun := ⟨2,
  (.seq (.ops [⟨some 4, none, .asg (.c (.int .i64 0))⟩] [0, 1])
  (.seq (.ops [⟨some 5, none, .mv (.r 0)⟩,
    ⟨some 6, none, .mv (.r 1)⟩,
    ⟨some 7, none, .call false F.bytealg_Compare [(.r 5), (.r 6)]⟩,
    ⟨some 4, none, .asg (.r 7)⟩] [4])
  .ret)),
  [.r 4], none⟩
/-- tattler/vector.is -/
def c_vector_is : VFun := ⟨1,
  (.seq (.ops [⟨some 2, none, .asg (.c (.bool false))⟩] [0])
  (.seq (.ops [⟨some 3, none, .mv (.r 0)⟩,
    ⟨some 4, none, .bin .geq .no (.r 3) (.c (.int .i64 0))⟩,
    ⟨some 5, none, .mv (.r 4)⟩,
    ⟨some 6, some (5, true), .mv (.r 0)⟩,
    ⟨some 7, some (5, true), .bin .lss .no (.r 6) (.c (.int .i64 8))⟩,
    ⟨some 8, none, .pick (.r 5) (.r 7) (.c (.bool false))⟩,
    ⟨some 2, none, .asg (.r 8)⟩] [2])
  .ret)),
  [.r 2], none⟩
def c_cmp_Or_int_l0 : VCode := (.seq (.ops [⟨some 9, none, .bin .lss .no (.r 8) (.r 7)⟩] [3, 6, 7, 8, 9])
  (.seq (.cond (.r 9) .skip (.exit 0))
  (.seq (.block 1 (.seq (.ops [⟨some 10, none, .iaddr none 1 (.r 6) (.r 8)⟩,
        ⟨some 11, none, .load false 1 (.r 10)⟩,
        ⟨some 5, none, .asg (.r 11)⟩] [3, 5, 6, 7, 8])
      (.seq (.ops [⟨some 12, none, .mv (.r 5)⟩,
        ⟨some 13, none, .mv (.r 3)⟩,
        ⟨some 14, none, .bin .neq .no (.r 12) (.r 13)⟩] [3, 5, 6, 7, 8, 14])
      (.cond (.r 14) (.seq (.ops [⟨some 15, none, .mv (.r 5)⟩,
          ⟨some 2, none, .asg (.r 15)⟩] [2])
        .ret) .skip))))
  (.ops [⟨some 16, none, .bin .add .no (.r 8) (.c (.int .i64 1))⟩,
  ⟨some 8, none, .mv (.r 16)⟩] [3, 6, 7, 8]))))
/-- cmp.Or[int] -/
def c_cmp_Or_int : VFun := ⟨1,
  (.seq (.ops [⟨some 2, none, .asg (.c (.int .i64 0))⟩] [0])
  (.seq (.ops [⟨some 3, none, .asg (.c (.int .i64 0))⟩] [0, 3])
  (.seq (.seq (.ops [⟨some 6, none, .mv (.r 0)⟩,
      ⟨some 7, none, .len .sl (.r 6)⟩,
      ⟨some 8, none, .mv (.c (.int .i64 0))⟩] [3, 6, 7, 8])
    (.block 0 (.loop [3, 6, 7, 8] [] c_cmp_Or_int_l0)))
  (.seq (.ops [⟨some 17, none, .mv (.r 3)⟩,
    ⟨some 2, none, .asg (.r 17)⟩] [2])
  .ret)))),
  [.r 2], none⟩
/-- cmp.Compare[int] -/
def c_cmp_Compare_int : VFun := ⟨2,
  (.seq (.ops [⟨some 4, none, .asg (.c (.int .i64 0))⟩] [0, 1])
  (.seq (.ops [⟨some 7, none, .mv (.r 0)⟩,
    ⟨some 8, none, .call false F.cmp_isNaN_int [(.r 7)]⟩,
    ⟨some 5, none, .asg (.r 8)⟩] [0, 1, 5])
  (.seq (.ops [⟨some 9, none, .mv (.r 1)⟩,
    ⟨some 10, none, .call false F.cmp_isNaN_int [(.r 9)]⟩,
    ⟨some 6, none, .asg (.r 10)⟩] [0, 1, 5, 6])
  (.seq (.seq (.ops [⟨some 11, none, .mv (.r 5)⟩] [0, 1, 6, 11])
    (.cond (.r 11) (.seq (.seq (.ops [⟨some 12, none, .mv (.r 6)⟩] [12])
        (.cond (.r 12) (.seq (.ops [⟨some 4, none, .asg (.c (.int .i64 0))⟩] [4])
          .ret) .skip))
      (.seq (.ops [⟨some 4, none, .asg (.c (.int .i64 (-1)))⟩] [4])
      .ret)) .skip))
  (.seq (.seq (.ops [⟨some 13, none, .mv (.r 6)⟩] [0, 1, 13])
    (.cond (.r 13) (.seq (.ops [⟨some 4, none, .asg (.c (.int .i64 1))⟩] [4])
      .ret) .skip))
  (.seq (.seq (.ops [⟨some 14, none, .mv (.r 0)⟩,
      ⟨some 15, none, .mv (.r 1)⟩,
      ⟨some 16, none, .bin .lss .no (.r 14) (.r 15)⟩] [0, 1, 16])
    (.cond (.r 16) (.seq (.ops [⟨some 4, none, .asg (.c (.int .i64 (-1)))⟩] [4])
      .ret) .skip))
  (.seq (.seq (.ops [⟨some 17, none, .mv (.r 0)⟩,
      ⟨some 18, none, .mv (.r 1)⟩,
      ⟨some 19, none, .bin .gtr .no (.r 17) (.r 18)⟩] [19])
    (.cond (.r 19) (.seq (.ops [⟨some 4, none, .asg (.c (.int .i64 1))⟩] [4])
      .ret) .skip))
  (.seq (.ops [⟨some 4, none, .asg (.c (.int .i64 0))⟩] [4])
  .ret)))))))),
  [.r 4], none⟩
/-- cmp.Compare[int64] -/
def c_cmp_Compare_int64 : VFun := ⟨2,
  (.seq (.ops [⟨some 4, none, .asg (.c (.int .i64 0))⟩] [0, 1])
  (.seq (.ops [⟨some 7, none, .mv (.r 0)⟩,
    ⟨some 8, none, .call false F.cmp_isNaN_int64 [(.r 7)]⟩,
    ⟨some 5, none, .asg (.r 8)⟩] [0, 1, 5])
  (.seq (.ops [⟨some 9, none, .mv (.r 1)⟩,
    ⟨some 10, none, .call false F.cmp_isNaN_int64 [(.r 9)]⟩,
    ⟨some 6, none, .asg (.r 10)⟩] [0, 1, 5, 6])
  (.seq (.seq (.ops [⟨some 11, none, .mv (.r 5)⟩] [0, 1, 6, 11])
    (.cond (.r 11) (.seq (.seq (.ops [⟨some 12, none, .mv (.r 6)⟩] [12])
        (.cond (.r 12) (.seq (.ops [⟨some 4, none, .asg (.c (.int .i64 0))⟩] [4])
          .ret) .skip))
      (.seq (.ops [⟨some 4, none, .asg (.c (.int .i64 (-1)))⟩] [4])
      .ret)) .skip))
  (.seq (.seq (.ops [⟨some 13, none, .mv (.r 6)⟩] [0, 1, 13])
    (.cond (.r 13) (.seq (.ops [⟨some 4, none, .asg (.c (.int .i64 1))⟩] [4])
      .ret) .skip))
  (.seq (.seq (.ops [⟨some 14, none, .mv (.r 0)⟩,
      ⟨some 15, none, .mv (.r 1)⟩,
      ⟨some 16, none, .bin .lss .no (.r 14) (.r 15)⟩] [0, 1, 16])
    (.cond (.r 16) (.seq (.ops [⟨some 4, none, .asg (.c (.int .i64 (-1)))⟩] [4])
      .ret) .skip))
  (.seq (.seq (.ops [⟨some 17, none, .mv (.r 0)⟩,
      ⟨some 18, none, .mv (.r 1)⟩,
      ⟨some 19, none, .bin .gtr .no (.r 17) (.r 18)⟩] [19])
    (.cond (.r 19) (.seq (.ops [⟨some 4, none, .asg (.c (.int .i64 1))⟩] [4])
      .ret) .skip))
  (.seq (.ops [⟨some 4, none, .asg (.c (.int .i64 0))⟩] [4])
  .ret)))))))),
  [.r 4], none⟩
def c_slices_IndexFunc_api_Value_api_Value_l0 : VCode := (.seq (.ops [⟨some 9, none, .bin .lss .no (.r 8) (.r 7)⟩] [0, 1, 7, 8, 9])
  (.seq (.cond (.r 9) .skip (.exit 0))
  (.seq (.block 1 (.seq (.ops [⟨some 10, none, .mv (.r 8)⟩,
        ⟨some 5, none, .asg (.r 10)⟩] [0, 1, 5, 7, 8])
      (.seq (.ops [⟨some 11, none, .mv (.r 1)⟩,
        ⟨some 12, none, .mv (.r 0)⟩,
        ⟨some 13, none, .mv (.r 5)⟩,
        ⟨some 14, none, .iaddr none 4 (.r 12) (.r 13)⟩,
        ⟨some 15, none, .load true 4 (.r 14)⟩,
        ⟨some 16, none, .callv false (.r 11) [(.r 15)]⟩] [0, 1, 5, 7, 8, 16])
      (.cond (.r 16) (.seq (.ops [⟨some 17, none, .mv (.r 5)⟩,
          ⟨some 4, none, .asg (.r 17)⟩] [4])
        .ret) .skip))))
  (.ops [⟨some 18, none, .bin .add .no (.r 8) (.c (.int .i64 1))⟩,
  ⟨some 8, none, .mv (.r 18)⟩] [0, 1, 7, 8]))))
/-- slices.IndexFunc[[]tattler/api.Value,tattler/api.Value] -/
def c_slices_IndexFunc_api_Value_api_Value : VFun := ⟨2,
  (.seq (.ops [⟨some 4, none, .asg (.c (.int .i64 0))⟩] [0, 1])
  (.seq (.seq (.ops [⟨some 6, none, .mv (.r 0)⟩,
      ⟨some 7, none, .len .sl (.r 6)⟩,
      ⟨some 8, none, .mv (.c (.int .i64 0))⟩] [0, 1, 7, 8])
    (.block 0 (.loop [0, 1, 7, 8] [] c_slices_IndexFunc_api_Value_api_Value_l0)))
  (.seq (.ops [⟨some 4, none, .asg (.c (.int .i64 (-1)))⟩] [4])
  .ret))),
  [.r 4], none⟩
/-- cmp.isNaN[int] -/
def c_cmp_isNaN_int : VFun := ⟨1,
  (.seq (.ops [⟨some 2, none, .asg (.c (.bool false))⟩] [0])
  (.seq (.ops [⟨some 3, none, .mv (.r 0)⟩,
    ⟨some 4, none, .mv (.r 0)⟩,
    ⟨some 5, none, .bin .neq .no (.r 3) (.r 4)⟩,
    ⟨some 2, none, .asg (.r 5)⟩] [2])
  .ret)),
  [.r 2], none⟩
/-- cmp.isNaN[int64] -/
def c_cmp_isNaN_int64 : VFun := ⟨1,
  (.seq (.ops [⟨some 2, none, .asg (.c (.bool false))⟩] [0])
  (.seq (.ops [⟨some 3, none, .mv (.r 0)⟩,
    ⟨some 4, none, .mv (.r 0)⟩,
    ⟨some 5, none, .bin .neq .no (.r 3) (.r 4)⟩,
    ⟨some 2, none, .asg (.r 5)⟩] [2])
  .ret)),
  [.r 2], none⟩
def R : Nat → Option Nat := fun _ => none
theorem ok_tattlerlaw5_SibsGone : FunOk Try.prog R F.tattlerlaw5_SibsGone c_tattlerlaw5_SibsGone := funOk_of Try.func9 rfl (by kernel_rfl) (by kernel_rfl) (by kernel_rfl) (by kernel_rfl) (linC_of (by kernel_rfl)) (by kernel_rfl) (of_decide_eq_true (by kernel_rfl)) (by kernel_rfl)
theorem lin_sibs_Join : linC Try.prog c_sibs_Join.body := (And.intro (linC_of (by kernel_rfl)) (And.intro (linC_of (by kernel_rfl)) (And.intro (linC_of (by kernel_rfl)) (And.intro (linC_of (by kernel_rfl)) (And.intro (linC_of (by kernel_rfl)) (And.intro (fun i hi => by simp only [List.mem_cons, List.not_mem_nil, or_false] at hi; rcases hi with rfl | rfl | rfl | rfl <;> first | exact trivial | exact V0.sorted_lin) (linC_of (by kernel_rfl))))))))
theorem ok_sibs_Join : FunOk Try.prog R F.sibs_Join c_sibs_Join := funOk_of Try.func17 rfl (by kernel_rfl) (by kernel_rfl) (by kernel_rfl) (by kernel_rfl) lin_sibs_Join (by kernel_rfl) (of_decide_eq_true (by kernel_rfl)) (by kernel_rfl)
theorem ok_tattlerlaw5_awake : FunOk Try.prog R F.tattlerlaw5_awake c_tattlerlaw5_awake := funOk_of Try.func19 rfl (by kernel_rfl) (by kernel_rfl) (by kernel_rfl) (by kernel_rfl) (linC_of (by kernel_rfl)) (by kernel_rfl) (of_decide_eq_true (by kernel_rfl)) (by kernel_rfl)
theorem lin_sibs_Put : linC Try.prog c_sibs_Put.body := (And.intro (linC_of (by kernel_rfl)) (And.intro (linC_of (by kernel_rfl)) (And.intro (linC_of (by kernel_rfl)) (And.intro (linC_of (by kernel_rfl)) (And.intro (linC_of (by kernel_rfl)) (And.intro (linC_of (by kernel_rfl)) (And.intro (linC_of (by kernel_rfl)) (And.intro (linC_of (by kernel_rfl)) (And.intro (linC_of (by kernel_rfl)) (And.intro (linC_of (by kernel_rfl)) (And.intro (fun i hi => by simp only [List.mem_cons, List.not_mem_nil, or_false] at hi; rcases hi with rfl | rfl | rfl | rfl | rfl | rfl | rfl | rfl | rfl <;> first | exact trivial | exact V0.sorted_lin) (linC_of (by kernel_rfl)))))))))))))
theorem ok_sibs_Put : FunOk Try.prog R F.sibs_Put c_sibs_Put := funOk_of Try.func20 rfl (by kernel_rfl) (by kernel_rfl) (by kernel_rfl) (by kernel_rfl) lin_sibs_Put (by kernel_rfl) (of_decide_eq_true (by kernel_rfl)) (by kernel_rfl)
theorem ok_tattlerref5_May : FunOk Try.prog R F.tattlerref5_May c_tattlerref5_May := funOk_of Try.func22 rfl (by kernel_rfl) (by kernel_rfl) (by kernel_rfl) (by kernel_rfl) (linC_of (by kernel_rfl)) (by kernel_rfl) (of_decide_eq_true (by kernel_rfl)) (by kernel_rfl)
theorem ok_sibs_Live : FunOk Try.prog R F.sibs_Live c_sibs_Live := funOk_of Try.func23 rfl (by kernel_rfl) (by kernel_rfl) (by kernel_rfl) (by kernel_rfl) (linC_of (by kernel_rfl)) (by kernel_rfl) (of_decide_eq_true (by kernel_rfl)) (by kernel_rfl)
theorem ok_sibs_May : FunOk Try.prog R F.sibs_May c_sibs_May := funOk_of Try.func24 rfl (by kernel_rfl) (by kernel_rfl) (by kernel_rfl) (by kernel_rfl) (linC_of (by kernel_rfl)) (by kernel_rfl) (of_decide_eq_true (by kernel_rfl)) (by kernel_rfl)
theorem ok_tattlerlaw5_few : FunOk Try.prog R F.tattlerlaw5_few c_tattlerlaw5_few := funOk_of Try.func26 rfl (by kernel_rfl) (by kernel_rfl) (by kernel_rfl) (by kernel_rfl) (linC_of (by kernel_rfl)) (by kernel_rfl) (of_decide_eq_true (by kernel_rfl)) (by kernel_rfl)
theorem ok_vector_Join : FunOk Try.prog R F.vector_Join c_vector_Join := funOk_of Try.func28 rfl (by kernel_rfl) (by kernel_rfl) (by kernel_rfl) (by kernel_rfl) (linC_of (by kernel_rfl)) (by kernel_rfl) (of_decide_eq_true (by kernel_rfl)) (by kernel_rfl)
theorem ok_tattlerref1_May : FunOk Try.prog R F.tattlerref1_May c_tattlerref1_May := funOk_of Try.func29 rfl (by kernel_rfl) (by kernel_rfl) (by kernel_rfl) (by kernel_rfl) (linC_of (by kernel_rfl)) (by kernel_rfl) (of_decide_eq_true (by kernel_rfl)) (by kernel_rfl)
theorem ok_sibs_Reap : FunOk Try.prog R F.sibs_Reap c_sibs_Reap := funOk_of Try.func30 rfl (by kernel_rfl) (by kernel_rfl) (by kernel_rfl) (by kernel_rfl) (linC_of (by kernel_rfl)) (by kernel_rfl) (of_decide_eq_true (by kernel_rfl)) (by kernel_rfl)
theorem ok_tattlerref1_Covers : FunOk Try.prog R F.tattlerref1_Covers c_tattlerref1_Covers := funOk_of Try.func33 rfl (by kernel_rfl) (by kernel_rfl) (by kernel_rfl) (by kernel_rfl) (linC_of (by kernel_rfl)) (by kernel_rfl) (of_decide_eq_true (by kernel_rfl)) (by kernel_rfl)
theorem ok_sibs_find : FunOk Try.prog R F.sibs_find c_sibs_find := funOk_of Try.func49 rfl (by kernel_rfl) (by kernel_rfl) (by kernel_rfl) (by kernel_rfl) (linC_of (by kernel_rfl)) (by kernel_rfl) (of_decide_eq_true (by kernel_rfl)) (by kernel_rfl)
theorem ok_sibs_own : FunOk Try.prog R F.sibs_own c_sibs_own := funOk_of Try.func50 rfl (by kernel_rfl) (by kernel_rfl) (by kernel_rfl) (by kernel_rfl) (linC_of (by kernel_rfl)) (by kernel_rfl) (of_decide_eq_true (by kernel_rfl)) (by kernel_rfl)
theorem ok_sibs_better : FunOk Try.prog R F.sibs_better c_sibs_better := funOk_of Try.func51 rfl (by kernel_rfl) (by kernel_rfl) (by kernel_rfl) (by kernel_rfl) (linC_of (by kernel_rfl)) (by kernel_rfl) (of_decide_eq_true (by kernel_rfl)) (by kernel_rfl)
theorem ok_vector_Covers : FunOk Try.prog R F.vector_Covers c_vector_Covers := funOk_of Try.func52 rfl (by kernel_rfl) (by kernel_rfl) (by kernel_rfl) (by kernel_rfl) (linC_of (by kernel_rfl)) (by kernel_rfl) (of_decide_eq_true (by kernel_rfl)) (by kernel_rfl)
theorem ok_slices_Clone_byte_byte : FunOk Try.prog R F.slices_Clone_byte_byte c_slices_Clone_byte_byte := funOk_of Try.func58 rfl (by kernel_rfl) (by kernel_rfl) (by kernel_rfl) (by kernel_rfl) (linC_of (by kernel_rfl)) (by kernel_rfl) (of_decide_eq_true (by kernel_rfl)) (by kernel_rfl)
theorem ok_vector_May : FunOk Try.prog R F.vector_May c_vector_May := funOk_of Try.func59 rfl (by kernel_rfl) (by kernel_rfl) (by kernel_rfl) (by kernel_rfl) (linC_of (by kernel_rfl)) (by kernel_rfl) (of_decide_eq_true (by kernel_rfl)) (by kernel_rfl)
theorem ok_sibs_mayValue : FunOk Try.prog R F.sibs_mayValue c_sibs_mayValue := funOk_of Try.func60 rfl (by kernel_rfl) (by kernel_rfl) (by kernel_rfl) (by kernel_rfl) (linC_of (by kernel_rfl)) (by kernel_rfl) (of_decide_eq_true (by kernel_rfl)) (by kernel_rfl)
theorem ok_vector_Next : FunOk Try.prog R F.vector_Next c_vector_Next := funOk_of Try.func61 rfl (by kernel_rfl) (by kernel_rfl) (by kernel_rfl) (by kernel_rfl) (linC_of (by kernel_rfl)) (by kernel_rfl) (of_decide_eq_true (by kernel_rfl)) (by kernel_rfl)
theorem ok_vector_With : FunOk Try.prog R F.vector_With c_vector_With := funOk_of Try.func62 rfl (by kernel_rfl) (by kernel_rfl) (by kernel_rfl) (by kernel_rfl) (linC_of (by kernel_rfl)) (by kernel_rfl) (of_decide_eq_true (by kernel_rfl)) (by kernel_rfl)
theorem ok_tattlerref1_Less : FunOk Try.prog R F.tattlerref1_Less c_tattlerref1_Less := funOk_of Try.func65 rfl (by kernel_rfl) (by kernel_rfl) (by kernel_rfl) (by kernel_rfl) (linC_of (by kernel_rfl)) (by kernel_rfl) (of_decide_eq_true (by kernel_rfl)) (by kernel_rfl)
theorem ok_vector_Less : FunOk Try.prog R F.vector_Less c_vector_Less := funOk_of Try.func66 rfl (by kernel_rfl) (by kernel_rfl) (by kernel_rfl) (by kernel_rfl) (linC_of (by kernel_rfl)) (by kernel_rfl) (of_decide_eq_true (by kernel_rfl)) (by kernel_rfl)
theorem ok_slices_ContainsFunc_api_Value_api_Value : FunOk Try.prog R F.slices_ContainsFunc_api_Value_api_Value c_slices_ContainsFunc_api_Value_api_Value := funOk_of Try.func70 rfl (by kernel_rfl) (by kernel_rfl) (by kernel_rfl) (by kernel_rfl) (linC_of (by kernel_rfl)) (by kernel_rfl) (of_decide_eq_true (by kernel_rfl)) (by kernel_rfl)
theorem ok_sibs_Reap_c1 : FunOk Try.prog R F.sibs_Reap_c1 c_sibs_Reap_c1 := funOk_of Try.func71 rfl (by kernel_rfl) (by kernel_rfl) (by kernel_rfl) (by kernel_rfl) (linC_of (by kernel_rfl)) (by kernel_rfl) (of_decide_eq_true (by kernel_rfl)) (by kernel_rfl)
theorem ok_sibs_copied : FunOk Try.prog R F.sibs_copied c_sibs_copied := funOk_of Try.func72 rfl (by kernel_rfl) (by kernel_rfl) (by kernel_rfl) (by kernel_rfl) (linC_of (by kernel_rfl)) (by kernel_rfl) (of_decide_eq_true (by kernel_rfl)) (by kernel_rfl)
theorem ok_bytes_Compare : FunOk Try.prog R F.bytes_Compare c_bytes_Compare := funOk_of Try.func78 rfl (by kernel_rfl) (by kernel_rfl) (by kernel_rfl) (by kernel_rfl) (linC_of (by kernel_rfl)) (by kernel_rfl) (of_decide_eq_true (by kernel_rfl)) (by kernel_rfl)
theorem ok_vector_is : FunOk Try.prog R F.vector_is c_vector_is := funOk_of Try.func79 rfl (by kernel_rfl) (by kernel_rfl) (by kernel_rfl) (by kernel_rfl) (linC_of (by kernel_rfl)) (by kernel_rfl) (of_decide_eq_true (by kernel_rfl)) (by kernel_rfl)
theorem ok_cmp_Or_int : FunOk Try.prog R F.cmp_Or_int c_cmp_Or_int := funOk_of Try.func82 rfl (by kernel_rfl) (by kernel_rfl) (by kernel_rfl) (by kernel_rfl) (linC_of (by kernel_rfl)) (by kernel_rfl) (of_decide_eq_true (by kernel_rfl)) (by kernel_rfl)
theorem ok_cmp_Compare_int : FunOk Try.prog R F.cmp_Compare_int c_cmp_Compare_int := funOk_of Try.func83 rfl (by kernel_rfl) (by kernel_rfl) (by kernel_rfl) (by kernel_rfl) (linC_of (by kernel_rfl)) (by kernel_rfl) (of_decide_eq_true (by kernel_rfl)) (by kernel_rfl)
theorem ok_cmp_Compare_int64 : FunOk Try.prog R F.cmp_Compare_int64 c_cmp_Compare_int64 := funOk_of Try.func84 rfl (by kernel_rfl) (by kernel_rfl) (by kernel_rfl) (by kernel_rfl) (linC_of (by kernel_rfl)) (by kernel_rfl) (of_decide_eq_true (by kernel_rfl)) (by kernel_rfl)
theorem ok_slices_IndexFunc_api_Value_api_Value : FunOk Try.prog R F.slices_IndexFunc_api_Value_api_Value c_slices_IndexFunc_api_Value_api_Value := funOk_of Try.func85 rfl (by kernel_rfl) (by kernel_rfl) (by kernel_rfl) (by kernel_rfl) (linC_of (by kernel_rfl)) (by kernel_rfl) (of_decide_eq_true (by kernel_rfl)) (by kernel_rfl)
theorem ok_cmp_isNaN_int : FunOk Try.prog R F.cmp_isNaN_int c_cmp_isNaN_int := funOk_of Try.func103 rfl (by kernel_rfl) (by kernel_rfl) (by kernel_rfl) (by kernel_rfl) (linC_of (by kernel_rfl)) (by kernel_rfl) (of_decide_eq_true (by kernel_rfl)) (by kernel_rfl)
theorem ok_cmp_isNaN_int64 : FunOk Try.prog R F.cmp_isNaN_int64 c_cmp_isNaN_int64 := funOk_of Try.func104 rfl (by kernel_rfl) (by kernel_rfl) (by kernel_rfl) (by kernel_rfl) (linC_of (by kernel_rfl)) (by kernel_rfl) (of_decide_eq_true (by kernel_rfl)) (by kernel_rfl)
def tab : List (Nat × VFun) := [(F.tattlerlaw5_SibsGone, c_tattlerlaw5_SibsGone), (F.sibs_Join, c_sibs_Join), (F.tattlerlaw5_awake, c_tattlerlaw5_awake), (F.sibs_Put, c_sibs_Put), (F.tattlerref5_May, c_tattlerref5_May), (F.sibs_Live, c_sibs_Live), (F.sibs_May, c_sibs_May), (F.tattlerlaw5_few, c_tattlerlaw5_few), (F.vector_Join, c_vector_Join), (F.tattlerref1_May, c_tattlerref1_May), (F.sibs_Reap, c_sibs_Reap), (F.tattlerref1_Covers, c_tattlerref1_Covers), (F.sibs_find, c_sibs_find), (F.sibs_own, c_sibs_own), (F.sibs_better, c_sibs_better), (F.vector_Covers, c_vector_Covers), (F.slices_Clone_byte_byte, c_slices_Clone_byte_byte), (F.vector_May, c_vector_May), (F.sibs_mayValue, c_sibs_mayValue), (F.vector_Next, c_vector_Next), (F.vector_With, c_vector_With), (F.tattlerref1_Less, c_tattlerref1_Less), (F.vector_Less, c_vector_Less), (F.slices_ContainsFunc_api_Value_api_Value, c_slices_ContainsFunc_api_Value_api_Value), (F.sibs_Reap_c1, c_sibs_Reap_c1), (F.sibs_copied, c_sibs_copied), (F.bytes_Compare, c_bytes_Compare), (F.vector_is, c_vector_is), (F.cmp_Or_int, c_cmp_Or_int), (F.cmp_Compare_int, c_cmp_Compare_int), (F.cmp_Compare_int64, c_cmp_Compare_int64), (F.slices_IndexFunc_api_Value_api_Value, c_slices_IndexFunc_api_Value_api_Value), (F.cmp_isNaN_int, c_cmp_isNaN_int), (F.cmp_isNaN_int64, c_cmp_isNaN_int64)]
theorem prim_bytealg_Compare : PrimOk Try.prog R F.bytealg_Compare compareP := compare_ok (fn := Try.f100) Try.func100 (by kernel_rfl) (by kernel_rfl) (by kernel_rfl) (by kernel_rfl) rfl
def prims : List (Nat × Prim) := [(F.bytealg_Compare, compareP)]
abbrev E : Env := ⟨tabFn tab, primFn prims⟩
theorem envOk : EnvOk Try.prog R E := env_prims Try.checked.mixed ⟨prim_bytealg_Compare, trivial⟩ ⟨ok_tattlerlaw5_SibsGone, ok_sibs_Join, ok_tattlerlaw5_awake, ok_sibs_Put, ok_tattlerref5_May, ok_sibs_Live, ok_sibs_May, ok_tattlerlaw5_few, ok_vector_Join, ok_tattlerref1_May, ok_sibs_Reap, ok_tattlerref1_Covers, ok_sibs_find, ok_sibs_own, ok_sibs_better, ok_vector_Covers, ok_slices_Clone_byte_byte, ok_vector_May, ok_sibs_mayValue, ok_vector_Next, ok_vector_With, ok_tattlerref1_Less, ok_vector_Less, ok_slices_ContainsFunc_api_Value_api_Value, ok_sibs_Reap_c1, ok_sibs_copied, ok_bytes_Compare, ok_vector_is, ok_cmp_Or_int, ok_cmp_Compare_int, ok_cmp_Compare_int64, ok_slices_IndexFunc_api_Value_api_Value, ok_cmp_isNaN_int, ok_cmp_isNaN_int64, trivial⟩
theorem fn_tattlerlaw5_SibsGone : E.fn F.tattlerlaw5_SibsGone = some c_tattlerlaw5_SibsGone := rfl
theorem fn_sibs_Join : E.fn F.sibs_Join = some c_sibs_Join := rfl
theorem fn_tattlerlaw5_awake : E.fn F.tattlerlaw5_awake = some c_tattlerlaw5_awake := rfl
theorem fn_sibs_Put : E.fn F.sibs_Put = some c_sibs_Put := rfl
theorem fn_tattlerref5_May : E.fn F.tattlerref5_May = some c_tattlerref5_May := rfl
theorem fn_sibs_Live : E.fn F.sibs_Live = some c_sibs_Live := rfl
theorem fn_sibs_May : E.fn F.sibs_May = some c_sibs_May := rfl
theorem fn_tattlerlaw5_few : E.fn F.tattlerlaw5_few = some c_tattlerlaw5_few := rfl
theorem fn_vector_Join : E.fn F.vector_Join = some c_vector_Join := rfl
theorem fn_tattlerref1_May : E.fn F.tattlerref1_May = some c_tattlerref1_May := rfl
theorem fn_sibs_Reap : E.fn F.sibs_Reap = some c_sibs_Reap := rfl
theorem fn_tattlerref1_Covers : E.fn F.tattlerref1_Covers = some c_tattlerref1_Covers := rfl
theorem fn_sibs_find : E.fn F.sibs_find = some c_sibs_find := rfl
theorem fn_sibs_own : E.fn F.sibs_own = some c_sibs_own := rfl
theorem fn_sibs_better : E.fn F.sibs_better = some c_sibs_better := rfl
theorem fn_vector_Covers : E.fn F.vector_Covers = some c_vector_Covers := rfl
theorem fn_slices_Clone_byte_byte : E.fn F.slices_Clone_byte_byte = some c_slices_Clone_byte_byte := rfl
theorem fn_vector_May : E.fn F.vector_May = some c_vector_May := rfl
theorem fn_sibs_mayValue : E.fn F.sibs_mayValue = some c_sibs_mayValue := rfl
theorem fn_vector_Next : E.fn F.vector_Next = some c_vector_Next := rfl
theorem fn_vector_With : E.fn F.vector_With = some c_vector_With := rfl
theorem fn_tattlerref1_Less : E.fn F.tattlerref1_Less = some c_tattlerref1_Less := rfl
theorem fn_vector_Less : E.fn F.vector_Less = some c_vector_Less := rfl
theorem fn_slices_ContainsFunc_api_Value_api_Value : E.fn F.slices_ContainsFunc_api_Value_api_Value = some c_slices_ContainsFunc_api_Value_api_Value := rfl
theorem fn_sibs_Reap_c1 : E.fn F.sibs_Reap_c1 = some c_sibs_Reap_c1 := rfl
theorem fn_sibs_copied : E.fn F.sibs_copied = some c_sibs_copied := rfl
theorem fn_bytes_Compare : E.fn F.bytes_Compare = some c_bytes_Compare := rfl
theorem fn_vector_is : E.fn F.vector_is = some c_vector_is := rfl
theorem fn_cmp_Or_int : E.fn F.cmp_Or_int = some c_cmp_Or_int := rfl
theorem fn_cmp_Compare_int : E.fn F.cmp_Compare_int = some c_cmp_Compare_int := rfl
theorem fn_cmp_Compare_int64 : E.fn F.cmp_Compare_int64 = some c_cmp_Compare_int64 := rfl
theorem fn_slices_IndexFunc_api_Value_api_Value : E.fn F.slices_IndexFunc_api_Value_api_Value = some c_slices_IndexFunc_api_Value_api_Value := rfl
theorem fn_cmp_isNaN_int : E.fn F.cmp_isNaN_int = some c_cmp_isNaN_int := rfl
theorem fn_cmp_isNaN_int64 : E.fn F.cmp_isNaN_int64 = some c_cmp_isNaN_int64 := rfl
end Go.Proofs.Ytfdhldbhbigfhaa.V

