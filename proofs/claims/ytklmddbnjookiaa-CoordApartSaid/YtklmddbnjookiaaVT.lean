/- The functions' code as the V-machine has it; the kernel sees that it is theirs. -/
import Derived.Test.YtklmddbnjookiaaVmG5
import Derived.Test.YtklmddbnjookiaaChecked
import Derived.KernelRfl
import Derived.Test.YtklmddbnjookiaaVmSL
namespace Go.Proofs.Ytklmddbnjookiaa.V
open Go.Vm
set_option maxRecDepth 100000
set_option linter.unusedVariables false
set_option linter.unusedSimpArgs false
def F.bytealg_Compare : Nat := 73
def F.bytes_Compare : Nat := 63
def F.bytes_Equal : Nat := 55
def F.cmp_Compare_int : Nat := 71
def F.cmp_Compare_int64 : Nat := 72
def F.cmp_Or_int : Nat := 70
def F.cmp_isNaN_int : Nat := 86
def F.cmp_isNaN_int64 : Nat := 87
def F.coord_Coord_Ack : Nat := 11
def F.coord_Coord_Answers : Nat := 18
def F.coord_Coord_Got : Nat := 17
def F.coord_Coord_Len : Nat := 10
def F.coord_Coord_Read : Nat := 12
def F.coord_Coord_Write : Nat := 9
def F.coord_Coord_begin : Nat := 24
def F.coord_Coord_end : Nat := 27
def F.coord_Coord_find : Nat := 25
def F.coord_New : Nat := 8
def F.coord_copied : Nat := 39
def F.quorum_Count_Add : Nat := 26
def F.quorum_Count_Has : Nat := 38
def F.quorum_Count_Len : Nat := 45
def F.quorum_New : Nat := 44
def F.sibs_Join : Nat := 40
def F.sibs_May : Nat := 46
def F.sibs_MayEntry : Nat := 37
def F.sibs_Same : Nat := 41
def F.sibs_Same_c1 : Nat := 54
def F.sibs_better : Nat := 49
def F.sibs_find : Nat := 47
def F.sibs_mayValue : Nat := 60
def F.sibs_own : Nat := 48
def F.sibs_sorted : Nat := 51
def F.slices_Clone_byte_byte : Nat := 62
def F.slices_EqualFunc_api_Value_api_Value_api_Value_api_Value : Nat := 53
def F.tattlerlaw22_CoordApart : Nat := 6
def F.tattlerlaw22_awake : Nat := 13
def F.tattlerref14_In : Nat := 20
def F.tattlerref1_Covers : Nat := 30
def F.tattlerref1_Join : Nat := 32
def F.tattlerref1_Less : Nat := 31
def F.tattlerref1_May : Nat := 29
def F.tattlerref5_Join : Nat := 16
def F.tattlerref5_May : Nat := 15
def F.tattlerref5_MayEntry : Nat := 14
def F.tattlerref5_MayKey : Nat := 28
def F.tattlerref5_Same : Nat := 19
def F.tattlerref5_SameInts : Nat := 21
def F.tattlerref5_copied : Nat := 35
def F.tattlerref5_find : Nat := 33
def F.tattlerref5_first : Nat := 36
def F.tattlerref5_insert : Nat := 34
def F.vector_Covers : Nat := 50
def F.vector_Join : Nat := 52
def F.vector_Less : Nat := 61
def F.vector_May : Nat := 59
def F.vector_is : Nat := 64
def c_tattlerlaw22_CoordApart_l0 : VCode := (.seq (.ops [⟨some 58, none, .bin .lss .no (.r 57) (.r 56)⟩] [0, 1, 2, 3, 51, 52, 55, 56, 57, 58])
  (.seq (.cond (.r 58) .skip (.exit 2))
  (.seq (.block 3 (.seq (.ops [⟨some 59, none, .iaddr none 9 (.r 55) (.r 57)⟩,
        ⟨some 60, none, .load true 9 (.r 59)⟩,
        ⟨some 12, none, .alloc [(.int .i64 0), (.int .i64 0), (.int .i64 0), (.int .i64 0), (.int .i64 0), (.int .i64 0), (.int .i64 0), (.int .i64 0), (.sl [])] []⟩,
        ⟨none, none, .store 9 (.r 12) (.r 60) [] none⟩] [0, 1, 2, 3, 12, 51, 52, 55, 56, 57])
      (.seq (.ops [⟨some 61, none, .load true 9 (.r 12)⟩,
        ⟨some 62, none, .call false F.tattlerref5_May [(.r 61)]⟩,
        ⟨some 63, none, .un .not (.r 62)⟩] [0, 1, 2, 3, 51, 52, 55, 56, 57, 63])
      (.cond (.r 63) (.seq (.ops [⟨some 64, none, .call false F.tattlerlaw22_awake []⟩,
          ⟨some 8, none, .asg (.r 64)⟩] [8])
        .ret) .skip))))
  (.ops [⟨some 65, none, .bin .add .no (.r 57) (.c (.int .i64 1))⟩,
  ⟨some 57, none, .mv (.r 65)⟩] [0, 1, 2, 3, 51, 52, 55, 56, 57]))))
def c_tattlerlaw22_CoordApart_l1 : VCode := (.seq (.ops [⟨some 53, none, .bin .lss .no (.r 52) (.c (.int .i64 2))⟩] [0, 1, 2, 3, 51, 52, 53])
  (.seq (.cond (.r 53) .skip (.exit 0))
  (.seq (.block 1 (.seq (.ops [⟨some 54, none, .index false 2 1 false (.r 51) (.r 52)⟩,
        ⟨some 10, none, .asg (.r 54)⟩] [0, 1, 2, 3, 10, 51, 52])
      (.seq (.ops [⟨some 55, none, .mv (.r 10)⟩,
        ⟨some 56, none, .len .sl (.r 55)⟩,
        ⟨some 57, none, .mv (.c (.int .i64 0))⟩] [0, 1, 2, 3, 51, 52, 55, 56, 57])
      (.block 2 (.loop [0, 1, 2, 3, 51, 52, 55, 56, 57] [] c_tattlerlaw22_CoordApart_l0)))))
  (.ops [⟨some 66, none, .bin .add .no (.r 52) (.c (.int .i64 1))⟩,
  ⟨some 52, none, .mv (.r 66)⟩] [0, 1, 2, 3, 51, 52]))))
def c_tattlerlaw22_CoordApart_l2 : VCode := (.seq (.ops [⟨some 91, none, .bin .lss .no (.r 90) (.c (.int .i64 7))⟩] [0, 1, 13, 14, 15, 17, 19, 90, 91])
  (.seq (.cond (.r 91) .skip (.exit 4))
  (.seq (.block 5 (.seq (.ops [⟨some 92, none, .mv (.r 90)⟩,
        ⟨some 21, none, .asg (.r 92)⟩] [0, 1, 13, 14, 15, 17, 19, 21, 90])
      (.seq (.seq (.ops [⟨some 93, none, .mv (.r 21)⟩,
          ⟨some 94, none, .mv (.r 1)⟩,
          ⟨some 95, none, .len .sl (.r 94)⟩,
          ⟨some 96, none, .bin .lss .no (.r 93) (.r 95)⟩] [0, 1, 13, 14, 15, 17, 19, 21, 90, 96])
        (.cond (.r 96) (.ops [⟨some 97, none, .mv (.r 13)⟩,
          ⟨some 98, none, .mv (.r 17)⟩,
          ⟨some 99, none, .mv (.r 21)⟩,
          ⟨some 100, none, .bin .add .no (.r 99) (.c (.int .i64 1))⟩,
          ⟨some 101, none, .mv (.r 1)⟩,
          ⟨some 102, none, .mv (.r 21)⟩,
          ⟨some 103, none, .iaddr none 9 (.r 101) (.r 102)⟩,
          ⟨some 104, none, .load true 9 (.r 103)⟩,
          ⟨some 105, none, .build [(.str []), (.int .i64 0), (.int .i64 0), (.int .i64 0), (.int .i64 0), (.int .i64 0), (.int .i64 0), (.int .i64 0), (.int .i64 0), (.sl [])] [(0, 1, (.c (.str [98]))), (1, 9, (.r 104))]⟩,
          ⟨some 106, none, .call false F.coord_Coord_Got [(.r 97), (.r 98), (.r 100), (.r 105)]⟩] [0, 1, 13, 14, 15, 17, 19, 21, 90]) .skip))
      (.seq (.ops [⟨some 107, none, .mv (.r 21)⟩,
        ⟨some 108, none, .mv (.r 0)⟩,
        ⟨some 109, none, .len .sl (.r 108)⟩,
        ⟨some 110, none, .bin .lss .no (.r 107) (.r 109)⟩] [0, 1, 13, 14, 15, 17, 19, 21, 90, 110])
      (.cond (.r 110) (.seq (.ops [⟨some 112, none, .mv (.r 13)⟩,
          ⟨some 113, none, .mv (.r 15)⟩,
          ⟨some 114, none, .mv (.r 21)⟩,
          ⟨some 115, none, .bin .add .no (.r 114) (.c (.int .i64 1))⟩,
          ⟨some 116, none, .mv (.r 0)⟩,
          ⟨some 117, none, .mv (.r 21)⟩,
          ⟨some 118, none, .iaddr none 9 (.r 116) (.r 117)⟩,
          ⟨some 119, none, .load true 9 (.r 118)⟩,
          ⟨some 120, none, .build [(.str []), (.int .i64 0), (.int .i64 0), (.int .i64 0), (.int .i64 0), (.int .i64 0), (.int .i64 0), (.int .i64 0), (.int .i64 0), (.sl [])] [(0, 1, (.c (.str [97]))), (1, 9, (.r 119))]⟩,
          ⟨some 121, none, .call false F.coord_Coord_Got [(.r 112), (.r 113), (.r 115), (.r 120)]⟩,
          ⟨some 111, none, .mv (.r 121)⟩,
          ⟨some 122, none, .extract 0 (.r 111)⟩,
          ⟨some 123, none, .extract 1 (.r 111)⟩,
          ⟨some 22, none, .asg (.r 122)⟩,
          ⟨some 23, none, .asg (.r 123)⟩] [0, 1, 13, 14, 15, 17, 19, 21, 22, 23, 90])
        (.seq (.ops [⟨some 125, none, .mv (.r 14)⟩,
          ⟨some 126, none, .mv (.r 19)⟩,
          ⟨some 127, none, .mv (.r 21)⟩,
          ⟨some 128, none, .bin .add .no (.r 127) (.c (.int .i64 1))⟩,
          ⟨some 129, none, .mv (.r 0)⟩,
          ⟨some 130, none, .mv (.r 21)⟩,
          ⟨some 131, none, .iaddr none 9 (.r 129) (.r 130)⟩,
          ⟨some 132, none, .load true 9 (.r 131)⟩,
          ⟨some 133, none, .build [(.str []), (.int .i64 0), (.int .i64 0), (.int .i64 0), (.int .i64 0), (.int .i64 0), (.int .i64 0), (.int .i64 0), (.int .i64 0), (.sl [])] [(0, 1, (.c (.str [97]))), (1, 9, (.r 132))]⟩,
          ⟨some 134, none, .call false F.coord_Coord_Got [(.r 125), (.r 126), (.r 128), (.r 133)]⟩,
          ⟨some 124, none, .mv (.r 134)⟩,
          ⟨some 135, none, .extract 0 (.r 124)⟩,
          ⟨some 136, none, .extract 1 (.r 124)⟩,
          ⟨some 24, none, .asg (.r 135)⟩,
          ⟨some 25, none, .asg (.r 136)⟩] [0, 1, 13, 14, 15, 17, 19, 22, 23, 24, 25, 90])
        (.seq (.ops [⟨some 137, none, .mv (.r 23)⟩,
          ⟨some 138, none, .mv (.r 25)⟩,
          ⟨some 139, none, .bin .neq .bool (.r 137) (.r 138)⟩,
          ⟨some 140, none, .mv (.r 139)⟩,
          ⟨some 141, some (140, false), .mv (.r 22)⟩,
          ⟨some 142, some (140, false), .mv (.r 24)⟩,
          ⟨some 143, some (140, false), .call false F.tattlerref5_SameInts [(.r 141), (.r 142)]⟩,
          ⟨some 144, some (140, false), .un .not (.r 143)⟩,
          ⟨some 145, none, .pick (.r 140) (.c (.bool true)) (.r 144)⟩] [0, 1, 13, 14, 15, 17, 19, 90, 145])
        (.cond (.r 145) (.seq (.ops [⟨some 8, none, .asg (.c (.bool false))⟩] [8])
          .ret) .skip)))) .skip)))))
  (.ops [⟨some 146, none, .bin .add .no (.r 90) (.c (.int .i64 1))⟩,
  ⟨some 90, none, .mv (.r 146)⟩] [0, 1, 13, 14, 15, 17, 19, 90]))))
def c_tattlerlaw22_CoordApart_l3 : VCode := (.seq (.ops [⟨some 151, none, .bin .lss .no (.r 150) (.r 149)⟩] [14, 15, 26, 148, 149, 150, 151])
  (.seq (.cond (.r 151) .skip (.exit 6))
  (.seq (.block 7 (.seq (.ops [⟨some 152, none, .iaddr none 11 (.r 148) (.r 150)⟩,
        ⟨some 153, none, .load true 11 (.r 152)⟩,
        ⟨some 28, none, .alloc [(.int .i64 0), (.int .i64 0), (.int .i64 0), (.int .i64 0), (.int .i64 0), (.int .i64 0), (.int .i64 0), (.int .i64 0), (.int .i64 0), (.int .i64 0), (.sl [])] []⟩,
        ⟨none, none, .store 11 (.r 28) (.r 153) [] none⟩] [14, 15, 26, 28, 148, 149, 150])
      (.seq (.ops [⟨some 154, none, .faddr 0 (.r 28)⟩,
        ⟨some 155, none, .load false 1 (.r 154)⟩,
        ⟨some 156, none, .mv (.r 15)⟩,
        ⟨some 157, none, .bin .eql .no (.r 155) (.r 156)⟩] [14, 15, 26, 28, 148, 149, 150, 157])
      (.cond (.r 157) (.ops [⟨some 158, none, .mv (.r 26)⟩,
        ⟨some 159, none, .load true 11 (.r 28)⟩,
        ⟨some 160, none, .bslice (.agg [(.int .i64 0), (.int .i64 0), (.int .i64 0), (.int .i64 0), (.int .i64 0), (.int .i64 0), (.int .i64 0), (.int .i64 0), (.int .i64 0), (.int .i64 0), (.sl [])]) 11 1 [(0, (.r 159))]⟩,
        ⟨some 161, none, .app (.reg 26) 11 104 (.r 158) (.r 160)⟩,
        ⟨some 26, none, .asg (.r 161)⟩] [14, 15, 26, 148, 149, 150]) .skip))))
  (.ops [⟨some 162, none, .bin .add .no (.r 150) (.c (.int .i64 1))⟩,
  ⟨some 150, none, .mv (.r 162)⟩] [14, 15, 26, 148, 149, 150]))))
/-- tattler/tattlerlaw22.CoordApart -/
def c_tattlerlaw22_CoordApart : VFun := ⟨4,
  (.seq (.ops [⟨some 8, none, .asg (.c (.bool false))⟩] [0, 1, 2, 3])
  (.seq (.ops [⟨some 30, none, .mv (.r 2)⟩,
    ⟨some 31, none, .conv (.toInt .u64) (.r 30)⟩,
    ⟨some 32, none, .bin .rem .no (.r 31) (.c (.int .u64 5))⟩,
    ⟨some 33, none, .conv (.toInt .i64) (.r 32)⟩,
    ⟨some 34, none, .bin .add .no (.r 33) (.c (.int .i64 2))⟩,
    ⟨some 35, none, .mv (.r 3)⟩,
    ⟨some 36, none, .conv (.toInt .u64) (.r 35)⟩,
    ⟨some 37, none, .bin .rem .no (.r 36) (.c (.int .u64 5))⟩,
    ⟨some 38, none, .conv (.toInt .i64) (.r 37)⟩,
    ⟨some 39, none, .bin .add .no (.r 38) (.c (.int .i64 2))⟩,
    ⟨some 2, none, .asg (.r 34)⟩,
    ⟨some 3, none, .asg (.r 39)⟩] [0, 1, 2, 3])
  (.seq (.seq (.ops [⟨some 40, none, .mv (.r 0)⟩,
      ⟨some 41, none, .len .sl (.r 40)⟩,
      ⟨some 42, none, .bin .gtr .no (.r 41) (.c (.int .i64 7))⟩,
      ⟨some 43, none, .mv (.r 42)⟩,
      ⟨some 44, some (43, false), .mv (.r 1)⟩,
      ⟨some 45, some (43, false), .len .sl (.r 44)⟩,
      ⟨some 46, some (43, false), .bin .gtr .no (.r 45) (.c (.int .i64 7))⟩,
      ⟨some 47, none, .pick (.r 43) (.c (.bool true)) (.r 46)⟩] [0, 1, 2, 3, 47])
    (.cond (.r 47) (.seq (.ops [⟨some 48, none, .call false F.tattlerlaw22_awake []⟩,
        ⟨some 8, none, .asg (.r 48)⟩] [8])
      .ret) .skip))
  (.seq (.seq (.ops [⟨some 49, none, .mv (.r 0)⟩,
      ⟨some 50, none, .mv (.r 1)⟩,
      ⟨some 51, none, .build [(.sl []), (.sl [])] [(0, 1, (.r 49)), (1, 1, (.r 50))]⟩,
      ⟨some 52, none, .mv (.c (.int .i64 0))⟩] [0, 1, 2, 3, 51, 52])
    (.block 0 (.loop [0, 1, 2, 3, 51, 52] [] c_tattlerlaw22_CoordApart_l1)))
  (.seq (.ops [⟨some 67, none, .call false F.coord_New [(.c (.int .i64 9))]⟩,
    ⟨some 68, none, .call false F.coord_New [(.c (.int .i64 9))]⟩,
    ⟨some 13, none, .asg (.r 67)⟩,
    ⟨some 14, none, .asg (.r 68)⟩] [0, 1, 2, 3, 13, 14])
  (.seq (.ops [⟨some 70, none, .mv (.r 13)⟩,
    ⟨some 71, none, .mv (.r 2)⟩,
    ⟨some 72, none, .build [(.int .i64 0), (.int .i64 0), (.int .i64 0), (.int .i64 0), (.int .i64 0), (.int .i64 0), (.int .i64 0), (.int .i64 0), (.sl [])] []⟩,
    ⟨some 73, none, .call false F.coord_Coord_Read [(.r 70), (.c (.int .i64 0)), (.r 71), (.c (.str [97])), (.r 72)]⟩,
    ⟨some 69, none, .mv (.r 73)⟩,
    ⟨some 74, none, .extract 0 (.r 69)⟩,
    ⟨some 75, none, .extract 1 (.r 69)⟩,
    ⟨some 15, none, .asg (.r 74)⟩,
    ⟨some 16, none, .asg (.r 75)⟩] [0, 1, 2, 3, 13, 14, 15])
  (.seq (.ops [⟨some 77, none, .mv (.r 13)⟩,
    ⟨some 78, none, .mv (.r 3)⟩,
    ⟨some 79, none, .build [(.int .i64 0), (.int .i64 0), (.int .i64 0), (.int .i64 0), (.int .i64 0), (.int .i64 0), (.int .i64 0), (.int .i64 0), (.sl [])] []⟩,
    ⟨some 80, none, .call false F.coord_Coord_Read [(.r 77), (.c (.int .i64 0)), (.r 78), (.c (.str [98])), (.r 79)]⟩,
    ⟨some 76, none, .mv (.r 80)⟩,
    ⟨some 81, none, .extract 0 (.r 76)⟩,
    ⟨some 82, none, .extract 1 (.r 76)⟩,
    ⟨some 17, none, .asg (.r 81)⟩,
    ⟨some 18, none, .asg (.r 82)⟩] [0, 1, 2, 13, 14, 15, 17])
  (.seq (.ops [⟨some 84, none, .mv (.r 14)⟩,
    ⟨some 85, none, .mv (.r 2)⟩,
    ⟨some 86, none, .build [(.int .i64 0), (.int .i64 0), (.int .i64 0), (.int .i64 0), (.int .i64 0), (.int .i64 0), (.int .i64 0), (.int .i64 0), (.sl [])] []⟩,
    ⟨some 87, none, .call false F.coord_Coord_Read [(.r 84), (.c (.int .i64 0)), (.r 85), (.c (.str [97])), (.r 86)]⟩,
    ⟨some 83, none, .mv (.r 87)⟩,
    ⟨some 88, none, .extract 0 (.r 83)⟩,
    ⟨some 89, none, .extract 1 (.r 83)⟩,
    ⟨some 19, none, .asg (.r 88)⟩,
    ⟨some 20, none, .asg (.r 89)⟩] [0, 1, 13, 14, 15, 17, 19])
  (.seq (.seq (.ops [⟨some 90, none, .mv (.c (.int .i64 0))⟩] [0, 1, 13, 14, 15, 17, 19, 90])
    (.block 4 (.loop [0, 1, 13, 14, 15, 17, 19, 90] [] c_tattlerlaw22_CoordApart_l2)))
  (.seq (.ops [⟨some 26, none, .asg (.c (.sl []))⟩] [13, 14, 15, 26])
  (.seq (.seq (.ops [⟨some 147, none, .mv (.r 13)⟩,
      ⟨some 148, none, .call false F.coord_Coord_Answers [(.r 147)]⟩,
      ⟨some 149, none, .len .sl (.r 148)⟩,
      ⟨some 150, none, .mv (.c (.int .i64 0))⟩] [14, 15, 26, 148, 149, 150])
    (.block 6 (.loop [14, 15, 26, 148, 149, 150] [(26, 0, 11)] c_tattlerlaw22_CoordApart_l3)))
  (.seq (.ops [⟨some 163, none, .mv (.r 14)⟩,
    ⟨some 164, none, .call false F.coord_Coord_Answers [(.r 163)]⟩,
    ⟨some 29, none, .asg (.r 164)⟩] [26, 29])
  (.seq (.dops 18 [⟨some 165, none, .mv (.r 26)⟩,
    ⟨some 166, none, .len .sl (.r 165)⟩,
    ⟨some 167, none, .mv (.r 29)⟩,
    ⟨some 168, none, .len .sl (.r 167)⟩,
    ⟨some 169, none, .bin .eql .no (.r 166) (.r 168)⟩,
    ⟨some 170, none, .mv (.r 169)⟩,
    ⟨some 171, some (170, true), .mv (.r 26)⟩,
    ⟨some 172, some (170, true), .len .sl (.r 171)⟩,
    ⟨some 173, some (170, true), .bin .eql .no (.r 172) (.c (.int .i64 0))⟩,
    ⟨some 174, some (170, true), .mv (.r 173)⟩,
    ⟨some 175, some (174, false), .mv (.r 26)⟩,
    ⟨some 176, some (174, false), .iaddr none 11 (.r 175) (.c (.int .i64 0))⟩,
    ⟨some 177, some (174, false), .faddr 2 (.r 176)⟩,
    ⟨some 178, some (174, false), .load true 9 (.r 177)⟩,
    ⟨some 179, some (174, false), .mv (.r 29)⟩,
    ⟨some 180, some (174, false), .iaddr none 11 (.r 179) (.c (.int .i64 0))⟩,
    ⟨some 181, some (174, false), .faddr 2 (.r 180)⟩,
    ⟨some 182, some (174, false), .load true 9 (.r 181)⟩,
    ⟨some 183, some (174, false), .call false F.tattlerref5_Same [(.r 178), (.r 182)]⟩,
    ⟨some 184, some (170, true), .pick (.r 174) (.c (.bool true)) (.r 183)⟩,
    ⟨some 185, none, .pick (.r 170) (.r 184) (.c (.bool false))⟩,
    ⟨some 186, none, .mv (.r 185)⟩,
    ⟨some 187, some (186, true), .call false F.tattlerlaw22_awake []⟩,
    ⟨some 188, none, .pick (.r 186) (.r 187) (.c (.bool false))⟩,
    ⟨some 8, none, .asg (.r 188)⟩] [8])
  .ret))))))))))))),
  [.r 8], none⟩
/-- tattler/coord.New -/
def c_coord_New : VFun := ⟨1,
  (.seq (.ops [⟨some 2, none, .asg (.c (.ptr none))⟩] [0])
  (.seq (.ops [⟨some 3, none, .mv (.r 0)⟩,
    ⟨some 4, none, .mx [(.c (.int .i64 1)), (.r 3)]⟩,
    ⟨some 5, none, .mkmap⟩,
    ⟨some 6, none, .bld [(.int .i64 0), (.int .i64 0), (.map none), (.sl [])] [(0, 1, (.r 4)), (2, 1, (.r 5))] [3]⟩,
    ⟨some 7, none, .boxo 4 (.r 6) [(3, 11)]⟩,
    ⟨some 2, none, .asg (.r 7)⟩] [2])
  .ret)),
  [.r 2], none⟩
/-- (*tattler/coord.Coord).Write -/
def c_coord_Coord_Write : VFun := ⟨5,
  (.seq (.ops [⟨some 9, none, .box 9 (.r 4)⟩,
    ⟨some 10, none, .asg (.c (.int .i64 0))⟩,
    ⟨some 11, none, .asg (.c (.int .i64 0))⟩] [0, 1, 2, 3, 9])
  (.seq (.ops [⟨some 12, none, .mv (.r 0)⟩,
    ⟨some 13, none, .mv (.r 1)⟩,
    ⟨some 14, none, .mv (.r 2)⟩,
    ⟨some 15, none, .mv (.r 3)⟩,
    ⟨some 16, none, .load true 9 (.r 9)⟩,
    ⟨some 17, none, .call false F.coord_Coord_begin [(.r 12), (.r 13), (.r 14), (.r 15), (.r 16), (.c (.bool true))]⟩,
    ⟨some 18, none, .extract 0 (.r 17)⟩,
    ⟨some 19, none, .extract 1 (.r 17)⟩,
    ⟨some 10, none, .asg (.r 18)⟩,
    ⟨some 11, none, .asg (.r 19)⟩] [10, 11])
  .ret)),
  [.r 10, .r 11], none⟩
/-- (*tattler/coord.Coord).Len -/
def c_coord_Coord_Len : VFun := ⟨1,
  (.seq (.ops [⟨some 2, none, .asg (.c (.int .i64 0))⟩] [0])
  (.seq (.seq (.ops [⟨some 3, none, .mv (.r 0)⟩,
      ⟨some 4, none, .bin .eql .ptr (.r 3) (.c (.ptr none))⟩] [0, 4])
    (.cond (.r 4) (.seq (.ops [⟨some 2, none, .asg (.c (.int .i64 0))⟩] [2])
      .ret) .skip))
  (.seq (.ops [⟨some 5, none, .mv (.r 0)⟩,
    ⟨some 6, none, .nilck (.r 5)⟩,
    ⟨some 7, none, .faddr 2 (.r 6)⟩,
    ⟨some 8, none, .load false 1 (.r 7)⟩,
    ⟨some 9, none, .len .map (.r 8)⟩,
    ⟨some 2, none, .asg (.r 9)⟩] [2])
  .ret))),
  [.r 2], none⟩
/-- (*tattler/coord.Coord).Ack -/
def c_coord_Coord_Ack : VFun := ⟨3,
  (.seq (.ops [⟨some 6, none, .asg (.c (.bool false))⟩] [0, 1, 2])
  (.seq (.ops [⟨some 8, none, .mv (.r 0)⟩,
    ⟨some 9, none, .mv (.r 1)⟩,
    ⟨some 10, none, .call false F.coord_Coord_find [(.r 8), (.r 9), (.c (.bool true))]⟩,
    ⟨some 7, none, .asg (.r 10)⟩] [0, 1, 2, 7])
  (.seq (.seq (.ops [⟨some 11, none, .mv (.r 7)⟩,
      ⟨some 12, none, .bin .eql .ptr (.r 11) (.c (.ptr none))⟩,
      ⟨some 13, none, .mv (.r 12)⟩,
      ⟨some 14, some (13, false), .mv (.r 7)⟩,
      ⟨some 15, some (13, false), .nilck (.r 14)⟩,
      ⟨some 16, some (13, false), .faddr 11 (.r 15)⟩,
      ⟨some 17, some (13, false), .load false 1 (.r 16)⟩,
      ⟨some 18, some (13, false), .mv (.r 2)⟩,
      ⟨some 19, some (13, false), .call false F.quorum_Count_Add [(.r 17), (.r 18)]⟩,
      ⟨some 20, some (13, false), .un .not (.r 19)⟩,
      ⟨some 21, none, .pick (.r 13) (.c (.bool true)) (.r 20)⟩] [0, 1, 21])
    (.cond (.r 21) (.seq (.ops [⟨some 6, none, .asg (.c (.bool false))⟩] [6])
      .ret) .skip))
  (.seq (.ops [⟨some 22, none, .mv (.r 0)⟩,
    ⟨some 23, none, .mv (.r 1)⟩,
    ⟨some 24, none, .call false F.coord_Coord_end [(.r 22), (.r 23), (.c (.int .i64 0))]⟩] [])
  (.seq (.ops [⟨some 6, none, .asg (.c (.bool true))⟩] [6])
  .ret))))),
  [.r 6], none⟩
/-- (*tattler/coord.Coord).Read -/
def c_coord_Coord_Read : VFun := ⟨5,
  (.seq (.ops [⟨some 9, none, .box 9 (.r 4)⟩,
    ⟨some 10, none, .asg (.c (.int .i64 0))⟩,
    ⟨some 11, none, .asg (.c (.int .i64 0))⟩] [0, 1, 2, 3, 9])
  (.seq (.ops [⟨some 12, none, .mv (.r 0)⟩,
    ⟨some 13, none, .mv (.r 1)⟩,
    ⟨some 14, none, .mv (.r 2)⟩,
    ⟨some 15, none, .mv (.r 3)⟩,
    ⟨some 16, none, .load true 9 (.r 9)⟩,
    ⟨some 17, none, .call false F.coord_Coord_begin [(.r 12), (.r 13), (.r 14), (.r 15), (.r 16), (.c (.bool false))]⟩,
    ⟨some 18, none, .extract 0 (.r 17)⟩,
    ⟨some 19, none, .extract 1 (.r 17)⟩,
    ⟨some 10, none, .asg (.r 18)⟩,
    ⟨some 11, none, .asg (.r 19)⟩] [10, 11])
  .ret)),
  [.r 10, .r 11], none⟩
/-- tattler/tattlerlaw22.awake -/
def c_tattlerlaw22_awake : VFun := ⟨0,
  (.seq (.ops [⟨some 0, none, .asg (.c (.bool false))⟩] [])
  (.seq (.ops [⟨some 6, none, .call false F.coord_New [(.c (.int .i64 3))]⟩,
    ⟨some 1, none, .asg (.r 6)⟩] [1])
  (.seq (.ops [⟨some 8, none, .mv (.r 1)⟩,
    ⟨some 9, none, .build [(.int .i64 0), (.int .i64 0), (.int .i64 0), (.int .i64 0), (.int .i64 0), (.int .i64 0), (.int .i64 0), (.int .i64 0), (.sl [])] []⟩,
    ⟨some 10, none, .call false F.coord_Coord_Write [(.r 8), (.c (.int .i64 0)), (.c (.int .i64 2)), (.c (.str [107])), (.r 9)]⟩,
    ⟨some 7, none, .mv (.r 10)⟩,
    ⟨some 11, none, .extract 0 (.r 7)⟩,
    ⟨some 12, none, .extract 1 (.r 7)⟩,
    ⟨some 2, none, .asg (.r 11)⟩,
    ⟨some 3, none, .asg (.r 12)⟩] [1, 2, 3])
  (.seq (.ops [⟨some 13, none, .mv (.r 1)⟩,
    ⟨some 14, none, .mv (.r 2)⟩,
    ⟨some 15, none, .call false F.coord_Coord_Ack [(.r 13), (.r 14), (.c (.int .i64 1))]⟩,
    ⟨some 4, none, .asg (.r 15)⟩] [1, 2, 3, 4])
  (.seq (.ops [⟨some 16, none, .mv (.r 1)⟩,
    ⟨some 17, none, .call false F.coord_Coord_Answers [(.r 16)]⟩,
    ⟨some 5, none, .asg (.r 17)⟩] [1, 2, 3, 4, 5])
  (.seq (.ops [⟨some 18, none, .mv (.r 2)⟩,
    ⟨some 19, none, .bin .eql .no (.r 18) (.c (.int .i64 1))⟩,
    ⟨some 20, none, .mv (.r 19)⟩,
    ⟨some 21, some (20, true), .mv (.r 3)⟩,
    ⟨some 22, some (20, true), .bin .eql .no (.r 21) (.c (.int .i64 0))⟩,
    ⟨some 23, none, .pick (.r 20) (.r 22) (.c (.bool false))⟩,
    ⟨some 24, none, .mv (.r 23)⟩,
    ⟨some 25, some (24, true), .mv (.r 4)⟩,
    ⟨some 26, none, .pick (.r 24) (.r 25) (.c (.bool false))⟩,
    ⟨some 27, none, .mv (.r 26)⟩,
    ⟨some 28, some (27, true), .mv (.r 5)⟩,
    ⟨some 29, some (27, true), .len .sl (.r 28)⟩,
    ⟨some 30, some (27, true), .bin .eql .no (.r 29) (.c (.int .i64 1))⟩,
    ⟨some 31, none, .pick (.r 27) (.r 30) (.c (.bool false))⟩,
    ⟨some 32, none, .mv (.r 31)⟩,
    ⟨some 33, some (32, true), .mv (.r 5)⟩,
    ⟨some 34, some (32, true), .iaddr none 11 (.r 33) (.c (.int .i64 0))⟩,
    ⟨some 35, some (32, true), .faddr 1 (.r 34)⟩,
    ⟨some 36, some (32, true), .load false 1 (.r 35)⟩,
    ⟨some 37, some (32, true), .bin .eql .no (.r 36) (.c (.int .i64 0))⟩,
    ⟨some 38, none, .pick (.r 32) (.r 37) (.c (.bool false))⟩,
    ⟨some 39, none, .mv (.r 38)⟩,
    ⟨some 40, some (39, true), .mv (.r 1)⟩,
    ⟨some 41, some (39, true), .call false F.coord_Coord_Len [(.r 40)]⟩,
    ⟨some 42, some (39, true), .bin .eql .no (.r 41) (.c (.int .i64 0))⟩,
    ⟨some 43, none, .pick (.r 39) (.r 42) (.c (.bool false))⟩,
    ⟨some 0, none, .asg (.r 43)⟩] [0])
  .ret)))))),
  [.r 0], none⟩
/-- tattler/tattlerref5.MayEntry -/
def c_tattlerref5_MayEntry : VFun := ⟨1,
  (.seq (.ops [⟨some 1, none, .box 10 (.r 0)⟩,
    ⟨some 2, none, .asg (.c (.bool false))⟩] [1])
  (.seq (.ops [⟨some 3, none, .faddr 0 (.r 1)⟩,
    ⟨some 4, none, .load false 1 (.r 3)⟩,
    ⟨some 5, none, .call false F.tattlerref5_MayKey [(.r 4)]⟩,
    ⟨some 6, none, .mv (.r 5)⟩,
    ⟨some 7, some (6, true), .faddr 1 (.r 1)⟩,
    ⟨some 8, some (6, true), .load true 9 (.r 7)⟩,
    ⟨some 9, some (6, true), .call false F.tattlerref5_May [(.r 8)]⟩,
    ⟨some 10, none, .pick (.r 6) (.r 9) (.c (.bool false))⟩,
    ⟨some 2, none, .asg (.r 10)⟩] [2])
  .ret)),
  [.r 2], none⟩
def c_tattlerref5_May_l0 : VCode := (.seq (.ops [⟨some 19, none, .bin .lss .no (.r 18) (.r 17)⟩] [1, 16, 17, 18, 19])
  (.seq (.cond (.r 19) .skip (.exit 0))
  (.seq (.block 1 (.seq (.ops [⟨some 20, none, .mv (.r 18)⟩,
        ⟨some 21, none, .iaddr none 4 (.r 16) (.r 18)⟩,
        ⟨some 22, none, .load true 4 (.r 21)⟩,
        ⟨some 4, none, .alloc [(.int .i64 0), (.int .i64 0), (.sl []), (.bool false)] []⟩,
        ⟨some 3, none, .asg (.r 20)⟩,
        ⟨none, none, .store 4 (.r 4) (.r 22) [] none⟩] [1, 3, 4, 16, 17, 18])
      (.seq (.dops 19 [⟨some 23, none, .faddr 0 (.r 1)⟩,
        ⟨some 24, none, .load true 8 (.r 23)⟩,
        ⟨some 25, none, .faddr 0 (.r 4)⟩,
        ⟨some 26, none, .load true 2 (.r 25)⟩,
        ⟨some 27, none, .call true F.tattlerref1_Covers [(.r 24), (.r 26)]⟩,
        ⟨some 28, none, .un .not (.r 27)⟩,
        ⟨some 29, none, .mv (.r 28)⟩,
        ⟨some 30, some (29, false), .mv (.r 3)⟩,
        ⟨some 31, some (29, false), .bin .gtr .no (.r 30) (.c (.int .i64 0))⟩,
        ⟨some 32, some (29, false), .mv (.r 31)⟩,
        ⟨some 33, some (32, true), .faddr 8 (.r 1)⟩,
        ⟨some 34, some (32, true), .load false 1 (.r 33)⟩,
        ⟨some 35, some (32, true), .mv (.r 3)⟩,
        ⟨some 36, some (32, true), .bin .sub .no (.r 35) (.c (.int .i64 1))⟩,
        ⟨some 37, some (32, true), .iaddr none 4 (.r 34) (.r 36)⟩,
        ⟨some 38, some (32, true), .faddr 0 (.r 37)⟩,
        ⟨some 39, some (32, true), .load true 2 (.r 38)⟩,
        ⟨some 40, some (32, true), .faddr 0 (.r 4)⟩,
        ⟨some 41, some (32, true), .load true 2 (.r 40)⟩,
        ⟨some 42, some (32, true), .call false F.tattlerref1_Less [(.r 39), (.r 41)]⟩,
        ⟨some 43, some (32, true), .un .not (.r 42)⟩,
        ⟨some 44, some (29, false), .pick (.r 32) (.r 43) (.c (.bool false))⟩,
        ⟨some 45, none, .pick (.r 29) (.c (.bool true)) (.r 44)⟩,
        ⟨some 46, none, .mv (.r 45)⟩,
        ⟨some 47, some (46, false), .faddr 2 (.r 4)⟩,
        ⟨some 48, some (46, false), .load false 1 (.r 47)⟩,
        ⟨some 49, some (46, false), .len .sl (.r 48)⟩,
        ⟨some 50, some (46, false), .bin .gtr .no (.r 49) (.c (.int .i64 200))⟩,
        ⟨some 51, none, .pick (.r 46) (.c (.bool true)) (.r 50)⟩,
        ⟨some 52, none, .mv (.r 51)⟩,
        ⟨some 53, some (52, false), .faddr 3 (.r 4)⟩,
        ⟨some 54, some (52, false), .load false 1 (.r 53)⟩,
        ⟨some 55, some (52, false), .mv (.r 54)⟩,
        ⟨some 56, some (55, true), .faddr 2 (.r 4)⟩,
        ⟨some 57, some (55, true), .load false 1 (.r 56)⟩,
        ⟨some 58, some (55, true), .len .sl (.r 57)⟩,
        ⟨some 59, some (55, true), .bin .gtr .no (.r 58) (.c (.int .i64 0))⟩,
        ⟨some 60, some (52, false), .pick (.r 55) (.r 59) (.c (.bool false))⟩,
        ⟨some 61, none, .pick (.r 52) (.c (.bool true)) (.r 60)⟩] [1, 16, 17, 18, 61])
      (.cond (.r 61) (.seq (.ops [⟨some 2, none, .asg (.c (.bool false))⟩] [2])
        .ret) .skip))))
  (.ops [⟨some 62, none, .bin .add .no (.r 18) (.c (.int .i64 1))⟩,
  ⟨some 18, none, .mv (.r 62)⟩] [1, 16, 17, 18]))))
/-- tattler/tattlerref5.May -/
def c_tattlerref5_May : VFun := ⟨1,
  (.seq (.ops [⟨some 1, none, .box 9 (.r 0)⟩,
    ⟨some 2, none, .asg (.c (.bool false))⟩] [1])
  (.seq (.seq (.ops [⟨some 5, none, .faddr 0 (.r 1)⟩,
      ⟨some 6, none, .load true 8 (.r 5)⟩,
      ⟨some 7, none, .call false F.tattlerref1_May [(.r 6)]⟩,
      ⟨some 8, none, .un .not (.r 7)⟩,
      ⟨some 9, none, .mv (.r 8)⟩,
      ⟨some 10, some (9, false), .faddr 8 (.r 1)⟩,
      ⟨some 11, some (9, false), .load false 1 (.r 10)⟩,
      ⟨some 12, some (9, false), .len .sl (.r 11)⟩,
      ⟨some 13, some (9, false), .bin .gtr .no (.r 12) (.c (.int .i64 16))⟩,
      ⟨some 14, none, .pick (.r 9) (.c (.bool true)) (.r 13)⟩] [1, 14])
    (.cond (.r 14) (.seq (.ops [⟨some 2, none, .asg (.c (.bool false))⟩] [2])
      .ret) .skip))
  (.seq (.seq (.ops [⟨some 15, none, .faddr 8 (.r 1)⟩,
      ⟨some 16, none, .load false 1 (.r 15)⟩,
      ⟨some 17, none, .len .sl (.r 16)⟩,
      ⟨some 18, none, .mv (.c (.int .i64 0))⟩] [1, 16, 17, 18])
    (.block 0 (.loop [1, 16, 17, 18] [] c_tattlerref5_May_l0)))
  (.seq (.ops [⟨some 2, none, .asg (.c (.bool true))⟩] [2])
  .ret)))),
  [.r 2], none⟩
def c_tattlerref5_Join_l0 : VCode := (.seq (.ops [⟨some 30, none, .bin .lss .no (.r 29) (.r 28)⟩] [2, 3, 4, 5, 27, 28, 29, 30])
  (.seq (.cond (.r 30) .skip (.exit 0))
  (.seq (.block 1 (.seq (.ops [⟨some 31, none, .iaddr none 4 (.r 27) (.r 29)⟩,
        ⟨some 32, none, .load true 4 (.r 31)⟩,
        ⟨some 7, none, .alloc [(.int .i64 0), (.int .i64 0), (.sl []), (.bool false)] []⟩,
        ⟨none, none, .store 4 (.r 7) (.r 32) [] none⟩] [2, 3, 4, 5, 7, 27, 28, 29])
      (.seq (.ops [⟨some 33, none, .load true 9 (.r 3)⟩,
        ⟨some 34, none, .faddr 0 (.r 7)⟩,
        ⟨some 35, none, .load true 2 (.r 34)⟩,
        ⟨some 36, none, .call false F.tattlerref5_find [(.r 33), (.r 35)]⟩,
        ⟨some 8, none, .asg (.r 36)⟩] [2, 3, 4, 5, 7, 8, 27, 28, 29])
      (.seq (.ops [⟨some 37, none, .mv (.r 8)⟩,
        ⟨some 38, none, .bin .geq .no (.r 37) (.c (.int .i64 0))⟩] [2, 3, 4, 5, 7, 8, 27, 28, 29, 38])
      (.cond (.r 38) (.dops 10 [⟨some 39, none, .faddr 8 (.r 5)⟩,
        ⟨some 40, none, .load false 1 (.r 39)⟩,
        ⟨some 41, none, .load true 4 (.r 7)⟩,
        ⟨some 42, none, .faddr 8 (.r 3)⟩,
        ⟨some 43, none, .load false 1 (.r 42)⟩,
        ⟨some 44, none, .mv (.r 8)⟩,
        ⟨some 45, none, .iaddr none 4 (.r 43) (.r 44)⟩,
        ⟨some 46, none, .load true 4 (.r 45)⟩,
        ⟨some 47, none, .call true F.tattlerref5_first [(.r 41), (.r 46)]⟩,
        ⟨some 48, none, .call true F.tattlerref5_copied [(.r 47)]⟩,
        ⟨some 49, none, .call false F.tattlerref5_insert [(.r 40), (.r 48)]⟩,
        ⟨some 50, none, .faddr 8 (.r 5)⟩,
        ⟨none, none, .store 1 (.r 50) (.r 49) [] none⟩] [2, 3, 4, 5, 27, 28, 29]) (.seq (.ops [⟨some 51, none, .faddr 0 (.r 3)⟩,
          ⟨some 52, none, .load true 8 (.r 51)⟩,
          ⟨some 53, none, .faddr 0 (.r 7)⟩,
          ⟨some 54, none, .load true 2 (.r 53)⟩,
          ⟨some 55, none, .call false F.tattlerref1_Covers [(.r 52), (.r 54)]⟩,
          ⟨some 56, none, .un .not (.r 55)⟩] [2, 3, 4, 5, 7, 27, 28, 29, 56])
        (.cond (.r 56) (.dops 4 [⟨some 57, none, .faddr 8 (.r 5)⟩,
          ⟨some 58, none, .load false 1 (.r 57)⟩,
          ⟨some 59, none, .load true 4 (.r 7)⟩,
          ⟨some 60, none, .call true F.tattlerref5_copied [(.r 59)]⟩,
          ⟨some 61, none, .call false F.tattlerref5_insert [(.r 58), (.r 60)]⟩,
          ⟨some 62, none, .faddr 8 (.r 5)⟩,
          ⟨none, none, .store 1 (.r 62) (.r 61) [] none⟩] [2, 3, 4, 5, 27, 28, 29]) .skip)))))))
  (.ops [⟨some 63, none, .bin .add .no (.r 29) (.c (.int .i64 1))⟩,
  ⟨some 29, none, .mv (.r 63)⟩] [2, 3, 4, 5, 27, 28, 29]))))
def c_tattlerref5_Join_l1 : VCode := (.seq (.ops [⟨some 68, none, .bin .lss .no (.r 67) (.r 66)⟩] [2, 4, 5, 65, 66, 67, 68])
  (.seq (.cond (.r 68) .skip (.exit 2))
  (.seq (.block 3 (.seq (.ops [⟨some 69, none, .iaddr none 4 (.r 65) (.r 67)⟩,
        ⟨some 70, none, .load true 4 (.r 69)⟩,
        ⟨some 10, none, .alloc [(.int .i64 0), (.int .i64 0), (.sl []), (.bool false)] []⟩,
        ⟨none, none, .store 4 (.r 10) (.r 70) [] none⟩] [2, 4, 5, 10, 65, 66, 67])
      (.seq (.ops [⟨some 71, none, .load true 9 (.r 2)⟩,
        ⟨some 72, none, .faddr 0 (.r 10)⟩,
        ⟨some 73, none, .load true 2 (.r 72)⟩,
        ⟨some 74, none, .call false F.tattlerref5_find [(.r 71), (.r 73)]⟩,
        ⟨some 75, none, .bin .lss .no (.r 74) (.c (.int .i64 0))⟩,
        ⟨some 76, none, .mv (.r 75)⟩,
        ⟨some 77, some (76, true), .faddr 0 (.r 2)⟩,
        ⟨some 78, some (76, true), .load true 8 (.r 77)⟩,
        ⟨some 79, some (76, true), .faddr 0 (.r 10)⟩,
        ⟨some 80, some (76, true), .load true 2 (.r 79)⟩,
        ⟨some 81, some (76, true), .call false F.tattlerref1_Covers [(.r 78), (.r 80)]⟩,
        ⟨some 82, some (76, true), .un .not (.r 81)⟩,
        ⟨some 83, none, .pick (.r 76) (.r 82) (.c (.bool false))⟩] [2, 4, 5, 10, 65, 66, 67, 83])
      (.cond (.r 83) (.dops 4 [⟨some 84, none, .faddr 8 (.r 5)⟩,
        ⟨some 85, none, .load false 1 (.r 84)⟩,
        ⟨some 86, none, .load true 4 (.r 10)⟩,
        ⟨some 87, none, .call true F.tattlerref5_copied [(.r 86)]⟩,
        ⟨some 88, none, .call false F.tattlerref5_insert [(.r 85), (.r 87)]⟩,
        ⟨some 89, none, .faddr 8 (.r 5)⟩,
        ⟨none, none, .store 1 (.r 89) (.r 88) [] none⟩] [2, 4, 5, 65, 66, 67]) .skip))))
  (.ops [⟨some 90, none, .bin .add .no (.r 67) (.c (.int .i64 1))⟩,
  ⟨some 67, none, .mv (.r 90)⟩] [2, 4, 5, 65, 66, 67]))))
/-- tattler/tattlerref5.Join -/
def c_tattlerref5_Join : VFun := ⟨2,
  (.seq (.ops [⟨some 2, none, .box 9 (.r 0)⟩,
    ⟨some 3, none, .box 9 (.r 1)⟩,
    ⟨some 4, none, .alloc [(.int .i64 0), (.int .i64 0), (.int .i64 0), (.int .i64 0), (.int .i64 0), (.int .i64 0), (.int .i64 0), (.int .i64 0), (.sl [])] []⟩] [2, 3, 4])
  (.seq (.seq (.ops [⟨some 11, none, .load true 9 (.r 2)⟩,
      ⟨some 12, none, .call false F.tattlerref5_May [(.r 11)]⟩,
      ⟨some 13, none, .un .not (.r 12)⟩,
      ⟨some 14, none, .mv (.r 13)⟩,
      ⟨some 15, some (14, false), .load true 9 (.r 3)⟩,
      ⟨some 16, some (14, false), .call false F.tattlerref5_May [(.r 15)]⟩,
      ⟨some 17, some (14, false), .un .not (.r 16)⟩,
      ⟨some 18, none, .pick (.r 14) (.c (.bool true)) (.r 17)⟩] [2, 3, 4, 18])
    (.cond (.r 18) (.seq (.ops [⟨some 19, none, .build [(.int .i64 0), (.int .i64 0), (.int .i64 0), (.int .i64 0), (.int .i64 0), (.int .i64 0), (.int .i64 0), (.int .i64 0), (.sl [])] []⟩,
        ⟨none, none, .store 9 (.r 4) (.r 19) [] none⟩] [4])
      .ret) .skip))
  (.seq (.ops [⟨some 20, none, .faddr 0 (.r 2)⟩,
    ⟨some 21, none, .load true 8 (.r 20)⟩,
    ⟨some 22, none, .faddr 0 (.r 3)⟩,
    ⟨some 23, none, .load true 8 (.r 22)⟩,
    ⟨some 24, none, .call false F.tattlerref1_Join [(.r 21), (.r 23)]⟩,
    ⟨some 25, none, .build [(.int .i64 0), (.int .i64 0), (.int .i64 0), (.int .i64 0), (.int .i64 0), (.int .i64 0), (.int .i64 0), (.int .i64 0), (.sl [])] [(0, 8, (.r 24))]⟩,
    ⟨some 5, none, .alloc [(.int .i64 0), (.int .i64 0), (.int .i64 0), (.int .i64 0), (.int .i64 0), (.int .i64 0), (.int .i64 0), (.int .i64 0), (.sl [])] []⟩,
    ⟨none, none, .store 9 (.r 5) (.r 25) [] none⟩] [2, 3, 4, 5])
  (.seq (.seq (.ops [⟨some 26, none, .faddr 8 (.r 2)⟩,
      ⟨some 27, none, .load false 1 (.r 26)⟩,
      ⟨some 28, none, .len .sl (.r 27)⟩,
      ⟨some 29, none, .mv (.c (.int .i64 0))⟩] [2, 3, 4, 5, 27, 28, 29])
    (.block 0 (.loop [2, 3, 4, 5, 27, 28, 29] [] c_tattlerref5_Join_l0)))
  (.seq (.seq (.ops [⟨some 64, none, .faddr 8 (.r 3)⟩,
      ⟨some 65, none, .load false 1 (.r 64)⟩,
      ⟨some 66, none, .len .sl (.r 65)⟩,
      ⟨some 67, none, .mv (.c (.int .i64 0))⟩] [2, 4, 5, 65, 66, 67])
    (.block 2 (.loop [2, 4, 5, 65, 66, 67] [] c_tattlerref5_Join_l1)))
  (.seq (.seq (.ops [⟨some 91, none, .faddr 8 (.r 5)⟩,
      ⟨some 92, none, .load false 1 (.r 91)⟩,
      ⟨some 93, none, .len .sl (.r 92)⟩,
      ⟨some 94, none, .bin .gtr .no (.r 93) (.c (.int .i64 16))⟩] [4, 5, 94])
    (.cond (.r 94) (.ops [⟨some 95, none, .faddr 8 (.r 5)⟩,
      ⟨some 96, none, .load false 1 (.r 95)⟩,
      ⟨some 97, none, .slice false 4 (.r 96) none (some (.c (.int .i64 16))) none⟩,
      ⟨some 98, none, .faddr 8 (.r 5)⟩,
      ⟨none, none, .store 1 (.r 98) (.r 97) [] none⟩] [4, 5]) .skip))
  (.seq (.ops [⟨some 99, none, .load true 9 (.r 5)⟩,
    ⟨none, none, .store 9 (.r 4) (.r 99) [] none⟩] [4])
  .ret))))))),
  [.cell 4 true 9], none⟩
def c_coord_Coord_Got_l0 : VCode := (.seq (.ops [⟨some 79, none, .bin .lss .no (.r 78) (.c (.int .i64 8))⟩] [0, 1, 10, 11, 77, 78, 79])
  (.seq (.cond (.r 79) .skip (.exit 0))
  (.seq (.block 1 (.seq (.ops [⟨some 80, none, .mv (.r 78)⟩,
        ⟨some 81, none, .index false 8 9 true (.r 77) (.r 78)⟩,
        ⟨some 13, none, .alloc [(.int .i64 0), (.int .i64 0), (.int .i64 0), (.int .i64 0), (.int .i64 0), (.int .i64 0), (.int .i64 0), (.int .i64 0), (.sl [])] []⟩,
        ⟨some 12, none, .asg (.r 80)⟩,
        ⟨none, none, .store 9 (.r 13) (.r 81) [] none⟩] [0, 1, 10, 11, 12, 13, 77, 78])
      (.seq (.dops 12 [⟨some 82, none, .mv (.r 10)⟩,
        ⟨some 83, none, .nilck (.r 82)⟩,
        ⟨some 84, none, .faddr 11 (.r 83)⟩,
        ⟨some 85, none, .load false 1 (.r 84)⟩,
        ⟨some 86, none, .mv (.r 12)⟩,
        ⟨some 87, none, .call true F.quorum_Count_Has [(.r 85), (.r 86)]⟩,
        ⟨some 88, none, .mv (.r 87)⟩,
        ⟨some 89, some (88, true), .load true 9 (.r 13)⟩,
        ⟨some 90, some (88, true), .mv (.r 10)⟩,
        ⟨some 91, some (88, true), .nilck (.r 90)⟩,
        ⟨some 92, some (88, true), .faddr 2 (.r 91)⟩,
        ⟨some 93, some (88, true), .load true 9 (.r 92)⟩,
        ⟨some 94, some (88, true), .call false F.sibs_Same [(.r 89), (.r 93)]⟩,
        ⟨some 95, some (88, true), .un .not (.r 94)⟩,
        ⟨some 96, none, .pick (.r 88) (.r 95) (.c (.bool false))⟩] [0, 1, 10, 11, 12, 77, 78, 96])
      (.cond (.r 96) (.ops [⟨some 97, none, .mv (.r 11)⟩,
        ⟨some 98, none, .mv (.r 12)⟩,
        ⟨some 99, none, .bslice (.int .i64 0) 1 1 [(0, (.r 98))]⟩,
        ⟨some 100, none, .app (.reg 11) 1 8 (.r 97) (.r 99)⟩,
        ⟨some 11, none, .asg (.r 100)⟩] [0, 1, 10, 11, 77, 78]) .skip))))
  (.ops [⟨some 101, none, .bin .add .no (.r 78) (.c (.int .i64 1))⟩,
  ⟨some 78, none, .mv (.r 101)⟩] [0, 1, 10, 11, 77, 78]))))
/-- (*tattler/coord.Coord).Got -/
def c_coord_Coord_Got : VFun := ⟨4,
  (.seq (.ops [⟨some 7, none, .box 10 (.r 3)⟩,
    ⟨some 8, none, .asg (.c (.sl []))⟩,
    ⟨some 9, none, .asg (.c (.bool false))⟩] [0, 1, 2, 7])
  (.seq (.ops [⟨some 14, none, .mv (.r 0)⟩,
    ⟨some 15, none, .mv (.r 1)⟩,
    ⟨some 16, none, .call false F.coord_Coord_find [(.r 14), (.r 15), (.c (.bool false))]⟩,
    ⟨some 10, none, .asg (.r 16)⟩] [0, 1, 2, 7, 10])
  (.seq (.seq (.dops 30 [⟨some 17, none, .mv (.r 10)⟩,
      ⟨some 18, none, .bin .eql .ptr (.r 17) (.c (.ptr none))⟩,
      ⟨some 19, none, .mv (.r 18)⟩,
      ⟨some 20, some (19, false), .faddr 0 (.r 7)⟩,
      ⟨some 21, some (19, false), .load false 1 (.r 20)⟩,
      ⟨some 22, some (19, false), .mv (.r 10)⟩,
      ⟨some 23, some (19, false), .nilck (.r 22)⟩,
      ⟨some 24, some (19, false), .faddr 0 (.r 23)⟩,
      ⟨some 25, some (19, false), .load false 1 (.r 24)⟩,
      ⟨some 26, some (19, false), .bin .neq .no (.r 21) (.r 25)⟩,
      ⟨some 27, none, .pick (.r 19) (.c (.bool true)) (.r 26)⟩,
      ⟨some 28, none, .mv (.r 27)⟩,
      ⟨some 29, some (28, false), .load true 10 (.r 7)⟩,
      ⟨some 30, some (28, false), .call true F.sibs_MayEntry [(.r 29)]⟩,
      ⟨some 31, some (28, false), .un .not (.r 30)⟩,
      ⟨some 32, none, .pick (.r 28) (.c (.bool true)) (.r 31)⟩,
      ⟨some 33, none, .mv (.r 32)⟩,
      ⟨some 34, some (33, false), .mv (.r 2)⟩,
      ⟨some 35, some (33, false), .bin .lss .no (.r 34) (.c (.int .i64 0))⟩,
      ⟨some 36, none, .pick (.r 33) (.c (.bool true)) (.r 35)⟩,
      ⟨some 37, none, .mv (.r 36)⟩,
      ⟨some 38, some (37, false), .mv (.r 2)⟩,
      ⟨some 39, some (37, false), .bin .geq .no (.r 38) (.c (.int .i64 8))⟩,
      ⟨some 40, none, .pick (.r 37) (.c (.bool true)) (.r 39)⟩,
      ⟨some 41, none, .mv (.r 40)⟩,
      ⟨some 42, some (41, false), .mv (.r 10)⟩,
      ⟨some 43, some (41, false), .nilck (.r 42)⟩,
      ⟨some 44, some (41, false), .faddr 11 (.r 43)⟩,
      ⟨some 45, some (41, false), .load false 1 (.r 44)⟩,
      ⟨some 46, some (41, false), .mv (.r 2)⟩,
      ⟨some 47, some (41, false), .call false F.quorum_Count_Has [(.r 45), (.r 46)]⟩,
      ⟨some 48, none, .pick (.r 41) (.c (.bool true)) (.r 47)⟩] [0, 1, 2, 7, 10, 48])
    (.cond (.r 48) (.seq (.ops [⟨some 8, none, .asg (.c (.sl []))⟩,
        ⟨some 9, none, .asg (.c (.bool false))⟩] [8, 9])
      .ret) .skip))
  (.seq (.dops 7 [⟨some 49, none, .mv (.r 10)⟩,
    ⟨some 50, none, .mv (.r 2)⟩,
    ⟨some 51, none, .faddr 1 (.r 7)⟩,
    ⟨some 52, none, .load true 9 (.r 51)⟩,
    ⟨some 53, none, .call true F.coord_copied [(.r 52)]⟩,
    ⟨some 54, none, .nilck (.r 49)⟩,
    ⟨some 55, none, .faddr 12 (.r 54)⟩,
    ⟨some 56, none, .iaddr (some 8) 9 (.r 55) (.r 50)⟩,
    ⟨none, none, .store 9 (.r 56) (.r 53) [] none⟩] [0, 1, 2, 7, 10])
  (.seq (.dops 8 [⟨some 57, none, .mv (.r 10)⟩,
    ⟨some 58, none, .mv (.r 10)⟩,
    ⟨some 59, none, .nilck (.r 58)⟩,
    ⟨some 60, none, .faddr 2 (.r 59)⟩,
    ⟨some 61, none, .load true 9 (.r 60)⟩,
    ⟨some 62, none, .faddr 1 (.r 7)⟩,
    ⟨some 63, none, .load true 9 (.r 62)⟩,
    ⟨some 64, none, .call true F.sibs_Join [(.r 61), (.r 63)]⟩,
    ⟨some 65, none, .nilck (.r 57)⟩,
    ⟨some 66, none, .faddr 2 (.r 65)⟩,
    ⟨none, none, .store 9 (.r 66) (.r 64) [] none⟩] [0, 1, 2, 10])
  (.seq (.seq (.ops [⟨some 67, none, .mv (.r 10)⟩,
      ⟨some 68, none, .nilck (.r 67)⟩,
      ⟨some 69, none, .faddr 11 (.r 68)⟩,
      ⟨some 70, none, .load false 1 (.r 69)⟩,
      ⟨some 71, none, .mv (.r 2)⟩,
      ⟨some 72, none, .call false F.quorum_Count_Add [(.r 70), (.r 71)]⟩,
      ⟨some 73, none, .un .not (.r 72)⟩] [0, 1, 10, 73])
    (.cond (.r 73) (.seq (.ops [⟨some 8, none, .asg (.c (.sl []))⟩,
        ⟨some 9, none, .asg (.c (.bool false))⟩] [8, 9])
      .ret) .skip))
  (.seq (.ops [⟨some 11, none, .asg (.c (.sl []))⟩] [0, 1, 10, 11])
  (.seq (.seq (.ops [⟨some 74, none, .mv (.r 10)⟩,
      ⟨some 75, none, .nilck (.r 74)⟩,
      ⟨some 76, none, .faddr 12 (.r 75)⟩,
      ⟨some 77, none, .load true 72 (.r 76)⟩,
      ⟨some 78, none, .mv (.c (.int .i64 0))⟩] [0, 1, 10, 11, 77, 78])
    (.block 0 (.loop [0, 1, 10, 11, 77, 78] [(8, 0, 0), (11, 0, 1)] c_coord_Coord_Got_l0)))
  (.seq (.ops [⟨some 102, none, .mv (.r 0)⟩,
    ⟨some 103, none, .mv (.r 1)⟩,
    ⟨some 104, none, .call false F.coord_Coord_end [(.r 102), (.r 103), (.c (.int .i64 0))]⟩] [11])
  (.seq (.ops [⟨some 105, none, .mv (.r 11)⟩,
    ⟨some 8, none, .asg (.r 105)⟩,
    ⟨some 9, none, .asg (.c (.bool true))⟩] [8, 9])
  .ret)))))))))),
  [.r 8, .r 9], none⟩
/-- (*tattler/coord.Coord).Answers -/
def c_coord_Coord_Answers : VFun := ⟨1,
  (.seq (.ops [⟨some 2, none, .asg (.c (.sl []))⟩] [0])
  (.seq (.seq (.ops [⟨some 4, none, .mv (.r 0)⟩,
      ⟨some 5, none, .bin .eql .ptr (.r 4) (.c (.ptr none))⟩] [0, 5])
    (.cond (.r 5) (.seq (.ops [⟨some 2, none, .asg (.c (.sl []))⟩] [2])
      .ret) .skip))
  (.seq (.ops [⟨some 6, none, .mv (.r 0)⟩,
    ⟨some 7, none, .nilck (.r 6)⟩,
    ⟨some 8, none, .faddr 3 (.r 7)⟩,
    ⟨some 9, none, .load false 1 (.r 8)⟩,
    ⟨some 3, none, .asg (.r 9)⟩] [0, 3])
  (.seq (.ops [⟨some 10, none, .mv (.r 0)⟩,
    ⟨some 11, none, .nilck (.r 10)⟩,
    ⟨some 12, none, .faddr 3 (.r 11)⟩,
    ⟨none, none, .store 1 (.r 12) (.c (.sl [])) [(0, 11)] none⟩] [3])
  (.seq (.ops [⟨some 13, none, .mv (.r 3)⟩,
    ⟨some 2, none, .asg (.r 13)⟩] [2])
  .ret))))),
  [.r 2], none⟩
def c_tattlerref5_Same_l0 : VCode := (.seq (.ops [⟨some 26, none, .bin .lss .no (.r 25) (.r 24)⟩] [3, 23, 24, 25, 26])
  (.seq (.cond (.r 26) .skip (.exit 0))
  (.seq (.block 1 (.seq (.ops [⟨some 27, none, .mv (.r 25)⟩,
        ⟨some 28, none, .iaddr none 4 (.r 23) (.r 25)⟩,
        ⟨some 29, none, .load true 4 (.r 28)⟩,
        ⟨some 6, none, .alloc [(.int .i64 0), (.int .i64 0), (.sl []), (.bool false)] []⟩,
        ⟨some 5, none, .asg (.r 27)⟩,
        ⟨none, none, .store 4 (.r 6) (.r 29) [] none⟩] [3, 5, 6, 23, 24, 25])
      (.seq (.ops [⟨some 30, none, .faddr 8 (.r 3)⟩,
        ⟨some 31, none, .load false 1 (.r 30)⟩,
        ⟨some 32, none, .mv (.r 5)⟩,
        ⟨some 33, none, .iaddr none 4 (.r 31) (.r 32)⟩,
        ⟨some 34, none, .load true 4 (.r 33)⟩,
        ⟨some 7, none, .alloc [(.int .i64 0), (.int .i64 0), (.sl []), (.bool false)] []⟩,
        ⟨none, none, .store 4 (.r 7) (.r 34) [] none⟩] [3, 6, 7, 23, 24, 25])
      (.seq (.ops [⟨some 35, none, .faddr 0 (.r 6)⟩,
        ⟨some 36, none, .load true 2 (.r 35)⟩,
        ⟨some 37, none, .faddr 0 (.r 7)⟩,
        ⟨some 38, none, .load true 2 (.r 37)⟩,
        ⟨some 39, none, .bin .neq (.agg [.i, .i]) (.r 36) (.r 38)⟩,
        ⟨some 40, none, .mv (.r 39)⟩,
        ⟨some 41, some (40, false), .faddr 3 (.r 6)⟩,
        ⟨some 42, some (40, false), .load false 1 (.r 41)⟩,
        ⟨some 43, some (40, false), .faddr 3 (.r 7)⟩,
        ⟨some 44, some (40, false), .load false 1 (.r 43)⟩,
        ⟨some 45, some (40, false), .bin .neq .bool (.r 42) (.r 44)⟩,
        ⟨some 46, none, .pick (.r 40) (.c (.bool true)) (.r 45)⟩,
        ⟨some 47, none, .mv (.r 46)⟩,
        ⟨some 48, some (47, false), .faddr 2 (.r 6)⟩,
        ⟨some 49, some (47, false), .load false 1 (.r 48)⟩,
        ⟨some 50, some (47, false), .conv .strOfBytes (.r 49)⟩,
        ⟨some 51, some (47, false), .faddr 2 (.r 7)⟩,
        ⟨some 52, some (47, false), .load false 1 (.r 51)⟩,
        ⟨some 53, some (47, false), .conv .strOfBytes (.r 52)⟩,
        ⟨some 54, some (47, false), .bin .neq .no (.r 50) (.r 53)⟩,
        ⟨some 55, none, .pick (.r 47) (.c (.bool true)) (.r 54)⟩] [3, 23, 24, 25, 55])
      (.cond (.r 55) (.seq (.ops [⟨some 4, none, .asg (.c (.bool false))⟩] [4])
        .ret) .skip)))))
  (.ops [⟨some 56, none, .bin .add .no (.r 25) (.c (.int .i64 1))⟩,
  ⟨some 25, none, .mv (.r 56)⟩] [3, 23, 24, 25]))))
/-- tattler/tattlerref5.Same -/
def c_tattlerref5_Same : VFun := ⟨2,
  (.seq (.ops [⟨some 2, none, .box 9 (.r 0)⟩,
    ⟨some 3, none, .box 9 (.r 1)⟩,
    ⟨some 4, none, .asg (.c (.bool false))⟩] [2, 3])
  (.seq (.seq (.ops [⟨some 8, none, .faddr 0 (.r 2)⟩,
      ⟨some 9, none, .load true 8 (.r 8)⟩,
      ⟨some 10, none, .faddr 0 (.r 3)⟩,
      ⟨some 11, none, .load true 8 (.r 10)⟩,
      ⟨some 12, none, .bin .neq (.agg [.i, .i, .i, .i, .i, .i, .i, .i]) (.r 9) (.r 11)⟩,
      ⟨some 13, none, .mv (.r 12)⟩,
      ⟨some 14, some (13, false), .faddr 8 (.r 2)⟩,
      ⟨some 15, some (13, false), .load false 1 (.r 14)⟩,
      ⟨some 16, some (13, false), .len .sl (.r 15)⟩,
      ⟨some 17, some (13, false), .faddr 8 (.r 3)⟩,
      ⟨some 18, some (13, false), .load false 1 (.r 17)⟩,
      ⟨some 19, some (13, false), .len .sl (.r 18)⟩,
      ⟨some 20, some (13, false), .bin .neq .no (.r 16) (.r 19)⟩,
      ⟨some 21, none, .pick (.r 13) (.c (.bool true)) (.r 20)⟩] [2, 3, 21])
    (.cond (.r 21) (.seq (.ops [⟨some 4, none, .asg (.c (.bool false))⟩] [4])
      .ret) .skip))
  (.seq (.seq (.ops [⟨some 22, none, .faddr 8 (.r 2)⟩,
      ⟨some 23, none, .load false 1 (.r 22)⟩,
      ⟨some 24, none, .len .sl (.r 23)⟩,
      ⟨some 25, none, .mv (.c (.int .i64 0))⟩] [3, 23, 24, 25])
    (.block 0 (.loop [3, 23, 24, 25] [] c_tattlerref5_Same_l0)))
  (.seq (.ops [⟨some 4, none, .asg (.c (.bool true))⟩] [4])
  .ret)))),
  [.r 4], none⟩
def c_tattlerref14_In_l0 : VCode := (.seq (.ops [⟨some 10, none, .bin .lss .no (.r 9) (.r 8)⟩] [1, 7, 8, 9, 10])
  (.seq (.cond (.r 10) .skip (.exit 0))
  (.seq (.block 1 (.seq (.ops [⟨some 11, none, .iaddr none 1 (.r 7) (.r 9)⟩,
        ⟨some 12, none, .load false 1 (.r 11)⟩,
        ⟨some 6, none, .asg (.r 12)⟩] [1, 6, 7, 8, 9])
      (.seq (.ops [⟨some 13, none, .mv (.r 6)⟩,
        ⟨some 14, none, .mv (.r 1)⟩,
        ⟨some 15, none, .bin .eql .no (.r 13) (.r 14)⟩] [1, 7, 8, 9, 15])
      (.cond (.r 15) (.seq (.ops [⟨some 4, none, .asg (.c (.bool true))⟩] [4])
        .ret) .skip))))
  (.ops [⟨some 16, none, .bin .add .no (.r 9) (.c (.int .i64 1))⟩,
  ⟨some 9, none, .mv (.r 16)⟩] [1, 7, 8, 9]))))
/-- tattler/tattlerref14.In -/
def c_tattlerref14_In : VFun := ⟨2,
  (.seq (.ops [⟨some 4, none, .asg (.c (.bool false))⟩] [0, 1])
  (.seq (.seq (.ops [⟨some 7, none, .mv (.r 0)⟩,
      ⟨some 8, none, .len .sl (.r 7)⟩,
      ⟨some 9, none, .mv (.c (.int .i64 0))⟩] [1, 7, 8, 9])
    (.block 0 (.loop [1, 7, 8, 9] [] c_tattlerref14_In_l0)))
  (.seq (.ops [⟨some 4, none, .asg (.c (.bool false))⟩] [4])
  .ret))),
  [.r 4], none⟩
def c_tattlerref5_SameInts_l0 : VCode := (.seq (.ops [⟨some 14, none, .bin .lss .no (.r 13) (.r 12)⟩] [0, 1, 12, 13, 14])
  (.seq (.cond (.r 14) .skip (.exit 0))
  (.seq (.block 1 (.seq (.ops [⟨some 15, none, .mv (.r 13)⟩,
        ⟨some 5, none, .asg (.r 15)⟩] [0, 1, 5, 12, 13])
      (.seq (.dops 8 [⟨some 16, none, .mv (.r 0)⟩,
        ⟨some 17, none, .mv (.r 5)⟩,
        ⟨some 18, none, .iaddr none 1 (.r 16) (.r 17)⟩,
        ⟨some 19, none, .load false 1 (.r 18)⟩,
        ⟨some 20, none, .mv (.r 1)⟩,
        ⟨some 21, none, .mv (.r 5)⟩,
        ⟨some 22, none, .iaddr none 1 (.r 20) (.r 21)⟩,
        ⟨some 23, none, .load false 1 (.r 22)⟩,
        ⟨some 24, none, .bin .neq .no (.r 19) (.r 23)⟩] [0, 1, 12, 13, 24])
      (.cond (.r 24) (.seq (.ops [⟨some 4, none, .asg (.c (.bool false))⟩] [4])
        .ret) .skip))))
  (.ops [⟨some 25, none, .bin .add .no (.r 13) (.c (.int .i64 1))⟩,
  ⟨some 13, none, .mv (.r 25)⟩] [0, 1, 12, 13]))))
/-- tattler/tattlerref5.SameInts -/
def c_tattlerref5_SameInts : VFun := ⟨2,
  (.seq (.ops [⟨some 4, none, .asg (.c (.bool false))⟩] [0, 1])
  (.seq (.seq (.ops [⟨some 6, none, .mv (.r 0)⟩,
      ⟨some 7, none, .len .sl (.r 6)⟩,
      ⟨some 8, none, .mv (.r 1)⟩,
      ⟨some 9, none, .len .sl (.r 8)⟩,
      ⟨some 10, none, .bin .neq .no (.r 7) (.r 9)⟩] [0, 1, 10])
    (.cond (.r 10) (.seq (.ops [⟨some 4, none, .asg (.c (.bool false))⟩] [4])
      .ret) .skip))
  (.seq (.seq (.ops [⟨some 11, none, .mv (.r 0)⟩,
      ⟨some 12, none, .len .sl (.r 11)⟩,
      ⟨some 13, none, .mv (.c (.int .i64 0))⟩] [0, 1, 12, 13])
    (.block 0 (.loop [0, 1, 12, 13] [] c_tattlerref5_SameInts_l0)))
  (.seq (.ops [⟨some 4, none, .asg (.c (.bool true))⟩] [4])
  .ret)))),
  [.r 4], none⟩
/-- (*tattler/coord.Coord).begin -/
def c_coord_Coord_begin : VFun := ⟨6,
  (.seq (.ops [⟨some 10, none, .box 9 (.r 4)⟩,
    ⟨some 12, none, .asg (.c (.int .i64 0))⟩,
    ⟨some 13, none, .asg (.c (.int .i64 0))⟩] [0, 1, 2, 3, 5, 10])
  (.seq (.block 0 (.seq (.ops [⟨some 16, none, .mv (.r 0)⟩,
        ⟨some 17, none, .bin .eql .ptr (.r 16) (.c (.ptr none))⟩,
        ⟨some 15, none, .asg (.r 17)⟩] [0, 1, 2, 3, 5, 10, 15])
      (.cond (.r 15) (.seq (.ops [⟨some 12, none, .asg (.c (.int .i64 0))⟩,
          ⟨some 13, none, .asg (.c (.int .i64 1))⟩] [12, 13])
        .ret) (.seq (.ops [⟨some 19, none, .mv (.r 0)⟩,
          ⟨some 20, none, .nilck (.r 19)⟩,
          ⟨some 21, none, .faddr 2 (.r 20)⟩,
          ⟨some 22, none, .load false 1 (.r 21)⟩,
          ⟨some 23, none, .len .map (.r 22)⟩,
          ⟨some 24, none, .bin .geq .no (.r 23) (.c (.int .i64 64))⟩,
          ⟨some 18, none, .asg (.r 24)⟩] [0, 1, 2, 3, 5, 10, 18])
        (.cond (.r 18) (.seq (.ops [⟨some 12, none, .asg (.c (.int .i64 0))⟩,
            ⟨some 13, none, .asg (.c (.int .i64 7))⟩] [12, 13])
          .ret) (.seq (.ops [⟨some 26, none, .mv (.r 3)⟩,
            ⟨some 27, none, .load true 9 (.r 10)⟩,
            ⟨some 28, none, .build [(.str []), (.int .i64 0), (.int .i64 0), (.int .i64 0), (.int .i64 0), (.int .i64 0), (.int .i64 0), (.int .i64 0), (.int .i64 0), (.sl [])] [(0, 1, (.r 26)), (1, 9, (.r 27))]⟩,
            ⟨some 29, none, .call false F.sibs_MayEntry [(.r 28)]⟩,
            ⟨some 30, none, .un .not (.r 29)⟩,
            ⟨some 25, none, .asg (.r 30)⟩] [0, 1, 2, 3, 5, 10, 25])
          (.cond (.r 25) (.seq (.ops [⟨some 12, none, .asg (.c (.int .i64 0))⟩,
              ⟨some 13, none, .asg (.c (.int .i64 1))⟩] [12, 13])
            .ret) .skip)))))))
  (.seq (.ops [⟨some 31, none, .mv (.r 0)⟩,
    ⟨some 32, none, .nilck (.r 31)⟩,
    ⟨some 33, none, .faddr 1 (.r 32)⟩,
    ⟨some 34, none, .load false 1 (.r 33)⟩,
    ⟨some 35, none, .bin .add .no (.r 34) (.c (.int .i64 1))⟩,
    ⟨some 36, none, .nilck (.r 31)⟩,
    ⟨some 37, none, .faddr 1 (.r 36)⟩,
    ⟨none, none, .store 1 (.r 37) (.r 35) [] none⟩] [0, 1, 2, 3, 5, 10])
  (.seq (.ops [⟨some 38, none, .mv (.r 3)⟩,
    ⟨some 39, none, .mv (.r 5)⟩,
    ⟨some 40, none, .load true 9 (.r 10)⟩,
    ⟨some 41, none, .call false F.coord_copied [(.r 40)]⟩,
    ⟨some 42, none, .mv (.r 2)⟩,
    ⟨some 43, none, .call false F.quorum_New [(.r 42)]⟩,
    ⟨some 44, none, .build [(.str []), (.bool false), (.int .i64 0), (.int .i64 0), (.int .i64 0), (.int .i64 0), (.int .i64 0), (.int .i64 0), (.int .i64 0), (.int .i64 0), (.sl []), (.ptr none), (.int .i64 0), (.int .i64 0), (.int .i64 0), (.int .i64 0), (.int .i64 0), (.int .i64 0), (.int .i64 0), (.int .i64 0), (.sl []), (.int .i64 0), (.int .i64 0), (.int .i64 0), (.int .i64 0), (.int .i64 0), (.int .i64 0), (.int .i64 0), (.int .i64 0), (.sl []), (.int .i64 0), (.int .i64 0), (.int .i64 0), (.int .i64 0), (.int .i64 0), (.int .i64 0), (.int .i64 0), (.int .i64 0), (.sl []), (.int .i64 0), (.int .i64 0), (.int .i64 0), (.int .i64 0), (.int .i64 0), (.int .i64 0), (.int .i64 0), (.int .i64 0), (.sl []), (.int .i64 0), (.int .i64 0), (.int .i64 0), (.int .i64 0), (.int .i64 0), (.int .i64 0), (.int .i64 0), (.int .i64 0), (.sl []), (.int .i64 0), (.int .i64 0), (.int .i64 0), (.int .i64 0), (.int .i64 0), (.int .i64 0), (.int .i64 0), (.int .i64 0), (.sl []), (.int .i64 0), (.int .i64 0), (.int .i64 0), (.int .i64 0), (.int .i64 0), (.int .i64 0), (.int .i64 0), (.int .i64 0), (.sl []), (.int .i64 0), (.int .i64 0), (.int .i64 0), (.int .i64 0), (.int .i64 0), (.int .i64 0), (.int .i64 0), (.int .i64 0), (.sl []), (.int .i64 0)] [(0, 1, (.r 38)), (1, 1, (.r 39)), (2, 9, (.r 41)), (11, 1, (.r 43))]⟩,
    ⟨some 45, none, .box 85 (.r 44)⟩,
    ⟨some 14, none, .asg (.r 45)⟩] [0, 1, 2, 10, 14])
  (.seq (.dops 9 [⟨some 46, none, .mv (.r 0)⟩,
    ⟨some 47, none, .nilck (.r 46)⟩,
    ⟨some 48, none, .faddr 2 (.r 47)⟩,
    ⟨some 49, none, .load false 1 (.r 48)⟩,
    ⟨some 50, none, .mv (.r 0)⟩,
    ⟨some 51, none, .nilck (.r 50)⟩,
    ⟨some 52, none, .faddr 1 (.r 51)⟩,
    ⟨some 53, none, .load false 1 (.r 52)⟩,
    ⟨some 54, none, .mv (.r 14)⟩,
    ⟨none, none, .mapupd .i (.r 49) (.r 53) (.r 54)⟩] [0, 1, 2, 10, 14])
  (.seq (.ops [⟨some 55, none, .mv (.r 14)⟩,
    ⟨some 56, none, .nilck (.r 55)⟩,
    ⟨some 57, none, .faddr 11 (.r 56)⟩,
    ⟨some 58, none, .load false 1 (.r 57)⟩,
    ⟨some 59, none, .mv (.r 1)⟩,
    ⟨some 60, none, .call false F.quorum_Count_Add [(.r 58), (.r 59)]⟩] [0, 1, 2, 10, 14])
  (.seq (.seq (.ops [⟨some 61, none, .mv (.r 1)⟩,
      ⟨some 62, none, .bin .geq .no (.r 61) (.c (.int .i64 0))⟩,
      ⟨some 63, none, .mv (.r 62)⟩,
      ⟨some 64, some (63, true), .mv (.r 1)⟩,
      ⟨some 65, some (63, true), .bin .lss .no (.r 64) (.c (.int .i64 8))⟩,
      ⟨some 66, none, .pick (.r 63) (.r 65) (.c (.bool false))⟩] [0, 1, 2, 10, 14, 66])
    (.cond (.r 66) (.dops 6 [⟨some 67, none, .mv (.r 14)⟩,
      ⟨some 68, none, .mv (.r 1)⟩,
      ⟨some 69, none, .load true 9 (.r 10)⟩,
      ⟨some 70, none, .call true F.coord_copied [(.r 69)]⟩,
      ⟨some 71, none, .nilck (.r 67)⟩,
      ⟨some 72, none, .faddr 12 (.r 71)⟩,
      ⟨some 73, none, .iaddr (some 8) 9 (.r 72) (.r 68)⟩,
      ⟨none, none, .store 9 (.r 73) (.r 70) [] none⟩] [0, 2]) .skip))
  (.seq (.seq (.ops [⟨some 74, none, .mv (.r 2)⟩,
      ⟨some 75, none, .bin .leq .no (.r 74) (.c (.int .i64 1))⟩] [0, 75])
    (.cond (.r 75) (.ops [⟨some 76, none, .mv (.r 0)⟩,
      ⟨some 77, none, .mv (.r 0)⟩,
      ⟨some 78, none, .nilck (.r 77)⟩,
      ⟨some 79, none, .faddr 1 (.r 78)⟩,
      ⟨some 80, none, .load false 1 (.r 79)⟩,
      ⟨some 81, none, .call false F.coord_Coord_end [(.r 76), (.r 80), (.c (.int .i64 0))]⟩] [0]) .skip))
  (.seq (.ops [⟨some 82, none, .mv (.r 0)⟩,
    ⟨some 83, none, .nilck (.r 82)⟩,
    ⟨some 84, none, .faddr 1 (.r 83)⟩,
    ⟨some 85, none, .load false 1 (.r 84)⟩,
    ⟨some 12, none, .asg (.r 85)⟩,
    ⟨some 13, none, .asg (.c (.int .i64 0))⟩] [12, 13])
  .ret))))))))),
  [.r 12, .r 13], none⟩
/-- (*tattler/coord.Coord).find -/
def c_coord_Coord_find : VFun := ⟨3,
  (.seq (.ops [⟨some 6, none, .asg (.c (.ptr none))⟩] [0, 1, 2])
  (.seq (.seq (.ops [⟨some 7, none, .mv (.r 0)⟩,
      ⟨some 8, none, .bin .eql .ptr (.r 7) (.c (.ptr none))⟩,
      ⟨some 9, none, .mv (.r 8)⟩,
      ⟨some 10, some (9, false), .mv (.r 0)⟩,
      ⟨some 11, some (9, false), .nilck (.r 10)⟩,
      ⟨some 12, some (9, false), .faddr 2 (.r 11)⟩,
      ⟨some 13, some (9, false), .load false 1 (.r 12)⟩,
      ⟨some 14, some (9, false), .mv (.r 1)⟩,
      ⟨some 15, some (9, false), .lookup .i (.ptr none) false (.r 13) (.r 14)⟩,
      ⟨some 16, some (9, false), .bin .eql .ptr (.r 15) (.c (.ptr none))⟩,
      ⟨some 17, none, .pick (.r 9) (.c (.bool true)) (.r 16)⟩,
      ⟨some 18, none, .mv (.r 17)⟩,
      ⟨some 19, some (18, false), .mv (.r 0)⟩,
      ⟨some 20, some (18, false), .nilck (.r 19)⟩,
      ⟨some 21, some (18, false), .faddr 2 (.r 20)⟩,
      ⟨some 22, some (18, false), .load false 1 (.r 21)⟩,
      ⟨some 23, some (18, false), .mv (.r 1)⟩,
      ⟨some 24, some (18, false), .lookup .i (.ptr none) false (.r 22) (.r 23)⟩,
      ⟨some 25, some (18, false), .nilck (.r 24)⟩,
      ⟨some 26, some (18, false), .faddr 1 (.r 25)⟩,
      ⟨some 27, some (18, false), .load false 1 (.r 26)⟩,
      ⟨some 28, some (18, false), .mv (.r 2)⟩,
      ⟨some 29, some (18, false), .bin .neq .bool (.r 27) (.r 28)⟩,
      ⟨some 30, none, .pick (.r 18) (.c (.bool true)) (.r 29)⟩] [0, 1, 30])
    (.cond (.r 30) (.seq (.ops [⟨some 6, none, .asg (.c (.ptr none))⟩] [6])
      .ret) .skip))
  (.seq (.ops [⟨some 31, none, .mv (.r 0)⟩,
    ⟨some 32, none, .nilck (.r 31)⟩,
    ⟨some 33, none, .faddr 2 (.r 32)⟩,
    ⟨some 34, none, .load false 1 (.r 33)⟩,
    ⟨some 35, none, .mv (.r 1)⟩,
    ⟨some 36, none, .lookup .i (.ptr none) false (.r 34) (.r 35)⟩,
    ⟨some 6, none, .asg (.r 36)⟩] [6])
  .ret))),
  [.r 6], none⟩
/-- (*tattler/quorum.Count).Add -/
def c_quorum_Count_Add : VFun := ⟨2,
  (.seq (.ops [⟨some 4, none, .asg (.c (.bool false))⟩] [0, 1])
  (.seq (.seq (.ops [⟨some 5, none, .mv (.r 0)⟩,
      ⟨some 6, none, .bin .eql .ptr (.r 5) (.c (.ptr none))⟩,
      ⟨some 7, none, .mv (.r 6)⟩,
      ⟨some 8, some (7, false), .mv (.r 1)⟩,
      ⟨some 9, some (7, false), .bin .lss .no (.r 8) (.c (.int .i64 0))⟩,
      ⟨some 10, none, .pick (.r 7) (.c (.bool true)) (.r 9)⟩,
      ⟨some 11, none, .mv (.r 10)⟩,
      ⟨some 12, some (11, false), .mv (.r 1)⟩,
      ⟨some 13, some (11, false), .bin .geq .no (.r 12) (.c (.int .i64 8))⟩,
      ⟨some 14, none, .pick (.r 11) (.c (.bool true)) (.r 13)⟩,
      ⟨some 15, none, .mv (.r 14)⟩,
      ⟨some 16, some (15, false), .mv (.r 0)⟩,
      ⟨some 17, some (15, false), .mv (.r 1)⟩,
      ⟨some 18, some (15, false), .nilck (.r 16)⟩,
      ⟨some 19, some (15, false), .faddr 1 (.r 18)⟩,
      ⟨some 20, some (15, false), .iaddr (some 8) 1 (.r 19) (.r 17)⟩,
      ⟨some 21, some (15, false), .load false 1 (.r 20)⟩,
      ⟨some 22, none, .pick (.r 15) (.c (.bool true)) (.r 21)⟩] [0, 1, 22])
    (.cond (.r 22) (.seq (.ops [⟨some 4, none, .asg (.c (.bool false))⟩] [4])
      .ret) .skip))
  (.seq (.ops [⟨some 23, none, .mv (.r 0)⟩,
    ⟨some 24, none, .mv (.r 1)⟩,
    ⟨some 25, none, .nilck (.r 23)⟩,
    ⟨some 26, none, .faddr 1 (.r 25)⟩,
    ⟨some 27, none, .iaddr (some 8) 1 (.r 26) (.r 24)⟩,
    ⟨none, none, .store 1 (.r 27) (.c (.bool true)) [] none⟩] [0])
  (.seq (.dops 6 [⟨some 28, none, .mv (.r 0)⟩,
    ⟨some 29, none, .call true F.quorum_Count_Len [(.r 28)]⟩,
    ⟨some 30, none, .mv (.r 0)⟩,
    ⟨some 31, none, .nilck (.r 30)⟩,
    ⟨some 32, none, .faddr 0 (.r 31)⟩,
    ⟨some 33, none, .load false 1 (.r 32)⟩,
    ⟨some 34, none, .bin .eql .no (.r 29) (.r 33)⟩,
    ⟨some 4, none, .asg (.r 34)⟩] [4])
  .ret)))),
  [.r 4], none⟩
/-- (*tattler/coord.Coord).end -/
def c_coord_Coord_end : VFun := ⟨3,
  (.seq (.ops [⟨some 7, none, .mv (.r 1)⟩,
    ⟨some 8, none, .mv (.r 2)⟩,
    ⟨some 9, none, .build [(.int .i64 0), (.int .i64 0), (.int .i64 0), (.int .i64 0), (.int .i64 0), (.int .i64 0), (.int .i64 0), (.int .i64 0), (.int .i64 0), (.int .i64 0), (.sl [])] [(0, 1, (.r 7)), (1, 1, (.r 8))]⟩,
    ⟨some 6, none, .alloc [(.int .i64 0), (.int .i64 0), (.int .i64 0), (.int .i64 0), (.int .i64 0), (.int .i64 0), (.int .i64 0), (.int .i64 0), (.int .i64 0), (.int .i64 0), (.sl [])] []⟩,
    ⟨none, none, .store 11 (.r 6) (.r 9) [] none⟩] [0, 1, 2, 6])
  (.seq (.seq (.ops [⟨some 10, none, .mv (.r 2)⟩,
      ⟨some 11, none, .bin .eql .no (.r 10) (.c (.int .i64 0))⟩] [0, 1, 6, 11])
    (.cond (.r 11) (.ops [⟨some 12, none, .mv (.r 0)⟩,
      ⟨some 13, none, .nilck (.r 12)⟩,
      ⟨some 14, none, .faddr 2 (.r 13)⟩,
      ⟨some 15, none, .load false 1 (.r 14)⟩,
      ⟨some 16, none, .mv (.r 1)⟩,
      ⟨some 17, none, .lookup .i (.ptr none) false (.r 15) (.r 16)⟩,
      ⟨some 18, none, .nilck (.r 17)⟩,
      ⟨some 19, none, .faddr 2 (.r 18)⟩,
      ⟨some 20, none, .load true 9 (.r 19)⟩,
      ⟨some 21, none, .call false F.coord_copied [(.r 20)]⟩,
      ⟨some 22, none, .faddr 2 (.r 6)⟩,
      ⟨none, none, .store 9 (.r 22) (.r 21) [] none⟩] [0, 1, 6]) .skip))
  (.seq (.dops 7 [⟨some 23, none, .mv (.r 0)⟩,
    ⟨some 24, none, .mv (.r 0)⟩,
    ⟨some 25, none, .nilck (.r 24)⟩,
    ⟨some 26, none, .faddr 3 (.r 25)⟩,
    ⟨some 27, none, .load false 1 (.r 26)⟩,
    ⟨some 28, none, .load true 11 (.r 6)⟩,
    ⟨some 29, none, .bslice (.agg [(.int .i64 0), (.int .i64 0), (.int .i64 0), (.int .i64 0), (.int .i64 0), (.int .i64 0), (.int .i64 0), (.int .i64 0), (.int .i64 0), (.int .i64 0), (.sl [])]) 11 1 [(0, (.r 28))]⟩,
    ⟨some 30, none, .appc 26 11 104 (.r 27) (.r 29)⟩,
    ⟨some 31, none, .nilck (.r 23)⟩,
    ⟨some 32, none, .faddr 3 (.r 31)⟩,
    ⟨none, none, .store 1 (.r 32) (.r 30) [(0, 11)] (some 26)⟩] [0, 1])
  (.ops [⟨some 33, none, .mv (.r 0)⟩,
  ⟨some 34, none, .nilck (.r 33)⟩,
  ⟨some 35, none, .faddr 2 (.r 34)⟩,
  ⟨some 36, none, .load false 1 (.r 35)⟩,
  ⟨some 37, none, .mv (.r 1)⟩,
  ⟨none, none, .delete .i (.r 36) (.r 37)⟩] [])))),
  [], none⟩
/-- tattler/tattlerref5.MayKey -/
def c_tattlerref5_MayKey : VFun := ⟨1,
  (.seq (.ops [⟨some 2, none, .asg (.c (.bool false))⟩] [0])
  (.seq (.ops [⟨some 3, none, .mv (.r 0)⟩,
    ⟨some 4, none, .len .str (.r 3)⟩,
    ⟨some 5, none, .bin .geq .no (.r 4) (.c (.int .i64 1))⟩,
    ⟨some 6, none, .mv (.r 5)⟩,
    ⟨some 7, some (6, true), .mv (.r 0)⟩,
    ⟨some 8, some (6, true), .len .str (.r 7)⟩,
    ⟨some 9, some (6, true), .bin .leq .no (.r 8) (.c (.int .i64 32))⟩,
    ⟨some 10, none, .pick (.r 6) (.r 9) (.c (.bool false))⟩,
    ⟨some 2, none, .asg (.r 10)⟩] [2])
  .ret)),
  [.r 2], none⟩
def c_tattlerref1_May_l0 : VCode := (.seq (.ops [⟨some 7, none, .bin .lss .no (.r 6) (.c (.int .i64 8))⟩] [5, 6, 7])
  (.seq (.cond (.r 7) .skip (.exit 0))
  (.seq (.block 1 (.seq (.ops [⟨some 8, none, .index false 8 1 false (.r 5) (.r 6)⟩,
        ⟨some 4, none, .asg (.r 8)⟩] [4, 5, 6])
      (.seq (.ops [⟨some 9, none, .mv (.r 4)⟩,
        ⟨some 10, none, .bin .lss .no (.r 9) (.c (.int .i64 0))⟩,
        ⟨some 11, none, .mv (.r 10)⟩,
        ⟨some 12, some (11, false), .mv (.r 4)⟩,
        ⟨some 13, some (11, false), .bin .gtr .no (.r 12) (.c (.int .i64 1099511627776))⟩,
        ⟨some 14, none, .pick (.r 11) (.c (.bool true)) (.r 13)⟩] [5, 6, 14])
      (.cond (.r 14) (.seq (.ops [⟨some 2, none, .asg (.c (.bool false))⟩] [2])
        .ret) .skip))))
  (.ops [⟨some 15, none, .bin .add .no (.r 6) (.c (.int .i64 1))⟩,
  ⟨some 6, none, .mv (.r 15)⟩] [5, 6]))))
/-- tattler/tattlerref1.May -/
def c_tattlerref1_May : VFun := ⟨1,
  (.seq (.ops [⟨some 1, none, .box 8 (.r 0)⟩,
    ⟨some 2, none, .asg (.c (.bool false))⟩] [1])
  (.seq (.seq (.ops [⟨some 5, none, .load true 8 (.r 1)⟩,
      ⟨some 6, none, .mv (.c (.int .i64 0))⟩] [5, 6])
    (.block 0 (.loop [5, 6] [] c_tattlerref1_May_l0)))
  (.seq (.ops [⟨some 2, none, .asg (.c (.bool true))⟩] [2])
  .ret))),
  [.r 2], none⟩
/-- tattler/tattlerref1.Covers -/
def c_tattlerref1_Covers : VFun := ⟨2,
  (.seq (.ops [⟨some 2, none, .box 8 (.r 0)⟩,
    ⟨some 3, none, .box 2 (.r 1)⟩,
    ⟨some 4, none, .asg (.c (.bool false))⟩] [2, 3])
  (.seq (.dops 20 [⟨some 5, none, .faddr 0 (.r 3)⟩,
    ⟨some 6, none, .load false 1 (.r 5)⟩,
    ⟨some 7, none, .bin .geq .no (.r 6) (.c (.int .i64 0))⟩,
    ⟨some 8, none, .mv (.r 7)⟩,
    ⟨some 9, some (8, true), .faddr 0 (.r 3)⟩,
    ⟨some 10, some (8, true), .load false 1 (.r 9)⟩,
    ⟨some 11, some (8, true), .bin .lss .no (.r 10) (.c (.int .i64 8))⟩,
    ⟨some 12, none, .pick (.r 8) (.r 11) (.c (.bool false))⟩,
    ⟨some 13, none, .mv (.r 12)⟩,
    ⟨some 14, some (13, true), .faddr 1 (.r 3)⟩,
    ⟨some 15, some (13, true), .load false 1 (.r 14)⟩,
    ⟨some 16, some (13, true), .bin .geq .no (.r 15) (.c (.int .i64 1))⟩,
    ⟨some 17, none, .pick (.r 13) (.r 16) (.c (.bool false))⟩,
    ⟨some 18, none, .mv (.r 17)⟩,
    ⟨some 19, some (18, true), .faddr 1 (.r 3)⟩,
    ⟨some 20, some (18, true), .load false 1 (.r 19)⟩,
    ⟨some 21, some (18, true), .faddr 0 (.r 3)⟩,
    ⟨some 22, some (18, true), .load false 1 (.r 21)⟩,
    ⟨some 23, some (18, true), .iaddr (some 8) 1 (.r 2) (.r 22)⟩,
    ⟨some 24, some (18, true), .load false 1 (.r 23)⟩,
    ⟨some 25, some (18, true), .bin .leq .no (.r 20) (.r 24)⟩,
    ⟨some 26, none, .pick (.r 18) (.r 25) (.c (.bool false))⟩,
    ⟨some 4, none, .asg (.r 26)⟩] [4])
  .ret)),
  [.r 4], none⟩
/-- tattler/tattlerref1.Less -/
def c_tattlerref1_Less : VFun := ⟨2,
  (.seq (.ops [⟨some 2, none, .box 2 (.r 0)⟩,
    ⟨some 3, none, .box 2 (.r 1)⟩,
    ⟨some 4, none, .asg (.c (.bool false))⟩] [2, 3])
  (.seq (.ops [⟨some 5, none, .faddr 0 (.r 2)⟩,
    ⟨some 6, none, .load false 1 (.r 5)⟩,
    ⟨some 7, none, .faddr 0 (.r 3)⟩,
    ⟨some 8, none, .load false 1 (.r 7)⟩,
    ⟨some 9, none, .bin .lss .no (.r 6) (.r 8)⟩,
    ⟨some 10, none, .mv (.r 9)⟩,
    ⟨some 11, some (10, false), .faddr 0 (.r 2)⟩,
    ⟨some 12, some (10, false), .load false 1 (.r 11)⟩,
    ⟨some 13, some (10, false), .faddr 0 (.r 3)⟩,
    ⟨some 14, some (10, false), .load false 1 (.r 13)⟩,
    ⟨some 15, some (10, false), .bin .eql .no (.r 12) (.r 14)⟩,
    ⟨some 16, some (10, false), .mv (.r 15)⟩,
    ⟨some 17, some (16, true), .faddr 1 (.r 2)⟩,
    ⟨some 18, some (16, true), .load false 1 (.r 17)⟩,
    ⟨some 19, some (16, true), .faddr 1 (.r 3)⟩,
    ⟨some 20, some (16, true), .load false 1 (.r 19)⟩,
    ⟨some 21, some (16, true), .bin .lss .no (.r 18) (.r 20)⟩,
    ⟨some 22, some (10, false), .pick (.r 16) (.r 21) (.c (.bool false))⟩,
    ⟨some 23, none, .pick (.r 10) (.c (.bool true)) (.r 22)⟩,
    ⟨some 4, none, .asg (.r 23)⟩] [4])
  .ret)),
  [.r 4], none⟩
def c_tattlerref1_Join_l0 : VCode := (.seq (.ops [⟨some 7, none, .bin .lss .no (.r 6) (.c (.int .i64 8))⟩] [2, 3, 4, 6, 7])
  (.seq (.cond (.r 7) .skip (.exit 0))
  (.seq (.block 1 (.seq (.ops [⟨some 8, none, .mv (.r 6)⟩,
        ⟨some 5, none, .asg (.r 8)⟩] [2, 3, 4, 5, 6])
      (.dops 8 [⟨some 9, none, .mv (.r 5)⟩,
      ⟨some 10, none, .mv (.r 5)⟩,
      ⟨some 11, none, .iaddr (some 8) 1 (.r 2) (.r 10)⟩,
      ⟨some 12, none, .load false 1 (.r 11)⟩,
      ⟨some 13, none, .mv (.r 5)⟩,
      ⟨some 14, none, .iaddr (some 8) 1 (.r 3) (.r 13)⟩,
      ⟨some 15, none, .load false 1 (.r 14)⟩,
      ⟨some 16, none, .mx [(.r 12), (.r 15)]⟩,
      ⟨some 17, none, .iaddr (some 8) 1 (.r 2) (.r 9)⟩,
      ⟨none, none, .store 1 (.r 17) (.r 16) [] none⟩] [2, 3, 4, 6])))
  (.ops [⟨some 18, none, .bin .add .no (.r 6) (.c (.int .i64 1))⟩,
  ⟨some 6, none, .mv (.r 18)⟩] [2, 3, 4, 6]))))
/-- tattler/tattlerref1.Join -/
def c_tattlerref1_Join : VFun := ⟨2,
  (.seq (.ops [⟨some 2, none, .box 8 (.r 0)⟩,
    ⟨some 3, none, .box 8 (.r 1)⟩,
    ⟨some 4, none, .alloc [(.int .i64 0), (.int .i64 0), (.int .i64 0), (.int .i64 0), (.int .i64 0), (.int .i64 0), (.int .i64 0), (.int .i64 0)] []⟩] [2, 3, 4])
  (.seq (.seq (.ops [⟨some 6, none, .mv (.c (.int .i64 0))⟩] [2, 3, 4, 6])
    (.block 0 (.loop [2, 3, 4, 6] [] c_tattlerref1_Join_l0)))
  (.seq (.ops [⟨some 19, none, .load true 8 (.r 2)⟩,
    ⟨none, none, .store 8 (.r 4) (.r 19) [] none⟩] [4])
  .ret))),
  [.cell 4 true 8], none⟩
def c_tattlerref5_find_l0 : VCode := (.seq (.ops [⟨some 11, none, .bin .lss .no (.r 10) (.r 9)⟩] [3, 8, 9, 10, 11])
  (.seq (.cond (.r 11) .skip (.exit 0))
  (.seq (.block 1 (.seq (.ops [⟨some 12, none, .mv (.r 10)⟩,
        ⟨some 13, none, .iaddr none 4 (.r 8) (.r 10)⟩,
        ⟨some 14, none, .load true 4 (.r 13)⟩,
        ⟨some 6, none, .alloc [(.int .i64 0), (.int .i64 0), (.sl []), (.bool false)] []⟩,
        ⟨some 5, none, .asg (.r 12)⟩,
        ⟨none, none, .store 4 (.r 6) (.r 14) [] none⟩] [3, 5, 6, 8, 9, 10])
      (.seq (.ops [⟨some 15, none, .faddr 0 (.r 6)⟩,
        ⟨some 16, none, .load true 2 (.r 15)⟩,
        ⟨some 17, none, .load true 2 (.r 3)⟩,
        ⟨some 18, none, .bin .eql (.agg [.i, .i]) (.r 16) (.r 17)⟩] [3, 5, 8, 9, 10, 18])
      (.cond (.r 18) (.seq (.ops [⟨some 19, none, .mv (.r 5)⟩,
          ⟨some 4, none, .asg (.r 19)⟩] [4])
        .ret) .skip))))
  (.ops [⟨some 20, none, .bin .add .no (.r 10) (.c (.int .i64 1))⟩,
  ⟨some 10, none, .mv (.r 20)⟩] [3, 8, 9, 10]))))
/-- tattler/tattlerref5.find -/
def c_tattlerref5_find : VFun := ⟨2,
  (.seq (.ops [⟨some 2, none, .box 9 (.r 0)⟩,
    ⟨some 3, none, .box 2 (.r 1)⟩,
    ⟨some 4, none, .asg (.c (.int .i64 0))⟩] [2, 3])
  (.seq (.seq (.ops [⟨some 7, none, .faddr 8 (.r 2)⟩,
      ⟨some 8, none, .load false 1 (.r 7)⟩,
      ⟨some 9, none, .len .sl (.r 8)⟩,
      ⟨some 10, none, .mv (.c (.int .i64 0))⟩] [3, 8, 9, 10])
    (.block 0 (.loop [3, 8, 9, 10] [] c_tattlerref5_find_l0)))
  (.seq (.ops [⟨some 4, none, .asg (.c (.int .i64 (-1)))⟩] [4])
  .ret))),
  [.r 4], none⟩
def c_tattlerref5_insert_l0 : VCode := (.seq (.seq (.dops 12 [⟨some 6, none, .mv (.r 5)⟩,
      ⟨some 7, none, .mv (.r 0)⟩,
      ⟨some 8, none, .len .sl (.r 7)⟩,
      ⟨some 9, none, .bin .lss .no (.r 6) (.r 8)⟩,
      ⟨some 10, none, .mv (.r 9)⟩,
      ⟨some 11, some (10, true), .mv (.r 0)⟩,
      ⟨some 12, some (10, true), .mv (.r 5)⟩,
      ⟨some 13, some (10, true), .iaddr none 4 (.r 11) (.r 12)⟩,
      ⟨some 14, some (10, true), .faddr 0 (.r 13)⟩,
      ⟨some 15, some (10, true), .load true 2 (.r 14)⟩,
      ⟨some 16, some (10, true), .faddr 0 (.r 3)⟩,
      ⟨some 17, some (10, true), .load true 2 (.r 16)⟩,
      ⟨some 18, some (10, true), .call false F.tattlerref1_Less [(.r 15), (.r 17)]⟩,
      ⟨some 19, none, .pick (.r 10) (.r 18) (.c (.bool false))⟩] [0, 3, 5, 19])
    (.cond (.r 19) .skip (.exit 0)))
  (.block 1 (.ops [⟨some 20, none, .mv (.r 5)⟩,
    ⟨some 21, none, .bin .add .no (.r 20) (.c (.int .i64 1))⟩,
    ⟨some 5, none, .asg (.r 21)⟩] [0, 3, 5])))
/-- tattler/tattlerref5.insert -/
def c_tattlerref5_insert : VFun := ⟨2,
  (.seq (.ops [⟨some 3, none, .box 4 (.r 1)⟩,
    ⟨some 4, none, .asg (.c (.sl []))⟩] [0, 3])
  (.seq (.ops [⟨some 5, none, .asg (.c (.int .i64 0))⟩] [0, 3, 5])
  (.seq (.block 0 (.loop [0, 3, 5] [(4, 0, 0)] c_tattlerref5_insert_l0))
  (.seq (.dops 10 [⟨some 22, none, .mv (.r 0)⟩,
    ⟨some 23, none, .mv (.r 5)⟩,
    ⟨some 24, none, .slice false 4 (.r 22) none (some (.r 23)) none⟩,
    ⟨some 25, none, .app .fresh 4 48 (.c (.sl [])) (.r 24)⟩,
    ⟨some 26, none, .load true 4 (.r 3)⟩,
    ⟨some 27, none, .bslice (.agg [(.int .i64 0), (.int .i64 0), (.sl []), (.bool false)]) 4 1 [(0, (.r 26))]⟩,
    ⟨some 28, none, .app (.reg 25) 4 48 (.r 25) (.r 27)⟩,
    ⟨some 29, none, .mv (.r 0)⟩,
    ⟨some 30, none, .mv (.r 5)⟩,
    ⟨some 31, none, .slice false 4 (.r 29) (some (.r 30)) none none⟩,
    ⟨some 32, none, .app (.reg 28) 4 48 (.r 28) (.r 31)⟩,
    ⟨some 4, none, .asg (.r 32)⟩] [4])
  .ret)))),
  [.r 4], none⟩
/-- tattler/tattlerref5.copied -/
def c_tattlerref5_copied : VFun := ⟨1,
  (.seq (.ops [⟨some 1, none, .box 4 (.r 0)⟩,
    ⟨some 2, none, .alloc [(.int .i64 0), (.int .i64 0), (.sl []), (.bool false)] []⟩] [1, 2])
  (.seq (.ops [⟨some 3, none, .faddr 2 (.r 1)⟩,
    ⟨some 4, none, .load false 1 (.r 3)⟩,
    ⟨some 5, none, .app .fresh 1 1 (.c (.sl [])) (.r 4)⟩,
    ⟨some 6, none, .faddr 2 (.r 1)⟩,
    ⟨none, none, .store 1 (.r 6) (.r 5) [] none⟩] [1, 2])
  (.seq (.ops [⟨some 7, none, .load true 4 (.r 1)⟩,
    ⟨none, none, .store 4 (.r 2) (.r 7) [] none⟩] [2])
  .ret))),
  [.cell 2 true 4], none⟩
/-- tattler/tattlerref5.first -/
def c_tattlerref5_first : VFun := ⟨2,
  (.seq (.ops [⟨some 2, none, .box 4 (.r 0)⟩,
    ⟨some 3, none, .box 4 (.r 1)⟩,
    ⟨some 4, none, .alloc [(.int .i64 0), (.int .i64 0), (.sl []), (.bool false)] []⟩] [2, 3, 4])
  (.seq (.seq (.ops [⟨some 5, none, .faddr 3 (.r 2)⟩,
      ⟨some 6, none, .load false 1 (.r 5)⟩,
      ⟨some 7, none, .faddr 3 (.r 3)⟩,
      ⟨some 8, none, .load false 1 (.r 7)⟩,
      ⟨some 9, none, .bin .neq .bool (.r 6) (.r 8)⟩] [2, 3, 4, 9])
    (.cond (.r 9) (.seq (.seq (.ops [⟨some 10, none, .faddr 3 (.r 2)⟩,
          ⟨some 11, none, .load false 1 (.r 10)⟩] [2, 3, 4, 11])
        (.cond (.r 11) (.seq (.ops [⟨some 12, none, .load true 4 (.r 3)⟩,
            ⟨none, none, .store 4 (.r 4) (.r 12) [] none⟩] [4])
          .ret) .skip))
      (.seq (.ops [⟨some 13, none, .load true 4 (.r 2)⟩,
        ⟨none, none, .store 4 (.r 4) (.r 13) [] none⟩] [4])
      .ret)) .skip))
  (.seq (.seq (.ops [⟨some 14, none, .faddr 2 (.r 3)⟩,
      ⟨some 15, none, .load false 1 (.r 14)⟩,
      ⟨some 16, none, .conv .strOfBytes (.r 15)⟩,
      ⟨some 17, none, .faddr 2 (.r 2)⟩,
      ⟨some 18, none, .load false 1 (.r 17)⟩,
      ⟨some 19, none, .conv .strOfBytes (.r 18)⟩,
      ⟨some 20, none, .bin .lss .no (.r 16) (.r 19)⟩] [2, 3, 4, 20])
    (.cond (.r 20) (.seq (.ops [⟨some 21, none, .load true 4 (.r 3)⟩,
        ⟨none, none, .store 4 (.r 4) (.r 21) [] none⟩] [4])
      .ret) .skip))
  (.seq (.ops [⟨some 22, none, .load true 4 (.r 2)⟩,
    ⟨none, none, .store 4 (.r 4) (.r 22) [] none⟩] [4])
  .ret)))),
  [.cell 4 true 4], none⟩
/-- tattler/sibs.MayEntry -/
def c_sibs_MayEntry : VFun := ⟨1,
  (.seq (.ops [⟨some 1, none, .box 10 (.r 0)⟩,
    ⟨some 2, none, .asg (.c (.bool false))⟩] [1])
  (.seq (.ops [⟨some 3, none, .faddr 0 (.r 1)⟩,
    ⟨some 4, none, .load false 1 (.r 3)⟩,
    ⟨some 5, none, .len .str (.r 4)⟩,
    ⟨some 6, none, .bin .geq .no (.r 5) (.c (.int .i64 1))⟩,
    ⟨some 7, none, .mv (.r 6)⟩,
    ⟨some 8, some (7, true), .faddr 0 (.r 1)⟩,
    ⟨some 9, some (7, true), .load false 1 (.r 8)⟩,
    ⟨some 10, some (7, true), .len .str (.r 9)⟩,
    ⟨some 11, some (7, true), .bin .leq .no (.r 10) (.c (.int .i64 32))⟩,
    ⟨some 12, none, .pick (.r 7) (.r 11) (.c (.bool false))⟩,
    ⟨some 13, none, .mv (.r 12)⟩,
    ⟨some 14, some (13, true), .faddr 1 (.r 1)⟩,
    ⟨some 15, some (13, true), .load true 9 (.r 14)⟩,
    ⟨some 16, some (13, true), .call false F.sibs_May [(.r 15)]⟩,
    ⟨some 17, none, .pick (.r 13) (.r 16) (.c (.bool false))⟩,
    ⟨some 2, none, .asg (.r 17)⟩] [2])
  .ret)),
  [.r 2], none⟩
/-- (*tattler/quorum.Count).Has -/
def c_quorum_Count_Has : VFun := ⟨2,
  (.seq (.ops [⟨some 4, none, .asg (.c (.bool false))⟩] [0, 1])
  (.seq (.ops [⟨some 5, none, .mv (.r 0)⟩,
    ⟨some 6, none, .bin .neq .ptr (.r 5) (.c (.ptr none))⟩,
    ⟨some 7, none, .mv (.r 6)⟩,
    ⟨some 8, some (7, true), .mv (.r 1)⟩,
    ⟨some 9, some (7, true), .bin .geq .no (.r 8) (.c (.int .i64 0))⟩,
    ⟨some 10, none, .pick (.r 7) (.r 9) (.c (.bool false))⟩,
    ⟨some 11, none, .mv (.r 10)⟩,
    ⟨some 12, some (11, true), .mv (.r 1)⟩,
    ⟨some 13, some (11, true), .bin .lss .no (.r 12) (.c (.int .i64 8))⟩,
    ⟨some 14, none, .pick (.r 11) (.r 13) (.c (.bool false))⟩,
    ⟨some 15, none, .mv (.r 14)⟩,
    ⟨some 16, some (15, true), .mv (.r 0)⟩,
    ⟨some 17, some (15, true), .mv (.r 1)⟩,
    ⟨some 18, some (15, true), .nilck (.r 16)⟩,
    ⟨some 19, some (15, true), .faddr 1 (.r 18)⟩,
    ⟨some 20, some (15, true), .iaddr (some 8) 1 (.r 19) (.r 17)⟩,
    ⟨some 21, some (15, true), .load false 1 (.r 20)⟩,
    ⟨some 22, none, .pick (.r 15) (.r 21) (.c (.bool false))⟩,
    ⟨some 4, none, .asg (.r 22)⟩] [4])
  .ret)),
  [.r 4], none⟩
/-- tattler/coord.copied -/
def c_coord_copied : VFun := ⟨1,
  (.seq (.ops [⟨some 1, none, .box 9 (.r 0)⟩,
    ⟨some 2, none, .alloc [(.int .i64 0), (.int .i64 0), (.int .i64 0), (.int .i64 0), (.int .i64 0), (.int .i64 0), (.int .i64 0), (.int .i64 0), (.sl [])] []⟩] [1, 2])
  (.seq (.ops [⟨some 3, none, .load true 9 (.r 1)⟩,
    ⟨some 4, none, .load true 9 (.r 1)⟩,
    ⟨some 5, none, .call false F.sibs_Join [(.r 3), (.r 4)]⟩,
    ⟨none, none, .store 9 (.r 2) (.r 5) [] none⟩] [2])
  .ret)),
  [.cell 2 true 9], none⟩
def c_sibs_Join_l0 : VCode := (.seq (.ops [⟨some 25, none, .bin .lss .no (.r 24) (.r 23)⟩] [2, 3, 4, 5, 22, 23, 24, 25])
  (.seq (.cond (.r 25) .skip (.exit 0))
  (.seq (.block 1 (.seq (.ops [⟨some 26, none, .iaddr none 4 (.r 22) (.r 24)⟩,
        ⟨some 27, none, .load true 4 (.r 26)⟩,
        ⟨some 7, none, .alloc [(.int .i64 0), (.int .i64 0), (.sl []), (.bool false)] []⟩,
        ⟨none, none, .store 4 (.r 7) (.r 27) [] none⟩] [2, 3, 4, 5, 7, 22, 23, 24])
      (.seq (.ops [⟨some 29, none, .load true 9 (.r 3)⟩,
        ⟨some 30, none, .faddr 0 (.r 7)⟩,
        ⟨some 31, none, .load true 2 (.r 30)⟩,
        ⟨some 32, none, .call false F.sibs_find [(.r 29), (.r 31)]⟩,
        ⟨some 28, none, .mv (.r 32)⟩,
        ⟨some 33, none, .extract 0 (.r 28)⟩,
        ⟨some 34, none, .extract 1 (.r 28)⟩,
        ⟨some 8, none, .alloc [(.int .i64 0), (.int .i64 0), (.sl []), (.bool false)] []⟩,
        ⟨none, none, .store 4 (.r 8) (.r 33) [] none⟩,
        ⟨some 9, none, .asg (.r 34)⟩] [2, 3, 4, 5, 7, 8, 9, 22, 23, 24])
      (.seq (.ops [⟨some 35, none, .mv (.r 9)⟩] [2, 3, 4, 5, 7, 8, 22, 23, 24, 35])
      (.cond (.r 35) (.ops [⟨some 36, none, .mv (.r 5)⟩,
        ⟨some 37, none, .load true 4 (.r 7)⟩,
        ⟨some 38, none, .load true 4 (.r 8)⟩,
        ⟨some 39, none, .call false F.sibs_better [(.r 37), (.r 38)]⟩,
        ⟨some 40, none, .call false F.sibs_own [(.r 39)]⟩,
        ⟨some 41, none, .bslice (.agg [(.int .i64 0), (.int .i64 0), (.sl []), (.bool false)]) 4 1 [(0, (.r 40))]⟩,
        ⟨some 42, none, .appl 5 4 48 (.r 36) (.r 41)⟩,
        ⟨some 5, none, .asg (.r 42)⟩] [2, 3, 4, 5, 22, 23, 24]) (.seq (.ops [⟨some 43, none, .faddr 0 (.r 3)⟩,
          ⟨some 44, none, .load true 8 (.r 43)⟩,
          ⟨some 45, none, .faddr 0 (.r 7)⟩,
          ⟨some 46, none, .load true 2 (.r 45)⟩,
          ⟨some 47, none, .call false F.vector_Covers [(.r 44), (.r 46)]⟩,
          ⟨some 48, none, .un .not (.r 47)⟩] [2, 3, 4, 5, 7, 22, 23, 24, 48])
        (.cond (.r 48) (.ops [⟨some 49, none, .mv (.r 5)⟩,
          ⟨some 50, none, .load true 4 (.r 7)⟩,
          ⟨some 51, none, .call false F.sibs_own [(.r 50)]⟩,
          ⟨some 52, none, .bslice (.agg [(.int .i64 0), (.int .i64 0), (.sl []), (.bool false)]) 4 1 [(0, (.r 51))]⟩,
          ⟨some 53, none, .appl 5 4 48 (.r 49) (.r 52)⟩,
          ⟨some 5, none, .asg (.r 53)⟩] [2, 3, 4, 5, 22, 23, 24]) .skip)))))))
  (.ops [⟨some 54, none, .bin .add .no (.r 24) (.c (.int .i64 1))⟩,
  ⟨some 24, none, .mv (.r 54)⟩] [2, 3, 4, 5, 22, 23, 24]))))
def c_sibs_Join_l1 : VCode := (.seq (.ops [⟨some 59, none, .bin .lss .no (.r 58) (.r 57)⟩] [2, 3, 4, 5, 56, 57, 58, 59])
  (.seq (.cond (.r 59) .skip (.exit 2))
  (.seq (.block 3 (.seq (.ops [⟨some 60, none, .iaddr none 4 (.r 56) (.r 58)⟩,
        ⟨some 61, none, .load true 4 (.r 60)⟩,
        ⟨some 11, none, .alloc [(.int .i64 0), (.int .i64 0), (.sl []), (.bool false)] []⟩,
        ⟨none, none, .store 4 (.r 11) (.r 61) [] none⟩] [2, 3, 4, 5, 11, 56, 57, 58])
      (.seq (.ops [⟨some 62, none, .faddr 0 (.r 2)⟩,
        ⟨some 63, none, .load true 8 (.r 62)⟩,
        ⟨some 64, none, .faddr 0 (.r 11)⟩,
        ⟨some 65, none, .load true 2 (.r 64)⟩,
        ⟨some 66, none, .call false F.vector_Covers [(.r 63), (.r 65)]⟩,
        ⟨some 67, none, .un .not (.r 66)⟩] [2, 3, 4, 5, 11, 56, 57, 58, 67])
      (.cond (.r 67) (.ops [⟨some 68, none, .mv (.r 5)⟩,
        ⟨some 69, none, .load true 4 (.r 11)⟩,
        ⟨some 70, none, .call false F.sibs_own [(.r 69)]⟩,
        ⟨some 71, none, .bslice (.agg [(.int .i64 0), (.int .i64 0), (.sl []), (.bool false)]) 4 1 [(0, (.r 70))]⟩,
        ⟨some 72, none, .appl 5 4 48 (.r 68) (.r 71)⟩,
        ⟨some 5, none, .asg (.r 72)⟩] [2, 3, 4, 5, 56, 57, 58]) .skip))))
  (.ops [⟨some 73, none, .bin .add .no (.r 58) (.c (.int .i64 1))⟩,
  ⟨some 58, none, .mv (.r 73)⟩] [2, 3, 4, 5, 56, 57, 58]))))
/-- tattler/sibs.Join -/
def c_sibs_Join : VFun := ⟨2,
  (.seq (.ops [⟨some 2, none, .box 9 (.r 0)⟩,
    ⟨some 3, none, .box 9 (.r 1)⟩,
    ⟨some 4, none, .alloc [(.int .i64 0), (.int .i64 0), (.int .i64 0), (.int .i64 0), (.int .i64 0), (.int .i64 0), (.int .i64 0), (.int .i64 0), (.sl [])] []⟩] [2, 3, 4])
  (.seq (.seq (.ops [⟨some 12, none, .load true 9 (.r 2)⟩,
      ⟨some 13, none, .call false F.sibs_May [(.r 12)]⟩,
      ⟨some 14, none, .un .not (.r 13)⟩,
      ⟨some 15, none, .mv (.r 14)⟩,
      ⟨some 16, some (15, false), .load true 9 (.r 3)⟩,
      ⟨some 17, some (15, false), .call false F.sibs_May [(.r 16)]⟩,
      ⟨some 18, some (15, false), .un .not (.r 17)⟩,
      ⟨some 19, none, .pick (.r 15) (.c (.bool true)) (.r 18)⟩] [2, 3, 4, 19])
    (.cond (.r 19) (.seq (.ops [⟨some 20, none, .build [(.int .i64 0), (.int .i64 0), (.int .i64 0), (.int .i64 0), (.int .i64 0), (.int .i64 0), (.int .i64 0), (.int .i64 0), (.sl [])] []⟩,
        ⟨none, none, .store 9 (.r 4) (.r 20) [] none⟩] [4])
      .ret) .skip))
  (.seq (.ops [⟨some 5, none, .newl 4⟩] [2, 3, 4, 5])
  (.seq (.seq (.ops [⟨some 21, none, .faddr 8 (.r 2)⟩,
      ⟨some 22, none, .load false 1 (.r 21)⟩,
      ⟨some 23, none, .len .sl (.r 22)⟩,
      ⟨some 24, none, .mv (.c (.int .i64 0))⟩] [2, 3, 4, 5, 22, 23, 24])
    (.block 0 (.loop [2, 3, 4, 5, 22, 23, 24] [(5, 0, 1000004)] c_sibs_Join_l0)))
  (.seq (.seq (.ops [⟨some 55, none, .faddr 8 (.r 3)⟩,
      ⟨some 56, none, .load false 1 (.r 55)⟩,
      ⟨some 57, none, .len .sl (.r 56)⟩,
      ⟨some 58, none, .mv (.c (.int .i64 0))⟩] [2, 3, 4, 5, 56, 57, 58])
    (.block 2 (.loop [2, 3, 4, 5, 56, 57, 58] [(5, 0, 1000004)] c_sibs_Join_l1)))
  (.seq (.ops [⟨some 74, none, .mv (.r 5)⟩,
    ⟨some 75, none, .calll F.sibs_sorted 5 4 sortV (.r 74) []⟩,
    ⟨some 5, none, .asg (.r 75)⟩,
    ⟨some 5, none, .frzl 5 4⟩] [2, 3, 4, 5])
  (.seq (.dops 10 [⟨some 76, none, .faddr 0 (.r 2)⟩,
    ⟨some 77, none, .load true 8 (.r 76)⟩,
    ⟨some 78, none, .faddr 0 (.r 3)⟩,
    ⟨some 79, none, .load true 8 (.r 78)⟩,
    ⟨some 80, none, .call true F.vector_Join [(.r 77), (.r 79)]⟩,
    ⟨some 81, none, .mv (.r 5)⟩,
    ⟨some 82, none, .mv (.r 5)⟩,
    ⟨some 83, none, .len .sl (.r 82)⟩,
    ⟨some 84, none, .mn [(.r 83), (.c (.int .i64 16))]⟩,
    ⟨some 85, none, .slice false 4 (.r 81) none (some (.r 84)) none⟩,
    ⟨some 86, none, .build [(.int .i64 0), (.int .i64 0), (.int .i64 0), (.int .i64 0), (.int .i64 0), (.int .i64 0), (.int .i64 0), (.int .i64 0), (.sl [])] [(0, 8, (.r 80)), (8, 1, (.r 85))]⟩,
    ⟨none, none, .store 9 (.r 4) (.r 86) [] none⟩] [4])
  .ret))))))),
  [.cell 4 true 9], none⟩
/-- tattler/sibs.Same -/
def c_sibs_Same : VFun := ⟨2,
  (.seq (.ops [⟨some 2, none, .box 9 (.r 0)⟩,
    ⟨some 3, none, .box 9 (.r 1)⟩,
    ⟨some 4, none, .asg (.c (.bool false))⟩] [2, 3])
  (.seq (.ops [⟨some 5, none, .faddr 0 (.r 2)⟩,
    ⟨some 6, none, .load true 8 (.r 5)⟩,
    ⟨some 7, none, .faddr 0 (.r 3)⟩,
    ⟨some 8, none, .load true 8 (.r 7)⟩,
    ⟨some 9, none, .bin .eql (.agg [.i, .i, .i, .i, .i, .i, .i, .i]) (.r 6) (.r 8)⟩,
    ⟨some 10, none, .mv (.r 9)⟩,
    ⟨some 11, some (10, true), .faddr 8 (.r 2)⟩,
    ⟨some 12, some (10, true), .load false 1 (.r 11)⟩,
    ⟨some 13, some (10, true), .faddr 8 (.r 3)⟩,
    ⟨some 14, some (10, true), .load false 1 (.r 13)⟩,
    ⟨some 15, some (10, true), .call false F.slices_EqualFunc_api_Value_api_Value_api_Value_api_Value [(.r 12), (.r 14), (.c (.fn F.sibs_Same_c1 [] []))]⟩,
    ⟨some 16, none, .pick (.r 10) (.r 15) (.c (.bool false))⟩,
    ⟨some 4, none, .asg (.r 16)⟩] [4])
  .ret)),
  [.r 4], none⟩
/-- tattler/quorum.New -/
def c_quorum_New : VFun := ⟨1,
  (.seq (.ops [⟨some 2, none, .asg (.c (.ptr none))⟩] [0])
  (.seq (.ops [⟨some 3, none, .mv (.r 0)⟩,
    ⟨some 4, none, .build [(.int .i64 0), (.bool false), (.bool false), (.bool false), (.bool false), (.bool false), (.bool false), (.bool false), (.bool false)] [(0, 1, (.r 3))]⟩,
    ⟨some 5, none, .box 9 (.r 4)⟩,
    ⟨some 2, none, .asg (.r 5)⟩] [2])
  .ret)),
  [.r 2], none⟩
def c_quorum_Count_Len_l0 : VCode := (.seq (.ops [⟨some 13, none, .bin .lss .no (.r 12) (.c (.int .i64 8))⟩] [3, 11, 12, 13])
  (.seq (.cond (.r 13) .skip (.exit 0))
  (.seq (.block 1 (.seq (.ops [⟨some 14, none, .index false 8 1 false (.r 11) (.r 12)⟩,
        ⟨some 5, none, .asg (.r 14)⟩] [3, 5, 11, 12])
      (.seq (.ops [⟨some 15, none, .mv (.r 5)⟩] [3, 11, 12, 15])
      (.cond (.r 15) (.ops [⟨some 16, none, .mv (.r 3)⟩,
        ⟨some 17, none, .bin .add .no (.r 16) (.c (.int .i64 1))⟩,
        ⟨some 3, none, .asg (.r 17)⟩] [3, 11, 12]) .skip))))
  (.ops [⟨some 18, none, .bin .add .no (.r 12) (.c (.int .i64 1))⟩,
  ⟨some 12, none, .mv (.r 18)⟩] [3, 11, 12]))))
/-- (*tattler/quorum.Count).Len -/
def c_quorum_Count_Len : VFun := ⟨1,
  (.seq (.ops [⟨some 2, none, .asg (.c (.int .i64 0))⟩] [0])
  (.seq (.seq (.ops [⟨some 6, none, .mv (.r 0)⟩,
      ⟨some 7, none, .bin .eql .ptr (.r 6) (.c (.ptr none))⟩] [0, 7])
    (.cond (.r 7) (.seq (.ops [⟨some 2, none, .asg (.c (.int .i64 0))⟩] [2])
      .ret) .skip))
  (.seq (.ops [⟨some 3, none, .asg (.c (.int .i64 0))⟩] [0, 3])
  (.seq (.seq (.ops [⟨some 8, none, .mv (.r 0)⟩,
      ⟨some 9, none, .nilck (.r 8)⟩,
      ⟨some 10, none, .faddr 1 (.r 9)⟩,
      ⟨some 11, none, .load true 8 (.r 10)⟩,
      ⟨some 12, none, .mv (.c (.int .i64 0))⟩] [3, 11, 12])
    (.block 0 (.loop [3, 11, 12] [] c_quorum_Count_Len_l0)))
  (.seq (.ops [⟨some 19, none, .mv (.r 3)⟩,
    ⟨some 2, none, .asg (.r 19)⟩] [2])
  .ret))))),
  [.r 2], none⟩
def c_sibs_May_l0 : VCode := (.seq (.ops [⟨some 19, none, .bin .lss .no (.r 18) (.r 17)⟩] [1, 16, 17, 18, 19])
  (.seq (.cond (.r 19) .skip (.exit 0))
  (.seq (.block 1 (.seq (.ops [⟨some 20, none, .mv (.r 18)⟩,
        ⟨some 21, none, .iaddr none 4 (.r 16) (.r 18)⟩,
        ⟨some 22, none, .load true 4 (.r 21)⟩,
        ⟨some 4, none, .alloc [(.int .i64 0), (.int .i64 0), (.sl []), (.bool false)] []⟩,
        ⟨some 3, none, .asg (.r 20)⟩,
        ⟨none, none, .store 4 (.r 4) (.r 22) [] none⟩] [1, 3, 4, 16, 17, 18])
      (.seq (.dops 24 [⟨some 23, none, .load true 4 (.r 4)⟩,
        ⟨some 24, none, .call true F.sibs_mayValue [(.r 23)]⟩,
        ⟨some 25, none, .un .not (.r 24)⟩,
        ⟨some 26, none, .mv (.r 25)⟩,
        ⟨some 27, some (26, false), .faddr 0 (.r 1)⟩,
        ⟨some 28, some (26, false), .load true 8 (.r 27)⟩,
        ⟨some 29, some (26, false), .faddr 0 (.r 4)⟩,
        ⟨some 30, some (26, false), .load true 2 (.r 29)⟩,
        ⟨some 31, some (26, false), .call true F.vector_Covers [(.r 28), (.r 30)]⟩,
        ⟨some 32, some (26, false), .un .not (.r 31)⟩,
        ⟨some 33, none, .pick (.r 26) (.c (.bool true)) (.r 32)⟩,
        ⟨some 34, none, .mv (.r 33)⟩,
        ⟨some 35, some (34, false), .mv (.r 3)⟩,
        ⟨some 36, some (34, false), .bin .gtr .no (.r 35) (.c (.int .i64 0))⟩,
        ⟨some 37, some (34, false), .mv (.r 36)⟩,
        ⟨some 38, some (37, true), .faddr 8 (.r 1)⟩,
        ⟨some 39, some (37, true), .load false 1 (.r 38)⟩,
        ⟨some 40, some (37, true), .mv (.r 3)⟩,
        ⟨some 41, some (37, true), .bin .sub .no (.r 40) (.c (.int .i64 1))⟩,
        ⟨some 42, some (37, true), .iaddr none 4 (.r 39) (.r 41)⟩,
        ⟨some 43, some (37, true), .faddr 0 (.r 42)⟩,
        ⟨some 44, some (37, true), .load true 2 (.r 43)⟩,
        ⟨some 45, some (37, true), .faddr 0 (.r 4)⟩,
        ⟨some 46, some (37, true), .load true 2 (.r 45)⟩,
        ⟨some 47, some (37, true), .call false F.vector_Less [(.r 44), (.r 46)]⟩,
        ⟨some 48, some (37, true), .un .not (.r 47)⟩,
        ⟨some 49, some (34, false), .pick (.r 37) (.r 48) (.c (.bool false))⟩,
        ⟨some 50, none, .pick (.r 34) (.c (.bool true)) (.r 49)⟩] [1, 16, 17, 18, 50])
      (.cond (.r 50) (.seq (.ops [⟨some 2, none, .asg (.c (.bool false))⟩] [2])
        .ret) .skip))))
  (.ops [⟨some 51, none, .bin .add .no (.r 18) (.c (.int .i64 1))⟩,
  ⟨some 18, none, .mv (.r 51)⟩] [1, 16, 17, 18]))))
/-- tattler/sibs.May -/
def c_sibs_May : VFun := ⟨1,
  (.seq (.ops [⟨some 1, none, .box 9 (.r 0)⟩,
    ⟨some 2, none, .asg (.c (.bool false))⟩] [1])
  (.seq (.seq (.ops [⟨some 5, none, .faddr 0 (.r 1)⟩,
      ⟨some 6, none, .load true 8 (.r 5)⟩,
      ⟨some 7, none, .call false F.vector_May [(.r 6)]⟩,
      ⟨some 8, none, .un .not (.r 7)⟩,
      ⟨some 9, none, .mv (.r 8)⟩,
      ⟨some 10, some (9, false), .faddr 8 (.r 1)⟩,
      ⟨some 11, some (9, false), .load false 1 (.r 10)⟩,
      ⟨some 12, some (9, false), .len .sl (.r 11)⟩,
      ⟨some 13, some (9, false), .bin .gtr .no (.r 12) (.c (.int .i64 16))⟩,
      ⟨some 14, none, .pick (.r 9) (.c (.bool true)) (.r 13)⟩] [1, 14])
    (.cond (.r 14) (.seq (.ops [⟨some 2, none, .asg (.c (.bool false))⟩] [2])
      .ret) .skip))
  (.seq (.seq (.ops [⟨some 15, none, .faddr 8 (.r 1)⟩,
      ⟨some 16, none, .load false 1 (.r 15)⟩,
      ⟨some 17, none, .len .sl (.r 16)⟩,
      ⟨some 18, none, .mv (.c (.int .i64 0))⟩] [1, 16, 17, 18])
    (.block 0 (.loop [1, 16, 17, 18] [] c_sibs_May_l0)))
  (.seq (.ops [⟨some 2, none, .asg (.c (.bool true))⟩] [2])
  .ret)))),
  [.r 2], none⟩
def c_sibs_find_l0 : VCode := (.seq (.ops [⟨some 12, none, .bin .lss .no (.r 11) (.r 10)⟩] [3, 4, 9, 10, 11, 12])
  (.seq (.cond (.r 12) .skip (.exit 0))
  (.seq (.block 1 (.seq (.ops [⟨some 13, none, .iaddr none 4 (.r 9) (.r 11)⟩,
        ⟨some 14, none, .load true 4 (.r 13)⟩,
        ⟨some 7, none, .alloc [(.int .i64 0), (.int .i64 0), (.sl []), (.bool false)] []⟩,
        ⟨none, none, .store 4 (.r 7) (.r 14) [] none⟩] [3, 4, 7, 9, 10, 11])
      (.seq (.ops [⟨some 15, none, .faddr 0 (.r 7)⟩,
        ⟨some 16, none, .load true 2 (.r 15)⟩,
        ⟨some 17, none, .load true 2 (.r 3)⟩,
        ⟨some 18, none, .bin .eql (.agg [.i, .i]) (.r 16) (.r 17)⟩] [3, 4, 7, 9, 10, 11, 18])
      (.cond (.r 18) (.seq (.ops [⟨some 19, none, .load true 4 (.r 7)⟩,
          ⟨none, none, .store 4 (.r 4) (.r 19) [] none⟩,
          ⟨some 5, none, .asg (.c (.bool true))⟩] [4, 5])
        .ret) .skip))))
  (.ops [⟨some 20, none, .bin .add .no (.r 11) (.c (.int .i64 1))⟩,
  ⟨some 11, none, .mv (.r 20)⟩] [3, 4, 9, 10, 11]))))
/-- tattler/sibs.find -/
def c_sibs_find : VFun := ⟨2,
  (.seq (.ops [⟨some 2, none, .box 9 (.r 0)⟩,
    ⟨some 3, none, .box 2 (.r 1)⟩,
    ⟨some 4, none, .alloc [(.int .i64 0), (.int .i64 0), (.sl []), (.bool false)] []⟩,
    ⟨some 5, none, .asg (.c (.bool false))⟩] [2, 3, 4])
  (.seq (.seq (.ops [⟨some 8, none, .faddr 8 (.r 2)⟩,
      ⟨some 9, none, .load false 1 (.r 8)⟩,
      ⟨some 10, none, .len .sl (.r 9)⟩,
      ⟨some 11, none, .mv (.c (.int .i64 0))⟩] [3, 4, 9, 10, 11])
    (.block 0 (.loop [3, 4, 9, 10, 11] [] c_sibs_find_l0)))
  (.seq (.ops [⟨some 21, none, .build [(.int .i64 0), (.int .i64 0), (.sl []), (.bool false)] []⟩,
    ⟨none, none, .store 4 (.r 4) (.r 21) [] none⟩,
    ⟨some 5, none, .asg (.c (.bool false))⟩] [4, 5])
  .ret))),
  [.cell 4 true 4, .r 5], none⟩
/-- tattler/sibs.own -/
def c_sibs_own : VFun := ⟨1,
  (.seq (.ops [⟨some 1, none, .box 4 (.r 0)⟩,
    ⟨some 2, none, .alloc [(.int .i64 0), (.int .i64 0), (.sl []), (.bool false)] []⟩] [1, 2])
  (.seq (.ops [⟨some 3, none, .faddr 2 (.r 1)⟩,
    ⟨some 4, none, .load false 1 (.r 3)⟩,
    ⟨some 5, none, .call false F.slices_Clone_byte_byte [(.r 4)]⟩,
    ⟨some 6, none, .faddr 2 (.r 1)⟩,
    ⟨none, none, .store 1 (.r 6) (.r 5) [] none⟩] [1, 2])
  (.seq (.ops [⟨some 7, none, .load true 4 (.r 1)⟩,
    ⟨none, none, .store 4 (.r 2) (.r 7) [] none⟩] [2])
  .ret))),
  [.cell 2 true 4], none⟩
/-- tattler/sibs.better -/
def c_sibs_better : VFun := ⟨2,
  (.seq (.ops [⟨some 2, none, .box 4 (.r 0)⟩,
    ⟨some 3, none, .box 4 (.r 1)⟩,
    ⟨some 4, none, .alloc [(.int .i64 0), (.int .i64 0), (.sl []), (.bool false)] []⟩] [2, 3, 4])
  (.seq (.block 0 (.seq (.ops [⟨some 6, none, .faddr 3 (.r 2)⟩,
        ⟨some 7, none, .load false 1 (.r 6)⟩,
        ⟨some 8, none, .faddr 3 (.r 3)⟩,
        ⟨some 9, none, .load false 1 (.r 8)⟩,
        ⟨some 10, none, .bin .neq .bool (.r 7) (.r 9)⟩,
        ⟨some 11, none, .mv (.r 10)⟩,
        ⟨some 12, some (11, true), .faddr 3 (.r 2)⟩,
        ⟨some 13, some (11, true), .load false 1 (.r 12)⟩,
        ⟨some 14, none, .pick (.r 11) (.r 13) (.c (.bool false))⟩,
        ⟨some 5, none, .asg (.r 14)⟩] [2, 3, 4, 5])
      (.cond (.r 5) (.seq (.ops [⟨some 15, none, .load true 4 (.r 3)⟩,
          ⟨none, none, .store 4 (.r 4) (.r 15) [] none⟩] [4])
        .ret) (.seq (.ops [⟨some 17, none, .faddr 3 (.r 2)⟩,
          ⟨some 18, none, .load false 1 (.r 17)⟩,
          ⟨some 19, none, .faddr 3 (.r 3)⟩,
          ⟨some 20, none, .load false 1 (.r 19)⟩,
          ⟨some 21, none, .bin .neq .bool (.r 18) (.r 20)⟩,
          ⟨some 16, none, .asg (.r 21)⟩] [2, 3, 4, 16])
        (.cond (.r 16) (.seq (.ops [⟨some 22, none, .load true 4 (.r 2)⟩,
            ⟨none, none, .store 4 (.r 4) (.r 22) [] none⟩] [4])
          .ret) (.seq (.ops [⟨some 24, none, .faddr 2 (.r 3)⟩,
            ⟨some 25, none, .load false 1 (.r 24)⟩,
            ⟨some 26, none, .faddr 2 (.r 2)⟩,
            ⟨some 27, none, .load false 1 (.r 26)⟩,
            ⟨some 28, none, .call false F.bytes_Compare [(.r 25), (.r 27)]⟩,
            ⟨some 29, none, .bin .lss .no (.r 28) (.c (.int .i64 0))⟩,
            ⟨some 23, none, .asg (.r 29)⟩] [2, 3, 4, 23])
          (.cond (.r 23) (.seq (.ops [⟨some 30, none, .load true 4 (.r 3)⟩,
              ⟨none, none, .store 4 (.r 4) (.r 30) [] none⟩] [4])
            .ret) .skip)))))))
  (.seq (.ops [⟨some 31, none, .load true 4 (.r 2)⟩,
    ⟨none, none, .store 4 (.r 4) (.r 31) [] none⟩] [4])
  .ret))),
  [.cell 4 true 4], none⟩
/-- tattler/vector.Covers -/
def c_vector_Covers : VFun := ⟨2,
  (.seq (.ops [⟨some 2, none, .box 8 (.r 0)⟩,
    ⟨some 3, none, .box 2 (.r 1)⟩,
    ⟨some 4, none, .asg (.c (.bool false))⟩] [2, 3])
  (.seq (.dops 15 [⟨some 5, none, .faddr 0 (.r 3)⟩,
    ⟨some 6, none, .load false 1 (.r 5)⟩,
    ⟨some 7, none, .call true F.vector_is [(.r 6)]⟩,
    ⟨some 8, none, .mv (.r 7)⟩,
    ⟨some 9, some (8, true), .faddr 1 (.r 3)⟩,
    ⟨some 10, some (8, true), .load false 1 (.r 9)⟩,
    ⟨some 11, some (8, true), .bin .geq .no (.r 10) (.c (.int .i64 1))⟩,
    ⟨some 12, none, .pick (.r 8) (.r 11) (.c (.bool false))⟩,
    ⟨some 13, none, .mv (.r 12)⟩,
    ⟨some 14, some (13, true), .faddr 1 (.r 3)⟩,
    ⟨some 15, some (13, true), .load false 1 (.r 14)⟩,
    ⟨some 16, some (13, true), .faddr 0 (.r 3)⟩,
    ⟨some 17, some (13, true), .load false 1 (.r 16)⟩,
    ⟨some 18, some (13, true), .iaddr (some 8) 1 (.r 2) (.r 17)⟩,
    ⟨some 19, some (13, true), .load false 1 (.r 18)⟩,
    ⟨some 20, some (13, true), .bin .leq .no (.r 15) (.r 19)⟩,
    ⟨some 21, none, .pick (.r 13) (.r 20) (.c (.bool false))⟩,
    ⟨some 4, none, .asg (.r 21)⟩] [4])
  .ret)),
  [.r 4], none⟩
def c_vector_Join_l0 : VCode := (.seq (.ops [⟨some 9, none, .bin .lss .no (.r 8) (.c (.int .i64 8))⟩] [2, 4, 7, 8, 9])
  (.seq (.cond (.r 9) .skip (.exit 0))
  (.seq (.block 1 (.seq (.ops [⟨some 10, none, .mv (.r 8)⟩,
        ⟨some 11, none, .index false 8 1 false (.r 7) (.r 8)⟩,
        ⟨some 5, none, .asg (.r 10)⟩,
        ⟨some 6, none, .asg (.r 11)⟩] [2, 4, 5, 6, 7, 8])
      (.ops [⟨some 12, none, .mv (.r 5)⟩,
      ⟨some 13, none, .mv (.r 5)⟩,
      ⟨some 14, none, .iaddr (some 8) 1 (.r 2) (.r 13)⟩,
      ⟨some 15, none, .load false 1 (.r 14)⟩,
      ⟨some 16, none, .mv (.r 6)⟩,
      ⟨some 17, none, .mx [(.r 15), (.r 16)]⟩,
      ⟨some 18, none, .iaddr (some 8) 1 (.r 2) (.r 12)⟩,
      ⟨none, none, .store 1 (.r 18) (.r 17) [] none⟩] [2, 4, 7, 8])))
  (.ops [⟨some 19, none, .bin .add .no (.r 8) (.c (.int .i64 1))⟩,
  ⟨some 8, none, .mv (.r 19)⟩] [2, 4, 7, 8]))))
/-- tattler/vector.Join -/
def c_vector_Join : VFun := ⟨2,
  (.seq (.ops [⟨some 2, none, .box 8 (.r 0)⟩,
    ⟨some 3, none, .box 8 (.r 1)⟩,
    ⟨some 4, none, .alloc [(.int .i64 0), (.int .i64 0), (.int .i64 0), (.int .i64 0), (.int .i64 0), (.int .i64 0), (.int .i64 0), (.int .i64 0)] []⟩] [2, 3, 4])
  (.seq (.seq (.ops [⟨some 7, none, .load true 8 (.r 3)⟩,
      ⟨some 8, none, .mv (.c (.int .i64 0))⟩] [2, 4, 7, 8])
    (.block 0 (.loop [2, 4, 7, 8] [] c_vector_Join_l0)))
  (.seq (.ops [⟨some 20, none, .load true 8 (.r 2)⟩,
    ⟨none, none, .store 8 (.r 4) (.r 20) [] none⟩] [4])
  .ret))),
  [.cell 4 true 8], none⟩
def c_slices_EqualFunc_api_Value_api_Value_api_Value_api_Value_l0 : VCode := (.seq (.ops [⟨some 18, none, .bin .lss .no (.r 17) (.r 16)⟩] [1, 2, 15, 16, 17, 18])
  (.seq (.cond (.r 18) .skip (.exit 0))
  (.seq (.block 1 (.seq (.ops [⟨some 19, none, .mv (.r 17)⟩,
        ⟨some 20, none, .iaddr none 4 (.r 15) (.r 17)⟩,
        ⟨some 21, none, .load true 4 (.r 20)⟩,
        ⟨some 8, none, .alloc [(.int .i64 0), (.int .i64 0), (.sl []), (.bool false)] []⟩,
        ⟨some 7, none, .asg (.r 19)⟩,
        ⟨none, none, .store 4 (.r 8) (.r 21) [] none⟩] [1, 2, 7, 8, 15, 16, 17])
      (.seq (.ops [⟨some 22, none, .mv (.r 1)⟩,
        ⟨some 23, none, .mv (.r 7)⟩,
        ⟨some 24, none, .iaddr none 4 (.r 22) (.r 23)⟩,
        ⟨some 25, none, .load true 4 (.r 24)⟩,
        ⟨some 9, none, .alloc [(.int .i64 0), (.int .i64 0), (.sl []), (.bool false)] []⟩,
        ⟨none, none, .store 4 (.r 9) (.r 25) [] none⟩] [1, 2, 8, 9, 15, 16, 17])
      (.seq (.ops [⟨some 26, none, .mv (.r 2)⟩,
        ⟨some 27, none, .load true 4 (.r 8)⟩,
        ⟨some 28, none, .load true 4 (.r 9)⟩,
        ⟨some 29, none, .callv false (.r 26) [(.r 27), (.r 28)]⟩,
        ⟨some 30, none, .un .not (.r 29)⟩] [1, 2, 15, 16, 17, 30])
      (.cond (.r 30) (.seq (.ops [⟨some 6, none, .asg (.c (.bool false))⟩] [6])
        .ret) .skip)))))
  (.ops [⟨some 31, none, .bin .add .no (.r 17) (.c (.int .i64 1))⟩,
  ⟨some 17, none, .mv (.r 31)⟩] [1, 2, 15, 16, 17]))))
/-- slices.EqualFunc[[]tattler/api.Value,[]tattler/api.Value,tattler/api.Value,tattler/api.Value] -/
def c_slices_EqualFunc_api_Value_api_Value_api_Value_api_Value : VFun := ⟨3,
  (.seq (.ops [⟨some 6, none, .asg (.c (.bool false))⟩] [0, 1, 2])
  (.seq (.seq (.ops [⟨some 10, none, .mv (.r 0)⟩,
      ⟨some 11, none, .len .sl (.r 10)⟩,
      ⟨some 12, none, .mv (.r 1)⟩,
      ⟨some 13, none, .len .sl (.r 12)⟩,
      ⟨some 14, none, .bin .neq .no (.r 11) (.r 13)⟩] [0, 1, 2, 14])
    (.cond (.r 14) (.seq (.ops [⟨some 6, none, .asg (.c (.bool false))⟩] [6])
      .ret) .skip))
  (.seq (.seq (.ops [⟨some 15, none, .mv (.r 0)⟩,
      ⟨some 16, none, .len .sl (.r 15)⟩,
      ⟨some 17, none, .mv (.c (.int .i64 0))⟩] [1, 2, 15, 16, 17])
    (.block 0 (.loop [1, 2, 15, 16, 17] [] c_slices_EqualFunc_api_Value_api_Value_api_Value_api_Value_l0)))
  (.seq (.ops [⟨some 6, none, .asg (.c (.bool true))⟩] [6])
  .ret)))),
  [.r 6], none⟩
/-- tattler/sibs.Same$1 -/
def c_sibs_Same_c1 : VFun := ⟨2,
  (.seq (.ops [⟨some 2, none, .box 4 (.r 0)⟩,
    ⟨some 3, none, .box 4 (.r 1)⟩,
    ⟨some 4, none, .asg (.c (.bool false))⟩] [2, 3])
  (.seq (.ops [⟨some 5, none, .faddr 0 (.r 2)⟩,
    ⟨some 6, none, .load true 2 (.r 5)⟩,
    ⟨some 7, none, .faddr 0 (.r 3)⟩,
    ⟨some 8, none, .load true 2 (.r 7)⟩,
    ⟨some 9, none, .bin .eql (.agg [.i, .i]) (.r 6) (.r 8)⟩,
    ⟨some 10, none, .mv (.r 9)⟩,
    ⟨some 11, some (10, true), .faddr 3 (.r 2)⟩,
    ⟨some 12, some (10, true), .load false 1 (.r 11)⟩,
    ⟨some 13, some (10, true), .faddr 3 (.r 3)⟩,
    ⟨some 14, some (10, true), .load false 1 (.r 13)⟩,
    ⟨some 15, some (10, true), .bin .eql .bool (.r 12) (.r 14)⟩,
    ⟨some 16, none, .pick (.r 10) (.r 15) (.c (.bool false))⟩,
    ⟨some 17, none, .mv (.r 16)⟩,
    ⟨some 18, some (17, true), .faddr 2 (.r 2)⟩,
    ⟨some 19, some (17, true), .load false 1 (.r 18)⟩,
    ⟨some 20, some (17, true), .faddr 2 (.r 3)⟩,
    ⟨some 21, some (17, true), .load false 1 (.r 20)⟩,
    ⟨some 22, some (17, true), .call false F.bytes_Equal [(.r 19), (.r 21)]⟩,
    ⟨some 23, none, .pick (.r 17) (.r 22) (.c (.bool false))⟩,
    ⟨some 4, none, .asg (.r 23)⟩] [4])
  .ret)),
  [.r 4], none⟩
/-- bytes.Equal -/
def c_bytes_Equal : VFun := ⟨2,
  (.seq (.ops [⟨some 4, none, .asg (.c (.bool false))⟩] [0, 1])
  (.seq (.ops [⟨some 5, none, .mv (.r 0)⟩,
    ⟨some 6, none, .conv .strOfBytes (.r 5)⟩,
    ⟨some 7, none, .mv (.r 1)⟩,
    ⟨some 8, none, .conv .strOfBytes (.r 7)⟩,
    ⟨some 9, none, .bin .eql .no (.r 6) (.r 8)⟩,
    ⟨some 4, none, .asg (.r 9)⟩] [4])
  .ret)),
  [.r 4], none⟩
def c_vector_May_l0 : VCode := (.seq (.ops [⟨some 7, none, .bin .lss .no (.r 6) (.c (.int .i64 8))⟩] [5, 6, 7])
  (.seq (.cond (.r 7) .skip (.exit 0))
  (.seq (.block 1 (.seq (.ops [⟨some 8, none, .index false 8 1 false (.r 5) (.r 6)⟩,
        ⟨some 4, none, .asg (.r 8)⟩] [4, 5, 6])
      (.seq (.ops [⟨some 9, none, .mv (.r 4)⟩,
        ⟨some 10, none, .bin .lss .no (.r 9) (.c (.int .i64 0))⟩,
        ⟨some 11, none, .mv (.r 10)⟩,
        ⟨some 12, some (11, false), .mv (.r 4)⟩,
        ⟨some 13, some (11, false), .bin .gtr .no (.r 12) (.c (.int .i64 1099511627776))⟩,
        ⟨some 14, none, .pick (.r 11) (.c (.bool true)) (.r 13)⟩] [5, 6, 14])
      (.cond (.r 14) (.seq (.ops [⟨some 2, none, .asg (.c (.bool false))⟩] [2])
        .ret) .skip))))
  (.ops [⟨some 15, none, .bin .add .no (.r 6) (.c (.int .i64 1))⟩,
  ⟨some 6, none, .mv (.r 15)⟩] [5, 6]))))
/-- tattler/vector.May -/
def c_vector_May : VFun := ⟨1,
  (.seq (.ops [⟨some 1, none, .box 8 (.r 0)⟩,
    ⟨some 2, none, .asg (.c (.bool false))⟩] [1])
  (.seq (.seq (.ops [⟨some 5, none, .load true 8 (.r 1)⟩,
      ⟨some 6, none, .mv (.c (.int .i64 0))⟩] [5, 6])
    (.block 0 (.loop [5, 6] [] c_vector_May_l0)))
  (.seq (.ops [⟨some 2, none, .asg (.c (.bool true))⟩] [2])
  .ret))),
  [.r 2], none⟩
/-- tattler/sibs.mayValue -/
def c_sibs_mayValue : VFun := ⟨1,
  (.seq (.ops [⟨some 1, none, .box 4 (.r 0)⟩,
    ⟨some 2, none, .asg (.c (.bool false))⟩] [1])
  (.seq (.ops [⟨some 3, none, .faddr 2 (.r 1)⟩,
    ⟨some 4, none, .load false 1 (.r 3)⟩,
    ⟨some 5, none, .len .sl (.r 4)⟩,
    ⟨some 6, none, .bin .leq .no (.r 5) (.c (.int .i64 200))⟩,
    ⟨some 7, none, .mv (.r 6)⟩,
    ⟨some 8, some (7, true), .faddr 3 (.r 1)⟩,
    ⟨some 9, some (7, true), .load false 1 (.r 8)⟩,
    ⟨some 10, some (7, true), .un .not (.r 9)⟩,
    ⟨some 11, some (7, true), .mv (.r 10)⟩,
    ⟨some 12, some (11, false), .faddr 2 (.r 1)⟩,
    ⟨some 13, some (11, false), .load false 1 (.r 12)⟩,
    ⟨some 14, some (11, false), .len .sl (.r 13)⟩,
    ⟨some 15, some (11, false), .bin .eql .no (.r 14) (.c (.int .i64 0))⟩,
    ⟨some 16, some (7, true), .pick (.r 11) (.c (.bool true)) (.r 15)⟩,
    ⟨some 17, none, .pick (.r 7) (.r 16) (.c (.bool false))⟩,
    ⟨some 2, none, .asg (.r 17)⟩] [2])
  .ret)),
  [.r 2], none⟩
/-- tattler/vector.Less -/
def c_vector_Less : VFun := ⟨2,
  (.seq (.ops [⟨some 2, none, .box 2 (.r 0)⟩,
    ⟨some 3, none, .box 2 (.r 1)⟩,
    ⟨some 4, none, .asg (.c (.bool false))⟩] [2, 3])
  (.seq (.dops 9 [⟨some 5, none, .faddr 0 (.r 2)⟩,
    ⟨some 6, none, .load false 1 (.r 5)⟩,
    ⟨some 7, none, .faddr 0 (.r 3)⟩,
    ⟨some 8, none, .load false 1 (.r 7)⟩,
    ⟨some 9, none, .call true F.cmp_Compare_int [(.r 6), (.r 8)]⟩,
    ⟨some 10, none, .faddr 1 (.r 2)⟩,
    ⟨some 11, none, .load false 1 (.r 10)⟩,
    ⟨some 12, none, .faddr 1 (.r 3)⟩,
    ⟨some 13, none, .load false 1 (.r 12)⟩,
    ⟨some 14, none, .call false F.cmp_Compare_int64 [(.r 11), (.r 13)]⟩,
    ⟨some 15, none, .bslice (.int .i64 0) 1 2 [(0, (.r 9)), (1, (.r 14))]⟩,
    ⟨some 16, none, .call false F.cmp_Or_int [(.r 15)]⟩,
    ⟨some 17, none, .bin .lss .no (.r 16) (.c (.int .i64 0))⟩,
    ⟨some 4, none, .asg (.r 17)⟩] [4])
  .ret)),
  [.r 4], none⟩
/-- slices.Clone[[]byte,byte] -/
def c_slices_Clone_byte_byte : VFun := ⟨1,
  (.seq (.ops [⟨some 2, none, .asg (.c (.sl []))⟩] [0])
  (.amb (.ops [⟨some 3, none, .mv (.r 0)⟩,
    ⟨some 4, none, .isnil (.r 3)⟩] [0, 4]) (.r 4) (.seq (.ops [⟨some 2, none, .asg (.c (.sl []))⟩] [2])
    .ret) .skip
  (.seq (.ops [⟨some 5, none, .bslice (.int .u8 0) 1 0 []⟩,
      ⟨some 6, none, .mv (.r 0)⟩,
      ⟨some 7, none, .app (.reg 5) 1 1 (.r 5) (.r 6)⟩,
      ⟨some 2, none, .asg (.r 7)⟩] [2])
    .ret))),
  [.r 2], none⟩
/-- bytes.Compare -/
def c_bytes_Compare : VFun := ⟨2,
  (.seq (.ops [⟨some 4, none, .asg (.c (.int .i64 0))⟩] [0, 1])
  (.seq (.ops [⟨some 5, none, .mv (.r 0)⟩,
    ⟨some 6, none, .mv (.r 1)⟩,
    ⟨some 7, none, .call false F.bytealg_Compare [(.r 5), (.r 6)]⟩,
    ⟨some 4, none, .asg (.r 7)⟩] [4])
  .ret)),
  [.r 4], none⟩
/-- tattler/vector.is -/
def c_vector_is : VFun := ⟨1,
  (.seq (.ops [⟨some 2, none, .asg (.c (.bool false))⟩] [0])
  (.seq (.ops [⟨some 3, none, .mv (.r 0)⟩,
    ⟨some 4, none, .bin .geq .no (.r 3) (.c (.int .i64 0))⟩,
    ⟨some 5, none, .mv (.r 4)⟩,
    ⟨some 6, some (5, true), .mv (.r 0)⟩,
    ⟨some 7, some (5, true), .bin .lss .no (.r 6) (.c (.int .i64 8))⟩,
    ⟨some 8, none, .pick (.r 5) (.r 7) (.c (.bool false))⟩,
    ⟨some 2, none, .asg (.r 8)⟩] [2])
  .ret)),
  [.r 2], none⟩
def c_cmp_Or_int_l0 : VCode := (.seq (.ops [⟨some 9, none, .bin .lss .no (.r 8) (.r 7)⟩] [3, 6, 7, 8, 9])
  (.seq (.cond (.r 9) .skip (.exit 0))
  (.seq (.block 1 (.seq (.ops [⟨some 10, none, .iaddr none 1 (.r 6) (.r 8)⟩,
        ⟨some 11, none, .load false 1 (.r 10)⟩,
        ⟨some 5, none, .asg (.r 11)⟩] [3, 5, 6, 7, 8])
      (.seq (.ops [⟨some 12, none, .mv (.r 5)⟩,
        ⟨some 13, none, .mv (.r 3)⟩,
        ⟨some 14, none, .bin .neq .no (.r 12) (.r 13)⟩] [3, 5, 6, 7, 8, 14])
      (.cond (.r 14) (.seq (.ops [⟨some 15, none, .mv (.r 5)⟩,
          ⟨some 2, none, .asg (.r 15)⟩] [2])
        .ret) .skip))))
  (.ops [⟨some 16, none, .bin .add .no (.r 8) (.c (.int .i64 1))⟩,
  ⟨some 8, none, .mv (.r 16)⟩] [3, 6, 7, 8]))))
/-- cmp.Or[int] -/
def c_cmp_Or_int : VFun := ⟨1,
  (.seq (.ops [⟨some 2, none, .asg (.c (.int .i64 0))⟩] [0])
  (.seq (.ops [⟨some 3, none, .asg (.c (.int .i64 0))⟩] [0, 3])
  (.seq (.seq (.ops [⟨some 6, none, .mv (.r 0)⟩,
      ⟨some 7, none, .len .sl (.r 6)⟩,
      ⟨some 8, none, .mv (.c (.int .i64 0))⟩] [3, 6, 7, 8])
    (.block 0 (.loop [3, 6, 7, 8] [] c_cmp_Or_int_l0)))
  (.seq (.ops [⟨some 17, none, .mv (.r 3)⟩,
    ⟨some 2, none, .asg (.r 17)⟩] [2])
  .ret)))),
  [.r 2], none⟩
/-- cmp.Compare[int] -/
def c_cmp_Compare_int : VFun := ⟨2,
  (.seq (.ops [⟨some 4, none, .asg (.c (.int .i64 0))⟩] [0, 1])
  (.seq (.ops [⟨some 7, none, .mv (.r 0)⟩,
    ⟨some 8, none, .call false F.cmp_isNaN_int [(.r 7)]⟩,
    ⟨some 5, none, .asg (.r 8)⟩] [0, 1, 5])
  (.seq (.ops [⟨some 9, none, .mv (.r 1)⟩,
    ⟨some 10, none, .call false F.cmp_isNaN_int [(.r 9)]⟩,
    ⟨some 6, none, .asg (.r 10)⟩] [0, 1, 5, 6])
  (.seq (.seq (.ops [⟨some 11, none, .mv (.r 5)⟩] [0, 1, 6, 11])
    (.cond (.r 11) (.seq (.seq (.ops [⟨some 12, none, .mv (.r 6)⟩] [12])
        (.cond (.r 12) (.seq (.ops [⟨some 4, none, .asg (.c (.int .i64 0))⟩] [4])
          .ret) .skip))
      (.seq (.ops [⟨some 4, none, .asg (.c (.int .i64 (-1)))⟩] [4])
      .ret)) .skip))
  (.seq (.seq (.ops [⟨some 13, none, .mv (.r 6)⟩] [0, 1, 13])
    (.cond (.r 13) (.seq (.ops [⟨some 4, none, .asg (.c (.int .i64 1))⟩] [4])
      .ret) .skip))
  (.seq (.seq (.ops [⟨some 14, none, .mv (.r 0)⟩,
      ⟨some 15, none, .mv (.r 1)⟩,
      ⟨some 16, none, .bin .lss .no (.r 14) (.r 15)⟩] [0, 1, 16])
    (.cond (.r 16) (.seq (.ops [⟨some 4, none, .asg (.c (.int .i64 (-1)))⟩] [4])
      .ret) .skip))
  (.seq (.seq (.ops [⟨some 17, none, .mv (.r 0)⟩,
      ⟨some 18, none, .mv (.r 1)⟩,
      ⟨some 19, none, .bin .gtr .no (.r 17) (.r 18)⟩] [19])
    (.cond (.r 19) (.seq (.ops [⟨some 4, none, .asg (.c (.int .i64 1))⟩] [4])
      .ret) .skip))
  (.seq (.ops [⟨some 4, none, .asg (.c (.int .i64 0))⟩] [4])
  .ret)))))))),
  [.r 4], none⟩
/-- cmp.Compare[int64] -/
def c_cmp_Compare_int64 : VFun := ⟨2,
  (.seq (.ops [⟨some 4, none, .asg (.c (.int .i64 0))⟩] [0, 1])
  (.seq (.ops [⟨some 7, none, .mv (.r 0)⟩,
    ⟨some 8, none, .call false F.cmp_isNaN_int64 [(.r 7)]⟩,
    ⟨some 5, none, .asg (.r 8)⟩] [0, 1, 5])
  (.seq (.ops [⟨some 9, none, .mv (.r 1)⟩,
    ⟨some 10, none, .call false F.cmp_isNaN_int64 [(.r 9)]⟩,
    ⟨some 6, none, .asg (.r 10)⟩] [0, 1, 5, 6])
  (.seq (.seq (.ops [⟨some 11, none, .mv (.r 5)⟩] [0, 1, 6, 11])
    (.cond (.r 11) (.seq (.seq (.ops [⟨some 12, none, .mv (.r 6)⟩] [12])
        (.cond (.r 12) (.seq (.ops [⟨some 4, none, .asg (.c (.int .i64 0))⟩] [4])
          .ret) .skip))
      (.seq (.ops [⟨some 4, none, .asg (.c (.int .i64 (-1)))⟩] [4])
      .ret)) .skip))
  (.seq (.seq (.ops [⟨some 13, none, .mv (.r 6)⟩] [0, 1, 13])
    (.cond (.r 13) (.seq (.ops [⟨some 4, none, .asg (.c (.int .i64 1))⟩] [4])
      .ret) .skip))
  (.seq (.seq (.ops [⟨some 14, none, .mv (.r 0)⟩,
      ⟨some 15, none, .mv (.r 1)⟩,
      ⟨some 16, none, .bin .lss .no (.r 14) (.r 15)⟩] [0, 1, 16])
    (.cond (.r 16) (.seq (.ops [⟨some 4, none, .asg (.c (.int .i64 (-1)))⟩] [4])
      .ret) .skip))
  (.seq (.seq (.ops [⟨some 17, none, .mv (.r 0)⟩,
      ⟨some 18, none, .mv (.r 1)⟩,
      ⟨some 19, none, .bin .gtr .no (.r 17) (.r 18)⟩] [19])
    (.cond (.r 19) (.seq (.ops [⟨some 4, none, .asg (.c (.int .i64 1))⟩] [4])
      .ret) .skip))
  (.seq (.ops [⟨some 4, none, .asg (.c (.int .i64 0))⟩] [4])
  .ret)))))))),
  [.r 4], none⟩
/-- cmp.isNaN[int] -/
def c_cmp_isNaN_int : VFun := ⟨1,
  (.seq (.ops [⟨some 2, none, .asg (.c (.bool false))⟩] [0])
  (.seq (.ops [⟨some 3, none, .mv (.r 0)⟩,
    ⟨some 4, none, .mv (.r 0)⟩,
    ⟨some 5, none, .bin .neq .no (.r 3) (.r 4)⟩,
    ⟨some 2, none, .asg (.r 5)⟩] [2])
  .ret)),
  [.r 2], none⟩
/-- cmp.isNaN[int64] -/
def c_cmp_isNaN_int64 : VFun := ⟨1,
  (.seq (.ops [⟨some 2, none, .asg (.c (.bool false))⟩] [0])
  (.seq (.ops [⟨some 3, none, .mv (.r 0)⟩,
    ⟨some 4, none, .mv (.r 0)⟩,
    ⟨some 5, none, .bin .neq .no (.r 3) (.r 4)⟩,
    ⟨some 2, none, .asg (.r 5)⟩] [2])
  .ret)),
  [.r 2], none⟩
def R : Nat → Option Nat := fun _ => none
theorem ok_tattlerlaw22_CoordApart : FunOk Try.prog R F.tattlerlaw22_CoordApart c_tattlerlaw22_CoordApart := funOk_of Try.func6 rfl (by kernel_rfl) (by kernel_rfl) (by kernel_rfl) (by kernel_rfl) (linC_of (by kernel_rfl)) (by kernel_rfl) (of_decide_eq_true (by kernel_rfl)) (by kernel_rfl)
theorem ok_coord_New : FunOk Try.prog R F.coord_New c_coord_New := funOk_of Try.func8 rfl (by kernel_rfl) (by kernel_rfl) (by kernel_rfl) (by kernel_rfl) (linC_of (by kernel_rfl)) (by kernel_rfl) (of_decide_eq_true (by kernel_rfl)) (by kernel_rfl)
theorem ok_coord_Coord_Write : FunOk Try.prog R F.coord_Coord_Write c_coord_Coord_Write := funOk_of Try.func9 rfl (by kernel_rfl) (by kernel_rfl) (by kernel_rfl) (by kernel_rfl) (linC_of (by kernel_rfl)) (by kernel_rfl) (of_decide_eq_true (by kernel_rfl)) (by kernel_rfl)
theorem ok_coord_Coord_Len : FunOk Try.prog R F.coord_Coord_Len c_coord_Coord_Len := funOk_of Try.func10 rfl (by kernel_rfl) (by kernel_rfl) (by kernel_rfl) (by kernel_rfl) (linC_of (by kernel_rfl)) (by kernel_rfl) (of_decide_eq_true (by kernel_rfl)) (by kernel_rfl)
theorem ok_coord_Coord_Ack : FunOk Try.prog R F.coord_Coord_Ack c_coord_Coord_Ack := funOk_of Try.func11 rfl (by kernel_rfl) (by kernel_rfl) (by kernel_rfl) (by kernel_rfl) (linC_of (by kernel_rfl)) (by kernel_rfl) (of_decide_eq_true (by kernel_rfl)) (by kernel_rfl)
theorem ok_coord_Coord_Read : FunOk Try.prog R F.coord_Coord_Read c_coord_Coord_Read := funOk_of Try.func12 rfl (by kernel_rfl) (by kernel_rfl) (by kernel_rfl) (by kernel_rfl) (linC_of (by kernel_rfl)) (by kernel_rfl) (of_decide_eq_true (by kernel_rfl)) (by kernel_rfl)
theorem ok_tattlerlaw22_awake : FunOk Try.prog R F.tattlerlaw22_awake c_tattlerlaw22_awake := funOk_of Try.func13 rfl (by kernel_rfl) (by kernel_rfl) (by kernel_rfl) (by kernel_rfl) (linC_of (by kernel_rfl)) (by kernel_rfl) (of_decide_eq_true (by kernel_rfl)) (by kernel_rfl)
theorem ok_tattlerref5_MayEntry : FunOk Try.prog R F.tattlerref5_MayEntry c_tattlerref5_MayEntry := funOk_of Try.func14 rfl (by kernel_rfl) (by kernel_rfl) (by kernel_rfl) (by kernel_rfl) (linC_of (by kernel_rfl)) (by kernel_rfl) (of_decide_eq_true (by kernel_rfl)) (by kernel_rfl)
theorem ok_tattlerref5_May : FunOk Try.prog R F.tattlerref5_May c_tattlerref5_May := funOk_of Try.func15 rfl (by kernel_rfl) (by kernel_rfl) (by kernel_rfl) (by kernel_rfl) (linC_of (by kernel_rfl)) (by kernel_rfl) (of_decide_eq_true (by kernel_rfl)) (by kernel_rfl)
theorem ok_tattlerref5_Join : FunOk Try.prog R F.tattlerref5_Join c_tattlerref5_Join := funOk_of Try.func16 rfl (by kernel_rfl) (by kernel_rfl) (by kernel_rfl) (by kernel_rfl) (linC_of (by kernel_rfl)) (by kernel_rfl) (of_decide_eq_true (by kernel_rfl)) (by kernel_rfl)
theorem ok_coord_Coord_Got : FunOk Try.prog R F.coord_Coord_Got c_coord_Coord_Got := funOk_of Try.func17 rfl (by kernel_rfl) (by kernel_rfl) (by kernel_rfl) (by kernel_rfl) (linC_of (by kernel_rfl)) (by kernel_rfl) (of_decide_eq_true (by kernel_rfl)) (by kernel_rfl)
theorem ok_coord_Coord_Answers : FunOk Try.prog R F.coord_Coord_Answers c_coord_Coord_Answers := funOk_of Try.func18 rfl (by kernel_rfl) (by kernel_rfl) (by kernel_rfl) (by kernel_rfl) (linC_of (by kernel_rfl)) (by kernel_rfl) (of_decide_eq_true (by kernel_rfl)) (by kernel_rfl)
theorem ok_tattlerref5_Same : FunOk Try.prog R F.tattlerref5_Same c_tattlerref5_Same := funOk_of Try.func19 rfl (by kernel_rfl) (by kernel_rfl) (by kernel_rfl) (by kernel_rfl) (linC_of (by kernel_rfl)) (by kernel_rfl) (of_decide_eq_true (by kernel_rfl)) (by kernel_rfl)
theorem ok_tattlerref14_In : FunOk Try.prog R F.tattlerref14_In c_tattlerref14_In := funOk_of Try.func20 rfl (by kernel_rfl) (by kernel_rfl) (by kernel_rfl) (by kernel_rfl) (linC_of (by kernel_rfl)) (by kernel_rfl) (of_decide_eq_true (by kernel_rfl)) (by kernel_rfl)
theorem ok_tattlerref5_SameInts : FunOk Try.prog R F.tattlerref5_SameInts c_tattlerref5_SameInts := funOk_of Try.func21 rfl (by kernel_rfl) (by kernel_rfl) (by kernel_rfl) (by kernel_rfl) (linC_of (by kernel_rfl)) (by kernel_rfl) (of_decide_eq_true (by kernel_rfl)) (by kernel_rfl)
theorem ok_coord_Coord_begin : FunOk Try.prog R F.coord_Coord_begin c_coord_Coord_begin := funOk_of Try.func24 rfl (by kernel_rfl) (by kernel_rfl) (by kernel_rfl) (by kernel_rfl) (linC_of (by kernel_rfl)) (by kernel_rfl) (of_decide_eq_true (by kernel_rfl)) (by kernel_rfl)
theorem ok_coord_Coord_find : FunOk Try.prog R F.coord_Coord_find c_coord_Coord_find := funOk_of Try.func25 rfl (by kernel_rfl) (by kernel_rfl) (by kernel_rfl) (by kernel_rfl) (linC_of (by kernel_rfl)) (by kernel_rfl) (of_decide_eq_true (by kernel_rfl)) (by kernel_rfl)
theorem ok_quorum_Count_Add : FunOk Try.prog R F.quorum_Count_Add c_quorum_Count_Add := funOk_of Try.func26 rfl (by kernel_rfl) (by kernel_rfl) (by kernel_rfl) (by kernel_rfl) (linC_of (by kernel_rfl)) (by kernel_rfl) (of_decide_eq_true (by kernel_rfl)) (by kernel_rfl)
theorem ok_coord_Coord_end : FunOk Try.prog R F.coord_Coord_end c_coord_Coord_end := funOk_of Try.func27 rfl (by kernel_rfl) (by kernel_rfl) (by kernel_rfl) (by kernel_rfl) (linC_of (by kernel_rfl)) (by kernel_rfl) (of_decide_eq_true (by kernel_rfl)) (by kernel_rfl)
theorem ok_tattlerref5_MayKey : FunOk Try.prog R F.tattlerref5_MayKey c_tattlerref5_MayKey := funOk_of Try.func28 rfl (by kernel_rfl) (by kernel_rfl) (by kernel_rfl) (by kernel_rfl) (linC_of (by kernel_rfl)) (by kernel_rfl) (of_decide_eq_true (by kernel_rfl)) (by kernel_rfl)
theorem ok_tattlerref1_May : FunOk Try.prog R F.tattlerref1_May c_tattlerref1_May := funOk_of Try.func29 rfl (by kernel_rfl) (by kernel_rfl) (by kernel_rfl) (by kernel_rfl) (linC_of (by kernel_rfl)) (by kernel_rfl) (of_decide_eq_true (by kernel_rfl)) (by kernel_rfl)
theorem ok_tattlerref1_Covers : FunOk Try.prog R F.tattlerref1_Covers c_tattlerref1_Covers := funOk_of Try.func30 rfl (by kernel_rfl) (by kernel_rfl) (by kernel_rfl) (by kernel_rfl) (linC_of (by kernel_rfl)) (by kernel_rfl) (of_decide_eq_true (by kernel_rfl)) (by kernel_rfl)
theorem ok_tattlerref1_Less : FunOk Try.prog R F.tattlerref1_Less c_tattlerref1_Less := funOk_of Try.func31 rfl (by kernel_rfl) (by kernel_rfl) (by kernel_rfl) (by kernel_rfl) (linC_of (by kernel_rfl)) (by kernel_rfl) (of_decide_eq_true (by kernel_rfl)) (by kernel_rfl)
theorem ok_tattlerref1_Join : FunOk Try.prog R F.tattlerref1_Join c_tattlerref1_Join := funOk_of Try.func32 rfl (by kernel_rfl) (by kernel_rfl) (by kernel_rfl) (by kernel_rfl) (linC_of (by kernel_rfl)) (by kernel_rfl) (of_decide_eq_true (by kernel_rfl)) (by kernel_rfl)
theorem ok_tattlerref5_find : FunOk Try.prog R F.tattlerref5_find c_tattlerref5_find := funOk_of Try.func33 rfl (by kernel_rfl) (by kernel_rfl) (by kernel_rfl) (by kernel_rfl) (linC_of (by kernel_rfl)) (by kernel_rfl) (of_decide_eq_true (by kernel_rfl)) (by kernel_rfl)
theorem ok_tattlerref5_insert : FunOk Try.prog R F.tattlerref5_insert c_tattlerref5_insert := funOk_of Try.func34 rfl (by kernel_rfl) (by kernel_rfl) (by kernel_rfl) (by kernel_rfl) (linC_of (by kernel_rfl)) (by kernel_rfl) (of_decide_eq_true (by kernel_rfl)) (by kernel_rfl)
theorem ok_tattlerref5_copied : FunOk Try.prog R F.tattlerref5_copied c_tattlerref5_copied := funOk_of Try.func35 rfl (by kernel_rfl) (by kernel_rfl) (by kernel_rfl) (by kernel_rfl) (linC_of (by kernel_rfl)) (by kernel_rfl) (of_decide_eq_true (by kernel_rfl)) (by kernel_rfl)
theorem ok_tattlerref5_first : FunOk Try.prog R F.tattlerref5_first c_tattlerref5_first := funOk_of Try.func36 rfl (by kernel_rfl) (by kernel_rfl) (by kernel_rfl) (by kernel_rfl) (linC_of (by kernel_rfl)) (by kernel_rfl) (of_decide_eq_true (by kernel_rfl)) (by kernel_rfl)
theorem ok_sibs_MayEntry : FunOk Try.prog R F.sibs_MayEntry c_sibs_MayEntry := funOk_of Try.func37 rfl (by kernel_rfl) (by kernel_rfl) (by kernel_rfl) (by kernel_rfl) (linC_of (by kernel_rfl)) (by kernel_rfl) (of_decide_eq_true (by kernel_rfl)) (by kernel_rfl)
theorem ok_quorum_Count_Has : FunOk Try.prog R F.quorum_Count_Has c_quorum_Count_Has := funOk_of Try.func38 rfl (by kernel_rfl) (by kernel_rfl) (by kernel_rfl) (by kernel_rfl) (linC_of (by kernel_rfl)) (by kernel_rfl) (of_decide_eq_true (by kernel_rfl)) (by kernel_rfl)
theorem ok_coord_copied : FunOk Try.prog R F.coord_copied c_coord_copied := funOk_of Try.func39 rfl (by kernel_rfl) (by kernel_rfl) (by kernel_rfl) (by kernel_rfl) (linC_of (by kernel_rfl)) (by kernel_rfl) (of_decide_eq_true (by kernel_rfl)) (by kernel_rfl)
theorem lin_sibs_Join : linC Try.prog c_sibs_Join.body := (And.intro (linC_of (by kernel_rfl)) (And.intro (linC_of (by kernel_rfl)) (And.intro (linC_of (by kernel_rfl)) (And.intro (linC_of (by kernel_rfl)) (And.intro (linC_of (by kernel_rfl)) (And.intro (fun i hi => by simp only [List.mem_cons, List.not_mem_nil, or_false] at hi; rcases hi with rfl | rfl | rfl | rfl <;> first | exact trivial | exact V0.sorted_lin) (linC_of (by kernel_rfl))))))))
theorem ok_sibs_Join : FunOk Try.prog R F.sibs_Join c_sibs_Join := funOk_of Try.func40 rfl (by kernel_rfl) (by kernel_rfl) (by kernel_rfl) (by kernel_rfl) lin_sibs_Join (by kernel_rfl) (of_decide_eq_true (by kernel_rfl)) (by kernel_rfl)
theorem ok_sibs_Same : FunOk Try.prog R F.sibs_Same c_sibs_Same := funOk_of Try.func41 rfl (by kernel_rfl) (by kernel_rfl) (by kernel_rfl) (by kernel_rfl) (linC_of (by kernel_rfl)) (by kernel_rfl) (of_decide_eq_true (by kernel_rfl)) (by kernel_rfl)
theorem ok_quorum_New : FunOk Try.prog R F.quorum_New c_quorum_New := funOk_of Try.func44 rfl (by kernel_rfl) (by kernel_rfl) (by kernel_rfl) (by kernel_rfl) (linC_of (by kernel_rfl)) (by kernel_rfl) (of_decide_eq_true (by kernel_rfl)) (by kernel_rfl)
theorem ok_quorum_Count_Len : FunOk Try.prog R F.quorum_Count_Len c_quorum_Count_Len := funOk_of Try.func45 rfl (by kernel_rfl) (by kernel_rfl) (by kernel_rfl) (by kernel_rfl) (linC_of (by kernel_rfl)) (by kernel_rfl) (of_decide_eq_true (by kernel_rfl)) (by kernel_rfl)
theorem ok_sibs_May : FunOk Try.prog R F.sibs_May c_sibs_May := funOk_of Try.func46 rfl (by kernel_rfl) (by kernel_rfl) (by kernel_rfl) (by kernel_rfl) (linC_of (by kernel_rfl)) (by kernel_rfl) (of_decide_eq_true (by kernel_rfl)) (by kernel_rfl)
theorem ok_sibs_find : FunOk Try.prog R F.sibs_find c_sibs_find := funOk_of Try.func47 rfl (by kernel_rfl) (by kernel_rfl) (by kernel_rfl) (by kernel_rfl) (linC_of (by kernel_rfl)) (by kernel_rfl) (of_decide_eq_true (by kernel_rfl)) (by kernel_rfl)
theorem ok_sibs_own : FunOk Try.prog R F.sibs_own c_sibs_own := funOk_of Try.func48 rfl (by kernel_rfl) (by kernel_rfl) (by kernel_rfl) (by kernel_rfl) (linC_of (by kernel_rfl)) (by kernel_rfl) (of_decide_eq_true (by kernel_rfl)) (by kernel_rfl)
theorem ok_sibs_better : FunOk Try.prog R F.sibs_better c_sibs_better := funOk_of Try.func49 rfl (by kernel_rfl) (by kernel_rfl) (by kernel_rfl) (by kernel_rfl) (linC_of (by kernel_rfl)) (by kernel_rfl) (of_decide_eq_true (by kernel_rfl)) (by kernel_rfl)
theorem ok_vector_Covers : FunOk Try.prog R F.vector_Covers c_vector_Covers := funOk_of Try.func50 rfl (by kernel_rfl) (by kernel_rfl) (by kernel_rfl) (by kernel_rfl) (linC_of (by kernel_rfl)) (by kernel_rfl) (of_decide_eq_true (by kernel_rfl)) (by kernel_rfl)
theorem ok_vector_Join : FunOk Try.prog R F.vector_Join c_vector_Join := funOk_of Try.func52 rfl (by kernel_rfl) (by kernel_rfl) (by kernel_rfl) (by kernel_rfl) (linC_of (by kernel_rfl)) (by kernel_rfl) (of_decide_eq_true (by kernel_rfl)) (by kernel_rfl)
theorem ok_slices_EqualFunc_api_Value_api_Value_api_Value_api_Value : FunOk Try.prog R F.slices_EqualFunc_api_Value_api_Value_api_Value_api_Value c_slices_EqualFunc_api_Value_api_Value_api_Value_api_Value := funOk_of Try.func53 rfl (by kernel_rfl) (by kernel_rfl) (by kernel_rfl) (by kernel_rfl) (linC_of (by kernel_rfl)) (by kernel_rfl) (of_decide_eq_true (by kernel_rfl)) (by kernel_rfl)
theorem ok_sibs_Same_c1 : FunOk Try.prog R F.sibs_Same_c1 c_sibs_Same_c1 := funOk_of Try.func54 rfl (by kernel_rfl) (by kernel_rfl) (by kernel_rfl) (by kernel_rfl) (linC_of (by kernel_rfl)) (by kernel_rfl) (of_decide_eq_true (by kernel_rfl)) (by kernel_rfl)
theorem ok_bytes_Equal : FunOk Try.prog R F.bytes_Equal c_bytes_Equal := funOk_of Try.func55 rfl (by kernel_rfl) (by kernel_rfl) (by kernel_rfl) (by kernel_rfl) (linC_of (by kernel_rfl)) (by kernel_rfl) (of_decide_eq_true (by kernel_rfl)) (by kernel_rfl)
theorem ok_vector_May : FunOk Try.prog R F.vector_May c_vector_May := funOk_of Try.func59 rfl (by kernel_rfl) (by kernel_rfl) (by kernel_rfl) (by kernel_rfl) (linC_of (by kernel_rfl)) (by kernel_rfl) (of_decide_eq_true (by kernel_rfl)) (by kernel_rfl)
theorem ok_sibs_mayValue : FunOk Try.prog R F.sibs_mayValue c_sibs_mayValue := funOk_of Try.func60 rfl (by kernel_rfl) (by kernel_rfl) (by kernel_rfl) (by kernel_rfl) (linC_of (by kernel_rfl)) (by kernel_rfl) (of_decide_eq_true (by kernel_rfl)) (by kernel_rfl)
theorem ok_vector_Less : FunOk Try.prog R F.vector_Less c_vector_Less := funOk_of Try.func61 rfl (by kernel_rfl) (by kernel_rfl) (by kernel_rfl) (by kernel_rfl) (linC_of (by kernel_rfl)) (by kernel_rfl) (of_decide_eq_true (by kernel_rfl)) (by kernel_rfl)
theorem ok_slices_Clone_byte_byte : FunOk Try.prog R F.slices_Clone_byte_byte c_slices_Clone_byte_byte := funOk_of Try.func62 rfl (by kernel_rfl) (by kernel_rfl) (by kernel_rfl) (by kernel_rfl) (linC_of (by kernel_rfl)) (by kernel_rfl) (of_decide_eq_true (by kernel_rfl)) (by kernel_rfl)
theorem ok_bytes_Compare : FunOk Try.prog R F.bytes_Compare c_bytes_Compare := funOk_of Try.func63 rfl (by kernel_rfl) (by kernel_rfl) (by kernel_rfl) (by kernel_rfl) (linC_of (by kernel_rfl)) (by kernel_rfl) (of_decide_eq_true (by kernel_rfl)) (by kernel_rfl)
theorem ok_vector_is : FunOk Try.prog R F.vector_is c_vector_is := funOk_of Try.func64 rfl (by kernel_rfl) (by kernel_rfl) (by kernel_rfl) (by kernel_rfl) (linC_of (by kernel_rfl)) (by kernel_rfl) (of_decide_eq_true (by kernel_rfl)) (by kernel_rfl)
theorem ok_cmp_Or_int : FunOk Try.prog R F.cmp_Or_int c_cmp_Or_int := funOk_of Try.func70 rfl (by kernel_rfl) (by kernel_rfl) (by kernel_rfl) (by kernel_rfl) (linC_of (by kernel_rfl)) (by kernel_rfl) (of_decide_eq_true (by kernel_rfl)) (by kernel_rfl)
theorem ok_cmp_Compare_int : FunOk Try.prog R F.cmp_Compare_int c_cmp_Compare_int := funOk_of Try.func71 rfl (by kernel_rfl) (by kernel_rfl) (by kernel_rfl) (by kernel_rfl) (linC_of (by kernel_rfl)) (by kernel_rfl) (of_decide_eq_true (by kernel_rfl)) (by kernel_rfl)
theorem ok_cmp_Compare_int64 : FunOk Try.prog R F.cmp_Compare_int64 c_cmp_Compare_int64 := funOk_of Try.func72 rfl (by kernel_rfl) (by kernel_rfl) (by kernel_rfl) (by kernel_rfl) (linC_of (by kernel_rfl)) (by kernel_rfl) (of_decide_eq_true (by kernel_rfl)) (by kernel_rfl)
theorem ok_cmp_isNaN_int : FunOk Try.prog R F.cmp_isNaN_int c_cmp_isNaN_int := funOk_of Try.func86 rfl (by kernel_rfl) (by kernel_rfl) (by kernel_rfl) (by kernel_rfl) (linC_of (by kernel_rfl)) (by kernel_rfl) (of_decide_eq_true (by kernel_rfl)) (by kernel_rfl)
theorem ok_cmp_isNaN_int64 : FunOk Try.prog R F.cmp_isNaN_int64 c_cmp_isNaN_int64 := funOk_of Try.func87 rfl (by kernel_rfl) (by kernel_rfl) (by kernel_rfl) (by kernel_rfl) (linC_of (by kernel_rfl)) (by kernel_rfl) (of_decide_eq_true (by kernel_rfl)) (by kernel_rfl)
def tab : List (Nat × VFun) := [(F.tattlerlaw22_CoordApart, c_tattlerlaw22_CoordApart), (F.coord_New, c_coord_New), (F.coord_Coord_Write, c_coord_Coord_Write), (F.coord_Coord_Len, c_coord_Coord_Len), (F.coord_Coord_Ack, c_coord_Coord_Ack), (F.coord_Coord_Read, c_coord_Coord_Read), (F.tattlerlaw22_awake, c_tattlerlaw22_awake), (F.tattlerref5_MayEntry, c_tattlerref5_MayEntry), (F.tattlerref5_May, c_tattlerref5_May), (F.tattlerref5_Join, c_tattlerref5_Join), (F.coord_Coord_Got, c_coord_Coord_Got), (F.coord_Coord_Answers, c_coord_Coord_Answers), (F.tattlerref5_Same, c_tattlerref5_Same), (F.tattlerref14_In, c_tattlerref14_In), (F.tattlerref5_SameInts, c_tattlerref5_SameInts), (F.coord_Coord_begin, c_coord_Coord_begin), (F.coord_Coord_find, c_coord_Coord_find), (F.quorum_Count_Add, c_quorum_Count_Add), (F.coord_Coord_end, c_coord_Coord_end), (F.tattlerref5_MayKey, c_tattlerref5_MayKey), (F.tattlerref1_May, c_tattlerref1_May), (F.tattlerref1_Covers, c_tattlerref1_Covers), (F.tattlerref1_Less, c_tattlerref1_Less), (F.tattlerref1_Join, c_tattlerref1_Join), (F.tattlerref5_find, c_tattlerref5_find), (F.tattlerref5_insert, c_tattlerref5_insert), (F.tattlerref5_copied, c_tattlerref5_copied), (F.tattlerref5_first, c_tattlerref5_first), (F.sibs_MayEntry, c_sibs_MayEntry), (F.quorum_Count_Has, c_quorum_Count_Has), (F.coord_copied, c_coord_copied), (F.sibs_Join, c_sibs_Join), (F.sibs_Same, c_sibs_Same), (F.quorum_New, c_quorum_New), (F.quorum_Count_Len, c_quorum_Count_Len), (F.sibs_May, c_sibs_May), (F.sibs_find, c_sibs_find), (F.sibs_own, c_sibs_own), (F.sibs_better, c_sibs_better), (F.vector_Covers, c_vector_Covers), (F.vector_Join, c_vector_Join), (F.slices_EqualFunc_api_Value_api_Value_api_Value_api_Value, c_slices_EqualFunc_api_Value_api_Value_api_Value_api_Value), (F.sibs_Same_c1, c_sibs_Same_c1), (F.bytes_Equal, c_bytes_Equal), (F.vector_May, c_vector_May), (F.sibs_mayValue, c_sibs_mayValue), (F.vector_Less, c_vector_Less), (F.slices_Clone_byte_byte, c_slices_Clone_byte_byte), (F.bytes_Compare, c_bytes_Compare), (F.vector_is, c_vector_is), (F.cmp_Or_int, c_cmp_Or_int), (F.cmp_Compare_int, c_cmp_Compare_int), (F.cmp_Compare_int64, c_cmp_Compare_int64), (F.cmp_isNaN_int, c_cmp_isNaN_int), (F.cmp_isNaN_int64, c_cmp_isNaN_int64)]
theorem prim_bytealg_Compare : PrimOk Try.prog R F.bytealg_Compare compareP := compare_ok (fn := Try.f73) Try.func73 (by kernel_rfl) (by kernel_rfl) (by kernel_rfl) (by kernel_rfl) rfl
def prims : List (Nat × Prim) := [(F.bytealg_Compare, compareP)]
abbrev E : Env := ⟨tabFn tab, primFn prims⟩
theorem envOk : EnvOk Try.prog R E := env_prims Try.checked.mixed ⟨prim_bytealg_Compare, trivial⟩ ⟨ok_tattlerlaw22_CoordApart, ok_coord_New, ok_coord_Coord_Write, ok_coord_Coord_Len, ok_coord_Coord_Ack, ok_coord_Coord_Read, ok_tattlerlaw22_awake, ok_tattlerref5_MayEntry, ok_tattlerref5_May, ok_tattlerref5_Join, ok_coord_Coord_Got, ok_coord_Coord_Answers, ok_tattlerref5_Same, ok_tattlerref14_In, ok_tattlerref5_SameInts, ok_coord_Coord_begin, ok_coord_Coord_find, ok_quorum_Count_Add, ok_coord_Coord_end, ok_tattlerref5_MayKey, ok_tattlerref1_May, ok_tattlerref1_Covers, ok_tattlerref1_Less, ok_tattlerref1_Join, ok_tattlerref5_find, ok_tattlerref5_insert, ok_tattlerref5_copied, ok_tattlerref5_first, ok_sibs_MayEntry, ok_quorum_Count_Has, ok_coord_copied, ok_sibs_Join, ok_sibs_Same, ok_quorum_New, ok_quorum_Count_Len, ok_sibs_May, ok_sibs_find, ok_sibs_own, ok_sibs_better, ok_vector_Covers, ok_vector_Join, ok_slices_EqualFunc_api_Value_api_Value_api_Value_api_Value, ok_sibs_Same_c1, ok_bytes_Equal, ok_vector_May, ok_sibs_mayValue, ok_vector_Less, ok_slices_Clone_byte_byte, ok_bytes_Compare, ok_vector_is, ok_cmp_Or_int, ok_cmp_Compare_int, ok_cmp_Compare_int64, ok_cmp_isNaN_int, ok_cmp_isNaN_int64, trivial⟩
theorem fn_tattlerlaw22_CoordApart : E.fn F.tattlerlaw22_CoordApart = some c_tattlerlaw22_CoordApart := rfl
theorem fn_coord_New : E.fn F.coord_New = some c_coord_New := rfl
theorem fn_coord_Coord_Write : E.fn F.coord_Coord_Write = some c_coord_Coord_Write := rfl
theorem fn_coord_Coord_Len : E.fn F.coord_Coord_Len = some c_coord_Coord_Len := rfl
theorem fn_coord_Coord_Ack : E.fn F.coord_Coord_Ack = some c_coord_Coord_Ack := rfl
theorem fn_coord_Coord_Read : E.fn F.coord_Coord_Read = some c_coord_Coord_Read := rfl
theorem fn_tattlerlaw22_awake : E.fn F.tattlerlaw22_awake = some c_tattlerlaw22_awake := rfl
theorem fn_tattlerref5_May : E.fn F.tattlerref5_May = some c_tattlerref5_May := rfl
theorem fn_coord_Coord_Got : E.fn F.coord_Coord_Got = some c_coord_Coord_Got := rfl
theorem fn_coord_Coord_Answers : E.fn F.coord_Coord_Answers = some c_coord_Coord_Answers := rfl
theorem fn_tattlerref5_Same : E.fn F.tattlerref5_Same = some c_tattlerref5_Same := rfl
theorem fn_tattlerref5_SameInts : E.fn F.tattlerref5_SameInts = some c_tattlerref5_SameInts := rfl
theorem fn_coord_Coord_begin : E.fn F.coord_Coord_begin = some c_coord_Coord_begin := rfl
theorem fn_coord_Coord_find : E.fn F.coord_Coord_find = some c_coord_Coord_find := rfl
theorem fn_quorum_Count_Add : E.fn F.quorum_Count_Add = some c_quorum_Count_Add := rfl
theorem fn_coord_Coord_end : E.fn F.coord_Coord_end = some c_coord_Coord_end := rfl
theorem fn_tattlerref1_May : E.fn F.tattlerref1_May = some c_tattlerref1_May := rfl
theorem fn_tattlerref1_Covers : E.fn F.tattlerref1_Covers = some c_tattlerref1_Covers := rfl
theorem fn_tattlerref1_Less : E.fn F.tattlerref1_Less = some c_tattlerref1_Less := rfl
theorem fn_sibs_MayEntry : E.fn F.sibs_MayEntry = some c_sibs_MayEntry := rfl
theorem fn_quorum_Count_Has : E.fn F.quorum_Count_Has = some c_quorum_Count_Has := rfl
theorem fn_coord_copied : E.fn F.coord_copied = some c_coord_copied := rfl
theorem fn_sibs_Join : E.fn F.sibs_Join = some c_sibs_Join := rfl
theorem fn_sibs_Same : E.fn F.sibs_Same = some c_sibs_Same := rfl
theorem fn_quorum_New : E.fn F.quorum_New = some c_quorum_New := rfl
theorem fn_quorum_Count_Len : E.fn F.quorum_Count_Len = some c_quorum_Count_Len := rfl
theorem fn_sibs_May : E.fn F.sibs_May = some c_sibs_May := rfl
theorem fn_sibs_find : E.fn F.sibs_find = some c_sibs_find := rfl
theorem fn_sibs_own : E.fn F.sibs_own = some c_sibs_own := rfl
theorem fn_sibs_better : E.fn F.sibs_better = some c_sibs_better := rfl
theorem fn_vector_Covers : E.fn F.vector_Covers = some c_vector_Covers := rfl
theorem fn_vector_Join : E.fn F.vector_Join = some c_vector_Join := rfl
theorem fn_slices_EqualFunc_api_Value_api_Value_api_Value_api_Value : E.fn F.slices_EqualFunc_api_Value_api_Value_api_Value_api_Value = some c_slices_EqualFunc_api_Value_api_Value_api_Value_api_Value := rfl
theorem fn_sibs_Same_c1 : E.fn F.sibs_Same_c1 = some c_sibs_Same_c1 := rfl
theorem fn_bytes_Equal : E.fn F.bytes_Equal = some c_bytes_Equal := rfl
theorem fn_vector_May : E.fn F.vector_May = some c_vector_May := rfl
theorem fn_sibs_mayValue : E.fn F.sibs_mayValue = some c_sibs_mayValue := rfl
theorem fn_vector_Less : E.fn F.vector_Less = some c_vector_Less := rfl
theorem fn_slices_Clone_byte_byte : E.fn F.slices_Clone_byte_byte = some c_slices_Clone_byte_byte := rfl
theorem fn_bytes_Compare : E.fn F.bytes_Compare = some c_bytes_Compare := rfl
theorem fn_vector_is : E.fn F.vector_is = some c_vector_is := rfl
theorem fn_cmp_Or_int : E.fn F.cmp_Or_int = some c_cmp_Or_int := rfl
theorem fn_cmp_Compare_int : E.fn F.cmp_Compare_int = some c_cmp_Compare_int := rfl
theorem fn_cmp_Compare_int64 : E.fn F.cmp_Compare_int64 = some c_cmp_Compare_int64 := rfl
theorem fn_cmp_isNaN_int : E.fn F.cmp_isNaN_int = some c_cmp_isNaN_int := rfl
theorem fn_cmp_isNaN_int64 : E.fn F.cmp_isNaN_int64 = some c_cmp_isNaN_int64 := rfl
end Go.Proofs.Ytklmddbnjookiaa.V

