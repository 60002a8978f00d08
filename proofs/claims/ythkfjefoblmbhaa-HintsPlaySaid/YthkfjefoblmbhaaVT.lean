/- The functions' code as the V-machine has it; the kernel sees that it is theirs. -/
import Derived.Test.YthkfjefoblmbhaaVmG5
import Derived.Test.YthkfjefoblmbhaaChecked
import Derived.KernelRfl
import Derived.Test.YthkfjefoblmbhaaVmSL
import Derived.Test.YthkfjefoblmbhaaVmSN
namespace Go.Proofs.Ythkfjefoblmbhaa.V
open Go.Vm
set_option maxRecDepth 100000
set_option linter.unusedVariables false
set_option linter.unusedSimpArgs false
def F.bytealg_Compare : Nat := 74
def F.bytes_Compare : Nat := 68
def F.bytes_Equal : Nat := 50
def F.cmp_Compare_int : Nat := 40
def F.cmp_Compare_int64 : Nat := 73
def F.cmp_Compare_string : Nat := 41
def F.cmp_Or_int : Nat := 39
def F.cmp_isNaN_int : Nat := 65
def F.cmp_isNaN_int64 : Nat := 78
def F.cmp_isNaN_string : Nat := 66
def F.hints_New : Nat := 9
def F.hints_Set_All : Nat := 14
def F.hints_Set_Drop : Nat := 15
def F.hints_Set_First : Nat := 23
def F.hints_Set_For : Nat := 20
def F.hints_Set_Len : Nat := 11
def F.hints_Set_Put : Nat := 10
def F.hints_Set_find : Nat := 25
def F.hints_Set_find_c1 : Nat := 38
def F.hints_copied : Nat := 29
def F.sibs_Join : Nat := 26
def F.sibs_Leq : Nat := 18
def F.sibs_May : Nat := 34
def F.sibs_MayEntry : Nat := 24
def F.sibs_Same : Nat := 27
def F.sibs_Same_c1 : Nat := 49
def F.sibs_better : Nat := 44
def F.sibs_find : Nat := 42
def F.sibs_mayValue : Nat := 62
def F.sibs_own : Nat := 43
def F.sibs_sorted : Nat := 46
def F.slices_BinarySearchFunc_api_Hint_api_Hint_api_Hint : Nat := 37
def F.slices_Clone_byte_byte : Nat := 67
def F.slices_Delete_api_Hint_api_Hint : Nat := 30
def F.slices_EqualFunc_api_Value_api_Value_api_Value_api_Value : Nat := 48
def F.slices_Insert_api_Hint_api_Hint : Nat := 28
def F.tattlerlaw11_HintsPlay : Nat := 7
def F.tattlerlaw11_awake : Nat := 12
def F.tattlerlaw11_light : Nat := 13
def F.tattlerref1_Covers : Nat := 54
def F.tattlerref1_Join : Nat := 56
def F.tattlerref1_Less : Nat := 55
def F.tattlerref1_May : Nat := 53
def F.tattlerref5_Hints_Drop : Nat := 22
def F.tattlerref5_Hints_Put : Nat := 21
def F.tattlerref5_Hints_at : Nat := 36
def F.tattlerref5_Join : Nat := 33
def F.tattlerref5_Leq : Nat := 16
def F.tattlerref5_May : Nat := 31
def F.tattlerref5_MayEntry : Nat := 35
def F.tattlerref5_MayKey : Nat := 64
def F.tattlerref5_Same : Nat := 32
def F.tattlerref5_SameEntries : Nat := 19
def F.tattlerref5_SameHints : Nat := 17
def F.tattlerref5_copied : Nat := 59
def F.tattlerref5_find : Nat := 57
def F.tattlerref5_first : Nat := 60
def F.tattlerref5_insert : Nat := 58
def F.vector_Covers : Nat := 45
def F.vector_Join : Nat := 47
def F.vector_Less : Nat := 63
def F.vector_May : Nat := 61
def F.vector_is : Nat := 69
def c_tattlerlaw11_HintsPlay_l0 : VCode := (.seq (.ops [⟨some 30, none, .bin .lss .no (.r 29) (.r 28)⟩] [1, 5, 6, 27, 28, 29, 30])
  (.seq (.cond (.r 30) .skip (.exit 0))
  (.seq (.block 1 (.seq (.ops [⟨some 31, none, .iaddr none 21 (.r 27) (.r 29)⟩,
        ⟨some 32, none, .load true 21 (.r 31)⟩,
        ⟨some 8, none, .alloc [(.int .i64 0), (.int .i64 0), (.str []), (.int .i64 0), (.int .i64 0), (.int .i64 0), (.int .i64 0), (.int .i64 0), (.int .i64 0), (.int .i64 0), (.int .i64 0), (.sl []), (.int .i64 0), (.int .i64 0), (.int .i64 0), (.int .i64 0), (.int .i64 0), (.int .i64 0), (.int .i64 0), (.int .i64 0), (.sl [])] []⟩,
        ⟨none, none, .store 21 (.r 8) (.r 32) [] none⟩] [1, 5, 6, 8, 27, 28, 29])
      (.seq (.ops [⟨some 33, none, .faddr 0 (.r 8)⟩,
        ⟨some 34, none, .load false 1 (.r 33)⟩,
        ⟨some 35, none, .bin .eql .no (.r 34) (.c (.int .i64 0))⟩] [1, 5, 6, 8, 27, 28, 29, 35])
      (.cond (.r 35) (.seq (.ops [⟨some 37, none, .mv (.r 5)⟩,
          ⟨some 38, none, .faddr 1 (.r 8)⟩,
          ⟨some 39, none, .load true 11 (.r 38)⟩,
          ⟨some 40, none, .call false F.hints_Set_Put [(.r 37), (.r 39)]⟩,
          ⟨some 36, none, .mv (.r 40)⟩,
          ⟨some 41, none, .extract 0 (.r 36)⟩,
          ⟨some 42, none, .extract 1 (.r 36)⟩,
          ⟨some 9, none, .asg (.r 41)⟩,
          ⟨some 10, none, .asg (.r 42)⟩] [1, 5, 6, 8, 9, 10, 27, 28, 29])
        (.seq (.ops [⟨some 44, none, .mv (.r 6)⟩,
          ⟨some 45, none, .faddr 1 (.r 8)⟩,
          ⟨some 46, none, .load true 11 (.r 45)⟩,
          ⟨some 47, none, .call false F.tattlerref5_Hints_Put [(.r 44), (.r 46)]⟩,
          ⟨some 43, none, .mv (.r 47)⟩,
          ⟨some 48, none, .extract 0 (.r 43)⟩,
          ⟨some 49, none, .extract 1 (.r 43)⟩,
          ⟨some 11, none, .asg (.r 48)⟩,
          ⟨some 12, none, .asg (.r 49)⟩] [1, 5, 6, 9, 10, 11, 12, 27, 28, 29])
        (.seq (.ops [⟨some 50, none, .mv (.r 9)⟩,
          ⟨some 51, none, .mv (.r 11)⟩,
          ⟨some 52, none, .bin .neq .bool (.r 50) (.r 51)⟩,
          ⟨some 53, none, .mv (.r 52)⟩,
          ⟨some 54, some (53, false), .mv (.r 10)⟩,
          ⟨some 55, some (53, false), .mv (.r 12)⟩,
          ⟨some 56, some (53, false), .bin .neq .no (.r 54) (.r 55)⟩,
          ⟨some 57, none, .pick (.r 53) (.c (.bool true)) (.r 56)⟩] [1, 5, 6, 27, 28, 29, 57])
        (.cond (.r 57) (.seq (.ops [⟨some 4, none, .asg (.c (.bool false))⟩] [4])
          .ret) .skip)))) (.seq (.xops 21 10 [14, 18, 20] [⟨some 58, none, .mv (.r 5)⟩,
          ⟨some 59, none, .faddr 1 (.r 8)⟩,
          ⟨some 60, none, .faddr 0 (.r 59)⟩,
          ⟨some 61, none, .load false 1 (.r 60)⟩,
          ⟨some 62, none, .faddr 1 (.r 8)⟩,
          ⟨some 63, none, .faddr 1 (.r 62)⟩,
          ⟨some 64, none, .faddr 0 (.r 63)⟩,
          ⟨some 65, none, .load false 1 (.r 64)⟩,
          ⟨some 66, none, .faddr 12 (.r 8)⟩,
          ⟨some 67, none, .load true 9 (.r 66)⟩,
          ⟨some 68, none, .call false F.hints_Set_Drop [(.r 58), (.r 61), (.r 65), (.r 67)]⟩,
          ⟨some 69, none, .mv (.r 6)⟩,
          ⟨some 70, none, .faddr 1 (.r 8)⟩,
          ⟨some 71, none, .faddr 0 (.r 70)⟩,
          ⟨some 72, none, .load false 1 (.r 71)⟩,
          ⟨some 73, none, .faddr 1 (.r 8)⟩,
          ⟨some 74, none, .faddr 1 (.r 73)⟩,
          ⟨some 75, none, .faddr 0 (.r 74)⟩,
          ⟨some 76, none, .load false 1 (.r 75)⟩,
          ⟨some 77, none, .faddr 12 (.r 8)⟩,
          ⟨some 78, none, .load true 9 (.r 77)⟩,
          ⟨some 79, none, .call false F.tattlerref5_Hints_Drop [(.r 69), (.r 72), (.r 76), (.r 78)]⟩,
          ⟨some 80, none, .bin .neq .bool (.r 68) (.r 79)⟩] [1, 5, 6, 27, 28, 29, 80])
        (.cond (.r 80) (.seq (.ops [⟨some 4, none, .asg (.c (.bool false))⟩] [4])
          .ret) .skip))))))
  (.ops [⟨some 81, none, .bin .add .no (.r 29) (.c (.int .i64 1))⟩,
  ⟨some 29, none, .mv (.r 81)⟩] [1, 5, 6, 27, 28, 29]))))
def c_tattlerlaw11_HintsPlay_l1 : VCode := (.seq (.ops [⟨some 88, none, .bin .lss .no (.r 87) (.r 86)⟩] [1, 5, 6, 13, 85, 86, 87, 88])
  (.seq (.cond (.r 88) .skip (.exit 2))
  (.seq (.block 3 (.seq (.ops [⟨some 89, none, .iaddr none 11 (.r 85) (.r 87)⟩,
        ⟨some 90, none, .load true 11 (.r 89)⟩,
        ⟨some 15, none, .alloc [(.int .i64 0), (.str []), (.int .i64 0), (.int .i64 0), (.int .i64 0), (.int .i64 0), (.int .i64 0), (.int .i64 0), (.int .i64 0), (.int .i64 0), (.sl [])] []⟩,
        ⟨none, none, .store 11 (.r 15) (.r 90) [] none⟩] [1, 5, 6, 13, 15, 85, 86, 87])
      (.seq (.ops [⟨some 91, none, .faddr 0 (.r 15)⟩,
        ⟨some 92, none, .load false 1 (.r 91)⟩,
        ⟨some 93, none, .mv (.r 1)⟩,
        ⟨some 94, none, .bin .eql .no (.r 92) (.r 93)⟩] [1, 5, 6, 13, 15, 85, 86, 87, 94])
      (.cond (.r 94) (.ops [⟨some 95, none, .mv (.r 13)⟩,
        ⟨some 96, none, .faddr 1 (.r 15)⟩,
        ⟨some 97, none, .load true 10 (.r 96)⟩,
        ⟨some 98, none, .bslice (.agg [(.str []), (.int .i64 0), (.int .i64 0), (.int .i64 0), (.int .i64 0), (.int .i64 0), (.int .i64 0), (.int .i64 0), (.int .i64 0), (.sl [])]) 10 1 [(0, (.r 97))]⟩,
        ⟨some 99, none, .app (.reg 13) 10 104 (.r 95) (.r 98)⟩,
        ⟨some 13, none, .asg (.r 99)⟩] [1, 5, 6, 13, 85, 86, 87]) .skip))))
  (.ops [⟨some 100, none, .bin .add .no (.r 87) (.c (.int .i64 1))⟩,
  ⟨some 87, none, .mv (.r 100)⟩] [1, 5, 6, 13, 85, 86, 87]))))
def c_tattlerlaw11_HintsPlay : VFun := ⟨2,
  (.seq (.ops [⟨some 4, none, .asg (.c (.bool false))⟩] [0, 1])
  (.seq (.seq (.ops [⟨some 18, none, .mv (.r 0)⟩,
      ⟨some 19, none, .call false F.tattlerlaw11_light [(.r 18)]⟩,
      ⟨some 20, none, .un .not (.r 19)⟩] [0, 1, 20])
    (.cond (.r 20) (.seq (.ops [⟨some 21, none, .call false F.tattlerlaw11_awake []⟩,
        ⟨some 4, none, .asg (.r 21)⟩] [4])
      .ret) .skip))
  (.seq (.ops [⟨some 22, none, .call false F.hints_New []⟩,
    ⟨some 23, none, .build [(.sl [])] []⟩,
    ⟨some 24, none, .box 1 (.r 23)⟩,
    ⟨some 5, none, .asg (.r 22)⟩,
    ⟨some 6, none, .asg (.r 24)⟩] [0, 1, 5, 6])
  (.seq (.seq (.ops [⟨some 25, none, .mv (.r 5)⟩,
      ⟨some 26, none, .bin .eql .ptr (.r 25) (.c (.ptr none))⟩] [0, 1, 5, 6, 26])
    (.cond (.r 26) (.seq (.ops [⟨some 4, none, .asg (.c (.bool false))⟩] [4])
      .ret) .skip))
  (.seq (.seq (.ops [⟨some 27, none, .mv (.r 0)⟩,
      ⟨some 28, none, .len .sl (.r 27)⟩,
      ⟨some 29, none, .mv (.c (.int .i64 0))⟩] [1, 5, 6, 27, 28, 29])
    (.block 0 (.loop [1, 5, 6, 27, 28, 29] [] c_tattlerlaw11_HintsPlay_l0)))
  (.seq (.ops [⟨some 13, none, .asg (.c (.sl []))⟩] [1, 5, 6, 13])
  (.seq (.seq (.ops [⟨some 82, none, .mv (.r 6)⟩,
      ⟨some 83, none, .nilck (.r 82)⟩,
      ⟨some 84, none, .faddr 0 (.r 83)⟩,
      ⟨some 85, none, .load false 1 (.r 84)⟩,
      ⟨some 86, none, .len .sl (.r 85)⟩,
      ⟨some 87, none, .mv (.c (.int .i64 0))⟩] [1, 5, 6, 13, 85, 86, 87])
    (.block 2 (.loop [1, 5, 6, 13, 85, 86, 87] [(13, 0, 10)] c_tattlerlaw11_HintsPlay_l1)))
  (.seq (.ops [⟨some 102, none, .mv (.r 5)⟩,
    ⟨some 103, none, .call false F.hints_Set_First [(.r 102)]⟩,
    ⟨some 101, none, .mv (.r 103)⟩,
    ⟨some 104, none, .extract 0 (.r 101)⟩,
    ⟨some 105, none, .extract 1 (.r 101)⟩,
    ⟨some 16, none, .alloc [(.int .i64 0), (.str []), (.int .i64 0), (.int .i64 0), (.int .i64 0), (.int .i64 0), (.int .i64 0), (.int .i64 0), (.int .i64 0), (.int .i64 0), (.sl [])] []⟩,
    ⟨none, none, .store 11 (.r 16) (.r 104) [] none⟩,
    ⟨some 17, none, .asg (.r 105)⟩] [1, 5, 6, 13, 16, 17])
  (.seq (.seq (.dops 18 [⟨some 106, none, .mv (.r 17)⟩,
      ⟨some 107, none, .mv (.r 6)⟩,
      ⟨some 108, none, .nilck (.r 107)⟩,
      ⟨some 109, none, .faddr 0 (.r 108)⟩,
      ⟨some 110, none, .load false 1 (.r 109)⟩,
      ⟨some 111, none, .len .sl (.r 110)⟩,
      ⟨some 112, none, .bin .gtr .no (.r 111) (.c (.int .i64 0))⟩,
      ⟨some 113, none, .bin .neq .bool (.r 106) (.r 112)⟩,
      ⟨some 114, none, .mv (.r 113)⟩,
      ⟨some 115, some (114, false), .mv (.r 17)⟩,
      ⟨some 116, some (114, false), .mv (.r 115)⟩,
      ⟨some 117, some (116, true), .load true 11 (.r 16)⟩,
      ⟨some 118, some (116, true), .bslice (.agg [(.int .i64 0), (.str []), (.int .i64 0), (.int .i64 0), (.int .i64 0), (.int .i64 0), (.int .i64 0), (.int .i64 0), (.int .i64 0), (.int .i64 0), (.sl [])]) 11 1 [(0, (.r 117))]⟩,
      ⟨some 119, some (116, true), .mv (.r 6)⟩,
      ⟨some 120, some (116, true), .nilck (.r 119)⟩,
      ⟨some 121, some (116, true), .faddr 0 (.r 120)⟩,
      ⟨some 122, some (116, true), .load false 1 (.r 121)⟩,
      ⟨some 123, some (116, true), .slice false 11 (.r 122) none (some (.c (.int .i64 1))) none⟩,
      ⟨some 124, some (116, true), .call false F.tattlerref5_SameHints [(.r 118), (.r 123)]⟩,
      ⟨some 125, some (116, true), .un .not (.r 124)⟩,
      ⟨some 126, some (114, false), .pick (.r 116) (.r 125) (.c (.bool false))⟩,
      ⟨some 127, none, .pick (.r 114) (.c (.bool true)) (.r 126)⟩] [1, 5, 6, 13, 127])
    (.cond (.r 127) (.seq (.ops [⟨some 4, none, .asg (.c (.bool false))⟩] [4])
      .ret) .skip))
  (.seq (.dops 22 [⟨some 128, none, .mv (.r 5)⟩,
    ⟨some 129, none, .call true F.hints_Set_All [(.r 128)]⟩,
    ⟨some 130, none, .mv (.r 6)⟩,
    ⟨some 131, none, .nilck (.r 130)⟩,
    ⟨some 132, none, .faddr 0 (.r 131)⟩,
    ⟨some 133, none, .load false 1 (.r 132)⟩,
    ⟨some 134, none, .call true F.tattlerref5_SameHints [(.r 129), (.r 133)]⟩,
    ⟨some 135, none, .mv (.r 134)⟩,
    ⟨some 136, some (135, true), .mv (.r 5)⟩,
    ⟨some 137, some (135, true), .call true F.hints_Set_Len [(.r 136)]⟩,
    ⟨some 138, some (135, true), .mv (.r 6)⟩,
    ⟨some 139, some (135, true), .nilck (.r 138)⟩,
    ⟨some 140, some (135, true), .faddr 0 (.r 139)⟩,
    ⟨some 141, some (135, true), .load false 1 (.r 140)⟩,
    ⟨some 142, some (135, true), .len .sl (.r 141)⟩,
    ⟨some 143, some (135, true), .bin .eql .no (.r 137) (.r 142)⟩,
    ⟨some 144, none, .pick (.r 135) (.r 143) (.c (.bool false))⟩,
    ⟨some 145, none, .mv (.r 144)⟩,
    ⟨some 146, some (145, true), .mv (.r 5)⟩,
    ⟨some 147, some (145, true), .mv (.r 1)⟩,
    ⟨some 148, some (145, true), .call true F.hints_Set_For [(.r 146), (.r 147)]⟩,
    ⟨some 149, some (145, true), .mv (.r 13)⟩,
    ⟨some 150, some (145, true), .call false F.tattlerref5_SameEntries [(.r 148), (.r 149)]⟩,
    ⟨some 151, none, .pick (.r 145) (.r 150) (.c (.bool false))⟩,
    ⟨some 152, none, .mv (.r 151)⟩,
    ⟨some 153, some (152, true), .call false F.tattlerlaw11_awake []⟩,
    ⟨some 154, none, .pick (.r 152) (.r 153) (.c (.bool false))⟩,
    ⟨some 4, none, .asg (.r 154)⟩] [4])
  .ret)))))))))),
  [.r 4], none⟩
def c_hints_New : VFun := ⟨0,
  (.seq (.ops [⟨some 0, none, .asg (.c (.ptr none))⟩] [])
  (.seq (.ops [⟨some 1, none, .bld [.nsl] [] []⟩,
    ⟨some 2, none, .box 1 (.r 1)⟩,
    ⟨none, none, .setc 2 0 11 true⟩,
    ⟨some 0, none, .asg (.r 2)⟩] [0])
  .ret)),
  [.r 0], none⟩
def c_hints_Set_Put : VFun := ⟨2,
  (.seq (.ops [⟨some 3, none, .box 11 (.r 1)⟩,
    ⟨some 4, none, .asg (.c (.bool false))⟩,
    ⟨some 5, none, .asg (.c (.int .i64 0))⟩] [0, 3])
  (.seq (.seq (.ops [⟨some 9, none, .mv (.r 0)⟩,
      ⟨some 10, none, .bin .eql .ptr (.r 9) (.c (.ptr none))⟩,
      ⟨some 11, none, .mv (.r 10)⟩,
      ⟨some 12, some (11, false), .faddr 0 (.r 3)⟩,
      ⟨some 13, some (11, false), .load false 1 (.r 12)⟩,
      ⟨some 14, some (11, false), .bin .lss .no (.r 13) (.c (.int .i64 0))⟩,
      ⟨some 15, none, .pick (.r 11) (.c (.bool true)) (.r 14)⟩,
      ⟨some 16, none, .mv (.r 15)⟩,
      ⟨some 17, some (16, false), .faddr 0 (.r 3)⟩,
      ⟨some 18, some (16, false), .load false 1 (.r 17)⟩,
      ⟨some 19, some (16, false), .bin .geq .no (.r 18) (.c (.int .i64 8))⟩,
      ⟨some 20, none, .pick (.r 16) (.c (.bool true)) (.r 19)⟩,
      ⟨some 21, none, .mv (.r 20)⟩,
      ⟨some 22, some (21, false), .faddr 1 (.r 3)⟩,
      ⟨some 23, some (21, false), .load true 10 (.r 22)⟩,
      ⟨some 24, some (21, false), .call false F.sibs_MayEntry [(.r 23)]⟩,
      ⟨some 25, some (21, false), .un .not (.r 24)⟩,
      ⟨some 26, none, .pick (.r 21) (.c (.bool true)) (.r 25)⟩] [0, 3, 26])
    (.cond (.r 26) (.seq (.ops [⟨some 4, none, .asg (.c (.bool false))⟩,
        ⟨some 5, none, .asg (.c (.int .i64 1))⟩] [0, 4, 5])
      .ret) .skip))
  (.seq (.ops [⟨some 28, none, .mv (.r 0)⟩,
    ⟨some 29, none, .faddr 0 (.r 3)⟩,
    ⟨some 30, none, .load false 1 (.r 29)⟩,
    ⟨some 31, none, .faddr 1 (.r 3)⟩,
    ⟨some 32, none, .faddr 0 (.r 31)⟩,
    ⟨some 33, none, .load false 1 (.r 32)⟩,
    ⟨some 34, none, .call false F.hints_Set_find [(.r 28), (.r 30), (.r 33)]⟩,
    ⟨some 27, none, .mv (.r 34)⟩,
    ⟨some 35, none, .extract 0 (.r 27)⟩,
    ⟨some 36, none, .extract 1 (.r 27)⟩,
    ⟨some 6, none, .asg (.r 35)⟩,
    ⟨some 7, none, .asg (.r 36)⟩] [0, 3, 6, 7])
  (.seq (.seq (.ops [⟨some 37, none, .mv (.r 7)⟩] [0, 3, 6, 37])
    (.cond (.r 37) (.seq (.ops [⟨none, none, .thwc 0 0 11⟩,
        ⟨some 38, none, .mv (.r 0)⟩,
        ⟨some 39, none, .nilck (.r 38)⟩,
        ⟨some 40, none, .faddr 0 (.r 39)⟩,
        ⟨some 41, none, .load false 1 (.r 40)⟩,
        ⟨some 42, none, .mv (.r 6)⟩,
        ⟨some 43, none, .iaddr none 11 (.r 41) (.r 42)⟩,
        ⟨some 44, none, .faddr 1 (.r 43)⟩,
        ⟨some 45, none, .faddr 1 (.r 44)⟩,
        ⟨some 46, none, .load true 9 (.r 45)⟩,
        ⟨some 8, none, .alloc [(.int .i64 0), (.int .i64 0), (.int .i64 0), (.int .i64 0), (.int .i64 0), (.int .i64 0), (.int .i64 0), (.int .i64 0), (.sl [])] []⟩,
        ⟨none, none, .store 9 (.r 8) (.r 46) [] none⟩] [0, 3, 6, 8])
      (.seq (.dops 10 [⟨some 47, none, .mv (.r 0)⟩,
        ⟨some 48, none, .nilck (.r 47)⟩,
        ⟨some 49, none, .faddr 0 (.r 48)⟩,
        ⟨some 50, none, .load false 1 (.r 49)⟩,
        ⟨some 51, none, .mv (.r 6)⟩,
        ⟨some 52, none, .load true 9 (.r 8)⟩,
        ⟨some 53, none, .faddr 1 (.r 3)⟩,
        ⟨some 54, none, .faddr 1 (.r 53)⟩,
        ⟨some 55, none, .load true 9 (.r 54)⟩,
        ⟨some 56, none, .call true F.sibs_Join [(.r 52), (.r 55)]⟩,
        ⟨some 57, none, .iaddr none 11 (.r 50) (.r 51)⟩,
        ⟨some 58, none, .faddr 1 (.r 57)⟩,
        ⟨some 59, none, .faddr 1 (.r 58)⟩,
        ⟨none, none, .store 9 (.r 59) (.r 56) [] none⟩] [0, 6, 8])
      (.seq (.dops 10 [⟨some 60, none, .load true 9 (.r 8)⟩,
        ⟨some 61, none, .mv (.r 0)⟩,
        ⟨some 62, none, .nilck (.r 61)⟩,
        ⟨some 63, none, .faddr 0 (.r 62)⟩,
        ⟨some 64, none, .load false 1 (.r 63)⟩,
        ⟨some 65, none, .mv (.r 6)⟩,
        ⟨some 66, none, .iaddr none 11 (.r 64) (.r 65)⟩,
        ⟨some 67, none, .faddr 1 (.r 66)⟩,
        ⟨some 68, none, .faddr 1 (.r 67)⟩,
        ⟨some 69, none, .load true 9 (.r 68)⟩,
        ⟨some 70, none, .call false F.sibs_Same [(.r 60), (.r 69)]⟩,
        ⟨some 71, none, .un .not (.r 70)⟩,
        ⟨some 4, none, .asg (.r 71)⟩,
        ⟨some 5, none, .asg (.c (.int .i64 0))⟩] [0, 4, 5])
      (.gop [⟨none, none, .setc 0 0 11 true⟩] .ret)))) .skip))
  (.seq (.seq (.ops [⟨none, none, .thwc 0 0 11⟩,
      ⟨some 72, none, .mv (.r 0)⟩,
      ⟨some 73, none, .nilck (.r 72)⟩,
      ⟨some 74, none, .faddr 0 (.r 73)⟩,
      ⟨some 75, none, .load false 1 (.r 74)⟩,
      ⟨some 76, none, .len .sl (.r 75)⟩,
      ⟨some 77, none, .bin .eql .no (.r 76) (.c (.int .i64 64))⟩,
      ⟨none, none, .setc 0 0 11 true⟩] [0, 3, 6, 77])
    (.cond (.r 77) (.seq (.ops [⟨some 4, none, .asg (.c (.bool false))⟩,
        ⟨some 5, none, .asg (.c (.int .i64 11))⟩] [0, 4, 5])
      .ret) .skip))
  (.seq (.gop [⟨none, none, .thwc 0 0 11⟩] (.xops 10 9 [] [⟨some 78, none, .mv (.r 0)⟩,
    ⟨some 79, none, .mv (.r 0)⟩,
    ⟨some 80, none, .nilck (.r 79)⟩,
    ⟨some 81, none, .faddr 0 (.r 80)⟩,
    ⟨some 82, none, .load false 1 (.r 81)⟩,
    ⟨some 83, none, .mv (.r 6)⟩,
    ⟨some 84, none, .load true 11 (.r 3)⟩,
    ⟨some 85, none, .call true F.hints_copied [(.r 84)]⟩,
    ⟨some 86, none, .bslice (.agg [(.int .i64 0), (.str []), (.int .i64 0), (.int .i64 0), (.int .i64 0), (.int .i64 0), (.int .i64 0), (.int .i64 0), (.int .i64 0), (.int .i64 0), (.sl [])]) 11 1 [(0, (.r 85))]⟩,
    ⟨some 87, none, .call false F.slices_Insert_api_Hint_api_Hint [(.r 82), (.r 83), (.r 86)]⟩,
    ⟨some 88, none, .nilck (.r 78)⟩,
    ⟨some 89, none, .faddr 0 (.r 88)⟩,
    ⟨none, none, .store 1 (.r 89) (.r 87) [] none⟩] [0]))
  (.seq (.ops [⟨some 4, none, .asg (.c (.bool true))⟩,
    ⟨some 5, none, .asg (.c (.int .i64 0))⟩] [0, 4, 5])
  (.gop [⟨none, none, .setc 0 0 11 true⟩] .ret)))))))),
  [.r 4, .r 5], none⟩
def c_hints_Set_Len : VFun := ⟨1,
  (.seq (.ops [⟨some 2, none, .asg (.c (.int .i64 0))⟩] [0])
  (.seq (.ops [⟨some 3, none, .mv (.r 0)⟩,
    ⟨some 4, none, .call false F.hints_Set_All [(.r 3)]⟩,
    ⟨some 5, none, .len .sl (.r 4)⟩,
    ⟨some 2, none, .asg (.r 5)⟩] [2])
  .ret)),
  [.r 2], none⟩
def c_tattlerlaw11_awake : VFun := ⟨0,
  (.seq (.ops [⟨some 0, none, .asg (.c (.bool false))⟩] [])
  (.seq (.ops [⟨some 4, none, .call false F.hints_New []⟩,
    ⟨some 1, none, .asg (.r 4)⟩] [1])
  (.seq (.ops [⟨some 6, none, .mv (.r 1)⟩,
    ⟨some 7, none, .build [(.int .i64 0), (.int .i64 0), (.int .i64 0), (.int .i64 0), (.int .i64 0), (.int .i64 0), (.int .i64 0), (.int .i64 0)] [(0, 1, (.c (.int .i64 1)))]⟩,
    ⟨some 8, none, .build [(.int .i64 0), (.int .i64 0), (.int .i64 0), (.int .i64 0), (.int .i64 0), (.int .i64 0), (.int .i64 0), (.int .i64 0), (.sl [])] [(0, 8, (.r 7))]⟩,
    ⟨some 9, none, .build [(.str []), (.int .i64 0), (.int .i64 0), (.int .i64 0), (.int .i64 0), (.int .i64 0), (.int .i64 0), (.int .i64 0), (.int .i64 0), (.sl [])] [(0, 1, (.c (.str [107]))), (1, 9, (.r 8))]⟩,
    ⟨some 10, none, .build [(.int .i64 0), (.str []), (.int .i64 0), (.int .i64 0), (.int .i64 0), (.int .i64 0), (.int .i64 0), (.int .i64 0), (.int .i64 0), (.int .i64 0), (.sl [])] [(0, 1, (.c (.int .i64 1))), (1, 10, (.r 9))]⟩,
    ⟨some 11, none, .call false F.hints_Set_Put [(.r 6), (.r 10)]⟩,
    ⟨some 5, none, .mv (.r 11)⟩,
    ⟨some 12, none, .extract 0 (.r 5)⟩,
    ⟨some 13, none, .extract 1 (.r 5)⟩,
    ⟨some 2, none, .asg (.r 12)⟩,
    ⟨some 3, none, .asg (.r 13)⟩] [1, 2, 3])
  (.seq (.ops [⟨some 14, none, .mv (.r 2)⟩,
    ⟨some 15, none, .mv (.r 14)⟩,
    ⟨some 16, some (15, true), .mv (.r 3)⟩,
    ⟨some 17, some (15, true), .bin .eql .no (.r 16) (.c (.int .i64 0))⟩,
    ⟨some 18, none, .pick (.r 15) (.r 17) (.c (.bool false))⟩,
    ⟨some 19, none, .mv (.r 18)⟩,
    ⟨some 20, some (19, true), .mv (.r 1)⟩,
    ⟨some 21, some (19, true), .build [(.int .i64 0), (.int .i64 0), (.int .i64 0), (.int .i64 0), (.int .i64 0), (.int .i64 0), (.int .i64 0), (.int .i64 0), (.sl [])] []⟩,
    ⟨some 22, some (19, true), .call false F.hints_Set_Drop [(.r 20), (.c (.int .i64 1)), (.c (.str [107])), (.r 21)]⟩,
    ⟨some 23, some (19, true), .un .not (.r 22)⟩,
    ⟨some 24, none, .pick (.r 19) (.r 23) (.c (.bool false))⟩,
    ⟨some 25, none, .mv (.r 24)⟩,
    ⟨some 26, some (25, true), .mv (.r 1)⟩,
    ⟨some 27, some (25, true), .call false F.hints_Set_Len [(.r 26)]⟩,
    ⟨some 28, some (25, true), .bin .eql .no (.r 27) (.c (.int .i64 1))⟩,
    ⟨some 29, none, .pick (.r 25) (.r 28) (.c (.bool false))⟩,
    ⟨some 0, none, .asg (.r 29)⟩] [0])
  .ret)))),
  [.r 0], none⟩
def c_tattlerlaw11_light_l0 : VCode := (.seq (.ops [⟨some 8, none, .bin .lss .no (.r 7) (.r 6)⟩] [5, 6, 7, 8])
  (.seq (.cond (.r 8) .skip (.exit 0))
  (.seq (.block 1 (.seq (.ops [⟨some 9, none, .mv (.r 7)⟩,
        ⟨some 10, none, .iaddr none 21 (.r 5) (.r 7)⟩,
        ⟨some 11, none, .load true 21 (.r 10)⟩,
        ⟨some 4, none, .alloc [(.int .i64 0), (.int .i64 0), (.str []), (.int .i64 0), (.int .i64 0), (.int .i64 0), (.int .i64 0), (.int .i64 0), (.int .i64 0), (.int .i64 0), (.int .i64 0), (.sl []), (.int .i64 0), (.int .i64 0), (.int .i64 0), (.int .i64 0), (.int .i64 0), (.int .i64 0), (.int .i64 0), (.int .i64 0), (.sl [])] []⟩,
        ⟨some 3, none, .asg (.r 9)⟩,
        ⟨none, none, .store 21 (.r 4) (.r 11) [] none⟩] [3, 4, 5, 6, 7])
      (.seq (.ops [⟨some 12, none, .mv (.r 3)⟩,
        ⟨some 13, none, .bin .geq .no (.r 12) (.c (.int .i64 120))⟩,
        ⟨some 14, none, .mv (.r 13)⟩,
        ⟨some 15, some (14, false), .faddr 1 (.r 4)⟩,
        ⟨some 16, some (14, false), .faddr 1 (.r 15)⟩,
        ⟨some 17, some (14, false), .faddr 1 (.r 16)⟩,
        ⟨some 18, some (14, false), .faddr 8 (.r 17)⟩,
        ⟨some 19, some (14, false), .load false 1 (.r 18)⟩,
        ⟨some 20, some (14, false), .len .sl (.r 19)⟩,
        ⟨some 21, some (14, false), .bin .gtr .no (.r 20) (.c (.int .i64 20))⟩,
        ⟨some 22, none, .pick (.r 14) (.c (.bool true)) (.r 21)⟩,
        ⟨some 23, none, .mv (.r 22)⟩,
        ⟨some 24, some (23, false), .faddr 12 (.r 4)⟩,
        ⟨some 25, some (23, false), .faddr 8 (.r 24)⟩,
        ⟨some 26, some (23, false), .load false 1 (.r 25)⟩,
        ⟨some 27, some (23, false), .len .sl (.r 26)⟩,
        ⟨some 28, some (23, false), .bin .gtr .no (.r 27) (.c (.int .i64 20))⟩,
        ⟨some 29, none, .pick (.r 23) (.c (.bool true)) (.r 28)⟩] [5, 6, 7, 29])
      (.cond (.r 29) (.seq (.ops [⟨some 2, none, .asg (.c (.bool false))⟩] [2])
        .ret) .skip))))
  (.ops [⟨some 30, none, .bin .add .no (.r 7) (.c (.int .i64 1))⟩,
  ⟨some 7, none, .mv (.r 30)⟩] [5, 6, 7]))))
def c_tattlerlaw11_light : VFun := ⟨1,
  (.seq (.ops [⟨some 2, none, .asg (.c (.bool false))⟩] [0])
  (.seq (.seq (.ops [⟨some 5, none, .mv (.r 0)⟩,
      ⟨some 6, none, .len .sl (.r 5)⟩,
      ⟨some 7, none, .mv (.c (.int .i64 0))⟩] [5, 6, 7])
    (.block 0 (.loop [5, 6, 7] [] c_tattlerlaw11_light_l0)))
  (.seq (.ops [⟨some 2, none, .asg (.c (.bool true))⟩] [2])
  .ret))),
  [.r 2], none⟩
def c_hints_Set_All_l0 : VCode := (.seq (.ops [⟨some 14, none, .bin .lss .no (.r 13) (.r 12)⟩] [0, 3, 11, 12, 13, 14])
  (.seq (.cond (.r 14) .skip (.exit 0))
  (.seq (.block 1 (.seq (.ops [⟨some 15, none, .iaddr none 11 (.r 11) (.r 13)⟩,
        ⟨some 16, none, .load true 11 (.r 15)⟩,
        ⟨some 5, none, .alloc [(.int .i64 0), (.str []), (.int .i64 0), (.int .i64 0), (.int .i64 0), (.int .i64 0), (.int .i64 0), (.int .i64 0), (.int .i64 0), (.int .i64 0), (.sl [])] []⟩,
        ⟨none, none, .store 11 (.r 5) (.r 16) [] none⟩] [0, 3, 5, 11, 12, 13])
      (.ops [⟨some 17, none, .mv (.r 3)⟩,
      ⟨some 18, none, .load true 11 (.r 5)⟩,
      ⟨some 19, none, .call false F.hints_copied [(.r 18)]⟩,
      ⟨some 20, none, .bslice (.agg [(.int .i64 0), (.str []), (.int .i64 0), (.int .i64 0), (.int .i64 0), (.int .i64 0), (.int .i64 0), (.int .i64 0), (.int .i64 0), (.int .i64 0), (.sl [])]) 11 1 [(0, (.r 19))]⟩,
      ⟨some 21, none, .app (.reg 3) 11 112 (.r 17) (.r 20)⟩,
      ⟨some 3, none, .asg (.r 21)⟩] [0, 3, 11, 12, 13])))
  (.ops [⟨some 22, none, .bin .add .no (.r 13) (.c (.int .i64 1))⟩,
  ⟨some 13, none, .mv (.r 22)⟩] [0, 3, 11, 12, 13]))))
def c_hints_Set_All : VFun := ⟨1,
  (.seq (.ops [⟨some 2, none, .asg (.c (.sl []))⟩] [0])
  (.seq (.seq (.ops [⟨some 6, none, .mv (.r 0)⟩,
      ⟨some 7, none, .bin .eql .ptr (.r 6) (.c (.ptr none))⟩] [0, 7])
    (.cond (.r 7) (.seq (.ops [⟨some 2, none, .asg (.c (.sl []))⟩] [0, 2])
      .ret) .skip))
  (.seq (.ops [⟨some 3, none, .asg (.c (.sl []))⟩] [0, 3])
  (.seq (.seq (.ops [⟨none, none, .thwc 0 0 11⟩,
      ⟨some 8, none, .mv (.r 0)⟩,
      ⟨some 9, none, .nilck (.r 8)⟩,
      ⟨some 10, none, .faddr 0 (.r 9)⟩,
      ⟨some 11, none, .load false 1 (.r 10)⟩,
      ⟨some 12, none, .len .sl (.r 11)⟩,
      ⟨some 13, none, .mv (.c (.int .i64 0))⟩] [0, 3, 11, 12, 13])
    (.block 0 (.loop [0, 3, 11, 12, 13] [(2, 0, 0), (3, 0, 11)] c_hints_Set_All_l0)))
  (.seq (.ops [⟨none, none, .setc 0 0 11 true⟩,
    ⟨some 23, none, .mv (.r 3)⟩,
    ⟨some 2, none, .asg (.r 23)⟩] [0, 2])
  .ret))))),
  [.r 2], none⟩
def c_hints_Set_Drop : VFun := ⟨4,
  (.seq (.ops [⟨some 7, none, .box 9 (.r 3)⟩,
    ⟨some 8, none, .asg (.c (.bool false))⟩] [0, 1, 2, 7])
  (.seq (.seq (.ops [⟨some 11, none, .mv (.r 0)⟩,
      ⟨some 12, none, .bin .eql .ptr (.r 11) (.c (.ptr none))⟩] [0, 1, 2, 7, 12])
    (.cond (.r 12) (.seq (.ops [⟨some 8, none, .asg (.c (.bool false))⟩] [0, 8])
      .ret) .skip))
  (.seq (.ops [⟨some 14, none, .mv (.r 0)⟩,
    ⟨some 15, none, .mv (.r 1)⟩,
    ⟨some 16, none, .mv (.r 2)⟩,
    ⟨some 17, none, .call false F.hints_Set_find [(.r 14), (.r 15), (.r 16)]⟩,
    ⟨some 13, none, .mv (.r 17)⟩,
    ⟨some 18, none, .extract 0 (.r 13)⟩,
    ⟨some 19, none, .extract 1 (.r 13)⟩,
    ⟨some 9, none, .asg (.r 18)⟩,
    ⟨some 10, none, .asg (.r 19)⟩] [0, 7, 9, 10])
  (.seq (.seq (.gop [⟨none, none, .thwc 0 0 11⟩] (.dops 13 [⟨some 20, none, .mv (.r 10)⟩,
      ⟨some 21, none, .un .not (.r 20)⟩,
      ⟨some 22, none, .mv (.r 21)⟩,
      ⟨some 23, some (22, false), .mv (.r 0)⟩,
      ⟨some 24, some (22, false), .nilck (.r 23)⟩,
      ⟨some 25, some (22, false), .faddr 0 (.r 24)⟩,
      ⟨some 26, some (22, false), .load false 1 (.r 25)⟩,
      ⟨some 27, some (22, false), .mv (.r 9)⟩,
      ⟨some 28, some (22, false), .iaddr none 11 (.r 26) (.r 27)⟩,
      ⟨some 29, some (22, false), .faddr 1 (.r 28)⟩,
      ⟨some 30, some (22, false), .faddr 1 (.r 29)⟩,
      ⟨some 31, some (22, false), .load true 9 (.r 30)⟩,
      ⟨some 32, some (22, false), .load true 9 (.r 7)⟩,
      ⟨some 33, some (22, false), .call false F.sibs_Leq [(.r 31), (.r 32)]⟩,
      ⟨some 34, some (22, false), .un .not (.r 33)⟩,
      ⟨some 35, none, .pick (.r 22) (.c (.bool true)) (.r 34)⟩] [0, 9, 35]))
    (.cond (.r 35) (.seq (.ops [⟨some 8, none, .asg (.c (.bool false))⟩] [0, 8])
      (.gop [⟨none, none, .setc 0 0 11 true⟩] .ret)) .skip))
  (.seq (.ops [⟨some 36, none, .mv (.r 0)⟩,
    ⟨some 37, none, .mv (.r 0)⟩,
    ⟨some 38, none, .nilck (.r 37)⟩,
    ⟨some 39, none, .faddr 0 (.r 38)⟩,
    ⟨some 40, none, .load false 1 (.r 39)⟩,
    ⟨some 41, none, .mv (.r 9)⟩,
    ⟨some 42, none, .mv (.r 9)⟩,
    ⟨some 43, none, .bin .add .no (.r 42) (.c (.int .i64 1))⟩,
    ⟨some 44, none, .call false F.slices_Delete_api_Hint_api_Hint [(.r 40), (.r 41), (.r 43)]⟩,
    ⟨some 45, none, .nilck (.r 36)⟩,
    ⟨some 46, none, .faddr 0 (.r 45)⟩,
    ⟨none, none, .store 1 (.r 46) (.r 44) [] none⟩,
    ⟨none, none, .setc 0 0 11 true⟩] [0])
  (.seq (.ops [⟨some 8, none, .asg (.c (.bool true))⟩] [0, 8])
  .ret)))))),
  [.r 8], none⟩
def c_tattlerref5_Leq : VFun := ⟨2,
  (.seq (.ops [⟨some 2, none, .box 9 (.r 0)⟩,
    ⟨some 3, none, .box 9 (.r 1)⟩,
    ⟨some 4, none, .asg (.c (.bool false))⟩] [2, 3])
  (.seq (.dops 11 [⟨some 5, none, .load true 9 (.r 2)⟩,
    ⟨some 6, none, .call true F.tattlerref5_May [(.r 5)]⟩,
    ⟨some 7, none, .mv (.r 6)⟩,
    ⟨some 8, some (7, true), .load true 9 (.r 3)⟩,
    ⟨some 9, some (7, true), .call true F.tattlerref5_May [(.r 8)]⟩,
    ⟨some 10, none, .pick (.r 7) (.r 9) (.c (.bool false))⟩,
    ⟨some 11, none, .mv (.r 10)⟩,
    ⟨some 12, some (11, true), .load true 9 (.r 2)⟩,
    ⟨some 13, some (11, true), .load true 9 (.r 3)⟩,
    ⟨some 14, some (11, true), .call true F.tattlerref5_Join [(.r 12), (.r 13)]⟩,
    ⟨some 15, some (11, true), .load true 9 (.r 3)⟩,
    ⟨some 16, some (11, true), .call false F.tattlerref5_Same [(.r 14), (.r 15)]⟩,
    ⟨some 17, none, .pick (.r 11) (.r 16) (.c (.bool false))⟩,
    ⟨some 4, none, .asg (.r 17)⟩] [4])
  .ret)),
  [.r 4], none⟩
def c_tattlerref5_SameHints_l0 : VCode := (.seq (.ops [⟨some 14, none, .bin .lss .no (.r 13) (.r 12)⟩] [0, 1, 12, 13, 14])
  (.seq (.cond (.r 14) .skip (.exit 0))
  (.seq (.block 1 (.seq (.ops [⟨some 15, none, .mv (.r 13)⟩,
        ⟨some 5, none, .asg (.r 15)⟩] [0, 1, 5, 12, 13])
      (.seq (.dops 39 [⟨some 16, none, .mv (.r 0)⟩,
        ⟨some 17, none, .mv (.r 5)⟩,
        ⟨some 18, none, .iaddr none 11 (.r 16) (.r 17)⟩,
        ⟨some 19, none, .faddr 0 (.r 18)⟩,
        ⟨some 20, none, .load false 1 (.r 19)⟩,
        ⟨some 21, none, .mv (.r 1)⟩,
        ⟨some 22, none, .mv (.r 5)⟩,
        ⟨some 23, none, .iaddr none 11 (.r 21) (.r 22)⟩,
        ⟨some 24, none, .faddr 0 (.r 23)⟩,
        ⟨some 25, none, .load false 1 (.r 24)⟩,
        ⟨some 26, none, .bin .neq .no (.r 20) (.r 25)⟩,
        ⟨some 27, none, .mv (.r 26)⟩,
        ⟨some 28, some (27, false), .mv (.r 0)⟩,
        ⟨some 29, some (27, false), .mv (.r 5)⟩,
        ⟨some 30, some (27, false), .iaddr none 11 (.r 28) (.r 29)⟩,
        ⟨some 31, some (27, false), .faddr 1 (.r 30)⟩,
        ⟨some 32, some (27, false), .faddr 0 (.r 31)⟩,
        ⟨some 33, some (27, false), .load false 1 (.r 32)⟩,
        ⟨some 34, some (27, false), .mv (.r 1)⟩,
        ⟨some 35, some (27, false), .mv (.r 5)⟩,
        ⟨some 36, some (27, false), .iaddr none 11 (.r 34) (.r 35)⟩,
        ⟨some 37, some (27, false), .faddr 1 (.r 36)⟩,
        ⟨some 38, some (27, false), .faddr 0 (.r 37)⟩,
        ⟨some 39, some (27, false), .load false 1 (.r 38)⟩,
        ⟨some 40, some (27, false), .bin .neq .no (.r 33) (.r 39)⟩,
        ⟨some 41, none, .pick (.r 27) (.c (.bool true)) (.r 40)⟩,
        ⟨some 42, none, .mv (.r 41)⟩,
        ⟨some 43, some (42, false), .mv (.r 0)⟩,
        ⟨some 44, some (42, false), .mv (.r 5)⟩,
        ⟨some 45, some (42, false), .iaddr none 11 (.r 43) (.r 44)⟩,
        ⟨some 46, some (42, false), .faddr 1 (.r 45)⟩,
        ⟨some 47, some (42, false), .faddr 1 (.r 46)⟩,
        ⟨some 48, some (42, false), .load true 9 (.r 47)⟩,
        ⟨some 49, some (42, false), .mv (.r 1)⟩,
        ⟨some 50, some (42, false), .mv (.r 5)⟩,
        ⟨some 51, some (42, false), .iaddr none 11 (.r 49) (.r 50)⟩,
        ⟨some 52, some (42, false), .faddr 1 (.r 51)⟩,
        ⟨some 53, some (42, false), .faddr 1 (.r 52)⟩,
        ⟨some 54, some (42, false), .load true 9 (.r 53)⟩,
        ⟨some 55, some (42, false), .call false F.tattlerref5_Same [(.r 48), (.r 54)]⟩,
        ⟨some 56, some (42, false), .un .not (.r 55)⟩,
        ⟨some 57, none, .pick (.r 42) (.c (.bool true)) (.r 56)⟩] [0, 1, 12, 13, 57])
      (.cond (.r 57) (.seq (.ops [⟨some 4, none, .asg (.c (.bool false))⟩] [4])
        .ret) .skip))))
  (.ops [⟨some 58, none, .bin .add .no (.r 13) (.c (.int .i64 1))⟩,
  ⟨some 13, none, .mv (.r 58)⟩] [0, 1, 12, 13]))))
def c_tattlerref5_SameHints : VFun := ⟨2,
  (.seq (.ops [⟨some 4, none, .asg (.c (.bool false))⟩] [0, 1])
  (.seq (.seq (.ops [⟨some 6, none, .mv (.r 0)⟩,
      ⟨some 7, none, .len .sl (.r 6)⟩,
      ⟨some 8, none, .mv (.r 1)⟩,
      ⟨some 9, none, .len .sl (.r 8)⟩,
      ⟨some 10, none, .bin .neq .no (.r 7) (.r 9)⟩] [0, 1, 10])
    (.cond (.r 10) (.seq (.ops [⟨some 4, none, .asg (.c (.bool false))⟩] [4])
      .ret) .skip))
  (.seq (.seq (.ops [⟨some 11, none, .mv (.r 0)⟩,
      ⟨some 12, none, .len .sl (.r 11)⟩,
      ⟨some 13, none, .mv (.c (.int .i64 0))⟩] [0, 1, 12, 13])
    (.block 0 (.loop [0, 1, 12, 13] [] c_tattlerref5_SameHints_l0)))
  (.seq (.ops [⟨some 4, none, .asg (.c (.bool true))⟩] [4])
  .ret)))),
  [.r 4], none⟩
def c_sibs_Leq : VFun := ⟨2,
  (.seq (.ops [⟨some 2, none, .box 9 (.r 0)⟩,
    ⟨some 3, none, .box 9 (.r 1)⟩,
    ⟨some 4, none, .asg (.c (.bool false))⟩] [2, 3])
  (.seq (.dops 11 [⟨some 5, none, .load true 9 (.r 2)⟩,
    ⟨some 6, none, .call true F.sibs_May [(.r 5)]⟩,
    ⟨some 7, none, .mv (.r 6)⟩,
    ⟨some 8, some (7, true), .load true 9 (.r 3)⟩,
    ⟨some 9, some (7, true), .call true F.sibs_May [(.r 8)]⟩,
    ⟨some 10, none, .pick (.r 7) (.r 9) (.c (.bool false))⟩,
    ⟨some 11, none, .mv (.r 10)⟩,
    ⟨some 12, some (11, true), .load true 9 (.r 2)⟩,
    ⟨some 13, some (11, true), .load true 9 (.r 3)⟩,
    ⟨some 14, some (11, true), .call true F.sibs_Join [(.r 12), (.r 13)]⟩,
    ⟨some 15, some (11, true), .load true 9 (.r 3)⟩,
    ⟨some 16, some (11, true), .call false F.sibs_Same [(.r 14), (.r 15)]⟩,
    ⟨some 17, none, .pick (.r 11) (.r 16) (.c (.bool false))⟩,
    ⟨some 4, none, .asg (.r 17)⟩] [4])
  .ret)),
  [.r 4], none⟩
def c_tattlerref5_SameEntries_l0 : VCode := (.seq (.ops [⟨some 14, none, .bin .lss .no (.r 13) (.r 12)⟩] [0, 1, 12, 13, 14])
  (.seq (.cond (.r 14) .skip (.exit 0))
  (.seq (.block 1 (.seq (.ops [⟨some 15, none, .mv (.r 13)⟩,
        ⟨some 5, none, .asg (.r 15)⟩] [0, 1, 5, 12, 13])
      (.seq (.dops 22 [⟨some 16, none, .mv (.r 0)⟩,
        ⟨some 17, none, .mv (.r 5)⟩,
        ⟨some 18, none, .iaddr none 10 (.r 16) (.r 17)⟩,
        ⟨some 19, none, .faddr 0 (.r 18)⟩,
        ⟨some 20, none, .load false 1 (.r 19)⟩,
        ⟨some 21, none, .mv (.r 1)⟩,
        ⟨some 22, none, .mv (.r 5)⟩,
        ⟨some 23, none, .iaddr none 10 (.r 21) (.r 22)⟩,
        ⟨some 24, none, .faddr 0 (.r 23)⟩,
        ⟨some 25, none, .load false 1 (.r 24)⟩,
        ⟨some 26, none, .bin .neq .no (.r 20) (.r 25)⟩,
        ⟨some 27, none, .mv (.r 26)⟩,
        ⟨some 28, some (27, false), .mv (.r 0)⟩,
        ⟨some 29, some (27, false), .mv (.r 5)⟩,
        ⟨some 30, some (27, false), .iaddr none 10 (.r 28) (.r 29)⟩,
        ⟨some 31, some (27, false), .faddr 1 (.r 30)⟩,
        ⟨some 32, some (27, false), .load true 9 (.r 31)⟩,
        ⟨some 33, some (27, false), .mv (.r 1)⟩,
        ⟨some 34, some (27, false), .mv (.r 5)⟩,
        ⟨some 35, some (27, false), .iaddr none 10 (.r 33) (.r 34)⟩,
        ⟨some 36, some (27, false), .faddr 1 (.r 35)⟩,
        ⟨some 37, some (27, false), .load true 9 (.r 36)⟩,
        ⟨some 38, some (27, false), .call false F.tattlerref5_Same [(.r 32), (.r 37)]⟩,
        ⟨some 39, some (27, false), .un .not (.r 38)⟩,
        ⟨some 40, none, .pick (.r 27) (.c (.bool true)) (.r 39)⟩] [0, 1, 12, 13, 40])
      (.cond (.r 40) (.seq (.ops [⟨some 4, none, .asg (.c (.bool false))⟩] [4])
        .ret) .skip))))
  (.ops [⟨some 41, none, .bin .add .no (.r 13) (.c (.int .i64 1))⟩,
  ⟨some 13, none, .mv (.r 41)⟩] [0, 1, 12, 13]))))
def c_tattlerref5_SameEntries : VFun := ⟨2,
  (.seq (.ops [⟨some 4, none, .asg (.c (.bool false))⟩] [0, 1])
  (.seq (.seq (.ops [⟨some 6, none, .mv (.r 0)⟩,
      ⟨some 7, none, .len .sl (.r 6)⟩,
      ⟨some 8, none, .mv (.r 1)⟩,
      ⟨some 9, none, .len .sl (.r 8)⟩,
      ⟨some 10, none, .bin .neq .no (.r 7) (.r 9)⟩] [0, 1, 10])
    (.cond (.r 10) (.seq (.ops [⟨some 4, none, .asg (.c (.bool false))⟩] [4])
      .ret) .skip))
  (.seq (.seq (.ops [⟨some 11, none, .mv (.r 0)⟩,
      ⟨some 12, none, .len .sl (.r 11)⟩,
      ⟨some 13, none, .mv (.c (.int .i64 0))⟩] [0, 1, 12, 13])
    (.block 0 (.loop [0, 1, 12, 13] [] c_tattlerref5_SameEntries_l0)))
  (.seq (.ops [⟨some 4, none, .asg (.c (.bool true))⟩] [4])
  .ret)))),
  [.r 4], none⟩
def c_hints_Set_For_l0 : VCode := (.seq (.ops [⟨some 12, none, .bin .lss .no (.r 11) (.r 10)⟩] [1, 5, 9, 10, 11, 12])
  (.seq (.cond (.r 12) .skip (.exit 0))
  (.seq (.block 1 (.seq (.ops [⟨some 13, none, .iaddr none 11 (.r 9) (.r 11)⟩,
        ⟨some 14, none, .load true 11 (.r 13)⟩,
        ⟨some 7, none, .alloc [(.int .i64 0), (.str []), (.int .i64 0), (.int .i64 0), (.int .i64 0), (.int .i64 0), (.int .i64 0), (.int .i64 0), (.int .i64 0), (.int .i64 0), (.sl [])] []⟩,
        ⟨none, none, .store 11 (.r 7) (.r 14) [] none⟩] [1, 5, 7, 9, 10, 11])
      (.seq (.ops [⟨some 15, none, .faddr 0 (.r 7)⟩,
        ⟨some 16, none, .load false 1 (.r 15)⟩,
        ⟨some 17, none, .mv (.r 1)⟩,
        ⟨some 18, none, .bin .eql .no (.r 16) (.r 17)⟩] [1, 5, 7, 9, 10, 11, 18])
      (.cond (.r 18) (.ops [⟨some 19, none, .mv (.r 5)⟩,
        ⟨some 20, none, .faddr 1 (.r 7)⟩,
        ⟨some 21, none, .load true 10 (.r 20)⟩,
        ⟨some 22, none, .bslice (.agg [(.str []), (.int .i64 0), (.int .i64 0), (.int .i64 0), (.int .i64 0), (.int .i64 0), (.int .i64 0), (.int .i64 0), (.int .i64 0), (.sl [])]) 10 1 [(0, (.r 21))]⟩,
        ⟨some 23, none, .app (.reg 5) 10 104 (.r 19) (.r 22)⟩,
        ⟨some 5, none, .asg (.r 23)⟩] [1, 5, 9, 10, 11]) .skip))))
  (.ops [⟨some 24, none, .bin .add .no (.r 11) (.c (.int .i64 1))⟩,
  ⟨some 11, none, .mv (.r 24)⟩] [1, 5, 9, 10, 11]))))
def c_hints_Set_For : VFun := ⟨2,
  (.seq (.ops [⟨some 4, none, .asg (.c (.sl []))⟩] [0, 1])
  (.seq (.ops [⟨some 5, none, .asg (.c (.sl []))⟩] [0, 1, 5])
  (.seq (.seq (.ops [⟨some 8, none, .mv (.r 0)⟩,
      ⟨some 9, none, .call false F.hints_Set_All [(.r 8)]⟩,
      ⟨some 10, none, .len .sl (.r 9)⟩,
      ⟨some 11, none, .mv (.c (.int .i64 0))⟩] [1, 5, 9, 10, 11])
    (.block 0 (.loop [1, 5, 9, 10, 11] [(4, 0, 0), (5, 0, 10)] c_hints_Set_For_l0)))
  (.seq (.ops [⟨some 25, none, .mv (.r 5)⟩,
    ⟨some 4, none, .asg (.r 25)⟩] [4])
  .ret)))),
  [.r 4], none⟩
def c_tattlerref5_Hints_Put_l0 : VCode := (.seq (.seq (.dops 32 [⟨some 83, none, .mv (.r 9)⟩,
      ⟨some 84, none, .mv (.r 7)⟩,
      ⟨some 85, none, .len .sl (.r 84)⟩,
      ⟨some 86, none, .bin .lss .no (.r 83) (.r 85)⟩,
      ⟨some 87, none, .mv (.r 86)⟩,
      ⟨some 88, some (87, true), .mv (.r 7)⟩,
      ⟨some 89, some (87, true), .mv (.r 9)⟩,
      ⟨some 90, some (87, true), .iaddr none 11 (.r 88) (.r 89)⟩,
      ⟨some 91, some (87, true), .faddr 0 (.r 90)⟩,
      ⟨some 92, some (87, true), .load false 1 (.r 91)⟩,
      ⟨some 93, some (87, true), .faddr 0 (.r 3)⟩,
      ⟨some 94, some (87, true), .load false 1 (.r 93)⟩,
      ⟨some 95, some (87, true), .bin .lss .no (.r 92) (.r 94)⟩,
      ⟨some 96, some (87, true), .mv (.r 95)⟩,
      ⟨some 97, some (96, false), .mv (.r 7)⟩,
      ⟨some 98, some (96, false), .mv (.r 9)⟩,
      ⟨some 99, some (96, false), .iaddr none 11 (.r 97) (.r 98)⟩,
      ⟨some 100, some (96, false), .faddr 0 (.r 99)⟩,
      ⟨some 101, some (96, false), .load false 1 (.r 100)⟩,
      ⟨some 102, some (96, false), .faddr 0 (.r 3)⟩,
      ⟨some 103, some (96, false), .load false 1 (.r 102)⟩,
      ⟨some 104, some (96, false), .bin .eql .no (.r 101) (.r 103)⟩,
      ⟨some 105, some (96, false), .mv (.r 104)⟩,
      ⟨some 106, some (105, true), .mv (.r 7)⟩,
      ⟨some 107, some (105, true), .mv (.r 9)⟩,
      ⟨some 108, some (105, true), .iaddr none 11 (.r 106) (.r 107)⟩,
      ⟨some 109, some (105, true), .faddr 1 (.r 108)⟩,
      ⟨some 110, some (105, true), .faddr 0 (.r 109)⟩,
      ⟨some 111, some (105, true), .load false 1 (.r 110)⟩,
      ⟨some 112, some (105, true), .faddr 1 (.r 3)⟩,
      ⟨some 113, some (105, true), .faddr 0 (.r 112)⟩,
      ⟨some 114, some (105, true), .load false 1 (.r 113)⟩,
      ⟨some 115, some (105, true), .bin .lss .no (.r 111) (.r 114)⟩,
      ⟨some 116, some (96, false), .pick (.r 105) (.r 115) (.c (.bool false))⟩,
      ⟨some 117, some (87, true), .pick (.r 96) (.c (.bool true)) (.r 116)⟩,
      ⟨some 118, none, .pick (.r 87) (.r 117) (.c (.bool false))⟩] [0, 3, 7, 9, 118])
    (.cond (.r 118) .skip (.exit 0)))
  (.block 1 (.ops [⟨some 119, none, .mv (.r 9)⟩,
    ⟨some 120, none, .bin .add .no (.r 119) (.c (.int .i64 1))⟩,
    ⟨some 9, none, .asg (.r 120)⟩] [0, 3, 7, 9])))
def c_tattlerref5_Hints_Put : VFun := ⟨2,
  (.seq (.ops [⟨some 3, none, .box 11 (.r 1)⟩,
    ⟨some 4, none, .asg (.c (.bool false))⟩,
    ⟨some 5, none, .asg (.c (.int .i64 0))⟩] [0, 3])
  (.seq (.seq (.ops [⟨some 10, none, .faddr 0 (.r 3)⟩,
      ⟨some 11, none, .load false 1 (.r 10)⟩,
      ⟨some 12, none, .bin .lss .no (.r 11) (.c (.int .i64 0))⟩,
      ⟨some 13, none, .mv (.r 12)⟩,
      ⟨some 14, some (13, false), .faddr 0 (.r 3)⟩,
      ⟨some 15, some (13, false), .load false 1 (.r 14)⟩,
      ⟨some 16, some (13, false), .bin .geq .no (.r 15) (.c (.int .i64 8))⟩,
      ⟨some 17, none, .pick (.r 13) (.c (.bool true)) (.r 16)⟩,
      ⟨some 18, none, .mv (.r 17)⟩,
      ⟨some 19, some (18, false), .faddr 1 (.r 3)⟩,
      ⟨some 20, some (18, false), .load true 10 (.r 19)⟩,
      ⟨some 21, some (18, false), .call false F.tattlerref5_MayEntry [(.r 20)]⟩,
      ⟨some 22, some (18, false), .un .not (.r 21)⟩,
      ⟨some 23, none, .pick (.r 18) (.c (.bool true)) (.r 22)⟩] [0, 3, 23])
    (.cond (.r 23) (.seq (.ops [⟨some 4, none, .asg (.c (.bool false))⟩,
        ⟨some 5, none, .asg (.c (.int .i64 1))⟩] [4, 5])
      .ret) .skip))
  (.seq (.ops [⟨some 24, none, .mv (.r 0)⟩,
    ⟨some 25, none, .faddr 0 (.r 3)⟩,
    ⟨some 26, none, .load false 1 (.r 25)⟩,
    ⟨some 27, none, .faddr 1 (.r 3)⟩,
    ⟨some 28, none, .faddr 0 (.r 27)⟩,
    ⟨some 29, none, .load false 1 (.r 28)⟩,
    ⟨some 30, none, .call false F.tattlerref5_Hints_at [(.r 24), (.r 26), (.r 29)]⟩,
    ⟨some 6, none, .asg (.r 30)⟩] [0, 3, 6])
  (.seq (.seq (.ops [⟨some 31, none, .mv (.r 6)⟩,
      ⟨some 32, none, .bin .lss .no (.r 31) (.c (.int .i64 0))⟩,
      ⟨some 33, none, .mv (.r 32)⟩,
      ⟨some 34, some (33, true), .mv (.r 0)⟩,
      ⟨some 35, some (33, true), .nilck (.r 34)⟩,
      ⟨some 36, some (33, true), .faddr 0 (.r 35)⟩,
      ⟨some 37, some (33, true), .load false 1 (.r 36)⟩,
      ⟨some 38, some (33, true), .len .sl (.r 37)⟩,
      ⟨some 39, some (33, true), .bin .geq .no (.r 38) (.c (.int .i64 64))⟩,
      ⟨some 40, none, .pick (.r 33) (.r 39) (.c (.bool false))⟩] [0, 3, 6, 40])
    (.cond (.r 40) (.seq (.ops [⟨some 4, none, .asg (.c (.bool false))⟩,
        ⟨some 5, none, .asg (.c (.int .i64 11))⟩] [4, 5])
      .ret) .skip))
  (.seq (.ops [⟨some 41, none, .mv (.r 0)⟩,
    ⟨some 42, none, .nilck (.r 41)⟩,
    ⟨some 43, none, .faddr 0 (.r 42)⟩,
    ⟨some 44, none, .load false 1 (.r 43)⟩,
    ⟨some 45, none, .appm 11 112 (.c .nsl) (.r 44)⟩,
    ⟨some 7, none, .asg (.r 45)⟩] [0, 3, 6, 7])
  (.seq (.seq (.ops [⟨some 46, none, .mv (.r 6)⟩,
      ⟨some 47, none, .bin .geq .no (.r 46) (.c (.int .i64 0))⟩] [0, 3, 6, 7, 47])
    (.cond (.r 47) (.seq (.xops 11 10 [5, 8, 9] [⟨some 48, none, .mv (.r 7)⟩,
        ⟨some 49, none, .mv (.r 6)⟩,
        ⟨some 50, none, .iaddr none 11 (.r 48) (.r 49)⟩,
        ⟨some 51, none, .faddr 1 (.r 50)⟩,
        ⟨some 52, none, .faddr 1 (.r 51)⟩,
        ⟨some 53, none, .load true 9 (.r 52)⟩,
        ⟨some 54, none, .faddr 1 (.r 3)⟩,
        ⟨some 55, none, .faddr 1 (.r 54)⟩,
        ⟨some 56, none, .load true 9 (.r 55)⟩,
        ⟨some 57, none, .call true F.tattlerref5_Join [(.r 53), (.r 56)]⟩,
        ⟨some 8, none, .alloc [(.int .i64 0), (.int .i64 0), (.int .i64 0), (.int .i64 0), (.int .i64 0), (.int .i64 0), (.int .i64 0), (.int .i64 0), (.sl [])] []⟩,
        ⟨none, none, .store 9 (.r 8) (.r 57) [] none⟩] [0, 6, 7, 8])
      (.seq (.seq (.dops 7 [⟨some 58, none, .load true 9 (.r 8)⟩,
          ⟨some 59, none, .mv (.r 7)⟩,
          ⟨some 60, none, .mv (.r 6)⟩,
          ⟨some 61, none, .iaddr none 11 (.r 59) (.r 60)⟩,
          ⟨some 62, none, .faddr 1 (.r 61)⟩,
          ⟨some 63, none, .faddr 1 (.r 62)⟩,
          ⟨some 64, none, .load true 9 (.r 63)⟩,
          ⟨some 65, none, .call false F.tattlerref5_Same [(.r 58), (.r 64)]⟩] [0, 6, 7, 8, 65])
        (.cond (.r 65) (.seq (.ops [⟨some 4, none, .asg (.c (.bool false))⟩,
            ⟨some 5, none, .asg (.c (.int .i64 0))⟩] [4, 5])
          .ret) .skip))
      (.seq (.ops [⟨some 66, none, .mv (.r 7)⟩,
        ⟨some 67, none, .mv (.r 6)⟩,
        ⟨some 68, none, .load true 9 (.r 8)⟩,
        ⟨some 69, none, .iaddr none 11 (.r 66) (.r 67)⟩,
        ⟨some 70, none, .faddr 1 (.r 69)⟩,
        ⟨some 71, none, .faddr 1 (.r 70)⟩,
        ⟨none, none, .store 9 (.r 71) (.r 68) [] none⟩] [0, 7])
      (.seq (.ops [⟨some 7, none, .frzr 7 11 true⟩,
        ⟨some 72, none, .mv (.r 0)⟩,
        ⟨some 73, none, .mv (.r 7)⟩,
        ⟨some 74, none, .nilck (.r 72)⟩,
        ⟨some 75, none, .faddr 0 (.r 74)⟩,
        ⟨none, none, .store 1 (.r 75) (.r 73) [] none⟩] [])
      (.seq (.ops [⟨some 4, none, .asg (.c (.bool true))⟩,
        ⟨some 5, none, .asg (.c (.int .i64 0))⟩] [4, 5])
      .ret))))) .skip))
  (.seq (.ops [⟨some 7, none, .frzr 7 11 true⟩,
    ⟨some 76, none, .build [(.int .i64 0), (.int .i64 0), (.int .i64 0), (.int .i64 0), (.int .i64 0), (.int .i64 0), (.int .i64 0), (.int .i64 0), (.sl [])] []⟩,
    ⟨some 77, none, .faddr 1 (.r 3)⟩,
    ⟨some 78, none, .faddr 1 (.r 77)⟩,
    ⟨some 79, none, .load true 9 (.r 78)⟩,
    ⟨some 80, none, .call false F.tattlerref5_Join [(.r 76), (.r 79)]⟩,
    ⟨some 81, none, .faddr 1 (.r 3)⟩,
    ⟨some 82, none, .faddr 1 (.r 81)⟩,
    ⟨none, none, .store 9 (.r 82) (.r 80) [] none⟩] [0, 3, 7])
  (.seq (.ops [⟨some 9, none, .asg (.c (.int .i64 0))⟩] [0, 3, 7, 9])
  (.seq (.block 0 (.loop [0, 3, 7, 9] [] c_tattlerref5_Hints_Put_l0))
  (.seq (.dops 12 [⟨some 121, none, .mv (.r 0)⟩,
    ⟨some 122, none, .mv (.r 7)⟩,
    ⟨some 123, none, .mv (.r 9)⟩,
    ⟨some 124, none, .slice false 11 (.r 122) none (some (.r 123)) none⟩,
    ⟨some 125, none, .app .fresh 11 112 (.c (.sl [])) (.r 124)⟩,
    ⟨some 126, none, .load true 11 (.r 3)⟩,
    ⟨some 127, none, .bslice (.agg [(.int .i64 0), (.str []), (.int .i64 0), (.int .i64 0), (.int .i64 0), (.int .i64 0), (.int .i64 0), (.int .i64 0), (.int .i64 0), (.int .i64 0), (.sl [])]) 11 1 [(0, (.r 126))]⟩,
    ⟨some 128, none, .app (.reg 125) 11 112 (.r 125) (.r 127)⟩,
    ⟨some 129, none, .mv (.r 7)⟩,
    ⟨some 130, none, .mv (.r 9)⟩,
    ⟨some 131, none, .slice false 11 (.r 129) (some (.r 130)) none none⟩,
    ⟨some 132, none, .app (.reg 128) 11 112 (.r 128) (.r 131)⟩,
    ⟨some 133, none, .nilck (.r 121)⟩,
    ⟨some 134, none, .faddr 0 (.r 133)⟩,
    ⟨none, none, .store 1 (.r 134) (.r 132) [] none⟩] [])
  (.seq (.ops [⟨some 4, none, .asg (.c (.bool true))⟩,
    ⟨some 5, none, .asg (.c (.int .i64 0))⟩] [4, 5])
  .ret))))))))))),
  [.r 4, .r 5], none⟩
def c_tattlerref5_Hints_Drop : VFun := ⟨4,
  (.seq (.ops [⟨some 7, none, .box 9 (.r 3)⟩,
    ⟨some 8, none, .asg (.c (.bool false))⟩] [0, 1, 2, 7])
  (.seq (.ops [⟨some 10, none, .mv (.r 0)⟩,
    ⟨some 11, none, .mv (.r 1)⟩,
    ⟨some 12, none, .mv (.r 2)⟩,
    ⟨some 13, none, .call false F.tattlerref5_Hints_at [(.r 10), (.r 11), (.r 12)]⟩,
    ⟨some 9, none, .asg (.r 13)⟩] [0, 7, 9])
  (.seq (.seq (.dops 13 [⟨some 14, none, .mv (.r 9)⟩,
      ⟨some 15, none, .bin .lss .no (.r 14) (.c (.int .i64 0))⟩,
      ⟨some 16, none, .mv (.r 15)⟩,
      ⟨some 17, some (16, false), .mv (.r 0)⟩,
      ⟨some 18, some (16, false), .nilck (.r 17)⟩,
      ⟨some 19, some (16, false), .faddr 0 (.r 18)⟩,
      ⟨some 20, some (16, false), .load false 1 (.r 19)⟩,
      ⟨some 21, some (16, false), .mv (.r 9)⟩,
      ⟨some 22, some (16, false), .iaddr none 11 (.r 20) (.r 21)⟩,
      ⟨some 23, some (16, false), .faddr 1 (.r 22)⟩,
      ⟨some 24, some (16, false), .faddr 1 (.r 23)⟩,
      ⟨some 25, some (16, false), .load true 9 (.r 24)⟩,
      ⟨some 26, some (16, false), .load true 9 (.r 7)⟩,
      ⟨some 27, some (16, false), .call false F.tattlerref5_Leq [(.r 25), (.r 26)]⟩,
      ⟨some 28, some (16, false), .un .not (.r 27)⟩,
      ⟨some 29, none, .pick (.r 16) (.c (.bool true)) (.r 28)⟩] [0, 9, 29])
    (.cond (.r 29) (.seq (.ops [⟨some 8, none, .asg (.c (.bool false))⟩] [8])
      .ret) .skip))
  (.seq (.dops 16 [⟨some 30, none, .mv (.r 0)⟩,
    ⟨some 31, none, .mv (.r 0)⟩,
    ⟨some 32, none, .nilck (.r 31)⟩,
    ⟨some 33, none, .faddr 0 (.r 32)⟩,
    ⟨some 34, none, .load false 1 (.r 33)⟩,
    ⟨some 35, none, .mv (.r 9)⟩,
    ⟨some 36, none, .slice false 11 (.r 34) none (some (.r 35)) none⟩,
    ⟨some 37, none, .app .fresh 11 112 (.c (.sl [])) (.r 36)⟩,
    ⟨some 38, none, .mv (.r 0)⟩,
    ⟨some 39, none, .nilck (.r 38)⟩,
    ⟨some 40, none, .faddr 0 (.r 39)⟩,
    ⟨some 41, none, .load false 1 (.r 40)⟩,
    ⟨some 42, none, .mv (.r 9)⟩,
    ⟨some 43, none, .bin .add .no (.r 42) (.c (.int .i64 1))⟩,
    ⟨some 44, none, .slice false 11 (.r 41) (some (.r 43)) none none⟩,
    ⟨some 45, none, .app (.reg 37) 11 112 (.r 37) (.r 44)⟩,
    ⟨some 46, none, .nilck (.r 30)⟩,
    ⟨some 47, none, .faddr 0 (.r 46)⟩,
    ⟨none, none, .store 1 (.r 47) (.r 45) [] none⟩] [])
  (.seq (.ops [⟨some 8, none, .asg (.c (.bool true))⟩] [8])
  .ret))))),
  [.r 8], none⟩
def c_hints_Set_First : VFun := ⟨1,
  (.seq (.ops [⟨some 2, none, .alloc [(.int .i64 0), (.str []), (.int .i64 0), (.int .i64 0), (.int .i64 0), (.int .i64 0), (.int .i64 0), (.int .i64 0), (.int .i64 0), (.int .i64 0), (.sl [])] []⟩,
    ⟨some 3, none, .asg (.c (.bool false))⟩] [0, 2])
  (.seq (.ops [⟨some 5, none, .mv (.r 0)⟩,
    ⟨some 6, none, .call false F.hints_Set_All [(.r 5)]⟩,
    ⟨some 4, none, .asg (.r 6)⟩] [2, 4])
  (.seq (.seq (.ops [⟨some 7, none, .mv (.r 4)⟩,
      ⟨some 8, none, .len .sl (.r 7)⟩,
      ⟨some 9, none, .bin .eql .no (.r 8) (.c (.int .i64 0))⟩] [2, 4, 9])
    (.cond (.r 9) (.seq (.ops [⟨some 10, none, .build [(.int .i64 0), (.str []), (.int .i64 0), (.int .i64 0), (.int .i64 0), (.int .i64 0), (.int .i64 0), (.int .i64 0), (.int .i64 0), (.int .i64 0), (.sl [])] []⟩,
        ⟨none, none, .store 11 (.r 2) (.r 10) [] none⟩,
        ⟨some 3, none, .asg (.c (.bool false))⟩] [2, 3])
      .ret) .skip))
  (.seq (.ops [⟨some 11, none, .mv (.r 4)⟩,
    ⟨some 12, none, .iaddr none 11 (.r 11) (.c (.int .i64 0))⟩,
    ⟨some 13, none, .load true 11 (.r 12)⟩,
    ⟨none, none, .store 11 (.r 2) (.r 13) [] none⟩,
    ⟨some 3, none, .asg (.c (.bool true))⟩] [2, 3])
  .ret)))),
  [.cell 2 true 11, .r 3], none⟩
def c_sibs_MayEntry : VFun := ⟨1,
  (.seq (.ops [⟨some 1, none, .box 10 (.r 0)⟩,
    ⟨some 2, none, .asg (.c (.bool false))⟩] [1])
  (.seq (.ops [⟨some 3, none, .faddr 0 (.r 1)⟩,
    ⟨some 4, none, .load false 1 (.r 3)⟩,
    ⟨some 5, none, .len .str (.r 4)⟩,
    ⟨some 6, none, .bin .geq .no (.r 5) (.c (.int .i64 1))⟩,
    ⟨some 7, none, .mv (.r 6)⟩,
    ⟨some 8, some (7, true), .faddr 0 (.r 1)⟩,
    ⟨some 9, some (7, true), .load false 1 (.r 8)⟩,
    ⟨some 10, some (7, true), .len .str (.r 9)⟩,
    ⟨some 11, some (7, true), .bin .leq .no (.r 10) (.c (.int .i64 32))⟩,
    ⟨some 12, none, .pick (.r 7) (.r 11) (.c (.bool false))⟩,
    ⟨some 13, none, .mv (.r 12)⟩,
    ⟨some 14, some (13, true), .faddr 1 (.r 1)⟩,
    ⟨some 15, some (13, true), .load true 9 (.r 14)⟩,
    ⟨some 16, some (13, true), .call false F.sibs_May [(.r 15)]⟩,
    ⟨some 17, none, .pick (.r 13) (.r 16) (.c (.bool false))⟩,
    ⟨some 2, none, .asg (.r 17)⟩] [2])
  .ret)),
  [.r 2], none⟩
def c_hints_Set_find : VFun := ⟨3,
  (.seq (.ops [⟨some 6, none, .asg (.c (.int .i64 0))⟩,
    ⟨some 7, none, .asg (.c (.bool false))⟩] [0, 1, 2])
  (.seq (.ops [⟨none, none, .thwc 0 0 11⟩,
    ⟨some 8, none, .mv (.r 0)⟩,
    ⟨some 9, none, .nilck (.r 8)⟩,
    ⟨some 10, none, .faddr 0 (.r 9)⟩,
    ⟨some 11, none, .load false 1 (.r 10)⟩,
    ⟨some 12, none, .mv (.r 1)⟩,
    ⟨some 13, none, .mv (.r 2)⟩,
    ⟨some 14, none, .build [(.str []), (.int .i64 0), (.int .i64 0), (.int .i64 0), (.int .i64 0), (.int .i64 0), (.int .i64 0), (.int .i64 0), (.int .i64 0), (.sl [])] [(0, 1, (.r 13))]⟩,
    ⟨some 15, none, .build [(.int .i64 0), (.str []), (.int .i64 0), (.int .i64 0), (.int .i64 0), (.int .i64 0), (.int .i64 0), (.int .i64 0), (.int .i64 0), (.int .i64 0), (.sl [])] [(0, 1, (.r 12)), (1, 10, (.r 14))]⟩,
    ⟨some 16, none, .call false F.slices_BinarySearchFunc_api_Hint_api_Hint_api_Hint [(.r 11), (.r 15), (.c (.fn F.hints_Set_find_c1 [] []))]⟩,
    ⟨some 17, none, .extract 0 (.r 16)⟩,
    ⟨some 18, none, .extract 1 (.r 16)⟩,
    ⟨some 6, none, .asg (.r 17)⟩,
    ⟨some 7, none, .asg (.r 18)⟩,
    ⟨none, none, .setc 0 0 11 true⟩] [6, 7])
  .ret)),
  [.r 6, .r 7], none⟩
def c_sibs_Join_l0 : VCode := (.seq (.ops [⟨some 25, none, .bin .lss .no (.r 24) (.r 23)⟩] [2, 3, 4, 5, 22, 23, 24, 25])
  (.seq (.cond (.r 25) .skip (.exit 0))
  (.seq (.block 1 (.seq (.ops [⟨some 26, none, .iaddr none 4 (.r 22) (.r 24)⟩,
        ⟨some 27, none, .load true 4 (.r 26)⟩,
        ⟨some 7, none, .alloc [(.int .i64 0), (.int .i64 0), (.sl []), (.bool false)] []⟩,
        ⟨none, none, .store 4 (.r 7) (.r 27) [] none⟩] [2, 3, 4, 5, 7, 22, 23, 24])
      (.seq (.ops [⟨some 29, none, .load true 9 (.r 3)⟩,
        ⟨some 30, none, .faddr 0 (.r 7)⟩,
        ⟨some 31, none, .load true 2 (.r 30)⟩,
        ⟨some 32, none, .call false F.sibs_find [(.r 29), (.r 31)]⟩,
        ⟨some 28, none, .mv (.r 32)⟩,
        ⟨some 33, none, .extract 0 (.r 28)⟩,
        ⟨some 34, none, .extract 1 (.r 28)⟩,
        ⟨some 8, none, .alloc [(.int .i64 0), (.int .i64 0), (.sl []), (.bool false)] []⟩,
        ⟨none, none, .store 4 (.r 8) (.r 33) [] none⟩,
        ⟨some 9, none, .asg (.r 34)⟩] [2, 3, 4, 5, 7, 8, 9, 22, 23, 24])
      (.seq (.ops [⟨some 35, none, .mv (.r 9)⟩] [2, 3, 4, 5, 7, 8, 22, 23, 24, 35])
      (.cond (.r 35) (.ops [⟨some 36, none, .mv (.r 5)⟩,
        ⟨some 37, none, .load true 4 (.r 7)⟩,
        ⟨some 38, none, .load true 4 (.r 8)⟩,
        ⟨some 39, none, .call false F.sibs_better [(.r 37), (.r 38)]⟩,
        ⟨some 40, none, .call false F.sibs_own [(.r 39)]⟩,
        ⟨some 41, none, .bslice (.agg [(.int .i64 0), (.int .i64 0), (.sl []), (.bool false)]) 4 1 [(0, (.r 40))]⟩,
        ⟨some 42, none, .appl 5 4 48 (.r 36) (.r 41)⟩,
        ⟨some 5, none, .asg (.r 42)⟩] [2, 3, 4, 5, 22, 23, 24]) (.seq (.ops [⟨some 43, none, .faddr 0 (.r 3)⟩,
          ⟨some 44, none, .load true 8 (.r 43)⟩,
          ⟨some 45, none, .faddr 0 (.r 7)⟩,
          ⟨some 46, none, .load true 2 (.r 45)⟩,
          ⟨some 47, none, .call false F.vector_Covers [(.r 44), (.r 46)]⟩,
          ⟨some 48, none, .un .not (.r 47)⟩] [2, 3, 4, 5, 7, 22, 23, 24, 48])
        (.cond (.r 48) (.ops [⟨some 49, none, .mv (.r 5)⟩,
          ⟨some 50, none, .load true 4 (.r 7)⟩,
          ⟨some 51, none, .call false F.sibs_own [(.r 50)]⟩,
          ⟨some 52, none, .bslice (.agg [(.int .i64 0), (.int .i64 0), (.sl []), (.bool false)]) 4 1 [(0, (.r 51))]⟩,
          ⟨some 53, none, .appl 5 4 48 (.r 49) (.r 52)⟩,
          ⟨some 5, none, .asg (.r 53)⟩] [2, 3, 4, 5, 22, 23, 24]) .skip)))))))
  (.ops [⟨some 54, none, .bin .add .no (.r 24) (.c (.int .i64 1))⟩,
  ⟨some 24, none, .mv (.r 54)⟩] [2, 3, 4, 5, 22, 23, 24]))))
def c_sibs_Join_l1 : VCode := (.seq (.ops [⟨some 59, none, .bin .lss .no (.r 58) (.r 57)⟩] [2, 3, 4, 5, 56, 57, 58, 59])
  (.seq (.cond (.r 59) .skip (.exit 2))
  (.seq (.block 3 (.seq (.ops [⟨some 60, none, .iaddr none 4 (.r 56) (.r 58)⟩,
        ⟨some 61, none, .load true 4 (.r 60)⟩,
        ⟨some 11, none, .alloc [(.int .i64 0), (.int .i64 0), (.sl []), (.bool false)] []⟩,
        ⟨none, none, .store 4 (.r 11) (.r 61) [] none⟩] [2, 3, 4, 5, 11, 56, 57, 58])
      (.seq (.ops [⟨some 62, none, .faddr 0 (.r 2)⟩,
        ⟨some 63, none, .load true 8 (.r 62)⟩,
        ⟨some 64, none, .faddr 0 (.r 11)⟩,
        ⟨some 65, none, .load true 2 (.r 64)⟩,
        ⟨some 66, none, .call false F.vector_Covers [(.r 63), (.r 65)]⟩,
        ⟨some 67, none, .un .not (.r 66)⟩] [2, 3, 4, 5, 11, 56, 57, 58, 67])
      (.cond (.r 67) (.ops [⟨some 68, none, .mv (.r 5)⟩,
        ⟨some 69, none, .load true 4 (.r 11)⟩,
        ⟨some 70, none, .call false F.sibs_own [(.r 69)]⟩,
        ⟨some 71, none, .bslice (.agg [(.int .i64 0), (.int .i64 0), (.sl []), (.bool false)]) 4 1 [(0, (.r 70))]⟩,
        ⟨some 72, none, .appl 5 4 48 (.r 68) (.r 71)⟩,
        ⟨some 5, none, .asg (.r 72)⟩] [2, 3, 4, 5, 56, 57, 58]) .skip))))
  (.ops [⟨some 73, none, .bin .add .no (.r 58) (.c (.int .i64 1))⟩,
  ⟨some 58, none, .mv (.r 73)⟩] [2, 3, 4, 5, 56, 57, 58]))))
def c_sibs_Join : VFun := ⟨2,
  (.seq (.ops [⟨some 2, none, .box 9 (.r 0)⟩,
    ⟨some 3, none, .box 9 (.r 1)⟩,
    ⟨some 4, none, .alloc [(.int .i64 0), (.int .i64 0), (.int .i64 0), (.int .i64 0), (.int .i64 0), (.int .i64 0), (.int .i64 0), (.int .i64 0), (.sl [])] []⟩] [2, 3, 4])
  (.seq (.seq (.ops [⟨some 12, none, .load true 9 (.r 2)⟩,
      ⟨some 13, none, .call false F.sibs_May [(.r 12)]⟩,
      ⟨some 14, none, .un .not (.r 13)⟩,
      ⟨some 15, none, .mv (.r 14)⟩,
      ⟨some 16, some (15, false), .load true 9 (.r 3)⟩,
      ⟨some 17, some (15, false), .call false F.sibs_May [(.r 16)]⟩,
      ⟨some 18, some (15, false), .un .not (.r 17)⟩,
      ⟨some 19, none, .pick (.r 15) (.c (.bool true)) (.r 18)⟩] [2, 3, 4, 19])
    (.cond (.r 19) (.seq (.ops [⟨some 20, none, .build [(.int .i64 0), (.int .i64 0), (.int .i64 0), (.int .i64 0), (.int .i64 0), (.int .i64 0), (.int .i64 0), (.int .i64 0), (.sl [])] []⟩,
        ⟨none, none, .store 9 (.r 4) (.r 20) [] none⟩] [4])
      .ret) .skip))
  (.seq (.ops [⟨some 5, none, .newl 4⟩] [2, 3, 4, 5])
  (.seq (.seq (.ops [⟨some 21, none, .faddr 8 (.r 2)⟩,
      ⟨some 22, none, .load false 1 (.r 21)⟩,
      ⟨some 23, none, .len .sl (.r 22)⟩,
      ⟨some 24, none, .mv (.c (.int .i64 0))⟩] [2, 3, 4, 5, 22, 23, 24])
    (.block 0 (.loop [2, 3, 4, 5, 22, 23, 24] [(5, 0, 1000004)] c_sibs_Join_l0)))
  (.seq (.seq (.ops [⟨some 55, none, .faddr 8 (.r 3)⟩,
      ⟨some 56, none, .load false 1 (.r 55)⟩,
      ⟨some 57, none, .len .sl (.r 56)⟩,
      ⟨some 58, none, .mv (.c (.int .i64 0))⟩] [2, 3, 4, 5, 56, 57, 58])
    (.block 2 (.loop [2, 3, 4, 5, 56, 57, 58] [(5, 0, 1000004)] c_sibs_Join_l1)))
  (.seq (.ops [⟨some 74, none, .mv (.r 5)⟩,
    ⟨some 75, none, .calll F.sibs_sorted 5 4 sortV (.r 74) []⟩,
    ⟨some 5, none, .asg (.r 75)⟩,
    ⟨some 5, none, .frzl 5 4⟩] [2, 3, 4, 5])
  (.seq (.dops 10 [⟨some 76, none, .faddr 0 (.r 2)⟩,
    ⟨some 77, none, .load true 8 (.r 76)⟩,
    ⟨some 78, none, .faddr 0 (.r 3)⟩,
    ⟨some 79, none, .load true 8 (.r 78)⟩,
    ⟨some 80, none, .call true F.vector_Join [(.r 77), (.r 79)]⟩,
    ⟨some 81, none, .mv (.r 5)⟩,
    ⟨some 82, none, .mv (.r 5)⟩,
    ⟨some 83, none, .len .sl (.r 82)⟩,
    ⟨some 84, none, .mn [(.r 83), (.c (.int .i64 16))]⟩,
    ⟨some 85, none, .slice false 4 (.r 81) none (some (.r 84)) none⟩,
    ⟨some 86, none, .build [(.int .i64 0), (.int .i64 0), (.int .i64 0), (.int .i64 0), (.int .i64 0), (.int .i64 0), (.int .i64 0), (.int .i64 0), (.sl [])] [(0, 8, (.r 80)), (8, 1, (.r 85))]⟩,
    ⟨none, none, .store 9 (.r 4) (.r 86) [] none⟩] [4])
  .ret))))))),
  [.cell 4 true 9], none⟩
def c_sibs_Same : VFun := ⟨2,
  (.seq (.ops [⟨some 2, none, .box 9 (.r 0)⟩,
    ⟨some 3, none, .box 9 (.r 1)⟩,
    ⟨some 4, none, .asg (.c (.bool false))⟩] [2, 3])
  (.seq (.ops [⟨some 5, none, .faddr 0 (.r 2)⟩,
    ⟨some 6, none, .load true 8 (.r 5)⟩,
    ⟨some 7, none, .faddr 0 (.r 3)⟩,
    ⟨some 8, none, .load true 8 (.r 7)⟩,
    ⟨some 9, none, .bin .eql (.agg [.i, .i, .i, .i, .i, .i, .i, .i]) (.r 6) (.r 8)⟩,
    ⟨some 10, none, .mv (.r 9)⟩,
    ⟨some 11, some (10, true), .faddr 8 (.r 2)⟩,
    ⟨some 12, some (10, true), .load false 1 (.r 11)⟩,
    ⟨some 13, some (10, true), .faddr 8 (.r 3)⟩,
    ⟨some 14, some (10, true), .load false 1 (.r 13)⟩,
    ⟨some 15, some (10, true), .call false F.slices_EqualFunc_api_Value_api_Value_api_Value_api_Value [(.r 12), (.r 14), (.c (.fn F.sibs_Same_c1 [] []))]⟩,
    ⟨some 16, none, .pick (.r 10) (.r 15) (.c (.bool false))⟩,
    ⟨some 4, none, .asg (.r 16)⟩] [4])
  .ret)),
  [.r 4], none⟩
def c_hints_copied : VFun := ⟨1,
  (.seq (.ops [⟨some 1, none, .box 11 (.r 0)⟩,
    ⟨some 2, none, .alloc [(.int .i64 0), (.str []), (.int .i64 0), (.int .i64 0), (.int .i64 0), (.int .i64 0), (.int .i64 0), (.int .i64 0), (.int .i64 0), (.int .i64 0), (.sl [])] []⟩] [1, 2])
  (.seq (.ops [⟨some 3, none, .faddr 1 (.r 1)⟩,
    ⟨some 4, none, .faddr 1 (.r 3)⟩,
    ⟨some 5, none, .load true 9 (.r 4)⟩,
    ⟨some 6, none, .faddr 1 (.r 1)⟩,
    ⟨some 7, none, .faddr 1 (.r 6)⟩,
    ⟨some 8, none, .load true 9 (.r 7)⟩,
    ⟨some 9, none, .call false F.sibs_Join [(.r 5), (.r 8)]⟩,
    ⟨some 10, none, .faddr 1 (.r 1)⟩,
    ⟨some 11, none, .faddr 1 (.r 10)⟩,
    ⟨none, none, .store 9 (.r 11) (.r 9) [] none⟩] [1, 2])
  (.seq (.ops [⟨some 12, none, .load true 11 (.r 1)⟩,
    ⟨none, none, .store 11 (.r 2) (.r 12) [] none⟩] [2])
  .ret))),
  [.cell 2 true 11], none⟩
def c_tattlerref5_May_l0 : VCode := (.seq (.ops [⟨some 19, none, .bin .lss .no (.r 18) (.r 17)⟩] [1, 16, 17, 18, 19])
  (.seq (.cond (.r 19) .skip (.exit 0))
  (.seq (.block 1 (.seq (.ops [⟨some 20, none, .mv (.r 18)⟩,
        ⟨some 21, none, .iaddr none 4 (.r 16) (.r 18)⟩,
        ⟨some 22, none, .load true 4 (.r 21)⟩,
        ⟨some 4, none, .alloc [(.int .i64 0), (.int .i64 0), (.sl []), (.bool false)] []⟩,
        ⟨some 3, none, .asg (.r 20)⟩,
        ⟨none, none, .store 4 (.r 4) (.r 22) [] none⟩] [1, 3, 4, 16, 17, 18])
      (.seq (.dops 19 [⟨some 23, none, .faddr 0 (.r 1)⟩,
        ⟨some 24, none, .load true 8 (.r 23)⟩,
        ⟨some 25, none, .faddr 0 (.r 4)⟩,
        ⟨some 26, none, .load true 2 (.r 25)⟩,
        ⟨some 27, none, .call true F.tattlerref1_Covers [(.r 24), (.r 26)]⟩,
        ⟨some 28, none, .un .not (.r 27)⟩,
        ⟨some 29, none, .mv (.r 28)⟩,
        ⟨some 30, some (29, false), .mv (.r 3)⟩,
        ⟨some 31, some (29, false), .bin .gtr .no (.r 30) (.c (.int .i64 0))⟩,
        ⟨some 32, some (29, false), .mv (.r 31)⟩,
        ⟨some 33, some (32, true), .faddr 8 (.r 1)⟩,
        ⟨some 34, some (32, true), .load false 1 (.r 33)⟩,
        ⟨some 35, some (32, true), .mv (.r 3)⟩,
        ⟨some 36, some (32, true), .bin .sub .no (.r 35) (.c (.int .i64 1))⟩,
        ⟨some 37, some (32, true), .iaddr none 4 (.r 34) (.r 36)⟩,
        ⟨some 38, some (32, true), .faddr 0 (.r 37)⟩,
        ⟨some 39, some (32, true), .load true 2 (.r 38)⟩,
        ⟨some 40, some (32, true), .faddr 0 (.r 4)⟩,
        ⟨some 41, some (32, true), .load true 2 (.r 40)⟩,
        ⟨some 42, some (32, true), .call false F.tattlerref1_Less [(.r 39), (.r 41)]⟩,
        ⟨some 43, some (32, true), .un .not (.r 42)⟩,
        ⟨some 44, some (29, false), .pick (.r 32) (.r 43) (.c (.bool false))⟩,
        ⟨some 45, none, .pick (.r 29) (.c (.bool true)) (.r 44)⟩,
        ⟨some 46, none, .mv (.r 45)⟩,
        ⟨some 47, some (46, false), .faddr 2 (.r 4)⟩,
        ⟨some 48, some (46, false), .load false 1 (.r 47)⟩,
        ⟨some 49, some (46, false), .len .sl (.r 48)⟩,
        ⟨some 50, some (46, false), .bin .gtr .no (.r 49) (.c (.int .i64 200))⟩,
        ⟨some 51, none, .pick (.r 46) (.c (.bool true)) (.r 50)⟩,
        ⟨some 52, none, .mv (.r 51)⟩,
        ⟨some 53, some (52, false), .faddr 3 (.r 4)⟩,
        ⟨some 54, some (52, false), .load false 1 (.r 53)⟩,
        ⟨some 55, some (52, false), .mv (.r 54)⟩,
        ⟨some 56, some (55, true), .faddr 2 (.r 4)⟩,
        ⟨some 57, some (55, true), .load false 1 (.r 56)⟩,
        ⟨some 58, some (55, true), .len .sl (.r 57)⟩,
        ⟨some 59, some (55, true), .bin .gtr .no (.r 58) (.c (.int .i64 0))⟩,
        ⟨some 60, some (52, false), .pick (.r 55) (.r 59) (.c (.bool false))⟩,
        ⟨some 61, none, .pick (.r 52) (.c (.bool true)) (.r 60)⟩] [1, 16, 17, 18, 61])
      (.cond (.r 61) (.seq (.ops [⟨some 2, none, .asg (.c (.bool false))⟩] [2])
        .ret) .skip))))
  (.ops [⟨some 62, none, .bin .add .no (.r 18) (.c (.int .i64 1))⟩,
  ⟨some 18, none, .mv (.r 62)⟩] [1, 16, 17, 18]))))
def c_tattlerref5_May : VFun := ⟨1,
  (.seq (.ops [⟨some 1, none, .box 9 (.r 0)⟩,
    ⟨some 2, none, .asg (.c (.bool false))⟩] [1])
  (.seq (.seq (.ops [⟨some 5, none, .faddr 0 (.r 1)⟩,
      ⟨some 6, none, .load true 8 (.r 5)⟩,
      ⟨some 7, none, .call false F.tattlerref1_May [(.r 6)]⟩,
      ⟨some 8, none, .un .not (.r 7)⟩,
      ⟨some 9, none, .mv (.r 8)⟩,
      ⟨some 10, some (9, false), .faddr 8 (.r 1)⟩,
      ⟨some 11, some (9, false), .load false 1 (.r 10)⟩,
      ⟨some 12, some (9, false), .len .sl (.r 11)⟩,
      ⟨some 13, some (9, false), .bin .gtr .no (.r 12) (.c (.int .i64 16))⟩,
      ⟨some 14, none, .pick (.r 9) (.c (.bool true)) (.r 13)⟩] [1, 14])
    (.cond (.r 14) (.seq (.ops [⟨some 2, none, .asg (.c (.bool false))⟩] [2])
      .ret) .skip))
  (.seq (.seq (.ops [⟨some 15, none, .faddr 8 (.r 1)⟩,
      ⟨some 16, none, .load false 1 (.r 15)⟩,
      ⟨some 17, none, .len .sl (.r 16)⟩,
      ⟨some 18, none, .mv (.c (.int .i64 0))⟩] [1, 16, 17, 18])
    (.block 0 (.loop [1, 16, 17, 18] [] c_tattlerref5_May_l0)))
  (.seq (.ops [⟨some 2, none, .asg (.c (.bool true))⟩] [2])
  .ret)))),
  [.r 2], none⟩
def c_tattlerref5_Same_l0 : VCode := (.seq (.ops [⟨some 26, none, .bin .lss .no (.r 25) (.r 24)⟩] [3, 23, 24, 25, 26])
  (.seq (.cond (.r 26) .skip (.exit 0))
  (.seq (.block 1 (.seq (.ops [⟨some 27, none, .mv (.r 25)⟩,
        ⟨some 28, none, .iaddr none 4 (.r 23) (.r 25)⟩,
        ⟨some 29, none, .load true 4 (.r 28)⟩,
        ⟨some 6, none, .alloc [(.int .i64 0), (.int .i64 0), (.sl []), (.bool false)] []⟩,
        ⟨some 5, none, .asg (.r 27)⟩,
        ⟨none, none, .store 4 (.r 6) (.r 29) [] none⟩] [3, 5, 6, 23, 24, 25])
      (.seq (.ops [⟨some 30, none, .faddr 8 (.r 3)⟩,
        ⟨some 31, none, .load false 1 (.r 30)⟩,
        ⟨some 32, none, .mv (.r 5)⟩,
        ⟨some 33, none, .iaddr none 4 (.r 31) (.r 32)⟩,
        ⟨some 34, none, .load true 4 (.r 33)⟩,
        ⟨some 7, none, .alloc [(.int .i64 0), (.int .i64 0), (.sl []), (.bool false)] []⟩,
        ⟨none, none, .store 4 (.r 7) (.r 34) [] none⟩] [3, 6, 7, 23, 24, 25])
      (.seq (.ops [⟨some 35, none, .faddr 0 (.r 6)⟩,
        ⟨some 36, none, .load true 2 (.r 35)⟩,
        ⟨some 37, none, .faddr 0 (.r 7)⟩,
        ⟨some 38, none, .load true 2 (.r 37)⟩,
        ⟨some 39, none, .bin .neq (.agg [.i, .i]) (.r 36) (.r 38)⟩,
        ⟨some 40, none, .mv (.r 39)⟩,
        ⟨some 41, some (40, false), .faddr 3 (.r 6)⟩,
        ⟨some 42, some (40, false), .load false 1 (.r 41)⟩,
        ⟨some 43, some (40, false), .faddr 3 (.r 7)⟩,
        ⟨some 44, some (40, false), .load false 1 (.r 43)⟩,
        ⟨some 45, some (40, false), .bin .neq .bool (.r 42) (.r 44)⟩,
        ⟨some 46, none, .pick (.r 40) (.c (.bool true)) (.r 45)⟩,
        ⟨some 47, none, .mv (.r 46)⟩,
        ⟨some 48, some (47, false), .faddr 2 (.r 6)⟩,
        ⟨some 49, some (47, false), .load false 1 (.r 48)⟩,
        ⟨some 50, some (47, false), .conv .strOfBytes (.r 49)⟩,
        ⟨some 51, some (47, false), .faddr 2 (.r 7)⟩,
        ⟨some 52, some (47, false), .load false 1 (.r 51)⟩,
        ⟨some 53, some (47, false), .conv .strOfBytes (.r 52)⟩,
        ⟨some 54, some (47, false), .bin .neq .no (.r 50) (.r 53)⟩,
        ⟨some 55, none, .pick (.r 47) (.c (.bool true)) (.r 54)⟩] [3, 23, 24, 25, 55])
      (.cond (.r 55) (.seq (.ops [⟨some 4, none, .asg (.c (.bool false))⟩] [4])
        .ret) .skip)))))
  (.ops [⟨some 56, none, .bin .add .no (.r 25) (.c (.int .i64 1))⟩,
  ⟨some 25, none, .mv (.r 56)⟩] [3, 23, 24, 25]))))
def c_tattlerref5_Same : VFun := ⟨2,
  (.seq (.ops [⟨some 2, none, .box 9 (.r 0)⟩,
    ⟨some 3, none, .box 9 (.r 1)⟩,
    ⟨some 4, none, .asg (.c (.bool false))⟩] [2, 3])
  (.seq (.seq (.ops [⟨some 8, none, .faddr 0 (.r 2)⟩,
      ⟨some 9, none, .load true 8 (.r 8)⟩,
      ⟨some 10, none, .faddr 0 (.r 3)⟩,
      ⟨some 11, none, .load true 8 (.r 10)⟩,
      ⟨some 12, none, .bin .neq (.agg [.i, .i, .i, .i, .i, .i, .i, .i]) (.r 9) (.r 11)⟩,
      ⟨some 13, none, .mv (.r 12)⟩,
      ⟨some 14, some (13, false), .faddr 8 (.r 2)⟩,
      ⟨some 15, some (13, false), .load false 1 (.r 14)⟩,
      ⟨some 16, some (13, false), .len .sl (.r 15)⟩,
      ⟨some 17, some (13, false), .faddr 8 (.r 3)⟩,
      ⟨some 18, some (13, false), .load false 1 (.r 17)⟩,
      ⟨some 19, some (13, false), .len .sl (.r 18)⟩,
      ⟨some 20, some (13, false), .bin .neq .no (.r 16) (.r 19)⟩,
      ⟨some 21, none, .pick (.r 13) (.c (.bool true)) (.r 20)⟩] [2, 3, 21])
    (.cond (.r 21) (.seq (.ops [⟨some 4, none, .asg (.c (.bool false))⟩] [4])
      .ret) .skip))
  (.seq (.seq (.ops [⟨some 22, none, .faddr 8 (.r 2)⟩,
      ⟨some 23, none, .load false 1 (.r 22)⟩,
      ⟨some 24, none, .len .sl (.r 23)⟩,
      ⟨some 25, none, .mv (.c (.int .i64 0))⟩] [3, 23, 24, 25])
    (.block 0 (.loop [3, 23, 24, 25] [] c_tattlerref5_Same_l0)))
  (.seq (.ops [⟨some 4, none, .asg (.c (.bool true))⟩] [4])
  .ret)))),
  [.r 4], none⟩
def c_tattlerref5_Join_l0 : VCode := (.seq (.ops [⟨some 30, none, .bin .lss .no (.r 29) (.r 28)⟩] [2, 3, 4, 5, 27, 28, 29, 30])
  (.seq (.cond (.r 30) .skip (.exit 0))
  (.seq (.block 1 (.seq (.ops [⟨some 31, none, .iaddr none 4 (.r 27) (.r 29)⟩,
        ⟨some 32, none, .load true 4 (.r 31)⟩,
        ⟨some 7, none, .alloc [(.int .i64 0), (.int .i64 0), (.sl []), (.bool false)] []⟩,
        ⟨none, none, .store 4 (.r 7) (.r 32) [] none⟩] [2, 3, 4, 5, 7, 27, 28, 29])
      (.seq (.ops [⟨some 33, none, .load true 9 (.r 3)⟩,
        ⟨some 34, none, .faddr 0 (.r 7)⟩,
        ⟨some 35, none, .load true 2 (.r 34)⟩,
        ⟨some 36, none, .call false F.tattlerref5_find [(.r 33), (.r 35)]⟩,
        ⟨some 8, none, .asg (.r 36)⟩] [2, 3, 4, 5, 7, 8, 27, 28, 29])
      (.seq (.ops [⟨some 37, none, .mv (.r 8)⟩,
        ⟨some 38, none, .bin .geq .no (.r 37) (.c (.int .i64 0))⟩] [2, 3, 4, 5, 7, 8, 27, 28, 29, 38])
      (.cond (.r 38) (.dops 10 [⟨some 39, none, .faddr 8 (.r 5)⟩,
        ⟨some 40, none, .load false 1 (.r 39)⟩,
        ⟨some 41, none, .load true 4 (.r 7)⟩,
        ⟨some 42, none, .faddr 8 (.r 3)⟩,
        ⟨some 43, none, .load false 1 (.r 42)⟩,
        ⟨some 44, none, .mv (.r 8)⟩,
        ⟨some 45, none, .iaddr none 4 (.r 43) (.r 44)⟩,
        ⟨some 46, none, .load true 4 (.r 45)⟩,
        ⟨some 47, none, .call true F.tattlerref5_first [(.r 41), (.r 46)]⟩,
        ⟨some 48, none, .call true F.tattlerref5_copied [(.r 47)]⟩,
        ⟨some 49, none, .call false F.tattlerref5_insert [(.r 40), (.r 48)]⟩,
        ⟨some 50, none, .faddr 8 (.r 5)⟩,
        ⟨none, none, .store 1 (.r 50) (.r 49) [] none⟩] [2, 3, 4, 5, 27, 28, 29]) (.seq (.ops [⟨some 51, none, .faddr 0 (.r 3)⟩,
          ⟨some 52, none, .load true 8 (.r 51)⟩,
          ⟨some 53, none, .faddr 0 (.r 7)⟩,
          ⟨some 54, none, .load true 2 (.r 53)⟩,
          ⟨some 55, none, .call false F.tattlerref1_Covers [(.r 52), (.r 54)]⟩,
          ⟨some 56, none, .un .not (.r 55)⟩] [2, 3, 4, 5, 7, 27, 28, 29, 56])
        (.cond (.r 56) (.dops 4 [⟨some 57, none, .faddr 8 (.r 5)⟩,
          ⟨some 58, none, .load false 1 (.r 57)⟩,
          ⟨some 59, none, .load true 4 (.r 7)⟩,
          ⟨some 60, none, .call true F.tattlerref5_copied [(.r 59)]⟩,
          ⟨some 61, none, .call false F.tattlerref5_insert [(.r 58), (.r 60)]⟩,
          ⟨some 62, none, .faddr 8 (.r 5)⟩,
          ⟨none, none, .store 1 (.r 62) (.r 61) [] none⟩] [2, 3, 4, 5, 27, 28, 29]) .skip)))))))
  (.ops [⟨some 63, none, .bin .add .no (.r 29) (.c (.int .i64 1))⟩,
  ⟨some 29, none, .mv (.r 63)⟩] [2, 3, 4, 5, 27, 28, 29]))))
def c_tattlerref5_Join_l1 : VCode := (.seq (.ops [⟨some 68, none, .bin .lss .no (.r 67) (.r 66)⟩] [2, 4, 5, 65, 66, 67, 68])
  (.seq (.cond (.r 68) .skip (.exit 2))
  (.seq (.block 3 (.seq (.ops [⟨some 69, none, .iaddr none 4 (.r 65) (.r 67)⟩,
        ⟨some 70, none, .load true 4 (.r 69)⟩,
        ⟨some 10, none, .alloc [(.int .i64 0), (.int .i64 0), (.sl []), (.bool false)] []⟩,
        ⟨none, none, .store 4 (.r 10) (.r 70) [] none⟩] [2, 4, 5, 10, 65, 66, 67])
      (.seq (.ops [⟨some 71, none, .load true 9 (.r 2)⟩,
        ⟨some 72, none, .faddr 0 (.r 10)⟩,
        ⟨some 73, none, .load true 2 (.r 72)⟩,
        ⟨some 74, none, .call false F.tattlerref5_find [(.r 71), (.r 73)]⟩,
        ⟨some 75, none, .bin .lss .no (.r 74) (.c (.int .i64 0))⟩,
        ⟨some 76, none, .mv (.r 75)⟩,
        ⟨some 77, some (76, true), .faddr 0 (.r 2)⟩,
        ⟨some 78, some (76, true), .load true 8 (.r 77)⟩,
        ⟨some 79, some (76, true), .faddr 0 (.r 10)⟩,
        ⟨some 80, some (76, true), .load true 2 (.r 79)⟩,
        ⟨some 81, some (76, true), .call false F.tattlerref1_Covers [(.r 78), (.r 80)]⟩,
        ⟨some 82, some (76, true), .un .not (.r 81)⟩,
        ⟨some 83, none, .pick (.r 76) (.r 82) (.c (.bool false))⟩] [2, 4, 5, 10, 65, 66, 67, 83])
      (.cond (.r 83) (.dops 4 [⟨some 84, none, .faddr 8 (.r 5)⟩,
        ⟨some 85, none, .load false 1 (.r 84)⟩,
        ⟨some 86, none, .load true 4 (.r 10)⟩,
        ⟨some 87, none, .call true F.tattlerref5_copied [(.r 86)]⟩,
        ⟨some 88, none, .call false F.tattlerref5_insert [(.r 85), (.r 87)]⟩,
        ⟨some 89, none, .faddr 8 (.r 5)⟩,
        ⟨none, none, .store 1 (.r 89) (.r 88) [] none⟩] [2, 4, 5, 65, 66, 67]) .skip))))
  (.ops [⟨some 90, none, .bin .add .no (.r 67) (.c (.int .i64 1))⟩,
  ⟨some 67, none, .mv (.r 90)⟩] [2, 4, 5, 65, 66, 67]))))
def c_tattlerref5_Join : VFun := ⟨2,
  (.seq (.ops [⟨some 2, none, .box 9 (.r 0)⟩,
    ⟨some 3, none, .box 9 (.r 1)⟩,
    ⟨some 4, none, .alloc [(.int .i64 0), (.int .i64 0), (.int .i64 0), (.int .i64 0), (.int .i64 0), (.int .i64 0), (.int .i64 0), (.int .i64 0), (.sl [])] []⟩] [2, 3, 4])
  (.seq (.seq (.ops [⟨some 11, none, .load true 9 (.r 2)⟩,
      ⟨some 12, none, .call false F.tattlerref5_May [(.r 11)]⟩,
      ⟨some 13, none, .un .not (.r 12)⟩,
      ⟨some 14, none, .mv (.r 13)⟩,
      ⟨some 15, some (14, false), .load true 9 (.r 3)⟩,
      ⟨some 16, some (14, false), .call false F.tattlerref5_May [(.r 15)]⟩,
      ⟨some 17, some (14, false), .un .not (.r 16)⟩,
      ⟨some 18, none, .pick (.r 14) (.c (.bool true)) (.r 17)⟩] [2, 3, 4, 18])
    (.cond (.r 18) (.seq (.ops [⟨some 19, none, .build [(.int .i64 0), (.int .i64 0), (.int .i64 0), (.int .i64 0), (.int .i64 0), (.int .i64 0), (.int .i64 0), (.int .i64 0), (.sl [])] []⟩,
        ⟨none, none, .store 9 (.r 4) (.r 19) [] none⟩] [4])
      .ret) .skip))
  (.seq (.ops [⟨some 20, none, .faddr 0 (.r 2)⟩,
    ⟨some 21, none, .load true 8 (.r 20)⟩,
    ⟨some 22, none, .faddr 0 (.r 3)⟩,
    ⟨some 23, none, .load true 8 (.r 22)⟩,
    ⟨some 24, none, .call false F.tattlerref1_Join [(.r 21), (.r 23)]⟩,
    ⟨some 25, none, .build [(.int .i64 0), (.int .i64 0), (.int .i64 0), (.int .i64 0), (.int .i64 0), (.int .i64 0), (.int .i64 0), (.int .i64 0), (.sl [])] [(0, 8, (.r 24))]⟩,
    ⟨some 5, none, .alloc [(.int .i64 0), (.int .i64 0), (.int .i64 0), (.int .i64 0), (.int .i64 0), (.int .i64 0), (.int .i64 0), (.int .i64 0), (.sl [])] []⟩,
    ⟨none, none, .store 9 (.r 5) (.r 25) [] none⟩] [2, 3, 4, 5])
  (.seq (.seq (.ops [⟨some 26, none, .faddr 8 (.r 2)⟩,
      ⟨some 27, none, .load false 1 (.r 26)⟩,
      ⟨some 28, none, .len .sl (.r 27)⟩,
      ⟨some 29, none, .mv (.c (.int .i64 0))⟩] [2, 3, 4, 5, 27, 28, 29])
    (.block 0 (.loop [2, 3, 4, 5, 27, 28, 29] [] c_tattlerref5_Join_l0)))
  (.seq (.seq (.ops [⟨some 64, none, .faddr 8 (.r 3)⟩,
      ⟨some 65, none, .load false 1 (.r 64)⟩,
      ⟨some 66, none, .len .sl (.r 65)⟩,
      ⟨some 67, none, .mv (.c (.int .i64 0))⟩] [2, 4, 5, 65, 66, 67])
    (.block 2 (.loop [2, 4, 5, 65, 66, 67] [] c_tattlerref5_Join_l1)))
  (.seq (.seq (.ops [⟨some 91, none, .faddr 8 (.r 5)⟩,
      ⟨some 92, none, .load false 1 (.r 91)⟩,
      ⟨some 93, none, .len .sl (.r 92)⟩,
      ⟨some 94, none, .bin .gtr .no (.r 93) (.c (.int .i64 16))⟩] [4, 5, 94])
    (.cond (.r 94) (.ops [⟨some 95, none, .faddr 8 (.r 5)⟩,
      ⟨some 96, none, .load false 1 (.r 95)⟩,
      ⟨some 97, none, .slice false 4 (.r 96) none (some (.c (.int .i64 16))) none⟩,
      ⟨some 98, none, .faddr 8 (.r 5)⟩,
      ⟨none, none, .store 1 (.r 98) (.r 97) [] none⟩] [4, 5]) .skip))
  (.seq (.ops [⟨some 99, none, .load true 9 (.r 5)⟩,
    ⟨none, none, .store 9 (.r 4) (.r 99) [] none⟩] [4])
  .ret))))))),
  [.cell 4 true 9], none⟩
def c_sibs_May_l0 : VCode := (.seq (.ops [⟨some 19, none, .bin .lss .no (.r 18) (.r 17)⟩] [1, 16, 17, 18, 19])
  (.seq (.cond (.r 19) .skip (.exit 0))
  (.seq (.block 1 (.seq (.ops [⟨some 20, none, .mv (.r 18)⟩,
        ⟨some 21, none, .iaddr none 4 (.r 16) (.r 18)⟩,
        ⟨some 22, none, .load true 4 (.r 21)⟩,
        ⟨some 4, none, .alloc [(.int .i64 0), (.int .i64 0), (.sl []), (.bool false)] []⟩,
        ⟨some 3, none, .asg (.r 20)⟩,
        ⟨none, none, .store 4 (.r 4) (.r 22) [] none⟩] [1, 3, 4, 16, 17, 18])
      (.seq (.dops 24 [⟨some 23, none, .load true 4 (.r 4)⟩,
        ⟨some 24, none, .call true F.sibs_mayValue [(.r 23)]⟩,
        ⟨some 25, none, .un .not (.r 24)⟩,
        ⟨some 26, none, .mv (.r 25)⟩,
        ⟨some 27, some (26, false), .faddr 0 (.r 1)⟩,
        ⟨some 28, some (26, false), .load true 8 (.r 27)⟩,
        ⟨some 29, some (26, false), .faddr 0 (.r 4)⟩,
        ⟨some 30, some (26, false), .load true 2 (.r 29)⟩,
        ⟨some 31, some (26, false), .call true F.vector_Covers [(.r 28), (.r 30)]⟩,
        ⟨some 32, some (26, false), .un .not (.r 31)⟩,
        ⟨some 33, none, .pick (.r 26) (.c (.bool true)) (.r 32)⟩,
        ⟨some 34, none, .mv (.r 33)⟩,
        ⟨some 35, some (34, false), .mv (.r 3)⟩,
        ⟨some 36, some (34, false), .bin .gtr .no (.r 35) (.c (.int .i64 0))⟩,
        ⟨some 37, some (34, false), .mv (.r 36)⟩,
        ⟨some 38, some (37, true), .faddr 8 (.r 1)⟩,
        ⟨some 39, some (37, true), .load false 1 (.r 38)⟩,
        ⟨some 40, some (37, true), .mv (.r 3)⟩,
        ⟨some 41, some (37, true), .bin .sub .no (.r 40) (.c (.int .i64 1))⟩,
        ⟨some 42, some (37, true), .iaddr none 4 (.r 39) (.r 41)⟩,
        ⟨some 43, some (37, true), .faddr 0 (.r 42)⟩,
        ⟨some 44, some (37, true), .load true 2 (.r 43)⟩,
        ⟨some 45, some (37, true), .faddr 0 (.r 4)⟩,
        ⟨some 46, some (37, true), .load true 2 (.r 45)⟩,
        ⟨some 47, some (37, true), .call false F.vector_Less [(.r 44), (.r 46)]⟩,
        ⟨some 48, some (37, true), .un .not (.r 47)⟩,
        ⟨some 49, some (34, false), .pick (.r 37) (.r 48) (.c (.bool false))⟩,
        ⟨some 50, none, .pick (.r 34) (.c (.bool true)) (.r 49)⟩] [1, 16, 17, 18, 50])
      (.cond (.r 50) (.seq (.ops [⟨some 2, none, .asg (.c (.bool false))⟩] [2])
        .ret) .skip))))
  (.ops [⟨some 51, none, .bin .add .no (.r 18) (.c (.int .i64 1))⟩,
  ⟨some 18, none, .mv (.r 51)⟩] [1, 16, 17, 18]))))
def c_sibs_May : VFun := ⟨1,
  (.seq (.ops [⟨some 1, none, .box 9 (.r 0)⟩,
    ⟨some 2, none, .asg (.c (.bool false))⟩] [1])
  (.seq (.seq (.ops [⟨some 5, none, .faddr 0 (.r 1)⟩,
      ⟨some 6, none, .load true 8 (.r 5)⟩,
      ⟨some 7, none, .call false F.vector_May [(.r 6)]⟩,
      ⟨some 8, none, .un .not (.r 7)⟩,
      ⟨some 9, none, .mv (.r 8)⟩,
      ⟨some 10, some (9, false), .faddr 8 (.r 1)⟩,
      ⟨some 11, some (9, false), .load false 1 (.r 10)⟩,
      ⟨some 12, some (9, false), .len .sl (.r 11)⟩,
      ⟨some 13, some (9, false), .bin .gtr .no (.r 12) (.c (.int .i64 16))⟩,
      ⟨some 14, none, .pick (.r 9) (.c (.bool true)) (.r 13)⟩] [1, 14])
    (.cond (.r 14) (.seq (.ops [⟨some 2, none, .asg (.c (.bool false))⟩] [2])
      .ret) .skip))
  (.seq (.seq (.ops [⟨some 15, none, .faddr 8 (.r 1)⟩,
      ⟨some 16, none, .load false 1 (.r 15)⟩,
      ⟨some 17, none, .len .sl (.r 16)⟩,
      ⟨some 18, none, .mv (.c (.int .i64 0))⟩] [1, 16, 17, 18])
    (.block 0 (.loop [1, 16, 17, 18] [] c_sibs_May_l0)))
  (.seq (.ops [⟨some 2, none, .asg (.c (.bool true))⟩] [2])
  .ret)))),
  [.r 2], none⟩
def c_tattlerref5_MayEntry : VFun := ⟨1,
  (.seq (.ops [⟨some 1, none, .box 10 (.r 0)⟩,
    ⟨some 2, none, .asg (.c (.bool false))⟩] [1])
  (.seq (.ops [⟨some 3, none, .faddr 0 (.r 1)⟩,
    ⟨some 4, none, .load false 1 (.r 3)⟩,
    ⟨some 5, none, .call false F.tattlerref5_MayKey [(.r 4)]⟩,
    ⟨some 6, none, .mv (.r 5)⟩,
    ⟨some 7, some (6, true), .faddr 1 (.r 1)⟩,
    ⟨some 8, some (6, true), .load true 9 (.r 7)⟩,
    ⟨some 9, some (6, true), .call false F.tattlerref5_May [(.r 8)]⟩,
    ⟨some 10, none, .pick (.r 6) (.r 9) (.c (.bool false))⟩,
    ⟨some 2, none, .asg (.r 10)⟩] [2])
  .ret)),
  [.r 2], none⟩
def c_tattlerref5_Hints_at_l0 : VCode := (.seq (.ops [⟨some 15, none, .bin .lss .no (.r 14) (.r 13)⟩] [1, 2, 12, 13, 14, 15])
  (.seq (.cond (.r 15) .skip (.exit 0))
  (.seq (.block 1 (.seq (.ops [⟨some 16, none, .mv (.r 14)⟩,
        ⟨some 17, none, .iaddr none 11 (.r 12) (.r 14)⟩,
        ⟨some 18, none, .load true 11 (.r 17)⟩,
        ⟨some 8, none, .alloc [(.int .i64 0), (.str []), (.int .i64 0), (.int .i64 0), (.int .i64 0), (.int .i64 0), (.int .i64 0), (.int .i64 0), (.int .i64 0), (.int .i64 0), (.sl [])] []⟩,
        ⟨some 7, none, .asg (.r 16)⟩,
        ⟨none, none, .store 11 (.r 8) (.r 18) [] none⟩] [1, 2, 7, 8, 12, 13, 14])
      (.seq (.ops [⟨some 19, none, .faddr 0 (.r 8)⟩,
        ⟨some 20, none, .load false 1 (.r 19)⟩,
        ⟨some 21, none, .mv (.r 1)⟩,
        ⟨some 22, none, .bin .eql .no (.r 20) (.r 21)⟩,
        ⟨some 23, none, .mv (.r 22)⟩,
        ⟨some 24, some (23, true), .faddr 1 (.r 8)⟩,
        ⟨some 25, some (23, true), .faddr 0 (.r 24)⟩,
        ⟨some 26, some (23, true), .load false 1 (.r 25)⟩,
        ⟨some 27, some (23, true), .mv (.r 2)⟩,
        ⟨some 28, some (23, true), .bin .eql .no (.r 26) (.r 27)⟩,
        ⟨some 29, none, .pick (.r 23) (.r 28) (.c (.bool false))⟩] [1, 2, 7, 12, 13, 14, 29])
      (.cond (.r 29) (.seq (.ops [⟨some 30, none, .mv (.r 7)⟩,
          ⟨some 6, none, .asg (.r 30)⟩] [6])
        .ret) .skip))))
  (.ops [⟨some 31, none, .bin .add .no (.r 14) (.c (.int .i64 1))⟩,
  ⟨some 14, none, .mv (.r 31)⟩] [1, 2, 12, 13, 14]))))
def c_tattlerref5_Hints_at : VFun := ⟨3,
  (.seq (.ops [⟨some 6, none, .asg (.c (.int .i64 0))⟩] [0, 1, 2])
  (.seq (.seq (.ops [⟨some 9, none, .mv (.r 0)⟩,
      ⟨some 10, none, .nilck (.r 9)⟩,
      ⟨some 11, none, .faddr 0 (.r 10)⟩,
      ⟨some 12, none, .load false 1 (.r 11)⟩,
      ⟨some 13, none, .len .sl (.r 12)⟩,
      ⟨some 14, none, .mv (.c (.int .i64 0))⟩] [1, 2, 12, 13, 14])
    (.block 0 (.loop [1, 2, 12, 13, 14] [] c_tattlerref5_Hints_at_l0)))
  (.seq (.ops [⟨some 6, none, .asg (.c (.int .i64 (-1)))⟩] [6])
  .ret))),
  [.r 6], none⟩
def c_slices_BinarySearchFunc_api_Hint_api_Hint_api_Hint_l0 : VCode := (.seq (.seq (.ops [⟨some 15, none, .mv (.r 9)⟩,
      ⟨some 16, none, .mv (.r 10)⟩,
      ⟨some 17, none, .bin .lss .no (.r 15) (.r 16)⟩] [0, 2, 4, 8, 9, 10, 17])
    (.cond (.r 17) .skip (.exit 0)))
  (.block 1 (.seq (.ops [⟨some 18, none, .mv (.r 9)⟩,
      ⟨some 19, none, .mv (.r 10)⟩,
      ⟨some 20, none, .bin .add .no (.r 18) (.r 19)⟩,
      ⟨some 21, none, .conv (.toInt .u64) (.r 20)⟩,
      ⟨some 22, none, .bin .shr .no (.r 21) (.c (.int .u64 1))⟩,
      ⟨some 23, none, .conv (.toInt .i64) (.r 22)⟩,
      ⟨some 11, none, .asg (.r 23)⟩] [0, 2, 4, 8, 9, 10, 11])
    (.seq (.dops 6 [⟨some 24, none, .mv (.r 2)⟩,
      ⟨some 25, none, .mv (.r 0)⟩,
      ⟨some 26, none, .mv (.r 11)⟩,
      ⟨some 27, none, .iaddr none 11 (.r 25) (.r 26)⟩,
      ⟨some 28, none, .load true 11 (.r 27)⟩,
      ⟨some 29, none, .load true 11 (.r 4)⟩,
      ⟨some 30, none, .callv false (.r 24) [(.r 28), (.r 29)]⟩,
      ⟨some 31, none, .bin .lss .no (.r 30) (.c (.int .i64 0))⟩] [0, 2, 4, 8, 9, 10, 11, 31])
    (.cond (.r 31) (.ops [⟨some 32, none, .mv (.r 11)⟩,
      ⟨some 33, none, .bin .add .no (.r 32) (.c (.int .i64 1))⟩,
      ⟨some 9, none, .asg (.r 33)⟩] [0, 2, 4, 8, 9, 10]) (.ops [⟨some 34, none, .mv (.r 11)⟩,
      ⟨some 10, none, .asg (.r 34)⟩] [0, 2, 4, 8, 9, 10]))))))
def c_slices_BinarySearchFunc_api_Hint_api_Hint_api_Hint : VFun := ⟨3,
  (.seq (.ops [⟨some 4, none, .box 11 (.r 1)⟩,
    ⟨some 6, none, .asg (.c (.int .i64 0))⟩,
    ⟨some 7, none, .asg (.c (.bool false))⟩] [0, 2, 4])
  (.seq (.ops [⟨some 12, none, .mv (.r 0)⟩,
    ⟨some 13, none, .len .sl (.r 12)⟩,
    ⟨some 8, none, .asg (.r 13)⟩] [0, 2, 4, 8])
  (.seq (.ops [⟨some 14, none, .mv (.r 8)⟩,
    ⟨some 9, none, .asg (.c (.int .i64 0))⟩,
    ⟨some 10, none, .asg (.r 14)⟩] [0, 2, 4, 8, 9, 10])
  (.seq (.block 0 (.loop [0, 2, 4, 8, 9, 10] [] c_slices_BinarySearchFunc_api_Hint_api_Hint_api_Hint_l0))
  (.seq (.dops 15 [⟨some 35, none, .mv (.r 9)⟩,
    ⟨some 36, none, .mv (.r 9)⟩,
    ⟨some 37, none, .mv (.r 8)⟩,
    ⟨some 38, none, .bin .lss .no (.r 36) (.r 37)⟩,
    ⟨some 39, none, .mv (.r 38)⟩,
    ⟨some 40, some (39, true), .mv (.r 2)⟩,
    ⟨some 41, some (39, true), .mv (.r 0)⟩,
    ⟨some 42, some (39, true), .mv (.r 9)⟩,
    ⟨some 43, some (39, true), .iaddr none 11 (.r 41) (.r 42)⟩,
    ⟨some 44, some (39, true), .load true 11 (.r 43)⟩,
    ⟨some 45, some (39, true), .load true 11 (.r 4)⟩,
    ⟨some 46, some (39, true), .callv true (.r 40) [(.r 44), (.r 45)]⟩,
    ⟨some 47, some (39, true), .bin .eql .no (.r 46) (.c (.int .i64 0))⟩,
    ⟨some 48, none, .pick (.r 39) (.r 47) (.c (.bool false))⟩,
    ⟨some 6, none, .mv (.r 35)⟩,
    ⟨some 7, none, .asg (.r 48)⟩] [6, 7])
  .ret))))),
  [.r 6, .r 7], none⟩
def c_hints_Set_find_c1 : VFun := ⟨2,
  (.seq (.ops [⟨some 2, none, .box 11 (.r 0)⟩,
    ⟨some 3, none, .box 11 (.r 1)⟩,
    ⟨some 4, none, .asg (.c (.int .i64 0))⟩] [2, 3])
  (.seq (.dops 11 [⟨some 5, none, .faddr 0 (.r 2)⟩,
    ⟨some 6, none, .load false 1 (.r 5)⟩,
    ⟨some 7, none, .faddr 0 (.r 3)⟩,
    ⟨some 8, none, .load false 1 (.r 7)⟩,
    ⟨some 9, none, .call true F.cmp_Compare_int [(.r 6), (.r 8)]⟩,
    ⟨some 10, none, .faddr 1 (.r 2)⟩,
    ⟨some 11, none, .faddr 0 (.r 10)⟩,
    ⟨some 12, none, .load false 1 (.r 11)⟩,
    ⟨some 13, none, .faddr 1 (.r 3)⟩,
    ⟨some 14, none, .faddr 0 (.r 13)⟩,
    ⟨some 15, none, .load false 1 (.r 14)⟩,
    ⟨some 16, none, .call false F.cmp_Compare_string [(.r 12), (.r 15)]⟩,
    ⟨some 17, none, .bslice (.int .i64 0) 1 2 [(0, (.r 9)), (1, (.r 16))]⟩,
    ⟨some 18, none, .call false F.cmp_Or_int [(.r 17)]⟩,
    ⟨some 4, none, .asg (.r 18)⟩] [4])
  .ret)),
  [.r 4], none⟩
def c_cmp_Or_int_l0 : VCode := (.seq (.ops [⟨some 9, none, .bin .lss .no (.r 8) (.r 7)⟩] [3, 6, 7, 8, 9])
  (.seq (.cond (.r 9) .skip (.exit 0))
  (.seq (.block 1 (.seq (.ops [⟨some 10, none, .iaddr none 1 (.r 6) (.r 8)⟩,
        ⟨some 11, none, .load false 1 (.r 10)⟩,
        ⟨some 5, none, .asg (.r 11)⟩] [3, 5, 6, 7, 8])
      (.seq (.ops [⟨some 12, none, .mv (.r 5)⟩,
        ⟨some 13, none, .mv (.r 3)⟩,
        ⟨some 14, none, .bin .neq .no (.r 12) (.r 13)⟩] [3, 5, 6, 7, 8, 14])
      (.cond (.r 14) (.seq (.ops [⟨some 15, none, .mv (.r 5)⟩,
          ⟨some 2, none, .asg (.r 15)⟩] [2])
        .ret) .skip))))
  (.ops [⟨some 16, none, .bin .add .no (.r 8) (.c (.int .i64 1))⟩,
  ⟨some 8, none, .mv (.r 16)⟩] [3, 6, 7, 8]))))
def c_cmp_Or_int : VFun := ⟨1,
  (.seq (.ops [⟨some 2, none, .asg (.c (.int .i64 0))⟩] [0])
  (.seq (.ops [⟨some 3, none, .asg (.c (.int .i64 0))⟩] [0, 3])
  (.seq (.seq (.ops [⟨some 6, none, .mv (.r 0)⟩,
      ⟨some 7, none, .len .sl (.r 6)⟩,
      ⟨some 8, none, .mv (.c (.int .i64 0))⟩] [3, 6, 7, 8])
    (.block 0 (.loop [3, 6, 7, 8] [] c_cmp_Or_int_l0)))
  (.seq (.ops [⟨some 17, none, .mv (.r 3)⟩,
    ⟨some 2, none, .asg (.r 17)⟩] [2])
  .ret)))),
  [.r 2], none⟩
def c_cmp_Compare_int : VFun := ⟨2,
  (.seq (.ops [⟨some 4, none, .asg (.c (.int .i64 0))⟩] [0, 1])
  (.seq (.ops [⟨some 7, none, .mv (.r 0)⟩,
    ⟨some 8, none, .call false F.cmp_isNaN_int [(.r 7)]⟩,
    ⟨some 5, none, .asg (.r 8)⟩] [0, 1, 5])
  (.seq (.ops [⟨some 9, none, .mv (.r 1)⟩,
    ⟨some 10, none, .call false F.cmp_isNaN_int [(.r 9)]⟩,
    ⟨some 6, none, .asg (.r 10)⟩] [0, 1, 5, 6])
  (.seq (.seq (.ops [⟨some 11, none, .mv (.r 5)⟩] [0, 1, 6, 11])
    (.cond (.r 11) (.seq (.seq (.ops [⟨some 12, none, .mv (.r 6)⟩] [12])
        (.cond (.r 12) (.seq (.ops [⟨some 4, none, .asg (.c (.int .i64 0))⟩] [4])
          .ret) .skip))
      (.seq (.ops [⟨some 4, none, .asg (.c (.int .i64 (-1)))⟩] [4])
      .ret)) .skip))
  (.seq (.seq (.ops [⟨some 13, none, .mv (.r 6)⟩] [0, 1, 13])
    (.cond (.r 13) (.seq (.ops [⟨some 4, none, .asg (.c (.int .i64 1))⟩] [4])
      .ret) .skip))
  (.seq (.seq (.ops [⟨some 14, none, .mv (.r 0)⟩,
      ⟨some 15, none, .mv (.r 1)⟩,
      ⟨some 16, none, .bin .lss .no (.r 14) (.r 15)⟩] [0, 1, 16])
    (.cond (.r 16) (.seq (.ops [⟨some 4, none, .asg (.c (.int .i64 (-1)))⟩] [4])
      .ret) .skip))
  (.seq (.seq (.ops [⟨some 17, none, .mv (.r 0)⟩,
      ⟨some 18, none, .mv (.r 1)⟩,
      ⟨some 19, none, .bin .gtr .no (.r 17) (.r 18)⟩] [19])
    (.cond (.r 19) (.seq (.ops [⟨some 4, none, .asg (.c (.int .i64 1))⟩] [4])
      .ret) .skip))
  (.seq (.ops [⟨some 4, none, .asg (.c (.int .i64 0))⟩] [4])
  .ret)))))))),
  [.r 4], none⟩
def c_cmp_Compare_string : VFun := ⟨2,
  (.seq (.ops [⟨some 4, none, .asg (.c (.int .i64 0))⟩] [0, 1])
  (.seq (.ops [⟨some 7, none, .mv (.r 0)⟩,
    ⟨some 8, none, .call false F.cmp_isNaN_string [(.r 7)]⟩,
    ⟨some 5, none, .asg (.r 8)⟩] [0, 1, 5])
  (.seq (.ops [⟨some 9, none, .mv (.r 1)⟩,
    ⟨some 10, none, .call false F.cmp_isNaN_string [(.r 9)]⟩,
    ⟨some 6, none, .asg (.r 10)⟩] [0, 1, 5, 6])
  (.seq (.seq (.ops [⟨some 11, none, .mv (.r 5)⟩] [0, 1, 6, 11])
    (.cond (.r 11) (.seq (.seq (.ops [⟨some 12, none, .mv (.r 6)⟩] [12])
        (.cond (.r 12) (.seq (.ops [⟨some 4, none, .asg (.c (.int .i64 0))⟩] [4])
          .ret) .skip))
      (.seq (.ops [⟨some 4, none, .asg (.c (.int .i64 (-1)))⟩] [4])
      .ret)) .skip))
  (.seq (.seq (.ops [⟨some 13, none, .mv (.r 6)⟩] [0, 1, 13])
    (.cond (.r 13) (.seq (.ops [⟨some 4, none, .asg (.c (.int .i64 1))⟩] [4])
      .ret) .skip))
  (.seq (.seq (.ops [⟨some 14, none, .mv (.r 0)⟩,
      ⟨some 15, none, .mv (.r 1)⟩,
      ⟨some 16, none, .bin .lss .no (.r 14) (.r 15)⟩] [0, 1, 16])
    (.cond (.r 16) (.seq (.ops [⟨some 4, none, .asg (.c (.int .i64 (-1)))⟩] [4])
      .ret) .skip))
  (.seq (.seq (.ops [⟨some 17, none, .mv (.r 0)⟩,
      ⟨some 18, none, .mv (.r 1)⟩,
      ⟨some 19, none, .bin .gtr .no (.r 17) (.r 18)⟩] [19])
    (.cond (.r 19) (.seq (.ops [⟨some 4, none, .asg (.c (.int .i64 1))⟩] [4])
      .ret) .skip))
  (.seq (.ops [⟨some 4, none, .asg (.c (.int .i64 0))⟩] [4])
  .ret)))))))),
  [.r 4], none⟩
def c_sibs_find_l0 : VCode := (.seq (.ops [⟨some 12, none, .bin .lss .no (.r 11) (.r 10)⟩] [3, 4, 9, 10, 11, 12])
  (.seq (.cond (.r 12) .skip (.exit 0))
  (.seq (.block 1 (.seq (.ops [⟨some 13, none, .iaddr none 4 (.r 9) (.r 11)⟩,
        ⟨some 14, none, .load true 4 (.r 13)⟩,
        ⟨some 7, none, .alloc [(.int .i64 0), (.int .i64 0), (.sl []), (.bool false)] []⟩,
        ⟨none, none, .store 4 (.r 7) (.r 14) [] none⟩] [3, 4, 7, 9, 10, 11])
      (.seq (.ops [⟨some 15, none, .faddr 0 (.r 7)⟩,
        ⟨some 16, none, .load true 2 (.r 15)⟩,
        ⟨some 17, none, .load true 2 (.r 3)⟩,
        ⟨some 18, none, .bin .eql (.agg [.i, .i]) (.r 16) (.r 17)⟩] [3, 4, 7, 9, 10, 11, 18])
      (.cond (.r 18) (.seq (.ops [⟨some 19, none, .load true 4 (.r 7)⟩,
          ⟨none, none, .store 4 (.r 4) (.r 19) [] none⟩,
          ⟨some 5, none, .asg (.c (.bool true))⟩] [4, 5])
        .ret) .skip))))
  (.ops [⟨some 20, none, .bin .add .no (.r 11) (.c (.int .i64 1))⟩,
  ⟨some 11, none, .mv (.r 20)⟩] [3, 4, 9, 10, 11]))))
def c_sibs_find : VFun := ⟨2,
  (.seq (.ops [⟨some 2, none, .box 9 (.r 0)⟩,
    ⟨some 3, none, .box 2 (.r 1)⟩,
    ⟨some 4, none, .alloc [(.int .i64 0), (.int .i64 0), (.sl []), (.bool false)] []⟩,
    ⟨some 5, none, .asg (.c (.bool false))⟩] [2, 3, 4])
  (.seq (.seq (.ops [⟨some 8, none, .faddr 8 (.r 2)⟩,
      ⟨some 9, none, .load false 1 (.r 8)⟩,
      ⟨some 10, none, .len .sl (.r 9)⟩,
      ⟨some 11, none, .mv (.c (.int .i64 0))⟩] [3, 4, 9, 10, 11])
    (.block 0 (.loop [3, 4, 9, 10, 11] [] c_sibs_find_l0)))
  (.seq (.ops [⟨some 21, none, .build [(.int .i64 0), (.int .i64 0), (.sl []), (.bool false)] []⟩,
    ⟨none, none, .store 4 (.r 4) (.r 21) [] none⟩,
    ⟨some 5, none, .asg (.c (.bool false))⟩] [4, 5])
  .ret))),
  [.cell 4 true 4, .r 5], none⟩
def c_sibs_own : VFun := ⟨1,
  (.seq (.ops [⟨some 1, none, .box 4 (.r 0)⟩,
    ⟨some 2, none, .alloc [(.int .i64 0), (.int .i64 0), (.sl []), (.bool false)] []⟩] [1, 2])
  (.seq (.ops [⟨some 3, none, .faddr 2 (.r 1)⟩,
    ⟨some 4, none, .load false 1 (.r 3)⟩,
    ⟨some 5, none, .call false F.slices_Clone_byte_byte [(.r 4)]⟩,
    ⟨some 6, none, .faddr 2 (.r 1)⟩,
    ⟨none, none, .store 1 (.r 6) (.r 5) [] none⟩] [1, 2])
  (.seq (.ops [⟨some 7, none, .load true 4 (.r 1)⟩,
    ⟨none, none, .store 4 (.r 2) (.r 7) [] none⟩] [2])
  .ret))),
  [.cell 2 true 4], none⟩
def c_sibs_better : VFun := ⟨2,
  (.seq (.ops [⟨some 2, none, .box 4 (.r 0)⟩,
    ⟨some 3, none, .box 4 (.r 1)⟩,
    ⟨some 4, none, .alloc [(.int .i64 0), (.int .i64 0), (.sl []), (.bool false)] []⟩] [2, 3, 4])
  (.seq (.block 0 (.seq (.ops [⟨some 6, none, .faddr 3 (.r 2)⟩,
        ⟨some 7, none, .load false 1 (.r 6)⟩,
        ⟨some 8, none, .faddr 3 (.r 3)⟩,
        ⟨some 9, none, .load false 1 (.r 8)⟩,
        ⟨some 10, none, .bin .neq .bool (.r 7) (.r 9)⟩,
        ⟨some 11, none, .mv (.r 10)⟩,
        ⟨some 12, some (11, true), .faddr 3 (.r 2)⟩,
        ⟨some 13, some (11, true), .load false 1 (.r 12)⟩,
        ⟨some 14, none, .pick (.r 11) (.r 13) (.c (.bool false))⟩,
        ⟨some 5, none, .asg (.r 14)⟩] [2, 3, 4, 5])
      (.cond (.r 5) (.seq (.ops [⟨some 15, none, .load true 4 (.r 3)⟩,
          ⟨none, none, .store 4 (.r 4) (.r 15) [] none⟩] [4])
        .ret) (.seq (.ops [⟨some 17, none, .faddr 3 (.r 2)⟩,
          ⟨some 18, none, .load false 1 (.r 17)⟩,
          ⟨some 19, none, .faddr 3 (.r 3)⟩,
          ⟨some 20, none, .load false 1 (.r 19)⟩,
          ⟨some 21, none, .bin .neq .bool (.r 18) (.r 20)⟩,
          ⟨some 16, none, .asg (.r 21)⟩] [2, 3, 4, 16])
        (.cond (.r 16) (.seq (.ops [⟨some 22, none, .load true 4 (.r 2)⟩,
            ⟨none, none, .store 4 (.r 4) (.r 22) [] none⟩] [4])
          .ret) (.seq (.ops [⟨some 24, none, .faddr 2 (.r 3)⟩,
            ⟨some 25, none, .load false 1 (.r 24)⟩,
            ⟨some 26, none, .faddr 2 (.r 2)⟩,
            ⟨some 27, none, .load false 1 (.r 26)⟩,
            ⟨some 28, none, .call false F.bytes_Compare [(.r 25), (.r 27)]⟩,
            ⟨some 29, none, .bin .lss .no (.r 28) (.c (.int .i64 0))⟩,
            ⟨some 23, none, .asg (.r 29)⟩] [2, 3, 4, 23])
          (.cond (.r 23) (.seq (.ops [⟨some 30, none, .load true 4 (.r 3)⟩,
              ⟨none, none, .store 4 (.r 4) (.r 30) [] none⟩] [4])
            .ret) .skip)))))))
  (.seq (.ops [⟨some 31, none, .load true 4 (.r 2)⟩,
    ⟨none, none, .store 4 (.r 4) (.r 31) [] none⟩] [4])
  .ret))),
  [.cell 4 true 4], none⟩
def c_vector_Covers : VFun := ⟨2,
  (.seq (.ops [⟨some 2, none, .box 8 (.r 0)⟩,
    ⟨some 3, none, .box 2 (.r 1)⟩,
    ⟨some 4, none, .asg (.c (.bool false))⟩] [2, 3])
  (.seq (.dops 15 [⟨some 5, none, .faddr 0 (.r 3)⟩,
    ⟨some 6, none, .load false 1 (.r 5)⟩,
    ⟨some 7, none, .call true F.vector_is [(.r 6)]⟩,
    ⟨some 8, none, .mv (.r 7)⟩,
    ⟨some 9, some (8, true), .faddr 1 (.r 3)⟩,
    ⟨some 10, some (8, true), .load false 1 (.r 9)⟩,
    ⟨some 11, some (8, true), .bin .geq .no (.r 10) (.c (.int .i64 1))⟩,
    ⟨some 12, none, .pick (.r 8) (.r 11) (.c (.bool false))⟩,
    ⟨some 13, none, .mv (.r 12)⟩,
    ⟨some 14, some (13, true), .faddr 1 (.r 3)⟩,
    ⟨some 15, some (13, true), .load false 1 (.r 14)⟩,
    ⟨some 16, some (13, true), .faddr 0 (.r 3)⟩,
    ⟨some 17, some (13, true), .load false 1 (.r 16)⟩,
    ⟨some 18, some (13, true), .iaddr (some 8) 1 (.r 2) (.r 17)⟩,
    ⟨some 19, some (13, true), .load false 1 (.r 18)⟩,
    ⟨some 20, some (13, true), .bin .leq .no (.r 15) (.r 19)⟩,
    ⟨some 21, none, .pick (.r 13) (.r 20) (.c (.bool false))⟩,
    ⟨some 4, none, .asg (.r 21)⟩] [4])
  .ret)),
  [.r 4], none⟩
def c_vector_Join_l0 : VCode := (.seq (.ops [⟨some 9, none, .bin .lss .no (.r 8) (.c (.int .i64 8))⟩] [2, 4, 7, 8, 9])
  (.seq (.cond (.r 9) .skip (.exit 0))
  (.seq (.block 1 (.seq (.ops [⟨some 10, none, .mv (.r 8)⟩,
        ⟨some 11, none, .index false 8 1 false (.r 7) (.r 8)⟩,
        ⟨some 5, none, .asg (.r 10)⟩,
        ⟨some 6, none, .asg (.r 11)⟩] [2, 4, 5, 6, 7, 8])
      (.ops [⟨some 12, none, .mv (.r 5)⟩,
      ⟨some 13, none, .mv (.r 5)⟩,
      ⟨some 14, none, .iaddr (some 8) 1 (.r 2) (.r 13)⟩,
      ⟨some 15, none, .load false 1 (.r 14)⟩,
      ⟨some 16, none, .mv (.r 6)⟩,
      ⟨some 17, none, .mx [(.r 15), (.r 16)]⟩,
      ⟨some 18, none, .iaddr (some 8) 1 (.r 2) (.r 12)⟩,
      ⟨none, none, .store 1 (.r 18) (.r 17) [] none⟩] [2, 4, 7, 8])))
  (.ops [⟨some 19, none, .bin .add .no (.r 8) (.c (.int .i64 1))⟩,
  ⟨some 8, none, .mv (.r 19)⟩] [2, 4, 7, 8]))))
def c_vector_Join : VFun := ⟨2,
  (.seq (.ops [⟨some 2, none, .box 8 (.r 0)⟩,
    ⟨some 3, none, .box 8 (.r 1)⟩,
    ⟨some 4, none, .alloc [(.int .i64 0), (.int .i64 0), (.int .i64 0), (.int .i64 0), (.int .i64 0), (.int .i64 0), (.int .i64 0), (.int .i64 0)] []⟩] [2, 3, 4])
  (.seq (.seq (.ops [⟨some 7, none, .load true 8 (.r 3)⟩,
      ⟨some 8, none, .mv (.c (.int .i64 0))⟩] [2, 4, 7, 8])
    (.block 0 (.loop [2, 4, 7, 8] [] c_vector_Join_l0)))
  (.seq (.ops [⟨some 20, none, .load true 8 (.r 2)⟩,
    ⟨none, none, .store 8 (.r 4) (.r 20) [] none⟩] [4])
  .ret))),
  [.cell 4 true 8], none⟩
def c_slices_EqualFunc_api_Value_api_Value_api_Value_api_Value_l0 : VCode := (.seq (.ops [⟨some 18, none, .bin .lss .no (.r 17) (.r 16)⟩] [1, 2, 15, 16, 17, 18])
  (.seq (.cond (.r 18) .skip (.exit 0))
  (.seq (.block 1 (.seq (.ops [⟨some 19, none, .mv (.r 17)⟩,
        ⟨some 20, none, .iaddr none 4 (.r 15) (.r 17)⟩,
        ⟨some 21, none, .load true 4 (.r 20)⟩,
        ⟨some 8, none, .alloc [(.int .i64 0), (.int .i64 0), (.sl []), (.bool false)] []⟩,
        ⟨some 7, none, .asg (.r 19)⟩,
        ⟨none, none, .store 4 (.r 8) (.r 21) [] none⟩] [1, 2, 7, 8, 15, 16, 17])
      (.seq (.ops [⟨some 22, none, .mv (.r 1)⟩,
        ⟨some 23, none, .mv (.r 7)⟩,
        ⟨some 24, none, .iaddr none 4 (.r 22) (.r 23)⟩,
        ⟨some 25, none, .load true 4 (.r 24)⟩,
        ⟨some 9, none, .alloc [(.int .i64 0), (.int .i64 0), (.sl []), (.bool false)] []⟩,
        ⟨none, none, .store 4 (.r 9) (.r 25) [] none⟩] [1, 2, 8, 9, 15, 16, 17])
      (.seq (.ops [⟨some 26, none, .mv (.r 2)⟩,
        ⟨some 27, none, .load true 4 (.r 8)⟩,
        ⟨some 28, none, .load true 4 (.r 9)⟩,
        ⟨some 29, none, .callv false (.r 26) [(.r 27), (.r 28)]⟩,
        ⟨some 30, none, .un .not (.r 29)⟩] [1, 2, 15, 16, 17, 30])
      (.cond (.r 30) (.seq (.ops [⟨some 6, none, .asg (.c (.bool false))⟩] [6])
        .ret) .skip)))))
  (.ops [⟨some 31, none, .bin .add .no (.r 17) (.c (.int .i64 1))⟩,
  ⟨some 17, none, .mv (.r 31)⟩] [1, 2, 15, 16, 17]))))
def c_slices_EqualFunc_api_Value_api_Value_api_Value_api_Value : VFun := ⟨3,
  (.seq (.ops [⟨some 6, none, .asg (.c (.bool false))⟩] [0, 1, 2])
  (.seq (.seq (.ops [⟨some 10, none, .mv (.r 0)⟩,
      ⟨some 11, none, .len .sl (.r 10)⟩,
      ⟨some 12, none, .mv (.r 1)⟩,
      ⟨some 13, none, .len .sl (.r 12)⟩,
      ⟨some 14, none, .bin .neq .no (.r 11) (.r 13)⟩] [0, 1, 2, 14])
    (.cond (.r 14) (.seq (.ops [⟨some 6, none, .asg (.c (.bool false))⟩] [6])
      .ret) .skip))
  (.seq (.seq (.ops [⟨some 15, none, .mv (.r 0)⟩,
      ⟨some 16, none, .len .sl (.r 15)⟩,
      ⟨some 17, none, .mv (.c (.int .i64 0))⟩] [1, 2, 15, 16, 17])
    (.block 0 (.loop [1, 2, 15, 16, 17] [] c_slices_EqualFunc_api_Value_api_Value_api_Value_api_Value_l0)))
  (.seq (.ops [⟨some 6, none, .asg (.c (.bool true))⟩] [6])
  .ret)))),
  [.r 6], none⟩
def c_sibs_Same_c1 : VFun := ⟨2,
  (.seq (.ops [⟨some 2, none, .box 4 (.r 0)⟩,
    ⟨some 3, none, .box 4 (.r 1)⟩,
    ⟨some 4, none, .asg (.c (.bool false))⟩] [2, 3])
  (.seq (.ops [⟨some 5, none, .faddr 0 (.r 2)⟩,
    ⟨some 6, none, .load true 2 (.r 5)⟩,
    ⟨some 7, none, .faddr 0 (.r 3)⟩,
    ⟨some 8, none, .load true 2 (.r 7)⟩,
    ⟨some 9, none, .bin .eql (.agg [.i, .i]) (.r 6) (.r 8)⟩,
    ⟨some 10, none, .mv (.r 9)⟩,
    ⟨some 11, some (10, true), .faddr 3 (.r 2)⟩,
    ⟨some 12, some (10, true), .load false 1 (.r 11)⟩,
    ⟨some 13, some (10, true), .faddr 3 (.r 3)⟩,
    ⟨some 14, some (10, true), .load false 1 (.r 13)⟩,
    ⟨some 15, some (10, true), .bin .eql .bool (.r 12) (.r 14)⟩,
    ⟨some 16, none, .pick (.r 10) (.r 15) (.c (.bool false))⟩,
    ⟨some 17, none, .mv (.r 16)⟩,
    ⟨some 18, some (17, true), .faddr 2 (.r 2)⟩,
    ⟨some 19, some (17, true), .load false 1 (.r 18)⟩,
    ⟨some 20, some (17, true), .faddr 2 (.r 3)⟩,
    ⟨some 21, some (17, true), .load false 1 (.r 20)⟩,
    ⟨some 22, some (17, true), .call false F.bytes_Equal [(.r 19), (.r 21)]⟩,
    ⟨some 23, none, .pick (.r 17) (.r 22) (.c (.bool false))⟩,
    ⟨some 4, none, .asg (.r 23)⟩] [4])
  .ret)),
  [.r 4], none⟩
def c_bytes_Equal : VFun := ⟨2,
  (.seq (.ops [⟨some 4, none, .asg (.c (.bool false))⟩] [0, 1])
  (.seq (.ops [⟨some 5, none, .mv (.r 0)⟩,
    ⟨some 6, none, .conv .strOfBytes (.r 5)⟩,
    ⟨some 7, none, .mv (.r 1)⟩,
    ⟨some 8, none, .conv .strOfBytes (.r 7)⟩,
    ⟨some 9, none, .bin .eql .no (.r 6) (.r 8)⟩,
    ⟨some 4, none, .asg (.r 9)⟩] [4])
  .ret)),
  [.r 4], none⟩
def c_tattlerref1_May_l0 : VCode := (.seq (.ops [⟨some 7, none, .bin .lss .no (.r 6) (.c (.int .i64 8))⟩] [5, 6, 7])
  (.seq (.cond (.r 7) .skip (.exit 0))
  (.seq (.block 1 (.seq (.ops [⟨some 8, none, .index false 8 1 false (.r 5) (.r 6)⟩,
        ⟨some 4, none, .asg (.r 8)⟩] [4, 5, 6])
      (.seq (.ops [⟨some 9, none, .mv (.r 4)⟩,
        ⟨some 10, none, .bin .lss .no (.r 9) (.c (.int .i64 0))⟩,
        ⟨some 11, none, .mv (.r 10)⟩,
        ⟨some 12, some (11, false), .mv (.r 4)⟩,
        ⟨some 13, some (11, false), .bin .gtr .no (.r 12) (.c (.int .i64 1099511627776))⟩,
        ⟨some 14, none, .pick (.r 11) (.c (.bool true)) (.r 13)⟩] [5, 6, 14])
      (.cond (.r 14) (.seq (.ops [⟨some 2, none, .asg (.c (.bool false))⟩] [2])
        .ret) .skip))))
  (.ops [⟨some 15, none, .bin .add .no (.r 6) (.c (.int .i64 1))⟩,
  ⟨some 6, none, .mv (.r 15)⟩] [5, 6]))))
def c_tattlerref1_May : VFun := ⟨1,
  (.seq (.ops [⟨some 1, none, .box 8 (.r 0)⟩,
    ⟨some 2, none, .asg (.c (.bool false))⟩] [1])
  (.seq (.seq (.ops [⟨some 5, none, .load true 8 (.r 1)⟩,
      ⟨some 6, none, .mv (.c (.int .i64 0))⟩] [5, 6])
    (.block 0 (.loop [5, 6] [] c_tattlerref1_May_l0)))
  (.seq (.ops [⟨some 2, none, .asg (.c (.bool true))⟩] [2])
  .ret))),
  [.r 2], none⟩
def c_tattlerref1_Covers : VFun := ⟨2,
  (.seq (.ops [⟨some 2, none, .box 8 (.r 0)⟩,
    ⟨some 3, none, .box 2 (.r 1)⟩,
    ⟨some 4, none, .asg (.c (.bool false))⟩] [2, 3])
  (.seq (.dops 20 [⟨some 5, none, .faddr 0 (.r 3)⟩,
    ⟨some 6, none, .load false 1 (.r 5)⟩,
    ⟨some 7, none, .bin .geq .no (.r 6) (.c (.int .i64 0))⟩,
    ⟨some 8, none, .mv (.r 7)⟩,
    ⟨some 9, some (8, true), .faddr 0 (.r 3)⟩,
    ⟨some 10, some (8, true), .load false 1 (.r 9)⟩,
    ⟨some 11, some (8, true), .bin .lss .no (.r 10) (.c (.int .i64 8))⟩,
    ⟨some 12, none, .pick (.r 8) (.r 11) (.c (.bool false))⟩,
    ⟨some 13, none, .mv (.r 12)⟩,
    ⟨some 14, some (13, true), .faddr 1 (.r 3)⟩,
    ⟨some 15, some (13, true), .load false 1 (.r 14)⟩,
    ⟨some 16, some (13, true), .bin .geq .no (.r 15) (.c (.int .i64 1))⟩,
    ⟨some 17, none, .pick (.r 13) (.r 16) (.c (.bool false))⟩,
    ⟨some 18, none, .mv (.r 17)⟩,
    ⟨some 19, some (18, true), .faddr 1 (.r 3)⟩,
    ⟨some 20, some (18, true), .load false 1 (.r 19)⟩,
    ⟨some 21, some (18, true), .faddr 0 (.r 3)⟩,
    ⟨some 22, some (18, true), .load false 1 (.r 21)⟩,
    ⟨some 23, some (18, true), .iaddr (some 8) 1 (.r 2) (.r 22)⟩,
    ⟨some 24, some (18, true), .load false 1 (.r 23)⟩,
    ⟨some 25, some (18, true), .bin .leq .no (.r 20) (.r 24)⟩,
    ⟨some 26, none, .pick (.r 18) (.r 25) (.c (.bool false))⟩,
    ⟨some 4, none, .asg (.r 26)⟩] [4])
  .ret)),
  [.r 4], none⟩
def c_tattlerref1_Less : VFun := ⟨2,
  (.seq (.ops [⟨some 2, none, .box 2 (.r 0)⟩,
    ⟨some 3, none, .box 2 (.r 1)⟩,
    ⟨some 4, none, .asg (.c (.bool false))⟩] [2, 3])
  (.seq (.ops [⟨some 5, none, .faddr 0 (.r 2)⟩,
    ⟨some 6, none, .load false 1 (.r 5)⟩,
    ⟨some 7, none, .faddr 0 (.r 3)⟩,
    ⟨some 8, none, .load false 1 (.r 7)⟩,
    ⟨some 9, none, .bin .lss .no (.r 6) (.r 8)⟩,
    ⟨some 10, none, .mv (.r 9)⟩,
    ⟨some 11, some (10, false), .faddr 0 (.r 2)⟩,
    ⟨some 12, some (10, false), .load false 1 (.r 11)⟩,
    ⟨some 13, some (10, false), .faddr 0 (.r 3)⟩,
    ⟨some 14, some (10, false), .load false 1 (.r 13)⟩,
    ⟨some 15, some (10, false), .bin .eql .no (.r 12) (.r 14)⟩,
    ⟨some 16, some (10, false), .mv (.r 15)⟩,
    ⟨some 17, some (16, true), .faddr 1 (.r 2)⟩,
    ⟨some 18, some (16, true), .load false 1 (.r 17)⟩,
    ⟨some 19, some (16, true), .faddr 1 (.r 3)⟩,
    ⟨some 20, some (16, true), .load false 1 (.r 19)⟩,
    ⟨some 21, some (16, true), .bin .lss .no (.r 18) (.r 20)⟩,
    ⟨some 22, some (10, false), .pick (.r 16) (.r 21) (.c (.bool false))⟩,
    ⟨some 23, none, .pick (.r 10) (.c (.bool true)) (.r 22)⟩,
    ⟨some 4, none, .asg (.r 23)⟩] [4])
  .ret)),
  [.r 4], none⟩
def c_tattlerref1_Join_l0 : VCode := (.seq (.ops [⟨some 7, none, .bin .lss .no (.r 6) (.c (.int .i64 8))⟩] [2, 3, 4, 6, 7])
  (.seq (.cond (.r 7) .skip (.exit 0))
  (.seq (.block 1 (.seq (.ops [⟨some 8, none, .mv (.r 6)⟩,
        ⟨some 5, none, .asg (.r 8)⟩] [2, 3, 4, 5, 6])
      (.dops 8 [⟨some 9, none, .mv (.r 5)⟩,
      ⟨some 10, none, .mv (.r 5)⟩,
      ⟨some 11, none, .iaddr (some 8) 1 (.r 2) (.r 10)⟩,
      ⟨some 12, none, .load false 1 (.r 11)⟩,
      ⟨some 13, none, .mv (.r 5)⟩,
      ⟨some 14, none, .iaddr (some 8) 1 (.r 3) (.r 13)⟩,
      ⟨some 15, none, .load false 1 (.r 14)⟩,
      ⟨some 16, none, .mx [(.r 12), (.r 15)]⟩,
      ⟨some 17, none, .iaddr (some 8) 1 (.r 2) (.r 9)⟩,
      ⟨none, none, .store 1 (.r 17) (.r 16) [] none⟩] [2, 3, 4, 6])))
  (.ops [⟨some 18, none, .bin .add .no (.r 6) (.c (.int .i64 1))⟩,
  ⟨some 6, none, .mv (.r 18)⟩] [2, 3, 4, 6]))))
def c_tattlerref1_Join : VFun := ⟨2,
  (.seq (.ops [⟨some 2, none, .box 8 (.r 0)⟩,
    ⟨some 3, none, .box 8 (.r 1)⟩,
    ⟨some 4, none, .alloc [(.int .i64 0), (.int .i64 0), (.int .i64 0), (.int .i64 0), (.int .i64 0), (.int .i64 0), (.int .i64 0), (.int .i64 0)] []⟩] [2, 3, 4])
  (.seq (.seq (.ops [⟨some 6, none, .mv (.c (.int .i64 0))⟩] [2, 3, 4, 6])
    (.block 0 (.loop [2, 3, 4, 6] [] c_tattlerref1_Join_l0)))
  (.seq (.ops [⟨some 19, none, .load true 8 (.r 2)⟩,
    ⟨none, none, .store 8 (.r 4) (.r 19) [] none⟩] [4])
  .ret))),
  [.cell 4 true 8], none⟩
def c_tattlerref5_find_l0 : VCode := (.seq (.ops [⟨some 11, none, .bin .lss .no (.r 10) (.r 9)⟩] [3, 8, 9, 10, 11])
  (.seq (.cond (.r 11) .skip (.exit 0))
  (.seq (.block 1 (.seq (.ops [⟨some 12, none, .mv (.r 10)⟩,
        ⟨some 13, none, .iaddr none 4 (.r 8) (.r 10)⟩,
        ⟨some 14, none, .load true 4 (.r 13)⟩,
        ⟨some 6, none, .alloc [(.int .i64 0), (.int .i64 0), (.sl []), (.bool false)] []⟩,
        ⟨some 5, none, .asg (.r 12)⟩,
        ⟨none, none, .store 4 (.r 6) (.r 14) [] none⟩] [3, 5, 6, 8, 9, 10])
      (.seq (.ops [⟨some 15, none, .faddr 0 (.r 6)⟩,
        ⟨some 16, none, .load true 2 (.r 15)⟩,
        ⟨some 17, none, .load true 2 (.r 3)⟩,
        ⟨some 18, none, .bin .eql (.agg [.i, .i]) (.r 16) (.r 17)⟩] [3, 5, 8, 9, 10, 18])
      (.cond (.r 18) (.seq (.ops [⟨some 19, none, .mv (.r 5)⟩,
          ⟨some 4, none, .asg (.r 19)⟩] [4])
        .ret) .skip))))
  (.ops [⟨some 20, none, .bin .add .no (.r 10) (.c (.int .i64 1))⟩,
  ⟨some 10, none, .mv (.r 20)⟩] [3, 8, 9, 10]))))
def c_tattlerref5_find : VFun := ⟨2,
  (.seq (.ops [⟨some 2, none, .box 9 (.r 0)⟩,
    ⟨some 3, none, .box 2 (.r 1)⟩,
    ⟨some 4, none, .asg (.c (.int .i64 0))⟩] [2, 3])
  (.seq (.seq (.ops [⟨some 7, none, .faddr 8 (.r 2)⟩,
      ⟨some 8, none, .load false 1 (.r 7)⟩,
      ⟨some 9, none, .len .sl (.r 8)⟩,
      ⟨some 10, none, .mv (.c (.int .i64 0))⟩] [3, 8, 9, 10])
    (.block 0 (.loop [3, 8, 9, 10] [] c_tattlerref5_find_l0)))
  (.seq (.ops [⟨some 4, none, .asg (.c (.int .i64 (-1)))⟩] [4])
  .ret))),
  [.r 4], none⟩
def c_tattlerref5_insert_l0 : VCode := (.seq (.seq (.dops 12 [⟨some 6, none, .mv (.r 5)⟩,
      ⟨some 7, none, .mv (.r 0)⟩,
      ⟨some 8, none, .len .sl (.r 7)⟩,
      ⟨some 9, none, .bin .lss .no (.r 6) (.r 8)⟩,
      ⟨some 10, none, .mv (.r 9)⟩,
      ⟨some 11, some (10, true), .mv (.r 0)⟩,
      ⟨some 12, some (10, true), .mv (.r 5)⟩,
      ⟨some 13, some (10, true), .iaddr none 4 (.r 11) (.r 12)⟩,
      ⟨some 14, some (10, true), .faddr 0 (.r 13)⟩,
      ⟨some 15, some (10, true), .load true 2 (.r 14)⟩,
      ⟨some 16, some (10, true), .faddr 0 (.r 3)⟩,
      ⟨some 17, some (10, true), .load true 2 (.r 16)⟩,
      ⟨some 18, some (10, true), .call false F.tattlerref1_Less [(.r 15), (.r 17)]⟩,
      ⟨some 19, none, .pick (.r 10) (.r 18) (.c (.bool false))⟩] [0, 3, 5, 19])
    (.cond (.r 19) .skip (.exit 0)))
  (.block 1 (.ops [⟨some 20, none, .mv (.r 5)⟩,
    ⟨some 21, none, .bin .add .no (.r 20) (.c (.int .i64 1))⟩,
    ⟨some 5, none, .asg (.r 21)⟩] [0, 3, 5])))
def c_tattlerref5_insert : VFun := ⟨2,
  (.seq (.ops [⟨some 3, none, .box 4 (.r 1)⟩,
    ⟨some 4, none, .asg (.c (.sl []))⟩] [0, 3])
  (.seq (.ops [⟨some 5, none, .asg (.c (.int .i64 0))⟩] [0, 3, 5])
  (.seq (.block 0 (.loop [0, 3, 5] [(4, 0, 0)] c_tattlerref5_insert_l0))
  (.seq (.dops 10 [⟨some 22, none, .mv (.r 0)⟩,
    ⟨some 23, none, .mv (.r 5)⟩,
    ⟨some 24, none, .slice false 4 (.r 22) none (some (.r 23)) none⟩,
    ⟨some 25, none, .app .fresh 4 48 (.c (.sl [])) (.r 24)⟩,
    ⟨some 26, none, .load true 4 (.r 3)⟩,
    ⟨some 27, none, .bslice (.agg [(.int .i64 0), (.int .i64 0), (.sl []), (.bool false)]) 4 1 [(0, (.r 26))]⟩,
    ⟨some 28, none, .app (.reg 25) 4 48 (.r 25) (.r 27)⟩,
    ⟨some 29, none, .mv (.r 0)⟩,
    ⟨some 30, none, .mv (.r 5)⟩,
    ⟨some 31, none, .slice false 4 (.r 29) (some (.r 30)) none none⟩,
    ⟨some 32, none, .app (.reg 28) 4 48 (.r 28) (.r 31)⟩,
    ⟨some 4, none, .asg (.r 32)⟩] [4])
  .ret)))),
  [.r 4], none⟩
def c_tattlerref5_copied : VFun := ⟨1,
  (.seq (.ops [⟨some 1, none, .box 4 (.r 0)⟩,
    ⟨some 2, none, .alloc [(.int .i64 0), (.int .i64 0), (.sl []), (.bool false)] []⟩] [1, 2])
  (.seq (.ops [⟨some 3, none, .faddr 2 (.r 1)⟩,
    ⟨some 4, none, .load false 1 (.r 3)⟩,
    ⟨some 5, none, .app .fresh 1 1 (.c (.sl [])) (.r 4)⟩,
    ⟨some 6, none, .faddr 2 (.r 1)⟩,
    ⟨none, none, .store 1 (.r 6) (.r 5) [] none⟩] [1, 2])
  (.seq (.ops [⟨some 7, none, .load true 4 (.r 1)⟩,
    ⟨none, none, .store 4 (.r 2) (.r 7) [] none⟩] [2])
  .ret))),
  [.cell 2 true 4], none⟩
def c_tattlerref5_first : VFun := ⟨2,
  (.seq (.ops [⟨some 2, none, .box 4 (.r 0)⟩,
    ⟨some 3, none, .box 4 (.r 1)⟩,
    ⟨some 4, none, .alloc [(.int .i64 0), (.int .i64 0), (.sl []), (.bool false)] []⟩] [2, 3, 4])
  (.seq (.seq (.ops [⟨some 5, none, .faddr 3 (.r 2)⟩,
      ⟨some 6, none, .load false 1 (.r 5)⟩,
      ⟨some 7, none, .faddr 3 (.r 3)⟩,
      ⟨some 8, none, .load false 1 (.r 7)⟩,
      ⟨some 9, none, .bin .neq .bool (.r 6) (.r 8)⟩] [2, 3, 4, 9])
    (.cond (.r 9) (.seq (.seq (.ops [⟨some 10, none, .faddr 3 (.r 2)⟩,
          ⟨some 11, none, .load false 1 (.r 10)⟩] [2, 3, 4, 11])
        (.cond (.r 11) (.seq (.ops [⟨some 12, none, .load true 4 (.r 3)⟩,
            ⟨none, none, .store 4 (.r 4) (.r 12) [] none⟩] [4])
          .ret) .skip))
      (.seq (.ops [⟨some 13, none, .load true 4 (.r 2)⟩,
        ⟨none, none, .store 4 (.r 4) (.r 13) [] none⟩] [4])
      .ret)) .skip))
  (.seq (.seq (.ops [⟨some 14, none, .faddr 2 (.r 3)⟩,
      ⟨some 15, none, .load false 1 (.r 14)⟩,
      ⟨some 16, none, .conv .strOfBytes (.r 15)⟩,
      ⟨some 17, none, .faddr 2 (.r 2)⟩,
      ⟨some 18, none, .load false 1 (.r 17)⟩,
      ⟨some 19, none, .conv .strOfBytes (.r 18)⟩,
      ⟨some 20, none, .bin .lss .no (.r 16) (.r 19)⟩] [2, 3, 4, 20])
    (.cond (.r 20) (.seq (.ops [⟨some 21, none, .load true 4 (.r 3)⟩,
        ⟨none, none, .store 4 (.r 4) (.r 21) [] none⟩] [4])
      .ret) .skip))
  (.seq (.ops [⟨some 22, none, .load true 4 (.r 2)⟩,
    ⟨none, none, .store 4 (.r 4) (.r 22) [] none⟩] [4])
  .ret)))),
  [.cell 4 true 4], none⟩
def c_vector_May_l0 : VCode := (.seq (.ops [⟨some 7, none, .bin .lss .no (.r 6) (.c (.int .i64 8))⟩] [5, 6, 7])
  (.seq (.cond (.r 7) .skip (.exit 0))
  (.seq (.block 1 (.seq (.ops [⟨some 8, none, .index false 8 1 false (.r 5) (.r 6)⟩,
        ⟨some 4, none, .asg (.r 8)⟩] [4, 5, 6])
      (.seq (.ops [⟨some 9, none, .mv (.r 4)⟩,
        ⟨some 10, none, .bin .lss .no (.r 9) (.c (.int .i64 0))⟩,
        ⟨some 11, none, .mv (.r 10)⟩,
        ⟨some 12, some (11, false), .mv (.r 4)⟩,
        ⟨some 13, some (11, false), .bin .gtr .no (.r 12) (.c (.int .i64 1099511627776))⟩,
        ⟨some 14, none, .pick (.r 11) (.c (.bool true)) (.r 13)⟩] [5, 6, 14])
      (.cond (.r 14) (.seq (.ops [⟨some 2, none, .asg (.c (.bool false))⟩] [2])
        .ret) .skip))))
  (.ops [⟨some 15, none, .bin .add .no (.r 6) (.c (.int .i64 1))⟩,
  ⟨some 6, none, .mv (.r 15)⟩] [5, 6]))))
def c_vector_May : VFun := ⟨1,
  (.seq (.ops [⟨some 1, none, .box 8 (.r 0)⟩,
    ⟨some 2, none, .asg (.c (.bool false))⟩] [1])
  (.seq (.seq (.ops [⟨some 5, none, .load true 8 (.r 1)⟩,
      ⟨some 6, none, .mv (.c (.int .i64 0))⟩] [5, 6])
    (.block 0 (.loop [5, 6] [] c_vector_May_l0)))
  (.seq (.ops [⟨some 2, none, .asg (.c (.bool true))⟩] [2])
  .ret))),
  [.r 2], none⟩
def c_sibs_mayValue : VFun := ⟨1,
  (.seq (.ops [⟨some 1, none, .box 4 (.r 0)⟩,
    ⟨some 2, none, .asg (.c (.bool false))⟩] [1])
  (.seq (.ops [⟨some 3, none, .faddr 2 (.r 1)⟩,
    ⟨some 4, none, .load false 1 (.r 3)⟩,
    ⟨some 5, none, .len .sl (.r 4)⟩,
    ⟨some 6, none, .bin .leq .no (.r 5) (.c (.int .i64 200))⟩,
    ⟨some 7, none, .mv (.r 6)⟩,
    ⟨some 8, some (7, true), .faddr 3 (.r 1)⟩,
    ⟨some 9, some (7, true), .load false 1 (.r 8)⟩,
    ⟨some 10, some (7, true), .un .not (.r 9)⟩,
    ⟨some 11, some (7, true), .mv (.r 10)⟩,
    ⟨some 12, some (11, false), .faddr 2 (.r 1)⟩,
    ⟨some 13, some (11, false), .load false 1 (.r 12)⟩,
    ⟨some 14, some (11, false), .len .sl (.r 13)⟩,
    ⟨some 15, some (11, false), .bin .eql .no (.r 14) (.c (.int .i64 0))⟩,
    ⟨some 16, some (7, true), .pick (.r 11) (.c (.bool true)) (.r 15)⟩,
    ⟨some 17, none, .pick (.r 7) (.r 16) (.c (.bool false))⟩,
    ⟨some 2, none, .asg (.r 17)⟩] [2])
  .ret)),
  [.r 2], none⟩
def c_vector_Less : VFun := ⟨2,
  (.seq (.ops [⟨some 2, none, .box 2 (.r 0)⟩,
    ⟨some 3, none, .box 2 (.r 1)⟩,
    ⟨some 4, none, .asg (.c (.bool false))⟩] [2, 3])
  (.seq (.dops 9 [⟨some 5, none, .faddr 0 (.r 2)⟩,
    ⟨some 6, none, .load false 1 (.r 5)⟩,
    ⟨some 7, none, .faddr 0 (.r 3)⟩,
    ⟨some 8, none, .load false 1 (.r 7)⟩,
    ⟨some 9, none, .call true F.cmp_Compare_int [(.r 6), (.r 8)]⟩,
    ⟨some 10, none, .faddr 1 (.r 2)⟩,
    ⟨some 11, none, .load false 1 (.r 10)⟩,
    ⟨some 12, none, .faddr 1 (.r 3)⟩,
    ⟨some 13, none, .load false 1 (.r 12)⟩,
    ⟨some 14, none, .call false F.cmp_Compare_int64 [(.r 11), (.r 13)]⟩,
    ⟨some 15, none, .bslice (.int .i64 0) 1 2 [(0, (.r 9)), (1, (.r 14))]⟩,
    ⟨some 16, none, .call false F.cmp_Or_int [(.r 15)]⟩,
    ⟨some 17, none, .bin .lss .no (.r 16) (.c (.int .i64 0))⟩,
    ⟨some 4, none, .asg (.r 17)⟩] [4])
  .ret)),
  [.r 4], none⟩
def c_tattlerref5_MayKey : VFun := ⟨1,
  (.seq (.ops [⟨some 2, none, .asg (.c (.bool false))⟩] [0])
  (.seq (.ops [⟨some 3, none, .mv (.r 0)⟩,
    ⟨some 4, none, .len .str (.r 3)⟩,
    ⟨some 5, none, .bin .geq .no (.r 4) (.c (.int .i64 1))⟩,
    ⟨some 6, none, .mv (.r 5)⟩,
    ⟨some 7, some (6, true), .mv (.r 0)⟩,
    ⟨some 8, some (6, true), .len .str (.r 7)⟩,
    ⟨some 9, some (6, true), .bin .leq .no (.r 8) (.c (.int .i64 32))⟩,
    ⟨some 10, none, .pick (.r 6) (.r 9) (.c (.bool false))⟩,
    ⟨some 2, none, .asg (.r 10)⟩] [2])
  .ret)),
  [.r 2], none⟩
def c_cmp_isNaN_int : VFun := ⟨1,
  (.seq (.ops [⟨some 2, none, .asg (.c (.bool false))⟩] [0])
  (.seq (.ops [⟨some 3, none, .mv (.r 0)⟩,
    ⟨some 4, none, .mv (.r 0)⟩,
    ⟨some 5, none, .bin .neq .no (.r 3) (.r 4)⟩,
    ⟨some 2, none, .asg (.r 5)⟩] [2])
  .ret)),
  [.r 2], none⟩
def c_cmp_isNaN_string : VFun := ⟨1,
  (.seq (.ops [⟨some 2, none, .asg (.c (.bool false))⟩] [0])
  (.seq (.ops [⟨some 3, none, .mv (.r 0)⟩,
    ⟨some 4, none, .mv (.r 0)⟩,
    ⟨some 5, none, .bin .neq .no (.r 3) (.r 4)⟩,
    ⟨some 2, none, .asg (.r 5)⟩] [2])
  .ret)),
  [.r 2], none⟩
def c_slices_Clone_byte_byte : VFun := ⟨1,
  (.seq (.ops [⟨some 2, none, .asg (.c (.sl []))⟩] [0])
  (.amb (.ops [⟨some 3, none, .mv (.r 0)⟩,
    ⟨some 4, none, .isnil (.r 3)⟩] [0, 4]) (.r 4) (.seq (.ops [⟨some 2, none, .asg (.c (.sl []))⟩] [2])
    .ret) .skip
  (.seq (.ops [⟨some 5, none, .bslice (.int .u8 0) 1 0 []⟩,
      ⟨some 6, none, .mv (.r 0)⟩,
      ⟨some 7, none, .app (.reg 5) 1 1 (.r 5) (.r 6)⟩,
      ⟨some 2, none, .asg (.r 7)⟩] [2])
    .ret))),
  [.r 2], none⟩
def c_bytes_Compare : VFun := ⟨2,
  (.seq (.ops [⟨some 4, none, .asg (.c (.int .i64 0))⟩] [0, 1])
  (.seq (.ops [⟨some 5, none, .mv (.r 0)⟩,
    ⟨some 6, none, .mv (.r 1)⟩,
    ⟨some 7, none, .call false F.bytealg_Compare [(.r 5), (.r 6)]⟩,
    ⟨some 4, none, .asg (.r 7)⟩] [4])
  .ret)),
  [.r 4], none⟩
def c_vector_is : VFun := ⟨1,
  (.seq (.ops [⟨some 2, none, .asg (.c (.bool false))⟩] [0])
  (.seq (.ops [⟨some 3, none, .mv (.r 0)⟩,
    ⟨some 4, none, .bin .geq .no (.r 3) (.c (.int .i64 0))⟩,
    ⟨some 5, none, .mv (.r 4)⟩,
    ⟨some 6, some (5, true), .mv (.r 0)⟩,
    ⟨some 7, some (5, true), .bin .lss .no (.r 6) (.c (.int .i64 8))⟩,
    ⟨some 8, none, .pick (.r 5) (.r 7) (.c (.bool false))⟩,
    ⟨some 2, none, .asg (.r 8)⟩] [2])
  .ret)),
  [.r 2], none⟩
def c_cmp_Compare_int64 : VFun := ⟨2,
  (.seq (.ops [⟨some 4, none, .asg (.c (.int .i64 0))⟩] [0, 1])
  (.seq (.ops [⟨some 7, none, .mv (.r 0)⟩,
    ⟨some 8, none, .call false F.cmp_isNaN_int64 [(.r 7)]⟩,
    ⟨some 5, none, .asg (.r 8)⟩] [0, 1, 5])
  (.seq (.ops [⟨some 9, none, .mv (.r 1)⟩,
    ⟨some 10, none, .call false F.cmp_isNaN_int64 [(.r 9)]⟩,
    ⟨some 6, none, .asg (.r 10)⟩] [0, 1, 5, 6])
  (.seq (.seq (.ops [⟨some 11, none, .mv (.r 5)⟩] [0, 1, 6, 11])
    (.cond (.r 11) (.seq (.seq (.ops [⟨some 12, none, .mv (.r 6)⟩] [12])
        (.cond (.r 12) (.seq (.ops [⟨some 4, none, .asg (.c (.int .i64 0))⟩] [4])
          .ret) .skip))
      (.seq (.ops [⟨some 4, none, .asg (.c (.int .i64 (-1)))⟩] [4])
      .ret)) .skip))
  (.seq (.seq (.ops [⟨some 13, none, .mv (.r 6)⟩] [0, 1, 13])
    (.cond (.r 13) (.seq (.ops [⟨some 4, none, .asg (.c (.int .i64 1))⟩] [4])
      .ret) .skip))
  (.seq (.seq (.ops [⟨some 14, none, .mv (.r 0)⟩,
      ⟨some 15, none, .mv (.r 1)⟩,
      ⟨some 16, none, .bin .lss .no (.r 14) (.r 15)⟩] [0, 1, 16])
    (.cond (.r 16) (.seq (.ops [⟨some 4, none, .asg (.c (.int .i64 (-1)))⟩] [4])
      .ret) .skip))
  (.seq (.seq (.ops [⟨some 17, none, .mv (.r 0)⟩,
      ⟨some 18, none, .mv (.r 1)⟩,
      ⟨some 19, none, .bin .gtr .no (.r 17) (.r 18)⟩] [19])
    (.cond (.r 19) (.seq (.ops [⟨some 4, none, .asg (.c (.int .i64 1))⟩] [4])
      .ret) .skip))
  (.seq (.ops [⟨some 4, none, .asg (.c (.int .i64 0))⟩] [4])
  .ret)))))))),
  [.r 4], none⟩
def c_cmp_isNaN_int64 : VFun := ⟨1,
  (.seq (.ops [⟨some 2, none, .asg (.c (.bool false))⟩] [0])
  (.seq (.ops [⟨some 3, none, .mv (.r 0)⟩,
    ⟨some 4, none, .mv (.r 0)⟩,
    ⟨some 5, none, .bin .neq .no (.r 3) (.r 4)⟩,
    ⟨some 2, none, .asg (.r 5)⟩] [2])
  .ret)),
  [.r 2], none⟩
def R : Nat → Option Nat := fun _ => none
theorem ok_tattlerlaw11_HintsPlay : FunOk Try.prog R F.tattlerlaw11_HintsPlay c_tattlerlaw11_HintsPlay := funOk_of Try.func7 rfl (by kernel_rfl) (by kernel_rfl) (by kernel_rfl) (by kernel_rfl) (linC_of (by kernel_rfl)) (by kernel_rfl) (of_decide_eq_true (by kernel_rfl)) (by kernel_rfl)
theorem ok_hints_New : FunOk Try.prog R F.hints_New c_hints_New := funOk_of Try.func9 rfl (by kernel_rfl) (by kernel_rfl) (by kernel_rfl) (by kernel_rfl) (linC_of (by kernel_rfl)) (by kernel_rfl) (of_decide_eq_true (by kernel_rfl)) (by kernel_rfl)
theorem ok_hints_Set_Put : FunOk Try.prog R F.hints_Set_Put c_hints_Set_Put := funOk_of Try.func10 rfl (by kernel_rfl) (by kernel_rfl) (by kernel_rfl) (by kernel_rfl) (linC_of (by kernel_rfl)) (by kernel_rfl) (of_decide_eq_true (by kernel_rfl)) (by kernel_rfl)
theorem ok_hints_Set_Len : FunOk Try.prog R F.hints_Set_Len c_hints_Set_Len := funOk_of Try.func11 rfl (by kernel_rfl) (by kernel_rfl) (by kernel_rfl) (by kernel_rfl) (linC_of (by kernel_rfl)) (by kernel_rfl) (of_decide_eq_true (by kernel_rfl)) (by kernel_rfl)
theorem ok_tattlerlaw11_awake : FunOk Try.prog R F.tattlerlaw11_awake c_tattlerlaw11_awake := funOk_of Try.func12 rfl (by kernel_rfl) (by kernel_rfl) (by kernel_rfl) (by kernel_rfl) (linC_of (by kernel_rfl)) (by kernel_rfl) (of_decide_eq_true (by kernel_rfl)) (by kernel_rfl)
theorem ok_tattlerlaw11_light : FunOk Try.prog R F.tattlerlaw11_light c_tattlerlaw11_light := funOk_of Try.func13 rfl (by kernel_rfl) (by kernel_rfl) (by kernel_rfl) (by kernel_rfl) (linC_of (by kernel_rfl)) (by kernel_rfl) (of_decide_eq_true (by kernel_rfl)) (by kernel_rfl)
theorem ok_hints_Set_All : FunOk Try.prog R F.hints_Set_All c_hints_Set_All := funOk_of Try.func14 rfl (by kernel_rfl) (by kernel_rfl) (by kernel_rfl) (by kernel_rfl) (linC_of (by kernel_rfl)) (by kernel_rfl) (of_decide_eq_true (by kernel_rfl)) (by kernel_rfl)
theorem ok_hints_Set_Drop : FunOk Try.prog R F.hints_Set_Drop c_hints_Set_Drop := funOk_of Try.func15 rfl (by kernel_rfl) (by kernel_rfl) (by kernel_rfl) (by kernel_rfl) (linC_of (by kernel_rfl)) (by kernel_rfl) (of_decide_eq_true (by kernel_rfl)) (by kernel_rfl)
theorem ok_tattlerref5_Leq : FunOk Try.prog R F.tattlerref5_Leq c_tattlerref5_Leq := funOk_of Try.func16 rfl (by kernel_rfl) (by kernel_rfl) (by kernel_rfl) (by kernel_rfl) (linC_of (by kernel_rfl)) (by kernel_rfl) (of_decide_eq_true (by kernel_rfl)) (by kernel_rfl)
theorem ok_tattlerref5_SameHints : FunOk Try.prog R F.tattlerref5_SameHints c_tattlerref5_SameHints := funOk_of Try.func17 rfl (by kernel_rfl) (by kernel_rfl) (by kernel_rfl) (by kernel_rfl) (linC_of (by kernel_rfl)) (by kernel_rfl) (of_decide_eq_true (by kernel_rfl)) (by kernel_rfl)
theorem ok_sibs_Leq : FunOk Try.prog R F.sibs_Leq c_sibs_Leq := funOk_of Try.func18 rfl (by kernel_rfl) (by kernel_rfl) (by kernel_rfl) (by kernel_rfl) (linC_of (by kernel_rfl)) (by kernel_rfl) (of_decide_eq_true (by kernel_rfl)) (by kernel_rfl)
theorem ok_tattlerref5_SameEntries : FunOk Try.prog R F.tattlerref5_SameEntries c_tattlerref5_SameEntries := funOk_of Try.func19 rfl (by kernel_rfl) (by kernel_rfl) (by kernel_rfl) (by kernel_rfl) (linC_of (by kernel_rfl)) (by kernel_rfl) (of_decide_eq_true (by kernel_rfl)) (by kernel_rfl)
theorem ok_hints_Set_For : FunOk Try.prog R F.hints_Set_For c_hints_Set_For := funOk_of Try.func20 rfl (by kernel_rfl) (by kernel_rfl) (by kernel_rfl) (by kernel_rfl) (linC_of (by kernel_rfl)) (by kernel_rfl) (of_decide_eq_true (by kernel_rfl)) (by kernel_rfl)
theorem ok_tattlerref5_Hints_Put : FunOk Try.prog R F.tattlerref5_Hints_Put c_tattlerref5_Hints_Put := funOk_of Try.func21 rfl (by kernel_rfl) (by kernel_rfl) (by kernel_rfl) (by kernel_rfl) (linC_of (by kernel_rfl)) (by kernel_rfl) (of_decide_eq_true (by kernel_rfl)) (by kernel_rfl)
theorem ok_tattlerref5_Hints_Drop : FunOk Try.prog R F.tattlerref5_Hints_Drop c_tattlerref5_Hints_Drop := funOk_of Try.func22 rfl (by kernel_rfl) (by kernel_rfl) (by kernel_rfl) (by kernel_rfl) (linC_of (by kernel_rfl)) (by kernel_rfl) (of_decide_eq_true (by kernel_rfl)) (by kernel_rfl)
theorem ok_hints_Set_First : FunOk Try.prog R F.hints_Set_First c_hints_Set_First := funOk_of Try.func23 rfl (by kernel_rfl) (by kernel_rfl) (by kernel_rfl) (by kernel_rfl) (linC_of (by kernel_rfl)) (by kernel_rfl) (of_decide_eq_true (by kernel_rfl)) (by kernel_rfl)
theorem ok_sibs_MayEntry : FunOk Try.prog R F.sibs_MayEntry c_sibs_MayEntry := funOk_of Try.func24 rfl (by kernel_rfl) (by kernel_rfl) (by kernel_rfl) (by kernel_rfl) (linC_of (by kernel_rfl)) (by kernel_rfl) (of_decide_eq_true (by kernel_rfl)) (by kernel_rfl)
theorem ok_hints_Set_find : FunOk Try.prog R F.hints_Set_find c_hints_Set_find := funOk_of Try.func25 rfl (by kernel_rfl) (by kernel_rfl) (by kernel_rfl) (by kernel_rfl) (linC_of (by kernel_rfl)) (by kernel_rfl) (of_decide_eq_true (by kernel_rfl)) (by kernel_rfl)
theorem lin_sibs_Join : linC Try.prog c_sibs_Join.body := (And.intro (linC_of (by kernel_rfl)) (And.intro (linC_of (by kernel_rfl)) (And.intro (linC_of (by kernel_rfl)) (And.intro (linC_of (by kernel_rfl)) (And.intro (linC_of (by kernel_rfl)) (And.intro (fun i hi => by simp only [List.mem_cons, List.not_mem_nil, or_false] at hi; rcases hi with rfl | rfl | rfl | rfl <;> first | exact trivial | exact V0.sorted_lin) (linC_of (by kernel_rfl))))))))
theorem ok_sibs_Join : FunOk Try.prog R F.sibs_Join c_sibs_Join := funOk_of Try.func26 rfl (by kernel_rfl) (by kernel_rfl) (by kernel_rfl) (by kernel_rfl) lin_sibs_Join (by kernel_rfl) (of_decide_eq_true (by kernel_rfl)) (by kernel_rfl)
theorem ok_sibs_Same : FunOk Try.prog R F.sibs_Same c_sibs_Same := funOk_of Try.func27 rfl (by kernel_rfl) (by kernel_rfl) (by kernel_rfl) (by kernel_rfl) (linC_of (by kernel_rfl)) (by kernel_rfl) (of_decide_eq_true (by kernel_rfl)) (by kernel_rfl)
theorem ok_hints_copied : FunOk Try.prog R F.hints_copied c_hints_copied := funOk_of Try.func29 rfl (by kernel_rfl) (by kernel_rfl) (by kernel_rfl) (by kernel_rfl) (linC_of (by kernel_rfl)) (by kernel_rfl) (of_decide_eq_true (by kernel_rfl)) (by kernel_rfl)
theorem ok_tattlerref5_May : FunOk Try.prog R F.tattlerref5_May c_tattlerref5_May := funOk_of Try.func31 rfl (by kernel_rfl) (by kernel_rfl) (by kernel_rfl) (by kernel_rfl) (linC_of (by kernel_rfl)) (by kernel_rfl) (of_decide_eq_true (by kernel_rfl)) (by kernel_rfl)
theorem ok_tattlerref5_Same : FunOk Try.prog R F.tattlerref5_Same c_tattlerref5_Same := funOk_of Try.func32 rfl (by kernel_rfl) (by kernel_rfl) (by kernel_rfl) (by kernel_rfl) (linC_of (by kernel_rfl)) (by kernel_rfl) (of_decide_eq_true (by kernel_rfl)) (by kernel_rfl)
theorem ok_tattlerref5_Join : FunOk Try.prog R F.tattlerref5_Join c_tattlerref5_Join := funOk_of Try.func33 rfl (by kernel_rfl) (by kernel_rfl) (by kernel_rfl) (by kernel_rfl) (linC_of (by kernel_rfl)) (by kernel_rfl) (of_decide_eq_true (by kernel_rfl)) (by kernel_rfl)
theorem ok_sibs_May : FunOk Try.prog R F.sibs_May c_sibs_May := funOk_of Try.func34 rfl (by kernel_rfl) (by kernel_rfl) (by kernel_rfl) (by kernel_rfl) (linC_of (by kernel_rfl)) (by kernel_rfl) (of_decide_eq_true (by kernel_rfl)) (by kernel_rfl)
theorem ok_tattlerref5_MayEntry : FunOk Try.prog R F.tattlerref5_MayEntry c_tattlerref5_MayEntry := funOk_of Try.func35 rfl (by kernel_rfl) (by kernel_rfl) (by kernel_rfl) (by kernel_rfl) (linC_of (by kernel_rfl)) (by kernel_rfl) (of_decide_eq_true (by kernel_rfl)) (by kernel_rfl)
theorem ok_tattlerref5_Hints_at : FunOk Try.prog R F.tattlerref5_Hints_at c_tattlerref5_Hints_at := funOk_of Try.func36 rfl (by kernel_rfl) (by kernel_rfl) (by kernel_rfl) (by kernel_rfl) (linC_of (by kernel_rfl)) (by kernel_rfl) (of_decide_eq_true (by kernel_rfl)) (by kernel_rfl)
theorem ok_slices_BinarySearchFunc_api_Hint_api_Hint_api_Hint : FunOk Try.prog R F.slices_BinarySearchFunc_api_Hint_api_Hint_api_Hint c_slices_BinarySearchFunc_api_Hint_api_Hint_api_Hint := funOk_of Try.func37 rfl (by kernel_rfl) (by kernel_rfl) (by kernel_rfl) (by kernel_rfl) (linC_of (by kernel_rfl)) (by kernel_rfl) (of_decide_eq_true (by kernel_rfl)) (by kernel_rfl)
theorem ok_hints_Set_find_c1 : FunOk Try.prog R F.hints_Set_find_c1 c_hints_Set_find_c1 := funOk_of Try.func38 rfl (by kernel_rfl) (by kernel_rfl) (by kernel_rfl) (by kernel_rfl) (linC_of (by kernel_rfl)) (by kernel_rfl) (of_decide_eq_true (by kernel_rfl)) (by kernel_rfl)
theorem ok_cmp_Or_int : FunOk Try.prog R F.cmp_Or_int c_cmp_Or_int := funOk_of Try.func39 rfl (by kernel_rfl) (by kernel_rfl) (by kernel_rfl) (by kernel_rfl) (linC_of (by kernel_rfl)) (by kernel_rfl) (of_decide_eq_true (by kernel_rfl)) (by kernel_rfl)
theorem ok_cmp_Compare_int : FunOk Try.prog R F.cmp_Compare_int c_cmp_Compare_int := funOk_of Try.func40 rfl (by kernel_rfl) (by kernel_rfl) (by kernel_rfl) (by kernel_rfl) (linC_of (by kernel_rfl)) (by kernel_rfl) (of_decide_eq_true (by kernel_rfl)) (by kernel_rfl)
theorem ok_cmp_Compare_string : FunOk Try.prog R F.cmp_Compare_string c_cmp_Compare_string := funOk_of Try.func41 rfl (by kernel_rfl) (by kernel_rfl) (by kernel_rfl) (by kernel_rfl) (linC_of (by kernel_rfl)) (by kernel_rfl) (of_decide_eq_true (by kernel_rfl)) (by kernel_rfl)
theorem ok_sibs_find : FunOk Try.prog R F.sibs_find c_sibs_find := funOk_of Try.func42 rfl (by kernel_rfl) (by kernel_rfl) (by kernel_rfl) (by kernel_rfl) (linC_of (by kernel_rfl)) (by kernel_rfl) (of_decide_eq_true (by kernel_rfl)) (by kernel_rfl)
theorem ok_sibs_own : FunOk Try.prog R F.sibs_own c_sibs_own := funOk_of Try.func43 rfl (by kernel_rfl) (by kernel_rfl) (by kernel_rfl) (by kernel_rfl) (linC_of (by kernel_rfl)) (by kernel_rfl) (of_decide_eq_true (by kernel_rfl)) (by kernel_rfl)
theorem ok_sibs_better : FunOk Try.prog R F.sibs_better c_sibs_better := funOk_of Try.func44 rfl (by kernel_rfl) (by kernel_rfl) (by kernel_rfl) (by kernel_rfl) (linC_of (by kernel_rfl)) (by kernel_rfl) (of_decide_eq_true (by kernel_rfl)) (by kernel_rfl)
theorem ok_vector_Covers : FunOk Try.prog R F.vector_Covers c_vector_Covers := funOk_of Try.func45 rfl (by kernel_rfl) (by kernel_rfl) (by kernel_rfl) (by kernel_rfl) (linC_of (by kernel_rfl)) (by kernel_rfl) (of_decide_eq_true (by kernel_rfl)) (by kernel_rfl)
theorem ok_vector_Join : FunOk Try.prog R F.vector_Join c_vector_Join := funOk_of Try.func47 rfl (by kernel_rfl) (by kernel_rfl) (by kernel_rfl) (by kernel_rfl) (linC_of (by kernel_rfl)) (by kernel_rfl) (of_decide_eq_true (by kernel_rfl)) (by kernel_rfl)
theorem ok_slices_EqualFunc_api_Value_api_Value_api_Value_api_Value : FunOk Try.prog R F.slices_EqualFunc_api_Value_api_Value_api_Value_api_Value c_slices_EqualFunc_api_Value_api_Value_api_Value_api_Value := funOk_of Try.func48 rfl (by kernel_rfl) (by kernel_rfl) (by kernel_rfl) (by kernel_rfl) (linC_of (by kernel_rfl)) (by kernel_rfl) (of_decide_eq_true (by kernel_rfl)) (by kernel_rfl)
theorem ok_sibs_Same_c1 : FunOk Try.prog R F.sibs_Same_c1 c_sibs_Same_c1 := funOk_of Try.func49 rfl (by kernel_rfl) (by kernel_rfl) (by kernel_rfl) (by kernel_rfl) (linC_of (by kernel_rfl)) (by kernel_rfl) (of_decide_eq_true (by kernel_rfl)) (by kernel_rfl)
theorem ok_bytes_Equal : FunOk Try.prog R F.bytes_Equal c_bytes_Equal := funOk_of Try.func50 rfl (by kernel_rfl) (by kernel_rfl) (by kernel_rfl) (by kernel_rfl) (linC_of (by kernel_rfl)) (by kernel_rfl) (of_decide_eq_true (by kernel_rfl)) (by kernel_rfl)
theorem ok_tattlerref1_May : FunOk Try.prog R F.tattlerref1_May c_tattlerref1_May := funOk_of Try.func53 rfl (by kernel_rfl) (by kernel_rfl) (by kernel_rfl) (by kernel_rfl) (linC_of (by kernel_rfl)) (by kernel_rfl) (of_decide_eq_true (by kernel_rfl)) (by kernel_rfl)
theorem ok_tattlerref1_Covers : FunOk Try.prog R F.tattlerref1_Covers c_tattlerref1_Covers := funOk_of Try.func54 rfl (by kernel_rfl) (by kernel_rfl) (by kernel_rfl) (by kernel_rfl) (linC_of (by kernel_rfl)) (by kernel_rfl) (of_decide_eq_true (by kernel_rfl)) (by kernel_rfl)
theorem ok_tattlerref1_Less : FunOk Try.prog R F.tattlerref1_Less c_tattlerref1_Less := funOk_of Try.func55 rfl (by kernel_rfl) (by kernel_rfl) (by kernel_rfl) (by kernel_rfl) (linC_of (by kernel_rfl)) (by kernel_rfl) (of_decide_eq_true (by kernel_rfl)) (by kernel_rfl)
theorem ok_tattlerref1_Join : FunOk Try.prog R F.tattlerref1_Join c_tattlerref1_Join := funOk_of Try.func56 rfl (by kernel_rfl) (by kernel_rfl) (by kernel_rfl) (by kernel_rfl) (linC_of (by kernel_rfl)) (by kernel_rfl) (of_decide_eq_true (by kernel_rfl)) (by kernel_rfl)
theorem ok_tattlerref5_find : FunOk Try.prog R F.tattlerref5_find c_tattlerref5_find := funOk_of Try.func57 rfl (by kernel_rfl) (by kernel_rfl) (by kernel_rfl) (by kernel_rfl) (linC_of (by kernel_rfl)) (by kernel_rfl) (of_decide_eq_true (by kernel_rfl)) (by kernel_rfl)
theorem ok_tattlerref5_insert : FunOk Try.prog R F.tattlerref5_insert c_tattlerref5_insert := funOk_of Try.func58 rfl (by kernel_rfl) (by kernel_rfl) (by kernel_rfl) (by kernel_rfl) (linC_of (by kernel_rfl)) (by kernel_rfl) (of_decide_eq_true (by kernel_rfl)) (by kernel_rfl)
theorem ok_tattlerref5_copied : FunOk Try.prog R F.tattlerref5_copied c_tattlerref5_copied := funOk_of Try.func59 rfl (by kernel_rfl) (by kernel_rfl) (by kernel_rfl) (by kernel_rfl) (linC_of (by kernel_rfl)) (by kernel_rfl) (of_decide_eq_true (by kernel_rfl)) (by kernel_rfl)
theorem ok_tattlerref5_first : FunOk Try.prog R F.tattlerref5_first c_tattlerref5_first := funOk_of Try.func60 rfl (by kernel_rfl) (by kernel_rfl) (by kernel_rfl) (by kernel_rfl) (linC_of (by kernel_rfl)) (by kernel_rfl) (of_decide_eq_true (by kernel_rfl)) (by kernel_rfl)
theorem ok_vector_May : FunOk Try.prog R F.vector_May c_vector_May := funOk_of Try.func61 rfl (by kernel_rfl) (by kernel_rfl) (by kernel_rfl) (by kernel_rfl) (linC_of (by kernel_rfl)) (by kernel_rfl) (of_decide_eq_true (by kernel_rfl)) (by kernel_rfl)
theorem ok_sibs_mayValue : FunOk Try.prog R F.sibs_mayValue c_sibs_mayValue := funOk_of Try.func62 rfl (by kernel_rfl) (by kernel_rfl) (by kernel_rfl) (by kernel_rfl) (linC_of (by kernel_rfl)) (by kernel_rfl) (of_decide_eq_true (by kernel_rfl)) (by kernel_rfl)
theorem ok_vector_Less : FunOk Try.prog R F.vector_Less c_vector_Less := funOk_of Try.func63 rfl (by kernel_rfl) (by kernel_rfl) (by kernel_rfl) (by kernel_rfl) (linC_of (by kernel_rfl)) (by kernel_rfl) (of_decide_eq_true (by kernel_rfl)) (by kernel_rfl)
theorem ok_tattlerref5_MayKey : FunOk Try.prog R F.tattlerref5_MayKey c_tattlerref5_MayKey := funOk_of Try.func64 rfl (by kernel_rfl) (by kernel_rfl) (by kernel_rfl) (by kernel_rfl) (linC_of (by kernel_rfl)) (by kernel_rfl) (of_decide_eq_true (by kernel_rfl)) (by kernel_rfl)
theorem ok_cmp_isNaN_int : FunOk Try.prog R F.cmp_isNaN_int c_cmp_isNaN_int := funOk_of Try.func65 rfl (by kernel_rfl) (by kernel_rfl) (by kernel_rfl) (by kernel_rfl) (linC_of (by kernel_rfl)) (by kernel_rfl) (of_decide_eq_true (by kernel_rfl)) (by kernel_rfl)
theorem ok_cmp_isNaN_string : FunOk Try.prog R F.cmp_isNaN_string c_cmp_isNaN_string := funOk_of Try.func66 rfl (by kernel_rfl) (by kernel_rfl) (by kernel_rfl) (by kernel_rfl) (linC_of (by kernel_rfl)) (by kernel_rfl) (of_decide_eq_true (by kernel_rfl)) (by kernel_rfl)
theorem ok_slices_Clone_byte_byte : FunOk Try.prog R F.slices_Clone_byte_byte c_slices_Clone_byte_byte := funOk_of Try.func67 rfl (by kernel_rfl) (by kernel_rfl) (by kernel_rfl) (by kernel_rfl) (linC_of (by kernel_rfl)) (by kernel_rfl) (of_decide_eq_true (by kernel_rfl)) (by kernel_rfl)
theorem ok_bytes_Compare : FunOk Try.prog R F.bytes_Compare c_bytes_Compare := funOk_of Try.func68 rfl (by kernel_rfl) (by kernel_rfl) (by kernel_rfl) (by kernel_rfl) (linC_of (by kernel_rfl)) (by kernel_rfl) (of_decide_eq_true (by kernel_rfl)) (by kernel_rfl)
theorem ok_vector_is : FunOk Try.prog R F.vector_is c_vector_is := funOk_of Try.func69 rfl (by kernel_rfl) (by kernel_rfl) (by kernel_rfl) (by kernel_rfl) (linC_of (by kernel_rfl)) (by kernel_rfl) (of_decide_eq_true (by kernel_rfl)) (by kernel_rfl)
theorem ok_cmp_Compare_int64 : FunOk Try.prog R F.cmp_Compare_int64 c_cmp_Compare_int64 := funOk_of Try.func73 rfl (by kernel_rfl) (by kernel_rfl) (by kernel_rfl) (by kernel_rfl) (linC_of (by kernel_rfl)) (by kernel_rfl) (of_decide_eq_true (by kernel_rfl)) (by kernel_rfl)
theorem ok_cmp_isNaN_int64 : FunOk Try.prog R F.cmp_isNaN_int64 c_cmp_isNaN_int64 := funOk_of Try.func78 rfl (by kernel_rfl) (by kernel_rfl) (by kernel_rfl) (by kernel_rfl) (linC_of (by kernel_rfl)) (by kernel_rfl) (of_decide_eq_true (by kernel_rfl)) (by kernel_rfl)
def tab : List (Nat × VFun) := [(F.tattlerlaw11_HintsPlay, c_tattlerlaw11_HintsPlay), (F.hints_New, c_hints_New), (F.hints_Set_Put, c_hints_Set_Put), (F.hints_Set_Len, c_hints_Set_Len), (F.tattlerlaw11_awake, c_tattlerlaw11_awake), (F.tattlerlaw11_light, c_tattlerlaw11_light), (F.hints_Set_All, c_hints_Set_All), (F.hints_Set_Drop, c_hints_Set_Drop), (F.tattlerref5_Leq, c_tattlerref5_Leq), (F.tattlerref5_SameHints, c_tattlerref5_SameHints), (F.sibs_Leq, c_sibs_Leq), (F.tattlerref5_SameEntries, c_tattlerref5_SameEntries), (F.hints_Set_For, c_hints_Set_For), (F.tattlerref5_Hints_Put, c_tattlerref5_Hints_Put), (F.tattlerref5_Hints_Drop, c_tattlerref5_Hints_Drop), (F.hints_Set_First, c_hints_Set_First), (F.sibs_MayEntry, c_sibs_MayEntry), (F.hints_Set_find, c_hints_Set_find), (F.sibs_Join, c_sibs_Join), (F.sibs_Same, c_sibs_Same), (F.hints_copied, c_hints_copied), (F.tattlerref5_May, c_tattlerref5_May), (F.tattlerref5_Same, c_tattlerref5_Same), (F.tattlerref5_Join, c_tattlerref5_Join), (F.sibs_May, c_sibs_May), (F.tattlerref5_MayEntry, c_tattlerref5_MayEntry), (F.tattlerref5_Hints_at, c_tattlerref5_Hints_at), (F.slices_BinarySearchFunc_api_Hint_api_Hint_api_Hint, c_slices_BinarySearchFunc_api_Hint_api_Hint_api_Hint), (F.hints_Set_find_c1, c_hints_Set_find_c1), (F.cmp_Or_int, c_cmp_Or_int), (F.cmp_Compare_int, c_cmp_Compare_int), (F.cmp_Compare_string, c_cmp_Compare_string), (F.sibs_find, c_sibs_find), (F.sibs_own, c_sibs_own), (F.sibs_better, c_sibs_better), (F.vector_Covers, c_vector_Covers), (F.vector_Join, c_vector_Join), (F.slices_EqualFunc_api_Value_api_Value_api_Value_api_Value, c_slices_EqualFunc_api_Value_api_Value_api_Value_api_Value), (F.sibs_Same_c1, c_sibs_Same_c1), (F.bytes_Equal, c_bytes_Equal), (F.tattlerref1_May, c_tattlerref1_May), (F.tattlerref1_Covers, c_tattlerref1_Covers), (F.tattlerref1_Less, c_tattlerref1_Less), (F.tattlerref1_Join, c_tattlerref1_Join), (F.tattlerref5_find, c_tattlerref5_find), (F.tattlerref5_insert, c_tattlerref5_insert), (F.tattlerref5_copied, c_tattlerref5_copied), (F.tattlerref5_first, c_tattlerref5_first), (F.vector_May, c_vector_May), (F.sibs_mayValue, c_sibs_mayValue), (F.vector_Less, c_vector_Less), (F.tattlerref5_MayKey, c_tattlerref5_MayKey), (F.cmp_isNaN_int, c_cmp_isNaN_int), (F.cmp_isNaN_string, c_cmp_isNaN_string), (F.slices_Clone_byte_byte, c_slices_Clone_byte_byte), (F.bytes_Compare, c_bytes_Compare), (F.vector_is, c_vector_is), (F.cmp_Compare_int64, c_cmp_Compare_int64), (F.cmp_isNaN_int64, c_cmp_isNaN_int64)]
theorem prim_slices_Insert_api_Hint_api_Hint : PrimOk Try.prog R F.slices_Insert_api_Hint_api_Hint (insertP 11 112) := insertP_ok V0.insertAt rfl
theorem prim_slices_Delete_api_Hint_api_Hint : PrimOk Try.prog R F.slices_Delete_api_Hint_api_Hint (deleteP 11) := deleteP_ok V0.deleteAt rfl
theorem prim_bytealg_Compare : PrimOk Try.prog R F.bytealg_Compare compareP := compare_ok (fn := Try.f74) Try.func74 (by kernel_rfl) (by kernel_rfl) (by kernel_rfl) (by kernel_rfl) rfl
def prims : List (Nat × Prim) := [(F.slices_Insert_api_Hint_api_Hint, (insertP 11 112)), (F.slices_Delete_api_Hint_api_Hint, (deleteP 11)), (F.bytealg_Compare, compareP)]
abbrev E : Env := ⟨tabFn tab, primFn prims⟩
theorem envOk : EnvOk Try.prog R E := env_prims Try.checked.mixed ⟨prim_slices_Insert_api_Hint_api_Hint, prim_slices_Delete_api_Hint_api_Hint, prim_bytealg_Compare, trivial⟩ ⟨ok_tattlerlaw11_HintsPlay, ok_hints_New, ok_hints_Set_Put, ok_hints_Set_Len, ok_tattlerlaw11_awake, ok_tattlerlaw11_light, ok_hints_Set_All, ok_hints_Set_Drop, ok_tattlerref5_Leq, ok_tattlerref5_SameHints, ok_sibs_Leq, ok_tattlerref5_SameEntries, ok_hints_Set_For, ok_tattlerref5_Hints_Put, ok_tattlerref5_Hints_Drop, ok_hints_Set_First, ok_sibs_MayEntry, ok_hints_Set_find, ok_sibs_Join, ok_sibs_Same, ok_hints_copied, ok_tattlerref5_May, ok_tattlerref5_Same, ok_tattlerref5_Join, ok_sibs_May, ok_tattlerref5_MayEntry, ok_tattlerref5_Hints_at, ok_slices_BinarySearchFunc_api_Hint_api_Hint_api_Hint, ok_hints_Set_find_c1, ok_cmp_Or_int, ok_cmp_Compare_int, ok_cmp_Compare_string, ok_sibs_find, ok_sibs_own, ok_sibs_better, ok_vector_Covers, ok_vector_Join, ok_slices_EqualFunc_api_Value_api_Value_api_Value_api_Value, ok_sibs_Same_c1, ok_bytes_Equal, ok_tattlerref1_May, ok_tattlerref1_Covers, ok_tattlerref1_Less, ok_tattlerref1_Join, ok_tattlerref5_find, ok_tattlerref5_insert, ok_tattlerref5_copied, ok_tattlerref5_first, ok_vector_May, ok_sibs_mayValue, ok_vector_Less, ok_tattlerref5_MayKey, ok_cmp_isNaN_int, ok_cmp_isNaN_string, ok_slices_Clone_byte_byte, ok_bytes_Compare, ok_vector_is, ok_cmp_Compare_int64, ok_cmp_isNaN_int64, trivial⟩
theorem fn_tattlerlaw11_HintsPlay : E.fn F.tattlerlaw11_HintsPlay = some c_tattlerlaw11_HintsPlay := rfl
theorem fn_hints_New : E.fn F.hints_New = some c_hints_New := rfl
theorem fn_hints_Set_Put : E.fn F.hints_Set_Put = some c_hints_Set_Put := rfl
theorem fn_hints_Set_Len : E.fn F.hints_Set_Len = some c_hints_Set_Len := rfl
theorem fn_tattlerlaw11_awake : E.fn F.tattlerlaw11_awake = some c_tattlerlaw11_awake := rfl
theorem fn_tattlerlaw11_light : E.fn F.tattlerlaw11_light = some c_tattlerlaw11_light := rfl
theorem fn_hints_Set_All : E.fn F.hints_Set_All = some c_hints_Set_All := rfl
theorem fn_hints_Set_Drop : E.fn F.hints_Set_Drop = some c_hints_Set_Drop := rfl
theorem fn_tattlerref5_Leq : E.fn F.tattlerref5_Leq = some c_tattlerref5_Leq := rfl
theorem fn_tattlerref5_SameHints : E.fn F.tattlerref5_SameHints = some c_tattlerref5_SameHints := rfl
theorem fn_sibs_Leq : E.fn F.sibs_Leq = some c_sibs_Leq := rfl
theorem fn_tattlerref5_SameEntries : E.fn F.tattlerref5_SameEntries = some c_tattlerref5_SameEntries := rfl
theorem fn_hints_Set_For : E.fn F.hints_Set_For = some c_hints_Set_For := rfl
theorem fn_tattlerref5_Hints_Put : E.fn F.tattlerref5_Hints_Put = some c_tattlerref5_Hints_Put := rfl
theorem fn_tattlerref5_Hints_Drop : E.fn F.tattlerref5_Hints_Drop = some c_tattlerref5_Hints_Drop := rfl
theorem fn_hints_Set_First : E.fn F.hints_Set_First = some c_hints_Set_First := rfl
theorem fn_sibs_MayEntry : E.fn F.sibs_MayEntry = some c_sibs_MayEntry := rfl
theorem fn_hints_Set_find : E.fn F.hints_Set_find = some c_hints_Set_find := rfl
theorem fn_sibs_Join : E.fn F.sibs_Join = some c_sibs_Join := rfl
theorem fn_sibs_Same : E.fn F.sibs_Same = some c_sibs_Same := rfl
theorem fn_hints_copied : E.fn F.hints_copied = some c_hints_copied := rfl
theorem fn_tattlerref5_May : E.fn F.tattlerref5_May = some c_tattlerref5_May := rfl
theorem fn_tattlerref5_Same : E.fn F.tattlerref5_Same = some c_tattlerref5_Same := rfl
theorem fn_tattlerref5_Join : E.fn F.tattlerref5_Join = some c_tattlerref5_Join := rfl
theorem fn_sibs_May : E.fn F.sibs_May = some c_sibs_May := rfl
theorem fn_tattlerref5_MayEntry : E.fn F.tattlerref5_MayEntry = some c_tattlerref5_MayEntry := rfl
theorem fn_tattlerref5_Hints_at : E.fn F.tattlerref5_Hints_at = some c_tattlerref5_Hints_at := rfl
theorem fn_slices_BinarySearchFunc_api_Hint_api_Hint_api_Hint : E.fn F.slices_BinarySearchFunc_api_Hint_api_Hint_api_Hint = some c_slices_BinarySearchFunc_api_Hint_api_Hint_api_Hint := rfl
theorem fn_hints_Set_find_c1 : E.fn F.hints_Set_find_c1 = some c_hints_Set_find_c1 := rfl
theorem fn_cmp_Or_int : E.fn F.cmp_Or_int = some c_cmp_Or_int := rfl
theorem fn_cmp_Compare_int : E.fn F.cmp_Compare_int = some c_cmp_Compare_int := rfl
theorem fn_cmp_Compare_string : E.fn F.cmp_Compare_string = some c_cmp_Compare_string := rfl
theorem fn_sibs_find : E.fn F.sibs_find = some c_sibs_find := rfl
theorem fn_sibs_own : E.fn F.sibs_own = some c_sibs_own := rfl
theorem fn_sibs_better : E.fn F.sibs_better = some c_sibs_better := rfl
theorem fn_vector_Covers : E.fn F.vector_Covers = some c_vector_Covers := rfl
theorem fn_vector_Join : E.fn F.vector_Join = some c_vector_Join := rfl
theorem fn_slices_EqualFunc_api_Value_api_Value_api_Value_api_Value : E.fn F.slices_EqualFunc_api_Value_api_Value_api_Value_api_Value = some c_slices_EqualFunc_api_Value_api_Value_api_Value_api_Value := rfl
theorem fn_sibs_Same_c1 : E.fn F.sibs_Same_c1 = some c_sibs_Same_c1 := rfl
theorem fn_bytes_Equal : E.fn F.bytes_Equal = some c_bytes_Equal := rfl
theorem fn_tattlerref1_May : E.fn F.tattlerref1_May = some c_tattlerref1_May := rfl
theorem fn_tattlerref1_Covers : E.fn F.tattlerref1_Covers = some c_tattlerref1_Covers := rfl
theorem fn_tattlerref1_Less : E.fn F.tattlerref1_Less = some c_tattlerref1_Less := rfl
theorem fn_tattlerref1_Join : E.fn F.tattlerref1_Join = some c_tattlerref1_Join := rfl
theorem fn_tattlerref5_find : E.fn F.tattlerref5_find = some c_tattlerref5_find := rfl
theorem fn_tattlerref5_insert : E.fn F.tattlerref5_insert = some c_tattlerref5_insert := rfl
theorem fn_tattlerref5_copied : E.fn F.tattlerref5_copied = some c_tattlerref5_copied := rfl
theorem fn_tattlerref5_first : E.fn F.tattlerref5_first = some c_tattlerref5_first := rfl
theorem fn_vector_May : E.fn F.vector_May = some c_vector_May := rfl
theorem fn_sibs_mayValue : E.fn F.sibs_mayValue = some c_sibs_mayValue := rfl
theorem fn_vector_Less : E.fn F.vector_Less = some c_vector_Less := rfl
theorem fn_tattlerref5_MayKey : E.fn F.tattlerref5_MayKey = some c_tattlerref5_MayKey := rfl
theorem fn_cmp_isNaN_int : E.fn F.cmp_isNaN_int = some c_cmp_isNaN_int := rfl
theorem fn_cmp_isNaN_string : E.fn F.cmp_isNaN_string = some c_cmp_isNaN_string := rfl
theorem fn_slices_Clone_byte_byte : E.fn F.slices_Clone_byte_byte = some c_slices_Clone_byte_byte := rfl
theorem fn_bytes_Compare : E.fn F.bytes_Compare = some c_bytes_Compare := rfl
theorem fn_vector_is : E.fn F.vector_is = some c_vector_is := rfl
theorem fn_cmp_Compare_int64 : E.fn F.cmp_Compare_int64 = some c_cmp_Compare_int64 := rfl
theorem fn_cmp_isNaN_int64 : E.fn F.cmp_isNaN_int64 = some c_cmp_isNaN_int64 := rfl
end Go.Proofs.Ythkfjefoblmbhaa.V

