/- The functions' code as the V-machine has it; the kernel sees that it is theirs. -/
import Derived.Test.YtionebfmjjpnbaaGreatVmG5
import Derived.Test.YtionebfmjjpnbaaGreatChecked
import Derived.KernelRfl
import Derived.Test.YtionebfmjjpnbaaGreatVmSL
import Derived.Test.YtionebfmjjpnbaaGreatVmSQ
namespace Go.Proofs.YtionebfmjjpnbaaGreat.V
open Go.Vm
set_option maxRecDepth 100000
set_option linter.unusedVariables false
set_option linter.unusedSimpArgs false
def F.bytealg_Compare : Nat := 77
def F.bytes_Compare : Nat := 61
def F.bytes_Equal : Nat := 42
def F.cmp_Compare_int : Nat := 75
def F.cmp_Compare_int64 : Nat := 76
def F.cmp_Or_int : Nat := 74
def F.cmp_isNaN_int : Nat := 91
def F.cmp_isNaN_int64 : Nat := 92
def F.keys_Bucket : Nat := 31
def F.maps_Keys_map_string_api_Sibs_string_api_Sibs : Nat := 28
def F.maps_Keys_map_string_api_Sibs_string_api_Sibs_c1 : Nat := 55
def F.sibs_Join : Nat := 19
def F.sibs_May : Nat := 33
def F.sibs_MayEntry : Nat := 18
def F.sibs_Reap : Nat := 51
def F.sibs_Reap_c1 : Nat := 68
def F.sibs_Same : Nat := 21
def F.sibs_Same_c1 : Nat := 41
def F.sibs_better : Nat := 36
def F.sibs_copied : Nat := 69
def F.sibs_find : Nat := 34
def F.sibs_mayValue : Nat := 58
def F.sibs_own : Nat := 35
def F.sibs_sorted : Nat := 38
def F.slices_Clone_byte_byte : Nat := 60
def F.slices_ContainsFunc_api_Value_api_Value : Nat := 67
def F.slices_DeleteFunc_api_Entry_api_Entry : Nat := 29
def F.slices_EqualFunc_api_Value_api_Value_api_Value_api_Value : Nat := 40
def F.slices_IndexFunc_api_Entry_api_Entry : Nat := 56
def F.slices_IndexFunc_api_Value_api_Value : Nat := 79
def F.slices_Sorted_string : Nat := 27
def F.table_New : Nat := 6
def F.table_Table_All : Nat := 12
def F.table_Table_Bucket : Nat := 14
def F.table_Table_Bucket_c1 : Nat := 30
def F.table_Table_Get : Nat := 16
def F.table_Table_Join : Nat := 7
def F.table_Table_Len : Nat := 13
def F.table_Table_Reap : Nat := 25
def F.table_copied : Nat := 20
def F.tattlerlaw10_TableJoins : Nat := 3
def F.tattlerlaw10_awake : Nat := 5
def F.tattlerlaw10_light : Nat := 4
def F.tattlerlaw10_reap : Nat := 10
def F.tattlerref1_Covers : Nat := 50
def F.tattlerref1_Join : Nat := 45
def F.tattlerref1_Less : Nat := 66
def F.tattlerref1_May : Nat := 65
def F.tattlerref5_Bucket : Nat := 32
def F.tattlerref5_Join : Nat := 24
def F.tattlerref5_Live : Nat := 70
def F.tattlerref5_May : Nat := 44
def F.tattlerref5_MayEntry : Nat := 22
def F.tattlerref5_MayKey : Nat := 43
def F.tattlerref5_Reap : Nat := 52
def F.tattlerref5_Same : Nat := 9
def F.tattlerref5_SameEntries : Nat := 11
def F.tattlerref5_Table_At : Nat := 23
def F.tattlerref5_Table_Bucket : Nat := 15
def F.tattlerref5_Table_Get : Nat := 17
def F.tattlerref5_Table_Join : Nat := 8
def F.tattlerref5_Table_Reap : Nat := 26
def F.tattlerref5_copied : Nat := 48
def F.tattlerref5_find : Nat := 46
def F.tattlerref5_first : Nat := 49
def F.tattlerref5_insert : Nat := 47
def F.vector_Covers : Nat := 37
def F.vector_Join : Nat := 39
def F.vector_Less : Nat := 59
def F.vector_May : Nat := 57
def F.vector_is : Nat := 62
def c_tattlerlaw10_TableJoins_l0 : VCode := (.seq (.ops [⟨some 34, none, .bin .lss .no (.r 33) (.r 32)⟩] [1, 2, 7, 8, 31, 32, 33, 34])
  (.seq (.cond (.r 34) .skip (.exit 0))
  (.seq (.block 1 (.seq (.ops [⟨some 35, none, .iaddr none 10 (.r 31) (.r 33)⟩,
        ⟨some 36, none, .load true 10 (.r 35)⟩,
        ⟨some 10, none, .alloc [(.str []), (.int .i64 0), (.int .i64 0), (.int .i64 0), (.int .i64 0), (.int .i64 0), (.int .i64 0), (.int .i64 0), (.int .i64 0), (.sl [])] []⟩,
        ⟨none, none, .store 10 (.r 10) (.r 36) [] none⟩] [1, 2, 7, 8, 10, 31, 32, 33])
      (.seq (.ops [⟨some 38, none, .mv (.r 7)⟩,
        ⟨some 39, none, .load true 10 (.r 10)⟩,
        ⟨some 40, none, .call false F.table_Table_Join [(.r 38), (.r 39)]⟩,
        ⟨some 37, none, .mv (.r 40)⟩,
        ⟨some 41, none, .extract 0 (.r 37)⟩,
        ⟨some 42, none, .extract 1 (.r 37)⟩,
        ⟨some 43, none, .extract 2 (.r 37)⟩,
        ⟨some 11, none, .alloc [(.int .i64 0), (.int .i64 0), (.int .i64 0), (.int .i64 0), (.int .i64 0), (.int .i64 0), (.int .i64 0), (.int .i64 0), (.sl [])] []⟩,
        ⟨none, none, .store 9 (.r 11) (.r 41) [] none⟩,
        ⟨some 12, none, .asg (.r 42)⟩,
        ⟨some 13, none, .asg (.r 43)⟩] [1, 2, 7, 8, 10, 11, 12, 13, 31, 32, 33])
      (.seq (.ops [⟨some 45, none, .mv (.r 8)⟩,
        ⟨some 46, none, .load true 10 (.r 10)⟩,
        ⟨some 47, none, .call false F.tattlerref5_Table_Join [(.r 45), (.r 46)]⟩,
        ⟨some 44, none, .mv (.r 47)⟩,
        ⟨some 48, none, .extract 0 (.r 44)⟩,
        ⟨some 49, none, .extract 1 (.r 44)⟩,
        ⟨some 50, none, .extract 2 (.r 44)⟩,
        ⟨some 14, none, .alloc [(.int .i64 0), (.int .i64 0), (.int .i64 0), (.int .i64 0), (.int .i64 0), (.int .i64 0), (.int .i64 0), (.int .i64 0), (.sl [])] []⟩,
        ⟨none, none, .store 9 (.r 14) (.r 48) [] none⟩,
        ⟨some 15, none, .asg (.r 49)⟩,
        ⟨some 16, none, .asg (.r 50)⟩] [1, 2, 7, 8, 11, 12, 13, 14, 15, 16, 31, 32, 33])
      (.seq (.ops [⟨some 51, none, .load true 9 (.r 11)⟩,
        ⟨some 52, none, .load true 9 (.r 14)⟩,
        ⟨some 53, none, .call false F.tattlerref5_Same [(.r 51), (.r 52)]⟩,
        ⟨some 54, none, .un .not (.r 53)⟩,
        ⟨some 55, none, .mv (.r 54)⟩,
        ⟨some 56, some (55, false), .mv (.r 12)⟩,
        ⟨some 57, some (55, false), .mv (.r 15)⟩,
        ⟨some 58, some (55, false), .bin .neq .bool (.r 56) (.r 57)⟩,
        ⟨some 59, none, .pick (.r 55) (.c (.bool true)) (.r 58)⟩,
        ⟨some 60, none, .mv (.r 59)⟩,
        ⟨some 61, some (60, false), .mv (.r 13)⟩,
        ⟨some 62, some (60, false), .mv (.r 16)⟩,
        ⟨some 63, some (60, false), .bin .neq .no (.r 61) (.r 62)⟩,
        ⟨some 64, none, .pick (.r 60) (.c (.bool true)) (.r 63)⟩] [1, 2, 7, 8, 31, 32, 33, 64])
      (.cond (.r 64) (.seq (.ops [⟨some 6, none, .asg (.c (.bool false))⟩] [6])
        .ret) .skip))))))
  (.ops [⟨some 65, none, .bin .add .no (.r 33) (.c (.int .i64 1))⟩,
  ⟨some 33, none, .mv (.r 65)⟩] [1, 2, 7, 8, 31, 32, 33]))))
def c_tattlerlaw10_TableJoins_l1 : VCode := (.seq (.seq (.ops [⟨some 91, none, .mv (.r 17)⟩,
      ⟨some 92, none, .bin .leq .no (.r 91) (.c (.int .i64 4))⟩] [2, 7, 8, 17, 92])
    (.cond (.r 92) .skip (.exit 2)))
  (.seq (.block 3 (.seq (.ops [⟨some 95, none, .mv (.r 7)⟩,
        ⟨some 96, none, .mv (.r 17)⟩,
        ⟨some 97, none, .call false F.table_Table_Bucket [(.r 95), (.r 96)]⟩,
        ⟨some 98, none, .mv (.r 8)⟩,
        ⟨some 99, none, .mv (.r 17)⟩,
        ⟨some 100, none, .call false F.tattlerref5_Table_Bucket [(.r 98), (.r 99)]⟩,
        ⟨some 101, none, .call false F.tattlerref5_SameEntries [(.r 97), (.r 100)]⟩,
        ⟨some 102, none, .un .not (.r 101)⟩] [2, 7, 8, 17, 102])
      (.cond (.r 102) (.seq (.ops [⟨some 6, none, .asg (.c (.bool false))⟩] [6])
        .ret) .skip)))
  (.ops [⟨some 93, none, .mv (.r 17)⟩,
  ⟨some 94, none, .bin .add .no (.r 93) (.c (.int .i64 1))⟩,
  ⟨some 17, none, .asg (.r 94)⟩] [2, 7, 8, 17])))
/-- tattler/tattlerlaw10.TableJoins -/
def c_tattlerlaw10_TableJoins : VFun := ⟨3,
  (.seq (.ops [⟨some 6, none, .asg (.c (.bool false))⟩] [0, 1, 2])
  (.seq (.seq (.ops [⟨some 22, none, .mv (.r 0)⟩,
      ⟨some 23, none, .call false F.tattlerlaw10_light [(.r 22)]⟩,
      ⟨some 24, none, .un .not (.r 23)⟩] [0, 1, 2, 24])
    (.cond (.r 24) (.seq (.ops [⟨some 25, none, .call false F.tattlerlaw10_awake []⟩,
        ⟨some 6, none, .asg (.r 25)⟩] [6])
      .ret) .skip))
  (.seq (.ops [⟨some 26, none, .call false F.table_New []⟩,
    ⟨some 27, none, .build [(.sl [])] []⟩,
    ⟨some 28, none, .box 1 (.r 27)⟩,
    ⟨some 7, none, .asg (.r 26)⟩,
    ⟨some 8, none, .asg (.r 28)⟩] [0, 1, 2, 7, 8])
  (.seq (.seq (.ops [⟨some 29, none, .mv (.r 7)⟩,
      ⟨some 30, none, .bin .eql .ptr (.r 29) (.c (.ptr none))⟩] [0, 1, 2, 7, 8, 30])
    (.cond (.r 30) (.seq (.ops [⟨some 6, none, .asg (.c (.bool false))⟩] [6])
      .ret) .skip))
  (.seq (.seq (.ops [⟨some 31, none, .mv (.r 0)⟩,
      ⟨some 32, none, .len .sl (.r 31)⟩,
      ⟨some 33, none, .mv (.c (.int .i64 0))⟩] [1, 2, 7, 8, 31, 32, 33])
    (.block 0 (.loop [1, 2, 7, 8, 31, 32, 33] [] c_tattlerlaw10_TableJoins_l0)))
  (.seq (.seq (.xops 23 3 [] [⟨some 66, none, .mv (.r 7)⟩,
      ⟨some 67, none, .mv (.r 8)⟩,
      ⟨some 68, none, .mv (.r 1)⟩,
      ⟨some 69, none, .call false F.tattlerlaw10_reap [(.r 66), (.r 67), (.r 68)]⟩,
      ⟨some 70, none, .un .not (.r 69)⟩,
      ⟨some 71, none, .mv (.r 70)⟩,
      ⟨some 72, some (71, false), .mv (.r 7)⟩,
      ⟨some 73, some (71, false), .call true F.table_Table_All [(.r 72)]⟩,
      ⟨some 74, some (71, false), .mv (.r 8)⟩,
      ⟨some 75, some (71, false), .nilck (.r 74)⟩,
      ⟨some 76, some (71, false), .faddr 0 (.r 75)⟩,
      ⟨some 77, some (71, false), .load false 1 (.r 76)⟩,
      ⟨some 78, some (71, false), .call true F.tattlerref5_SameEntries [(.r 73), (.r 77)]⟩,
      ⟨some 79, some (71, false), .un .not (.r 78)⟩,
      ⟨some 80, none, .pick (.r 71) (.c (.bool true)) (.r 79)⟩,
      ⟨some 81, none, .mv (.r 80)⟩,
      ⟨some 82, some (81, false), .mv (.r 7)⟩,
      ⟨some 83, some (81, false), .call true F.table_Table_Len [(.r 82)]⟩,
      ⟨some 84, some (81, false), .mv (.r 8)⟩,
      ⟨some 85, some (81, false), .nilck (.r 84)⟩,
      ⟨some 86, some (81, false), .faddr 0 (.r 85)⟩,
      ⟨some 87, some (81, false), .load false 1 (.r 86)⟩,
      ⟨some 88, some (81, false), .len .sl (.r 87)⟩,
      ⟨some 89, some (81, false), .bin .neq .no (.r 83) (.r 88)⟩,
      ⟨some 90, none, .pick (.r 81) (.c (.bool true)) (.r 89)⟩] [2, 7, 8, 90])
    (.cond (.r 90) (.seq (.ops [⟨some 6, none, .asg (.c (.bool false))⟩] [6])
      .ret) .skip))
  (.seq (.seq (.ops [⟨some 17, none, .asg (.c (.int .i64 (-1)))⟩] [2, 7, 8, 17])
    (.block 2 (.loop [2, 7, 8, 17] [] c_tattlerlaw10_TableJoins_l1)))
  (.seq (.ops [⟨some 104, none, .mv (.r 7)⟩,
    ⟨some 105, none, .mv (.r 2)⟩,
    ⟨some 106, none, .call false F.table_Table_Get [(.r 104), (.r 105)]⟩,
    ⟨some 103, none, .mv (.r 106)⟩,
    ⟨some 107, none, .extract 0 (.r 103)⟩,
    ⟨some 108, none, .extract 1 (.r 103)⟩,
    ⟨some 18, none, .alloc [(.int .i64 0), (.int .i64 0), (.int .i64 0), (.int .i64 0), (.int .i64 0), (.int .i64 0), (.int .i64 0), (.int .i64 0), (.sl [])] []⟩,
    ⟨none, none, .store 9 (.r 18) (.r 107) [] none⟩,
    ⟨some 19, none, .asg (.r 108)⟩] [2, 8, 18, 19])
  (.seq (.ops [⟨some 110, none, .mv (.r 8)⟩,
    ⟨some 111, none, .mv (.r 2)⟩,
    ⟨some 112, none, .call false F.tattlerref5_Table_Get [(.r 110), (.r 111)]⟩,
    ⟨some 109, none, .mv (.r 112)⟩,
    ⟨some 113, none, .extract 0 (.r 109)⟩,
    ⟨some 114, none, .extract 1 (.r 109)⟩,
    ⟨some 20, none, .alloc [(.int .i64 0), (.int .i64 0), (.int .i64 0), (.int .i64 0), (.int .i64 0), (.int .i64 0), (.int .i64 0), (.int .i64 0), (.sl [])] []⟩,
    ⟨none, none, .store 9 (.r 20) (.r 113) [] none⟩,
    ⟨some 21, none, .asg (.r 114)⟩] [18, 19, 20, 21])
  (.seq (.ops [⟨some 115, none, .load true 9 (.r 18)⟩,
    ⟨some 116, none, .load true 9 (.r 20)⟩,
    ⟨some 117, none, .call false F.tattlerref5_Same [(.r 115), (.r 116)]⟩,
    ⟨some 118, none, .mv (.r 117)⟩,
    ⟨some 119, some (118, true), .mv (.r 19)⟩,
    ⟨some 120, some (118, true), .mv (.r 21)⟩,
    ⟨some 121, some (118, true), .bin .eql .bool (.r 119) (.r 120)⟩,
    ⟨some 122, none, .pick (.r 118) (.r 121) (.c (.bool false))⟩,
    ⟨some 123, none, .mv (.r 122)⟩,
    ⟨some 124, some (123, true), .call false F.tattlerlaw10_awake []⟩,
    ⟨some 125, none, .pick (.r 123) (.r 124) (.c (.bool false))⟩,
    ⟨some 6, none, .asg (.r 125)⟩] [6])
  .ret)))))))))),
  [.r 6], none⟩
def c_tattlerlaw10_light_l0 : VCode := (.seq (.ops [⟨some 11, none, .bin .lss .no (.r 10) (.r 9)⟩] [8, 9, 10, 11])
  (.seq (.cond (.r 11) .skip (.exit 0))
  (.seq (.block 1 (.seq (.ops [⟨some 12, none, .iaddr none 10 (.r 8) (.r 10)⟩,
        ⟨some 13, none, .load true 10 (.r 12)⟩,
        ⟨some 4, none, .alloc [(.str []), (.int .i64 0), (.int .i64 0), (.int .i64 0), (.int .i64 0), (.int .i64 0), (.int .i64 0), (.int .i64 0), (.int .i64 0), (.sl [])] []⟩,
        ⟨none, none, .store 10 (.r 4) (.r 13) [] none⟩] [4, 8, 9, 10])
      (.seq (.ops [⟨some 14, none, .faddr 1 (.r 4)⟩,
        ⟨some 15, none, .faddr 8 (.r 14)⟩,
        ⟨some 16, none, .load false 1 (.r 15)⟩,
        ⟨some 17, none, .len .sl (.r 16)⟩,
        ⟨some 18, none, .bin .gtr .no (.r 17) (.c (.int .i64 20))⟩] [8, 9, 10, 18])
      (.cond (.r 18) (.seq (.ops [⟨some 2, none, .asg (.c (.bool false))⟩] [2])
        .ret) .skip))))
  (.ops [⟨some 19, none, .bin .add .no (.r 10) (.c (.int .i64 1))⟩,
  ⟨some 10, none, .mv (.r 19)⟩] [8, 9, 10]))))
/-- tattler/tattlerlaw10.light -/
def c_tattlerlaw10_light : VFun := ⟨1,
  (.seq (.ops [⟨some 2, none, .asg (.c (.bool false))⟩] [0])
  (.seq (.seq (.ops [⟨some 5, none, .mv (.r 0)⟩,
      ⟨some 6, none, .len .sl (.r 5)⟩,
      ⟨some 7, none, .bin .gtr .no (.r 6) (.c (.int .i64 60))⟩] [0, 7])
    (.cond (.r 7) (.seq (.ops [⟨some 2, none, .asg (.c (.bool false))⟩] [2])
      .ret) .skip))
  (.seq (.seq (.ops [⟨some 8, none, .mv (.r 0)⟩,
      ⟨some 9, none, .len .sl (.r 8)⟩,
      ⟨some 10, none, .mv (.c (.int .i64 0))⟩] [8, 9, 10])
    (.block 0 (.loop [8, 9, 10] [] c_tattlerlaw10_light_l0)))
  (.seq (.ops [⟨some 2, none, .asg (.c (.bool true))⟩] [2])
  .ret)))),
  [.r 2], none⟩
/-- tattler/tattlerlaw10.awake -/
def c_tattlerlaw10_awake : VFun := ⟨0,
  (.seq (.ops [⟨some 0, none, .asg (.c (.bool false))⟩] [])
  (.seq (.ops [⟨some 4, none, .call false F.table_New []⟩,
    ⟨some 1, none, .asg (.r 4)⟩] [1])
  (.seq (.ops [⟨some 5, none, .mv (.r 1)⟩,
    ⟨some 6, none, .build [(.int .i64 0), (.int .i64 0), (.int .i64 0), (.int .i64 0), (.int .i64 0), (.int .i64 0), (.int .i64 0), (.int .i64 0)] [(0, 1, (.c (.int .i64 1)))]⟩,
    ⟨some 7, none, .build [(.int .i64 0), (.int .i64 0)] [(0, 1, (.c (.int .i64 0))), (1, 1, (.c (.int .i64 1)))]⟩,
    ⟨some 8, none, .bsll (.int .u8 0) 1 1 [(0, (.c (.int .u8 120)))]⟩,
    ⟨some 9, none, .mrk 8 (.r 8)⟩,
    ⟨some 10, none, .build [(.int .i64 0), (.int .i64 0), (.sl []), (.bool false)] [(0, 2, (.r 7)), (2, 1, (.r 9))]⟩,
    ⟨some 11, none, .bslice (.agg [(.int .i64 0), (.int .i64 0), (.sl []), (.bool false)]) 4 1 [(0, (.r 10))]⟩,
    ⟨some 12, none, .build [(.int .i64 0), (.int .i64 0), (.int .i64 0), (.int .i64 0), (.int .i64 0), (.int .i64 0), (.int .i64 0), (.int .i64 0), (.sl [])] [(0, 8, (.r 6)), (8, 1, (.r 11))]⟩,
    ⟨some 13, none, .build [(.str []), (.int .i64 0), (.int .i64 0), (.int .i64 0), (.int .i64 0), (.int .i64 0), (.int .i64 0), (.int .i64 0), (.int .i64 0), (.sl [])] [(0, 1, (.c (.str [107]))), (1, 9, (.r 12))]⟩,
    ⟨some 14, none, .call false F.table_Table_Join [(.r 5), (.r 13)]⟩] [1])
  (.seq (.ops [⟨some 15, none, .mv (.r 1)⟩,
    ⟨some 16, none, .build [(.int .i64 0), (.int .i64 0), (.int .i64 0), (.int .i64 0), (.int .i64 0), (.int .i64 0), (.int .i64 0), (.int .i64 0)] [(0, 1, (.c (.int .i64 0))), (1, 1, (.c (.int .i64 1)))]⟩,
    ⟨some 17, none, .build [(.int .i64 0), (.int .i64 0)] [(0, 1, (.c (.int .i64 1))), (1, 1, (.c (.int .i64 1)))]⟩,
    ⟨some 18, none, .bsll (.int .u8 0) 1 1 [(0, (.c (.int .u8 121)))]⟩,
    ⟨some 19, none, .mrk 18 (.r 18)⟩,
    ⟨some 20, none, .build [(.int .i64 0), (.int .i64 0), (.sl []), (.bool false)] [(0, 2, (.r 17)), (2, 1, (.r 19))]⟩,
    ⟨some 21, none, .bslice (.agg [(.int .i64 0), (.int .i64 0), (.sl []), (.bool false)]) 4 1 [(0, (.r 20))]⟩,
    ⟨some 22, none, .build [(.int .i64 0), (.int .i64 0), (.int .i64 0), (.int .i64 0), (.int .i64 0), (.int .i64 0), (.int .i64 0), (.int .i64 0), (.sl [])] [(0, 8, (.r 16)), (8, 1, (.r 21))]⟩,
    ⟨some 23, none, .build [(.str []), (.int .i64 0), (.int .i64 0), (.int .i64 0), (.int .i64 0), (.int .i64 0), (.int .i64 0), (.int .i64 0), (.int .i64 0), (.sl [])] [(0, 1, (.c (.str [107]))), (1, 9, (.r 22))]⟩,
    ⟨some 24, none, .call false F.table_Table_Join [(.r 15), (.r 23)]⟩] [1])
  (.seq (.ops [⟨some 26, none, .mv (.r 1)⟩,
    ⟨some 27, none, .call false F.table_Table_Get [(.r 26), (.c (.str [107]))]⟩,
    ⟨some 25, none, .mv (.r 27)⟩,
    ⟨some 28, none, .extract 0 (.r 25)⟩,
    ⟨some 29, none, .extract 1 (.r 25)⟩,
    ⟨some 2, none, .alloc [(.int .i64 0), (.int .i64 0), (.int .i64 0), (.int .i64 0), (.int .i64 0), (.int .i64 0), (.int .i64 0), (.int .i64 0), (.sl [])] []⟩,
    ⟨none, none, .store 9 (.r 2) (.r 28) [] none⟩,
    ⟨some 3, none, .asg (.r 29)⟩] [1, 2, 3])
  (.seq (.ops [⟨some 30, none, .mv (.r 3)⟩,
    ⟨some 31, none, .mv (.r 30)⟩,
    ⟨some 32, some (31, true), .faddr 8 (.r 2)⟩,
    ⟨some 33, some (31, true), .load false 1 (.r 32)⟩,
    ⟨some 34, some (31, true), .len .sl (.r 33)⟩,
    ⟨some 35, some (31, true), .bin .eql .no (.r 34) (.c (.int .i64 2))⟩,
    ⟨some 36, none, .pick (.r 31) (.r 35) (.c (.bool false))⟩,
    ⟨some 37, none, .mv (.r 36)⟩,
    ⟨some 38, some (37, true), .mv (.r 1)⟩,
    ⟨some 39, some (37, true), .call false F.table_Table_Len [(.r 38)]⟩,
    ⟨some 40, some (37, true), .bin .eql .no (.r 39) (.c (.int .i64 1))⟩,
    ⟨some 41, none, .pick (.r 37) (.r 40) (.c (.bool false))⟩,
    ⟨some 0, none, .asg (.r 41)⟩] [0])
  .ret)))))),
  [.r 0], none⟩
/-- tattler/table.New -/
def c_table_New : VFun := ⟨0,
  (.seq (.ops [⟨some 0, none, .asg (.c (.ptr none))⟩] [])
  (.seq (.ops [⟨some 1, none, .mkmap⟩,
    ⟨some 2, none, .build [(.map none)] [(0, 1, (.r 1))]⟩,
    ⟨some 3, none, .box 1 (.r 2)⟩,
    ⟨some 0, none, .asg (.r 3)⟩] [0])
  .ret)),
  [.r 0], none⟩
/-- (*tattler/table.Table).Join -/
def c_table_Table_Join : VFun := ⟨2,
  (.seq (.ops [⟨some 3, none, .box 10 (.r 1)⟩,
    ⟨some 4, none, .alloc [(.int .i64 0), (.int .i64 0), (.int .i64 0), (.int .i64 0), (.int .i64 0), (.int .i64 0), (.int .i64 0), (.int .i64 0), (.sl [])] []⟩,
    ⟨some 5, none, .asg (.c (.bool false))⟩,
    ⟨some 6, none, .asg (.c (.int .i64 0))⟩] [0, 3, 4])
  (.seq (.seq (.ops [⟨some 10, none, .mv (.r 0)⟩,
      ⟨some 11, none, .bin .eql .ptr (.r 10) (.c (.ptr none))⟩,
      ⟨some 12, none, .mv (.r 11)⟩,
      ⟨some 13, some (12, false), .load true 10 (.r 3)⟩,
      ⟨some 14, some (12, false), .call false F.sibs_MayEntry [(.r 13)]⟩,
      ⟨some 15, some (12, false), .un .not (.r 14)⟩,
      ⟨some 16, none, .pick (.r 12) (.c (.bool true)) (.r 15)⟩] [0, 3, 4, 16])
    (.cond (.r 16) (.seq (.ops [⟨some 17, none, .build [(.int .i64 0), (.int .i64 0), (.int .i64 0), (.int .i64 0), (.int .i64 0), (.int .i64 0), (.int .i64 0), (.int .i64 0), (.sl [])] []⟩,
        ⟨none, none, .store 9 (.r 4) (.r 17) [] none⟩,
        ⟨some 5, none, .asg (.c (.bool false))⟩,
        ⟨some 6, none, .asg (.c (.int .i64 1))⟩] [4, 5, 6])
      .ret) .skip))
  (.seq (.xops 11 10 [3, 5, 6] [⟨some 19, none, .mv (.r 0)⟩,
    ⟨some 20, none, .nilck (.r 19)⟩,
    ⟨some 21, none, .faddr 0 (.r 20)⟩,
    ⟨some 22, none, .load false 1 (.r 21)⟩,
    ⟨some 23, none, .faddr 0 (.r 3)⟩,
    ⟨some 24, none, .load false 1 (.r 23)⟩,
    ⟨some 25, none, .lookup .s (.agg [(.int .i64 0), (.int .i64 0), (.int .i64 0), (.int .i64 0), (.int .i64 0), (.int .i64 0), (.int .i64 0), (.int .i64 0), (.sl [])]) true (.r 22) (.r 24)⟩,
    ⟨some 18, none, .mv (.r 25)⟩,
    ⟨some 26, none, .extract 0 (.r 18)⟩,
    ⟨some 27, none, .extract 1 (.r 18)⟩,
    ⟨some 7, none, .alloc [(.int .i64 0), (.int .i64 0), (.int .i64 0), (.int .i64 0), (.int .i64 0), (.int .i64 0), (.int .i64 0), (.int .i64 0), (.sl [])] []⟩,
    ⟨none, none, .store 9 (.r 7) (.r 26) [] none⟩,
    ⟨some 8, none, .asg (.r 27)⟩] [0, 3, 4, 7, 8])
  (.seq (.seq (.ops [⟨some 28, none, .mv (.r 8)⟩,
      ⟨some 29, none, .un .not (.r 28)⟩,
      ⟨some 30, none, .mv (.r 29)⟩,
      ⟨some 31, some (30, true), .mv (.r 0)⟩,
      ⟨some 32, some (30, true), .nilck (.r 31)⟩,
      ⟨some 33, some (30, true), .faddr 0 (.r 32)⟩,
      ⟨some 34, some (30, true), .load false 1 (.r 33)⟩,
      ⟨some 35, some (30, true), .len .map (.r 34)⟩,
      ⟨some 36, some (30, true), .bin .eql .no (.r 35) (.c (.int .i64 256))⟩,
      ⟨some 37, none, .pick (.r 30) (.r 36) (.c (.bool false))⟩] [0, 3, 4, 7, 8, 37])
    (.cond (.r 37) (.seq (.ops [⟨some 38, none, .build [(.int .i64 0), (.int .i64 0), (.int .i64 0), (.int .i64 0), (.int .i64 0), (.int .i64 0), (.int .i64 0), (.int .i64 0), (.sl [])] []⟩,
        ⟨none, none, .store 9 (.r 4) (.r 38) [] none⟩,
        ⟨some 5, none, .asg (.c (.bool false))⟩,
        ⟨some 6, none, .asg (.c (.int .i64 11))⟩] [4, 5, 6])
      .ret) .skip))
  (.seq (.ops [⟨some 39, none, .load true 9 (.r 7)⟩,
    ⟨some 40, none, .faddr 1 (.r 3)⟩,
    ⟨some 41, none, .load true 9 (.r 40)⟩,
    ⟨some 42, none, .call false F.sibs_Join [(.r 39), (.r 41)]⟩,
    ⟨some 9, none, .alloc [(.int .i64 0), (.int .i64 0), (.int .i64 0), (.int .i64 0), (.int .i64 0), (.int .i64 0), (.int .i64 0), (.int .i64 0), (.sl [])] []⟩,
    ⟨none, none, .store 9 (.r 9) (.r 42) [] none⟩] [0, 3, 4, 7, 8, 9])
  (.seq (.dops 7 [⟨some 43, none, .mv (.r 0)⟩,
    ⟨some 44, none, .nilck (.r 43)⟩,
    ⟨some 45, none, .faddr 0 (.r 44)⟩,
    ⟨some 46, none, .load false 1 (.r 45)⟩,
    ⟨some 47, none, .faddr 0 (.r 3)⟩,
    ⟨some 48, none, .load false 1 (.r 47)⟩,
    ⟨some 49, none, .load true 9 (.r 9)⟩,
    ⟨none, none, .mapupd .s (.r 46) (.r 48) (.r 49)⟩] [4, 7, 8, 9])
  (.seq (.ops [⟨some 50, none, .load true 9 (.r 9)⟩,
    ⟨some 51, none, .call false F.table_copied [(.r 50)]⟩,
    ⟨some 52, none, .mv (.r 8)⟩,
    ⟨some 53, none, .mv (.r 52)⟩,
    ⟨some 54, some (53, true), .load true 9 (.r 7)⟩,
    ⟨some 55, some (53, true), .load true 9 (.r 9)⟩,
    ⟨some 56, some (53, true), .call false F.sibs_Same [(.r 54), (.r 55)]⟩,
    ⟨some 57, none, .pick (.r 53) (.r 56) (.c (.bool false))⟩,
    ⟨none, none, .store 9 (.r 4) (.r 51) [] none⟩,
    ⟨some 5, none, .asg (.r 57)⟩,
    ⟨some 6, none, .asg (.c (.int .i64 0))⟩] [4, 5, 6])
  .ret))))))),
  [.cell 4 true 9, .r 5, .r 6], none⟩
def c_tattlerref5_Table_Join_l0 : VCode := (.seq (.seq (.dops 12 [⟨some 39, none, .mv (.r 9)⟩,
      ⟨some 40, none, .mv (.r 8)⟩,
      ⟨some 41, none, .len .sl (.r 40)⟩,
      ⟨some 42, none, .bin .lss .no (.r 39) (.r 41)⟩,
      ⟨some 43, none, .mv (.r 42)⟩,
      ⟨some 44, some (43, true), .mv (.r 8)⟩,
      ⟨some 45, some (43, true), .mv (.r 9)⟩,
      ⟨some 46, some (43, true), .iaddr none 10 (.r 44) (.r 45)⟩,
      ⟨some 47, some (43, true), .faddr 0 (.r 46)⟩,
      ⟨some 48, some (43, true), .load false 1 (.r 47)⟩,
      ⟨some 49, some (43, true), .faddr 0 (.r 3)⟩,
      ⟨some 50, some (43, true), .load false 1 (.r 49)⟩,
      ⟨some 51, some (43, true), .bin .lss .no (.r 48) (.r 50)⟩,
      ⟨some 52, none, .pick (.r 43) (.r 51) (.c (.bool false))⟩] [0, 3, 4, 8, 9, 52])
    (.cond (.r 52) .skip (.exit 0)))
  (.block 1 (.ops [⟨some 53, none, .mv (.r 9)⟩,
    ⟨some 54, none, .bin .add .no (.r 53) (.c (.int .i64 1))⟩,
    ⟨some 9, none, .asg (.r 54)⟩] [0, 3, 4, 8, 9])))
/-- (*tattler/tattlerref5.Table).Join -/
def c_tattlerref5_Table_Join : VFun := ⟨2,
  (.seq (.ops [⟨some 3, none, .box 10 (.r 1)⟩,
    ⟨some 4, none, .alloc [(.int .i64 0), (.int .i64 0), (.int .i64 0), (.int .i64 0), (.int .i64 0), (.int .i64 0), (.int .i64 0), (.int .i64 0), (.sl [])] []⟩,
    ⟨some 5, none, .asg (.c (.bool false))⟩,
    ⟨some 6, none, .asg (.c (.int .i64 0))⟩] [0, 3, 4])
  (.seq (.seq (.ops [⟨some 13, none, .load true 10 (.r 3)⟩,
      ⟨some 14, none, .call false F.tattlerref5_MayEntry [(.r 13)]⟩,
      ⟨some 15, none, .un .not (.r 14)⟩] [0, 3, 4, 15])
    (.cond (.r 15) (.seq (.ops [⟨some 16, none, .build [(.int .i64 0), (.int .i64 0), (.int .i64 0), (.int .i64 0), (.int .i64 0), (.int .i64 0), (.int .i64 0), (.int .i64 0), (.sl [])] []⟩,
        ⟨none, none, .store 9 (.r 4) (.r 16) [] none⟩,
        ⟨some 5, none, .asg (.c (.bool false))⟩,
        ⟨some 6, none, .asg (.c (.int .i64 1))⟩] [4, 5, 6])
      .ret) .skip))
  (.seq (.ops [⟨some 17, none, .mv (.r 0)⟩,
    ⟨some 18, none, .faddr 0 (.r 3)⟩,
    ⟨some 19, none, .load false 1 (.r 18)⟩,
    ⟨some 20, none, .call false F.tattlerref5_Table_At [(.r 17), (.r 19)]⟩,
    ⟨some 7, none, .asg (.r 20)⟩] [0, 3, 4, 7])
  (.seq (.seq (.ops [⟨some 21, none, .mv (.r 7)⟩,
      ⟨some 22, none, .bin .lss .no (.r 21) (.c (.int .i64 0))⟩,
      ⟨some 23, none, .mv (.r 22)⟩,
      ⟨some 24, some (23, true), .mv (.r 0)⟩,
      ⟨some 25, some (23, true), .nilck (.r 24)⟩,
      ⟨some 26, some (23, true), .faddr 0 (.r 25)⟩,
      ⟨some 27, some (23, true), .load false 1 (.r 26)⟩,
      ⟨some 28, some (23, true), .len .sl (.r 27)⟩,
      ⟨some 29, some (23, true), .bin .geq .no (.r 28) (.c (.int .i64 256))⟩,
      ⟨some 30, none, .pick (.r 23) (.r 29) (.c (.bool false))⟩] [0, 3, 4, 7, 30])
    (.cond (.r 30) (.seq (.ops [⟨some 31, none, .build [(.int .i64 0), (.int .i64 0), (.int .i64 0), (.int .i64 0), (.int .i64 0), (.int .i64 0), (.int .i64 0), (.int .i64 0), (.sl [])] []⟩,
        ⟨none, none, .store 9 (.r 4) (.r 31) [] none⟩,
        ⟨some 5, none, .asg (.c (.bool false))⟩,
        ⟨some 6, none, .asg (.c (.int .i64 11))⟩] [4, 5, 6])
      .ret) .skip))
  (.seq (.ops [⟨some 32, none, .mv (.r 0)⟩,
    ⟨some 33, none, .nilck (.r 32)⟩,
    ⟨some 34, none, .faddr 0 (.r 33)⟩,
    ⟨some 35, none, .load false 1 (.r 34)⟩,
    ⟨some 36, none, .appm 10 104 (.c .nsl) (.r 35)⟩,
    ⟨some 8, none, .asg (.r 36)⟩] [0, 3, 4, 7, 8])
  (.seq (.seq (.ops [⟨some 37, none, .mv (.r 7)⟩,
      ⟨some 38, none, .bin .lss .no (.r 37) (.c (.int .i64 0))⟩] [0, 3, 4, 7, 8, 38])
    (.cond (.r 38) (.seq (.ops [⟨some 8, none, .frzr 8 10 true⟩,
        ⟨some 9, none, .asg (.c (.int .i64 0))⟩] [0, 3, 4, 8, 9])
      (.seq (.block 0 (.loop [0, 3, 4, 8, 9] [] c_tattlerref5_Table_Join_l0))
      (.seq (.ops [⟨some 55, none, .build [(.int .i64 0), (.int .i64 0), (.int .i64 0), (.int .i64 0), (.int .i64 0), (.int .i64 0), (.int .i64 0), (.int .i64 0), (.sl [])] []⟩,
        ⟨some 56, none, .faddr 1 (.r 3)⟩,
        ⟨some 57, none, .load true 9 (.r 56)⟩,
        ⟨some 58, none, .call false F.tattlerref5_Join [(.r 55), (.r 57)]⟩,
        ⟨some 10, none, .alloc [(.int .i64 0), (.int .i64 0), (.int .i64 0), (.int .i64 0), (.int .i64 0), (.int .i64 0), (.int .i64 0), (.int .i64 0), (.sl [])] []⟩,
        ⟨none, none, .store 9 (.r 10) (.r 58) [] none⟩] [0, 3, 4, 8, 9, 10])
      (.seq (.dops 15 [⟨some 59, none, .mv (.r 0)⟩,
        ⟨some 60, none, .mv (.r 8)⟩,
        ⟨some 61, none, .mv (.r 9)⟩,
        ⟨some 62, none, .slice false 10 (.r 60) none (some (.r 61)) none⟩,
        ⟨some 63, none, .app .fresh 10 104 (.c (.sl [])) (.r 62)⟩,
        ⟨some 64, none, .faddr 0 (.r 3)⟩,
        ⟨some 65, none, .load false 1 (.r 64)⟩,
        ⟨some 66, none, .load true 9 (.r 10)⟩,
        ⟨some 67, none, .build [(.str []), (.int .i64 0), (.int .i64 0), (.int .i64 0), (.int .i64 0), (.int .i64 0), (.int .i64 0), (.int .i64 0), (.int .i64 0), (.sl [])] [(0, 1, (.r 65)), (1, 9, (.r 66))]⟩,
        ⟨some 68, none, .bslice (.agg [(.str []), (.int .i64 0), (.int .i64 0), (.int .i64 0), (.int .i64 0), (.int .i64 0), (.int .i64 0), (.int .i64 0), (.int .i64 0), (.sl [])]) 10 1 [(0, (.r 67))]⟩,
        ⟨some 69, none, .app (.reg 63) 10 104 (.r 63) (.r 68)⟩,
        ⟨some 70, none, .mv (.r 8)⟩,
        ⟨some 71, none, .mv (.r 9)⟩,
        ⟨some 72, none, .slice false 10 (.r 70) (some (.r 71)) none none⟩,
        ⟨some 73, none, .app (.reg 69) 10 104 (.r 69) (.r 72)⟩,
        ⟨some 74, none, .nilck (.r 59)⟩,
        ⟨some 75, none, .faddr 0 (.r 74)⟩,
        ⟨none, none, .store 1 (.r 75) (.r 73) [] none⟩] [4, 10])
      (.seq (.ops [⟨some 76, none, .load true 9 (.r 10)⟩,
        ⟨none, none, .store 9 (.r 4) (.r 76) [] none⟩,
        ⟨some 5, none, .asg (.c (.bool false))⟩,
        ⟨some 6, none, .asg (.c (.int .i64 0))⟩] [4, 5, 6])
      .ret))))) .skip))
  (.seq (.xops 9 8 [4, 6, 7] [⟨some 77, none, .mv (.r 8)⟩,
    ⟨some 78, none, .mv (.r 7)⟩,
    ⟨some 79, none, .iaddr none 10 (.r 77) (.r 78)⟩,
    ⟨some 80, none, .faddr 1 (.r 79)⟩,
    ⟨some 81, none, .load true 9 (.r 80)⟩,
    ⟨some 82, none, .faddr 1 (.r 3)⟩,
    ⟨some 83, none, .load true 9 (.r 82)⟩,
    ⟨some 84, none, .call true F.tattlerref5_Join [(.r 81), (.r 83)]⟩,
    ⟨some 11, none, .alloc [(.int .i64 0), (.int .i64 0), (.int .i64 0), (.int .i64 0), (.int .i64 0), (.int .i64 0), (.int .i64 0), (.int .i64 0), (.sl [])] []⟩,
    ⟨none, none, .store 9 (.r 11) (.r 84) [] none⟩] [0, 4, 7, 8, 11])
  (.seq (.dops 6 [⟨some 85, none, .load true 9 (.r 11)⟩,
    ⟨some 86, none, .mv (.r 8)⟩,
    ⟨some 87, none, .mv (.r 7)⟩,
    ⟨some 88, none, .iaddr none 10 (.r 86) (.r 87)⟩,
    ⟨some 89, none, .faddr 1 (.r 88)⟩,
    ⟨some 90, none, .load true 9 (.r 89)⟩,
    ⟨some 91, none, .call false F.tattlerref5_Same [(.r 85), (.r 90)]⟩,
    ⟨some 12, none, .asg (.r 91)⟩] [0, 4, 7, 8, 11, 12])
  (.seq (.ops [⟨some 92, none, .mv (.r 8)⟩,
    ⟨some 93, none, .mv (.r 7)⟩,
    ⟨some 94, none, .load true 9 (.r 11)⟩,
    ⟨some 95, none, .iaddr none 10 (.r 92) (.r 93)⟩,
    ⟨some 96, none, .faddr 1 (.r 95)⟩,
    ⟨none, none, .store 9 (.r 96) (.r 94) [] none⟩] [0, 4, 8, 11, 12])
  (.seq (.ops [⟨some 8, none, .frzr 8 10 true⟩,
    ⟨some 97, none, .mv (.r 0)⟩,
    ⟨some 98, none, .mv (.r 8)⟩,
    ⟨some 99, none, .nilck (.r 97)⟩,
    ⟨some 100, none, .faddr 0 (.r 99)⟩,
    ⟨none, none, .store 1 (.r 100) (.r 98) [] none⟩] [4, 11, 12])
  (.seq (.ops [⟨some 101, none, .load true 9 (.r 11)⟩,
    ⟨some 102, none, .mv (.r 12)⟩,
    ⟨none, none, .store 9 (.r 4) (.r 101) [] none⟩,
    ⟨some 5, none, .asg (.r 102)⟩,
    ⟨some 6, none, .asg (.c (.int .i64 0))⟩] [4, 5, 6])
  .ret))))))))))),
  [.cell 4 true 9, .r 5, .r 6], none⟩
def c_tattlerref5_Same_l0 : VCode := (.seq (.ops [⟨some 26, none, .bin .lss .no (.r 25) (.r 24)⟩] [3, 23, 24, 25, 26])
  (.seq (.cond (.r 26) .skip (.exit 0))
  (.seq (.block 1 (.seq (.ops [⟨some 27, none, .mv (.r 25)⟩,
        ⟨some 28, none, .iaddr none 4 (.r 23) (.r 25)⟩,
        ⟨some 29, none, .load true 4 (.r 28)⟩,
        ⟨some 6, none, .alloc [(.int .i64 0), (.int .i64 0), (.sl []), (.bool false)] []⟩,
        ⟨some 5, none, .asg (.r 27)⟩,
        ⟨none, none, .store 4 (.r 6) (.r 29) [] none⟩] [3, 5, 6, 23, 24, 25])
      (.seq (.ops [⟨some 30, none, .faddr 8 (.r 3)⟩,
        ⟨some 31, none, .load false 1 (.r 30)⟩,
        ⟨some 32, none, .mv (.r 5)⟩,
        ⟨some 33, none, .iaddr none 4 (.r 31) (.r 32)⟩,
        ⟨some 34, none, .load true 4 (.r 33)⟩,
        ⟨some 7, none, .alloc [(.int .i64 0), (.int .i64 0), (.sl []), (.bool false)] []⟩,
        ⟨none, none, .store 4 (.r 7) (.r 34) [] none⟩] [3, 6, 7, 23, 24, 25])
      (.seq (.ops [⟨some 35, none, .faddr 0 (.r 6)⟩,
        ⟨some 36, none, .load true 2 (.r 35)⟩,
        ⟨some 37, none, .faddr 0 (.r 7)⟩,
        ⟨some 38, none, .load true 2 (.r 37)⟩,
        ⟨some 39, none, .bin .neq (.agg [.i, .i]) (.r 36) (.r 38)⟩,
        ⟨some 40, none, .mv (.r 39)⟩,
        ⟨some 41, some (40, false), .faddr 3 (.r 6)⟩,
        ⟨some 42, some (40, false), .load false 1 (.r 41)⟩,
        ⟨some 43, some (40, false), .faddr 3 (.r 7)⟩,
        ⟨some 44, some (40, false), .load false 1 (.r 43)⟩,
        ⟨some 45, some (40, false), .bin .neq .bool (.r 42) (.r 44)⟩,
        ⟨some 46, none, .pick (.r 40) (.c (.bool true)) (.r 45)⟩,
        ⟨some 47, none, .mv (.r 46)⟩,
        ⟨some 48, some (47, false), .faddr 2 (.r 6)⟩,
        ⟨some 49, some (47, false), .load false 1 (.r 48)⟩,
        ⟨some 50, some (47, false), .conv .strOfBytes (.r 49)⟩,
        ⟨some 51, some (47, false), .faddr 2 (.r 7)⟩,
        ⟨some 52, some (47, false), .load false 1 (.r 51)⟩,
        ⟨some 53, some (47, false), .conv .strOfBytes (.r 52)⟩,
        ⟨some 54, some (47, false), .bin .neq .no (.r 50) (.r 53)⟩,
        ⟨some 55, none, .pick (.r 47) (.c (.bool true)) (.r 54)⟩] [3, 23, 24, 25, 55])
      (.cond (.r 55) (.seq (.ops [⟨some 4, none, .asg (.c (.bool false))⟩] [4])
        .ret) .skip)))))
  (.ops [⟨some 56, none, .bin .add .no (.r 25) (.c (.int .i64 1))⟩,
  ⟨some 25, none, .mv (.r 56)⟩] [3, 23, 24, 25]))))
/-- tattler/tattlerref5.Same -/
def c_tattlerref5_Same : VFun := ⟨2,
  (.seq (.ops [⟨some 2, none, .box 9 (.r 0)⟩,
    ⟨some 3, none, .box 9 (.r 1)⟩,
    ⟨some 4, none, .asg (.c (.bool false))⟩] [2, 3])
  (.seq (.seq (.ops [⟨some 8, none, .faddr 0 (.r 2)⟩,
      ⟨some 9, none, .load true 8 (.r 8)⟩,
      ⟨some 10, none, .faddr 0 (.r 3)⟩,
      ⟨some 11, none, .load true 8 (.r 10)⟩,
      ⟨some 12, none, .bin .neq (.agg [.i, .i, .i, .i, .i, .i, .i, .i]) (.r 9) (.r 11)⟩,
      ⟨some 13, none, .mv (.r 12)⟩,
      ⟨some 14, some (13, false), .faddr 8 (.r 2)⟩,
      ⟨some 15, some (13, false), .load false 1 (.r 14)⟩,
      ⟨some 16, some (13, false), .len .sl (.r 15)⟩,
      ⟨some 17, some (13, false), .faddr 8 (.r 3)⟩,
      ⟨some 18, some (13, false), .load false 1 (.r 17)⟩,
      ⟨some 19, some (13, false), .len .sl (.r 18)⟩,
      ⟨some 20, some (13, false), .bin .neq .no (.r 16) (.r 19)⟩,
      ⟨some 21, none, .pick (.r 13) (.c (.bool true)) (.r 20)⟩] [2, 3, 21])
    (.cond (.r 21) (.seq (.ops [⟨some 4, none, .asg (.c (.bool false))⟩] [4])
      .ret) .skip))
  (.seq (.seq (.ops [⟨some 22, none, .faddr 8 (.r 2)⟩,
      ⟨some 23, none, .load false 1 (.r 22)⟩,
      ⟨some 24, none, .len .sl (.r 23)⟩,
      ⟨some 25, none, .mv (.c (.int .i64 0))⟩] [3, 23, 24, 25])
    (.block 0 (.loop [3, 23, 24, 25] [] c_tattlerref5_Same_l0)))
  (.seq (.ops [⟨some 4, none, .asg (.c (.bool true))⟩] [4])
  .ret)))),
  [.r 4], none⟩
def c_tattlerlaw10_reap_l0 : VCode := (.seq (.ops [⟨some 12, none, .bin .lss .no (.r 11) (.r 10)⟩] [0, 1, 9, 10, 11, 12])
  (.seq (.cond (.r 12) .skip (.exit 0))
  (.seq (.block 1 (.seq (.ops [⟨some 13, none, .mv (.r 11)⟩,
        ⟨some 14, none, .iaddr none 1 (.r 9) (.r 11)⟩,
        ⟨some 15, none, .load false 1 (.r 14)⟩,
        ⟨some 7, none, .asg (.r 13)⟩,
        ⟨some 8, none, .asg (.r 15)⟩] [0, 1, 7, 8, 9, 10, 11])
      (.seq (.ops [⟨some 16, none, .mv (.r 7)⟩,
        ⟨some 17, none, .bin .lss .no (.r 16) (.c (.int .i64 20))⟩,
        ⟨some 18, none, .mv (.r 17)⟩,
        ⟨some 19, some (18, true), .mv (.r 0)⟩,
        ⟨some 20, some (18, true), .mv (.r 8)⟩,
        ⟨some 21, some (18, true), .call false F.table_Table_Reap [(.r 19), (.r 20)]⟩,
        ⟨some 22, some (18, true), .mv (.r 1)⟩,
        ⟨some 23, some (18, true), .mv (.r 8)⟩,
        ⟨some 24, some (18, true), .call false F.tattlerref5_Table_Reap [(.r 22), (.r 23)]⟩,
        ⟨some 25, some (18, true), .bin .neq .bool (.r 21) (.r 24)⟩,
        ⟨some 26, none, .pick (.r 18) (.r 25) (.c (.bool false))⟩] [0, 1, 9, 10, 11, 26])
      (.cond (.r 26) (.seq (.ops [⟨some 6, none, .asg (.c (.bool false))⟩] [6])
        .ret) .skip))))
  (.ops [⟨some 27, none, .bin .add .no (.r 11) (.c (.int .i64 1))⟩,
  ⟨some 11, none, .mv (.r 27)⟩] [0, 1, 9, 10, 11]))))
/-- tattler/tattlerlaw10.reap -/
def c_tattlerlaw10_reap : VFun := ⟨3,
  (.seq (.ops [⟨some 6, none, .asg (.c (.bool false))⟩] [0, 1, 2])
  (.seq (.seq (.ops [⟨some 9, none, .mv (.r 2)⟩,
      ⟨some 10, none, .len .sl (.r 9)⟩,
      ⟨some 11, none, .mv (.c (.int .i64 0))⟩] [0, 1, 9, 10, 11])
    (.block 0 (.loop [0, 1, 9, 10, 11] [] c_tattlerlaw10_reap_l0)))
  (.seq (.ops [⟨some 6, none, .asg (.c (.bool true))⟩] [6])
  .ret))),
  [.r 6], none⟩
def c_tattlerref5_SameEntries_l0 : VCode := (.seq (.ops [⟨some 14, none, .bin .lss .no (.r 13) (.r 12)⟩] [0, 1, 12, 13, 14])
  (.seq (.cond (.r 14) .skip (.exit 0))
  (.seq (.block 1 (.seq (.ops [⟨some 15, none, .mv (.r 13)⟩,
        ⟨some 5, none, .asg (.r 15)⟩] [0, 1, 5, 12, 13])
      (.seq (.dops 22 [⟨some 16, none, .mv (.r 0)⟩,
        ⟨some 17, none, .mv (.r 5)⟩,
        ⟨some 18, none, .iaddr none 10 (.r 16) (.r 17)⟩,
        ⟨some 19, none, .faddr 0 (.r 18)⟩,
        ⟨some 20, none, .load false 1 (.r 19)⟩,
        ⟨some 21, none, .mv (.r 1)⟩,
        ⟨some 22, none, .mv (.r 5)⟩,
        ⟨some 23, none, .iaddr none 10 (.r 21) (.r 22)⟩,
        ⟨some 24, none, .faddr 0 (.r 23)⟩,
        ⟨some 25, none, .load false 1 (.r 24)⟩,
        ⟨some 26, none, .bin .neq .no (.r 20) (.r 25)⟩,
        ⟨some 27, none, .mv (.r 26)⟩,
        ⟨some 28, some (27, false), .mv (.r 0)⟩,
        ⟨some 29, some (27, false), .mv (.r 5)⟩,
        ⟨some 30, some (27, false), .iaddr none 10 (.r 28) (.r 29)⟩,
        ⟨some 31, some (27, false), .faddr 1 (.r 30)⟩,
        ⟨some 32, some (27, false), .load true 9 (.r 31)⟩,
        ⟨some 33, some (27, false), .mv (.r 1)⟩,
        ⟨some 34, some (27, false), .mv (.r 5)⟩,
        ⟨some 35, some (27, false), .iaddr none 10 (.r 33) (.r 34)⟩,
        ⟨some 36, some (27, false), .faddr 1 (.r 35)⟩,
        ⟨some 37, some (27, false), .load true 9 (.r 36)⟩,
        ⟨some 38, some (27, false), .call false F.tattlerref5_Same [(.r 32), (.r 37)]⟩,
        ⟨some 39, some (27, false), .un .not (.r 38)⟩,
        ⟨some 40, none, .pick (.r 27) (.c (.bool true)) (.r 39)⟩] [0, 1, 12, 13, 40])
      (.cond (.r 40) (.seq (.ops [⟨some 4, none, .asg (.c (.bool false))⟩] [4])
        .ret) .skip))))
  (.ops [⟨some 41, none, .bin .add .no (.r 13) (.c (.int .i64 1))⟩,
  ⟨some 13, none, .mv (.r 41)⟩] [0, 1, 12, 13]))))
/-- tattler/tattlerref5.SameEntries -/
def c_tattlerref5_SameEntries : VFun := ⟨2,
  (.seq (.ops [⟨some 4, none, .asg (.c (.bool false))⟩] [0, 1])
  (.seq (.seq (.ops [⟨some 6, none, .mv (.r 0)⟩,
      ⟨some 7, none, .len .sl (.r 6)⟩,
      ⟨some 8, none, .mv (.r 1)⟩,
      ⟨some 9, none, .len .sl (.r 8)⟩,
      ⟨some 10, none, .bin .neq .no (.r 7) (.r 9)⟩] [0, 1, 10])
    (.cond (.r 10) (.seq (.ops [⟨some 4, none, .asg (.c (.bool false))⟩] [4])
      .ret) .skip))
  (.seq (.seq (.ops [⟨some 11, none, .mv (.r 0)⟩,
      ⟨some 12, none, .len .sl (.r 11)⟩,
      ⟨some 13, none, .mv (.c (.int .i64 0))⟩] [0, 1, 12, 13])
    (.block 0 (.loop [0, 1, 12, 13] [] c_tattlerref5_SameEntries_l0)))
  (.seq (.ops [⟨some 4, none, .asg (.c (.bool true))⟩] [4])
  .ret)))),
  [.r 4], none⟩
def c_table_Table_All_l0 : VCode := (.seq (.ops [⟨some 16, none, .bin .lss .no (.r 15) (.r 14)⟩] [0, 3, 13, 14, 15, 16])
  (.seq (.cond (.r 16) .skip (.exit 0))
  (.seq (.block 1 (.seq (.ops [⟨some 17, none, .iaddr none 1 (.r 13) (.r 15)⟩,
        ⟨some 18, none, .load false 1 (.r 17)⟩,
        ⟨some 5, none, .asg (.r 18)⟩] [0, 3, 5, 13, 14, 15])
      (.ops [⟨some 19, none, .mv (.r 3)⟩,
      ⟨some 20, none, .mv (.r 5)⟩,
      ⟨some 21, none, .mv (.r 0)⟩,
      ⟨some 22, none, .nilck (.r 21)⟩,
      ⟨some 23, none, .faddr 0 (.r 22)⟩,
      ⟨some 24, none, .load false 1 (.r 23)⟩,
      ⟨some 25, none, .mv (.r 5)⟩,
      ⟨some 26, none, .lookup .s (.agg [(.int .i64 0), (.int .i64 0), (.int .i64 0), (.int .i64 0), (.int .i64 0), (.int .i64 0), (.int .i64 0), (.int .i64 0), (.sl [])]) false (.r 24) (.r 25)⟩,
      ⟨some 27, none, .call false F.table_copied [(.r 26)]⟩,
      ⟨some 28, none, .build [(.str []), (.int .i64 0), (.int .i64 0), (.int .i64 0), (.int .i64 0), (.int .i64 0), (.int .i64 0), (.int .i64 0), (.int .i64 0), (.sl [])] [(0, 1, (.r 20)), (1, 9, (.r 27))]⟩,
      ⟨some 29, none, .bslice (.agg [(.str []), (.int .i64 0), (.int .i64 0), (.int .i64 0), (.int .i64 0), (.int .i64 0), (.int .i64 0), (.int .i64 0), (.int .i64 0), (.sl [])]) 10 1 [(0, (.r 28))]⟩,
      ⟨some 30, none, .app (.reg 3) 10 104 (.r 19) (.r 29)⟩,
      ⟨some 3, none, .asg (.r 30)⟩] [0, 3, 13, 14, 15])))
  (.ops [⟨some 31, none, .bin .add .no (.r 15) (.c (.int .i64 1))⟩,
  ⟨some 15, none, .mv (.r 31)⟩] [0, 3, 13, 14, 15]))))
/-- (*tattler/table.Table).All -/
def c_table_Table_All : VFun := ⟨1,
  (.seq (.ops [⟨some 2, none, .asg (.c (.sl []))⟩] [0])
  (.seq (.seq (.ops [⟨some 6, none, .mv (.r 0)⟩,
      ⟨some 7, none, .bin .eql .ptr (.r 6) (.c (.ptr none))⟩] [0, 7])
    (.cond (.r 7) (.seq (.ops [⟨some 2, none, .asg (.c (.sl []))⟩] [2])
      .ret) .skip))
  (.seq (.ops [⟨some 3, none, .asg (.c (.sl []))⟩] [0, 3])
  (.seq (.seq (.ops [⟨some 8, none, .mv (.r 0)⟩,
      ⟨some 9, none, .nilck (.r 8)⟩,
      ⟨some 10, none, .faddr 0 (.r 9)⟩,
      ⟨some 11, none, .load false 1 (.r 10)⟩,
      ⟨some 12, none, .call false F.maps_Keys_map_string_api_Sibs_string_api_Sibs [(.r 11)]⟩,
      ⟨some 13, none, .call false F.slices_Sorted_string [(.r 12)]⟩,
      ⟨some 14, none, .len .sl (.r 13)⟩,
      ⟨some 15, none, .mv (.c (.int .i64 0))⟩] [0, 3, 13, 14, 15])
    (.block 0 (.loop [0, 3, 13, 14, 15] [(2, 0, 0), (3, 0, 10)] c_table_Table_All_l0)))
  (.seq (.ops [⟨some 32, none, .mv (.r 3)⟩,
    ⟨some 2, none, .asg (.r 32)⟩] [2])
  .ret))))),
  [.r 2], none⟩
/-- (*tattler/table.Table).Len -/
def c_table_Table_Len : VFun := ⟨1,
  (.seq (.ops [⟨some 2, none, .asg (.c (.int .i64 0))⟩] [0])
  (.seq (.seq (.ops [⟨some 3, none, .mv (.r 0)⟩,
      ⟨some 4, none, .bin .eql .ptr (.r 3) (.c (.ptr none))⟩] [0, 4])
    (.cond (.r 4) (.seq (.ops [⟨some 2, none, .asg (.c (.int .i64 0))⟩] [2])
      .ret) .skip))
  (.seq (.ops [⟨some 5, none, .mv (.r 0)⟩,
    ⟨some 6, none, .nilck (.r 5)⟩,
    ⟨some 7, none, .faddr 0 (.r 6)⟩,
    ⟨some 8, none, .load false 1 (.r 7)⟩,
    ⟨some 9, none, .len .map (.r 8)⟩,
    ⟨some 2, none, .asg (.r 9)⟩] [2])
  .ret))),
  [.r 2], none⟩
/-- (*tattler/table.Table).Bucket -/
def c_table_Table_Bucket : VFun := ⟨2,
  (.seq (.ops [⟨some 3, none, .box 1 (.r 1)⟩,
    ⟨some 4, none, .asg (.c (.sl []))⟩] [0, 3])
  (.seq (.ops [⟨some 5, none, .mv (.r 0)⟩,
    ⟨some 6, none, .call false F.table_Table_All [(.r 5)]⟩,
    ⟨some 7, none, .mkfn F.table_Table_Bucket_c1 [] [(.r 3)]⟩,
    ⟨some 8, none, .call false F.slices_DeleteFunc_api_Entry_api_Entry [(.r 6), (.r 7)]⟩,
    ⟨some 4, none, .asg (.r 8)⟩] [4])
  .ret)),
  [.r 4], none⟩
def c_tattlerref5_Table_Bucket_l0 : VCode := (.seq (.ops [⟨some 14, none, .bin .lss .no (.r 13) (.r 12)⟩] [1, 5, 11, 12, 13, 14])
  (.seq (.cond (.r 14) .skip (.exit 0))
  (.seq (.block 1 (.seq (.ops [⟨some 15, none, .iaddr none 10 (.r 11) (.r 13)⟩,
        ⟨some 16, none, .load true 10 (.r 15)⟩,
        ⟨some 7, none, .alloc [(.str []), (.int .i64 0), (.int .i64 0), (.int .i64 0), (.int .i64 0), (.int .i64 0), (.int .i64 0), (.int .i64 0), (.int .i64 0), (.sl [])] []⟩,
        ⟨none, none, .store 10 (.r 7) (.r 16) [] none⟩] [1, 5, 7, 11, 12, 13])
      (.seq (.ops [⟨some 17, none, .faddr 0 (.r 7)⟩,
        ⟨some 18, none, .load false 1 (.r 17)⟩,
        ⟨some 19, none, .call false F.tattlerref5_Bucket [(.r 18)]⟩,
        ⟨some 20, none, .mv (.r 1)⟩,
        ⟨some 21, none, .bin .eql .no (.r 19) (.r 20)⟩] [1, 5, 7, 11, 12, 13, 21])
      (.cond (.r 21) (.ops [⟨some 22, none, .mv (.r 5)⟩,
        ⟨some 23, none, .load true 10 (.r 7)⟩,
        ⟨some 24, none, .bslice (.agg [(.str []), (.int .i64 0), (.int .i64 0), (.int .i64 0), (.int .i64 0), (.int .i64 0), (.int .i64 0), (.int .i64 0), (.int .i64 0), (.sl [])]) 10 1 [(0, (.r 23))]⟩,
        ⟨some 25, none, .app (.reg 5) 10 104 (.r 22) (.r 24)⟩,
        ⟨some 5, none, .asg (.r 25)⟩] [1, 5, 11, 12, 13]) .skip))))
  (.ops [⟨some 26, none, .bin .add .no (.r 13) (.c (.int .i64 1))⟩,
  ⟨some 13, none, .mv (.r 26)⟩] [1, 5, 11, 12, 13]))))
/-- (*tattler/tattlerref5.Table).Bucket -/
def c_tattlerref5_Table_Bucket : VFun := ⟨2,
  (.seq (.ops [⟨some 4, none, .asg (.c (.sl []))⟩] [0, 1])
  (.seq (.ops [⟨some 5, none, .asg (.c (.sl []))⟩] [0, 1, 5])
  (.seq (.seq (.ops [⟨some 8, none, .mv (.r 0)⟩,
      ⟨some 9, none, .nilck (.r 8)⟩,
      ⟨some 10, none, .faddr 0 (.r 9)⟩,
      ⟨some 11, none, .load false 1 (.r 10)⟩,
      ⟨some 12, none, .len .sl (.r 11)⟩,
      ⟨some 13, none, .mv (.c (.int .i64 0))⟩] [1, 5, 11, 12, 13])
    (.block 0 (.loop [1, 5, 11, 12, 13] [(4, 0, 0), (5, 0, 10)] c_tattlerref5_Table_Bucket_l0)))
  (.seq (.ops [⟨some 27, none, .mv (.r 5)⟩,
    ⟨some 4, none, .asg (.r 27)⟩] [4])
  .ret)))),
  [.r 4], none⟩
/-- (*tattler/table.Table).Get -/
def c_table_Table_Get : VFun := ⟨2,
  (.seq (.ops [⟨some 4, none, .alloc [(.int .i64 0), (.int .i64 0), (.int .i64 0), (.int .i64 0), (.int .i64 0), (.int .i64 0), (.int .i64 0), (.int .i64 0), (.sl [])] []⟩,
    ⟨some 5, none, .asg (.c (.bool false))⟩] [0, 1, 4])
  (.seq (.seq (.ops [⟨some 8, none, .mv (.r 0)⟩,
      ⟨some 9, none, .bin .eql .ptr (.r 8) (.c (.ptr none))⟩] [0, 1, 4, 9])
    (.cond (.r 9) (.seq (.ops [⟨some 10, none, .build [(.int .i64 0), (.int .i64 0), (.int .i64 0), (.int .i64 0), (.int .i64 0), (.int .i64 0), (.int .i64 0), (.int .i64 0), (.sl [])] []⟩,
        ⟨none, none, .store 9 (.r 4) (.r 10) [] none⟩,
        ⟨some 5, none, .asg (.c (.bool false))⟩] [4, 5])
      .ret) .skip))
  (.seq (.ops [⟨some 12, none, .mv (.r 0)⟩,
    ⟨some 13, none, .nilck (.r 12)⟩,
    ⟨some 14, none, .faddr 0 (.r 13)⟩,
    ⟨some 15, none, .load false 1 (.r 14)⟩,
    ⟨some 16, none, .mv (.r 1)⟩,
    ⟨some 17, none, .lookup .s (.agg [(.int .i64 0), (.int .i64 0), (.int .i64 0), (.int .i64 0), (.int .i64 0), (.int .i64 0), (.int .i64 0), (.int .i64 0), (.sl [])]) true (.r 15) (.r 16)⟩,
    ⟨some 11, none, .mv (.r 17)⟩,
    ⟨some 18, none, .extract 0 (.r 11)⟩,
    ⟨some 19, none, .extract 1 (.r 11)⟩,
    ⟨some 6, none, .alloc [(.int .i64 0), (.int .i64 0), (.int .i64 0), (.int .i64 0), (.int .i64 0), (.int .i64 0), (.int .i64 0), (.int .i64 0), (.sl [])] []⟩,
    ⟨none, none, .store 9 (.r 6) (.r 18) [] none⟩,
    ⟨some 7, none, .asg (.r 19)⟩] [4, 6, 7])
  (.seq (.ops [⟨some 20, none, .load true 9 (.r 6)⟩,
    ⟨some 21, none, .call false F.table_copied [(.r 20)]⟩,
    ⟨some 22, none, .mv (.r 7)⟩,
    ⟨none, none, .store 9 (.r 4) (.r 21) [] none⟩,
    ⟨some 5, none, .asg (.r 22)⟩] [4, 5])
  .ret)))),
  [.cell 4 true 9, .r 5], none⟩
/-- (*tattler/tattlerref5.Table).Get -/
def c_tattlerref5_Table_Get : VFun := ⟨2,
  (.seq (.ops [⟨some 4, none, .alloc [(.int .i64 0), (.int .i64 0), (.int .i64 0), (.int .i64 0), (.int .i64 0), (.int .i64 0), (.int .i64 0), (.int .i64 0), (.sl [])] []⟩,
    ⟨some 5, none, .asg (.c (.bool false))⟩] [0, 1, 4])
  (.seq (.seq (.ops [⟨some 7, none, .mv (.r 0)⟩,
      ⟨some 8, none, .mv (.r 1)⟩,
      ⟨some 9, none, .call false F.tattlerref5_Table_At [(.r 7), (.r 8)]⟩,
      ⟨some 6, none, .asg (.r 9)⟩] [0, 4, 6])
    (.seq (.ops [⟨some 10, none, .mv (.r 6)⟩,
      ⟨some 11, none, .bin .geq .no (.r 10) (.c (.int .i64 0))⟩] [0, 4, 6, 11])
    (.cond (.r 11) (.seq (.ops [⟨some 12, none, .mv (.r 0)⟩,
        ⟨some 13, none, .nilck (.r 12)⟩,
        ⟨some 14, none, .faddr 0 (.r 13)⟩,
        ⟨some 15, none, .load false 1 (.r 14)⟩,
        ⟨some 16, none, .mv (.r 6)⟩,
        ⟨some 17, none, .iaddr none 10 (.r 15) (.r 16)⟩,
        ⟨some 18, none, .faddr 1 (.r 17)⟩,
        ⟨some 19, none, .load true 9 (.r 18)⟩,
        ⟨none, none, .store 9 (.r 4) (.r 19) [] none⟩,
        ⟨some 5, none, .asg (.c (.bool true))⟩] [4, 5])
      .ret) .skip)))
  (.seq (.ops [⟨some 20, none, .build [(.int .i64 0), (.int .i64 0), (.int .i64 0), (.int .i64 0), (.int .i64 0), (.int .i64 0), (.int .i64 0), (.int .i64 0), (.sl [])] []⟩,
    ⟨none, none, .store 9 (.r 4) (.r 20) [] none⟩,
    ⟨some 5, none, .asg (.c (.bool false))⟩] [4, 5])
  .ret))),
  [.cell 4 true 9, .r 5], none⟩
/-- tattler/sibs.MayEntry -/
def c_sibs_MayEntry : VFun := ⟨1,
  (.seq (.ops [⟨some 1, none, .box 10 (.r 0)⟩,
    ⟨some 2, none, .asg (.c (.bool false))⟩] [1])
  (.seq (.ops [⟨some 3, none, .faddr 0 (.r 1)⟩,
    ⟨some 4, none, .load false 1 (.r 3)⟩,
    ⟨some 5, none, .len .str (.r 4)⟩,
    ⟨some 6, none, .bin .geq .no (.r 5) (.c (.int .i64 1))⟩,
    ⟨some 7, none, .mv (.r 6)⟩,
    ⟨some 8, some (7, true), .faddr 0 (.r 1)⟩,
    ⟨some 9, some (7, true), .load false 1 (.r 8)⟩,
    ⟨some 10, some (7, true), .len .str (.r 9)⟩,
    ⟨some 11, some (7, true), .bin .leq .no (.r 10) (.c (.int .i64 32))⟩,
    ⟨some 12, none, .pick (.r 7) (.r 11) (.c (.bool false))⟩,
    ⟨some 13, none, .mv (.r 12)⟩,
    ⟨some 14, some (13, true), .faddr 1 (.r 1)⟩,
    ⟨some 15, some (13, true), .load true 9 (.r 14)⟩,
    ⟨some 16, some (13, true), .call false F.sibs_May [(.r 15)]⟩,
    ⟨some 17, none, .pick (.r 13) (.r 16) (.c (.bool false))⟩,
    ⟨some 2, none, .asg (.r 17)⟩] [2])
  .ret)),
  [.r 2], none⟩
def c_sibs_Join_l0 : VCode := (.seq (.ops [⟨some 25, none, .bin .lss .no (.r 24) (.r 23)⟩] [2, 3, 4, 5, 22, 23, 24, 25])
  (.seq (.cond (.r 25) .skip (.exit 0))
  (.seq (.block 1 (.seq (.ops [⟨some 26, none, .iaddr none 4 (.r 22) (.r 24)⟩,
        ⟨some 27, none, .load true 4 (.r 26)⟩,
        ⟨some 7, none, .alloc [(.int .i64 0), (.int .i64 0), (.sl []), (.bool false)] []⟩,
        ⟨none, none, .store 4 (.r 7) (.r 27) [] none⟩] [2, 3, 4, 5, 7, 22, 23, 24])
      (.seq (.ops [⟨some 29, none, .load true 9 (.r 3)⟩,
        ⟨some 30, none, .faddr 0 (.r 7)⟩,
        ⟨some 31, none, .load true 2 (.r 30)⟩,
        ⟨some 32, none, .call false F.sibs_find [(.r 29), (.r 31)]⟩,
        ⟨some 28, none, .mv (.r 32)⟩,
        ⟨some 33, none, .extract 0 (.r 28)⟩,
        ⟨some 34, none, .extract 1 (.r 28)⟩,
        ⟨some 8, none, .alloc [(.int .i64 0), (.int .i64 0), (.sl []), (.bool false)] []⟩,
        ⟨none, none, .store 4 (.r 8) (.r 33) [] none⟩,
        ⟨some 9, none, .asg (.r 34)⟩] [2, 3, 4, 5, 7, 8, 9, 22, 23, 24])
      (.seq (.ops [⟨some 35, none, .mv (.r 9)⟩] [2, 3, 4, 5, 7, 8, 22, 23, 24, 35])
      (.cond (.r 35) (.ops [⟨some 36, none, .mv (.r 5)⟩,
        ⟨some 37, none, .load true 4 (.r 7)⟩,
        ⟨some 38, none, .load true 4 (.r 8)⟩,
        ⟨some 39, none, .call false F.sibs_better [(.r 37), (.r 38)]⟩,
        ⟨some 40, none, .call false F.sibs_own [(.r 39)]⟩,
        ⟨some 41, none, .bslice (.agg [(.int .i64 0), (.int .i64 0), (.sl []), (.bool false)]) 4 1 [(0, (.r 40))]⟩,
        ⟨some 42, none, .appl 5 4 48 (.r 36) (.r 41)⟩,
        ⟨some 5, none, .asg (.r 42)⟩] [2, 3, 4, 5, 22, 23, 24]) (.seq (.ops [⟨some 43, none, .faddr 0 (.r 3)⟩,
          ⟨some 44, none, .load true 8 (.r 43)⟩,
          ⟨some 45, none, .faddr 0 (.r 7)⟩,
          ⟨some 46, none, .load true 2 (.r 45)⟩,
          ⟨some 47, none, .call false F.vector_Covers [(.r 44), (.r 46)]⟩,
          ⟨some 48, none, .un .not (.r 47)⟩] [2, 3, 4, 5, 7, 22, 23, 24, 48])
        (.cond (.r 48) (.ops [⟨some 49, none, .mv (.r 5)⟩,
          ⟨some 50, none, .load true 4 (.r 7)⟩,
          ⟨some 51, none, .call false F.sibs_own [(.r 50)]⟩,
          ⟨some 52, none, .bslice (.agg [(.int .i64 0), (.int .i64 0), (.sl []), (.bool false)]) 4 1 [(0, (.r 51))]⟩,
          ⟨some 53, none, .appl 5 4 48 (.r 49) (.r 52)⟩,
          ⟨some 5, none, .asg (.r 53)⟩] [2, 3, 4, 5, 22, 23, 24]) .skip)))))))
  (.ops [⟨some 54, none, .bin .add .no (.r 24) (.c (.int .i64 1))⟩,
  ⟨some 24, none, .mv (.r 54)⟩] [2, 3, 4, 5, 22, 23, 24]))))
def c_sibs_Join_l1 : VCode := (.seq (.ops [⟨some 59, none, .bin .lss .no (.r 58) (.r 57)⟩] [2, 3, 4, 5, 56, 57, 58, 59])
  (.seq (.cond (.r 59) .skip (.exit 2))
  (.seq (.block 3 (.seq (.ops [⟨some 60, none, .iaddr none 4 (.r 56) (.r 58)⟩,
        ⟨some 61, none, .load true 4 (.r 60)⟩,
        ⟨some 11, none, .alloc [(.int .i64 0), (.int .i64 0), (.sl []), (.bool false)] []⟩,
        ⟨none, none, .store 4 (.r 11) (.r 61) [] none⟩] [2, 3, 4, 5, 11, 56, 57, 58])
      (.seq (.ops [⟨some 62, none, .faddr 0 (.r 2)⟩,
        ⟨some 63, none, .load true 8 (.r 62)⟩,
        ⟨some 64, none, .faddr 0 (.r 11)⟩,
        ⟨some 65, none, .load true 2 (.r 64)⟩,
        ⟨some 66, none, .call false F.vector_Covers [(.r 63), (.r 65)]⟩,
        ⟨some 67, none, .un .not (.r 66)⟩] [2, 3, 4, 5, 11, 56, 57, 58, 67])
      (.cond (.r 67) (.ops [⟨some 68, none, .mv (.r 5)⟩,
        ⟨some 69, none, .load true 4 (.r 11)⟩,
        ⟨some 70, none, .call false F.sibs_own [(.r 69)]⟩,
        ⟨some 71, none, .bslice (.agg [(.int .i64 0), (.int .i64 0), (.sl []), (.bool false)]) 4 1 [(0, (.r 70))]⟩,
        ⟨some 72, none, .appl 5 4 48 (.r 68) (.r 71)⟩,
        ⟨some 5, none, .asg (.r 72)⟩] [2, 3, 4, 5, 56, 57, 58]) .skip))))
  (.ops [⟨some 73, none, .bin .add .no (.r 58) (.c (.int .i64 1))⟩,
  ⟨some 58, none, .mv (.r 73)⟩] [2, 3, 4, 5, 56, 57, 58]))))
/-- tattler/sibs.Join -/
def c_sibs_Join : VFun := ⟨2,
  (.seq (.ops [⟨some 2, none, .box 9 (.r 0)⟩,
    ⟨some 3, none, .box 9 (.r 1)⟩,
    ⟨some 4, none, .alloc [(.int .i64 0), (.int .i64 0), (.int .i64 0), (.int .i64 0), (.int .i64 0), (.int .i64 0), (.int .i64 0), (.int .i64 0), (.sl [])] []⟩] [2, 3, 4])
  (.seq (.seq (.ops [⟨some 12, none, .load true 9 (.r 2)⟩,
      ⟨some 13, none, .call false F.sibs_May [(.r 12)]⟩,
      ⟨some 14, none, .un .not (.r 13)⟩,
      ⟨some 15, none, .mv (.r 14)⟩,
      ⟨some 16, some (15, false), .load true 9 (.r 3)⟩,
      ⟨some 17, some (15, false), .call false F.sibs_May [(.r 16)]⟩,
      ⟨some 18, some (15, false), .un .not (.r 17)⟩,
      ⟨some 19, none, .pick (.r 15) (.c (.bool true)) (.r 18)⟩] [2, 3, 4, 19])
    (.cond (.r 19) (.seq (.ops [⟨some 20, none, .build [(.int .i64 0), (.int .i64 0), (.int .i64 0), (.int .i64 0), (.int .i64 0), (.int .i64 0), (.int .i64 0), (.int .i64 0), (.sl [])] []⟩,
        ⟨none, none, .store 9 (.r 4) (.r 20) [] none⟩] [4])
      .ret) .skip))
  (.seq (.ops [⟨some 5, none, .newl 4⟩] [2, 3, 4, 5])
  (.seq (.seq (.ops [⟨some 21, none, .faddr 8 (.r 2)⟩,
      ⟨some 22, none, .load false 1 (.r 21)⟩,
      ⟨some 23, none, .len .sl (.r 22)⟩,
      ⟨some 24, none, .mv (.c (.int .i64 0))⟩] [2, 3, 4, 5, 22, 23, 24])
    (.block 0 (.loop [2, 3, 4, 5, 22, 23, 24] [(5, 0, 1000004)] c_sibs_Join_l0)))
  (.seq (.seq (.ops [⟨some 55, none, .faddr 8 (.r 3)⟩,
      ⟨some 56, none, .load false 1 (.r 55)⟩,
      ⟨some 57, none, .len .sl (.r 56)⟩,
      ⟨some 58, none, .mv (.c (.int .i64 0))⟩] [2, 3, 4, 5, 56, 57, 58])
    (.block 2 (.loop [2, 3, 4, 5, 56, 57, 58] [(5, 0, 1000004)] c_sibs_Join_l1)))
  (.seq (.ops [⟨some 74, none, .mv (.r 5)⟩,
    ⟨some 75, none, .calll F.sibs_sorted 5 4 sortV (.r 74) []⟩,
    ⟨some 5, none, .asg (.r 75)⟩,
    ⟨some 5, none, .frzl 5 4⟩] [2, 3, 4, 5])
  (.seq (.dops 10 [⟨some 76, none, .faddr 0 (.r 2)⟩,
    ⟨some 77, none, .load true 8 (.r 76)⟩,
    ⟨some 78, none, .faddr 0 (.r 3)⟩,
    ⟨some 79, none, .load true 8 (.r 78)⟩,
    ⟨some 80, none, .call true F.vector_Join [(.r 77), (.r 79)]⟩,
    ⟨some 81, none, .mv (.r 5)⟩,
    ⟨some 82, none, .mv (.r 5)⟩,
    ⟨some 83, none, .len .sl (.r 82)⟩,
    ⟨some 84, none, .mn [(.r 83), (.c (.int .i64 16))]⟩,
    ⟨some 85, none, .slice false 4 (.r 81) none (some (.r 84)) none⟩,
    ⟨some 86, none, .build [(.int .i64 0), (.int .i64 0), (.int .i64 0), (.int .i64 0), (.int .i64 0), (.int .i64 0), (.int .i64 0), (.int .i64 0), (.sl [])] [(0, 8, (.r 80)), (8, 1, (.r 85))]⟩,
    ⟨none, none, .store 9 (.r 4) (.r 86) [] none⟩] [4])
  .ret))))))),
  [.cell 4 true 9], none⟩
/-- tattler/table.copied -/
def c_table_copied : VFun := ⟨1,
  (.seq (.ops [⟨some 1, none, .box 9 (.r 0)⟩,
    ⟨some 2, none, .alloc [(.int .i64 0), (.int .i64 0), (.int .i64 0), (.int .i64 0), (.int .i64 0), (.int .i64 0), (.int .i64 0), (.int .i64 0), (.sl [])] []⟩] [1, 2])
  (.seq (.ops [⟨some 3, none, .load true 9 (.r 1)⟩,
    ⟨some 4, none, .load true 9 (.r 1)⟩,
    ⟨some 5, none, .call false F.sibs_Join [(.r 3), (.r 4)]⟩,
    ⟨none, none, .store 9 (.r 2) (.r 5) [] none⟩] [2])
  .ret)),
  [.cell 2 true 9], none⟩
/-- tattler/sibs.Same -/
def c_sibs_Same : VFun := ⟨2,
  (.seq (.ops [⟨some 2, none, .box 9 (.r 0)⟩,
    ⟨some 3, none, .box 9 (.r 1)⟩,
    ⟨some 4, none, .asg (.c (.bool false))⟩] [2, 3])
  (.seq (.ops [⟨some 5, none, .faddr 0 (.r 2)⟩,
    ⟨some 6, none, .load true 8 (.r 5)⟩,
    ⟨some 7, none, .faddr 0 (.r 3)⟩,
    ⟨some 8, none, .load true 8 (.r 7)⟩,
    ⟨some 9, none, .bin .eql (.agg [.i, .i, .i, .i, .i, .i, .i, .i]) (.r 6) (.r 8)⟩,
    ⟨some 10, none, .mv (.r 9)⟩,
    ⟨some 11, some (10, true), .faddr 8 (.r 2)⟩,
    ⟨some 12, some (10, true), .load false 1 (.r 11)⟩,
    ⟨some 13, some (10, true), .faddr 8 (.r 3)⟩,
    ⟨some 14, some (10, true), .load false 1 (.r 13)⟩,
    ⟨some 15, some (10, true), .call false F.slices_EqualFunc_api_Value_api_Value_api_Value_api_Value [(.r 12), (.r 14), (.c (.fn F.sibs_Same_c1 [] []))]⟩,
    ⟨some 16, none, .pick (.r 10) (.r 15) (.c (.bool false))⟩,
    ⟨some 4, none, .asg (.r 16)⟩] [4])
  .ret)),
  [.r 4], none⟩
/-- tattler/tattlerref5.MayEntry -/
def c_tattlerref5_MayEntry : VFun := ⟨1,
  (.seq (.ops [⟨some 1, none, .box 10 (.r 0)⟩,
    ⟨some 2, none, .asg (.c (.bool false))⟩] [1])
  (.seq (.ops [⟨some 3, none, .faddr 0 (.r 1)⟩,
    ⟨some 4, none, .load false 1 (.r 3)⟩,
    ⟨some 5, none, .call false F.tattlerref5_MayKey [(.r 4)]⟩,
    ⟨some 6, none, .mv (.r 5)⟩,
    ⟨some 7, some (6, true), .faddr 1 (.r 1)⟩,
    ⟨some 8, some (6, true), .load true 9 (.r 7)⟩,
    ⟨some 9, some (6, true), .call false F.tattlerref5_May [(.r 8)]⟩,
    ⟨some 10, none, .pick (.r 6) (.r 9) (.c (.bool false))⟩,
    ⟨some 2, none, .asg (.r 10)⟩] [2])
  .ret)),
  [.r 2], none⟩
def c_tattlerref5_Table_At_l0 : VCode := (.seq (.ops [⟨some 13, none, .bin .lss .no (.r 12) (.r 11)⟩] [1, 10, 11, 12, 13])
  (.seq (.cond (.r 13) .skip (.exit 0))
  (.seq (.block 1 (.seq (.ops [⟨some 14, none, .mv (.r 12)⟩,
        ⟨some 15, none, .iaddr none 10 (.r 10) (.r 12)⟩,
        ⟨some 16, none, .load true 10 (.r 15)⟩,
        ⟨some 6, none, .alloc [(.str []), (.int .i64 0), (.int .i64 0), (.int .i64 0), (.int .i64 0), (.int .i64 0), (.int .i64 0), (.int .i64 0), (.int .i64 0), (.sl [])] []⟩,
        ⟨some 5, none, .asg (.r 14)⟩,
        ⟨none, none, .store 10 (.r 6) (.r 16) [] none⟩] [1, 5, 6, 10, 11, 12])
      (.seq (.ops [⟨some 17, none, .faddr 0 (.r 6)⟩,
        ⟨some 18, none, .load false 1 (.r 17)⟩,
        ⟨some 19, none, .mv (.r 1)⟩,
        ⟨some 20, none, .bin .eql .no (.r 18) (.r 19)⟩] [1, 5, 10, 11, 12, 20])
      (.cond (.r 20) (.seq (.ops [⟨some 21, none, .mv (.r 5)⟩,
          ⟨some 4, none, .asg (.r 21)⟩] [4])
        .ret) .skip))))
  (.ops [⟨some 22, none, .bin .add .no (.r 12) (.c (.int .i64 1))⟩,
  ⟨some 12, none, .mv (.r 22)⟩] [1, 10, 11, 12]))))
/-- (*tattler/tattlerref5.Table).At -/
def c_tattlerref5_Table_At : VFun := ⟨2,
  (.seq (.ops [⟨some 4, none, .asg (.c (.int .i64 0))⟩] [0, 1])
  (.seq (.seq (.ops [⟨some 7, none, .mv (.r 0)⟩,
      ⟨some 8, none, .nilck (.r 7)⟩,
      ⟨some 9, none, .faddr 0 (.r 8)⟩,
      ⟨some 10, none, .load false 1 (.r 9)⟩,
      ⟨some 11, none, .len .sl (.r 10)⟩,
      ⟨some 12, none, .mv (.c (.int .i64 0))⟩] [1, 10, 11, 12])
    (.block 0 (.loop [1, 10, 11, 12] [] c_tattlerref5_Table_At_l0)))
  (.seq (.ops [⟨some 4, none, .asg (.c (.int .i64 (-1)))⟩] [4])
  .ret))),
  [.r 4], none⟩
def c_tattlerref5_Join_l0 : VCode := (.seq (.ops [⟨some 30, none, .bin .lss .no (.r 29) (.r 28)⟩] [2, 3, 4, 5, 27, 28, 29, 30])
  (.seq (.cond (.r 30) .skip (.exit 0))
  (.seq (.block 1 (.seq (.ops [⟨some 31, none, .iaddr none 4 (.r 27) (.r 29)⟩,
        ⟨some 32, none, .load true 4 (.r 31)⟩,
        ⟨some 7, none, .alloc [(.int .i64 0), (.int .i64 0), (.sl []), (.bool false)] []⟩,
        ⟨none, none, .store 4 (.r 7) (.r 32) [] none⟩] [2, 3, 4, 5, 7, 27, 28, 29])
      (.seq (.ops [⟨some 33, none, .load true 9 (.r 3)⟩,
        ⟨some 34, none, .faddr 0 (.r 7)⟩,
        ⟨some 35, none, .load true 2 (.r 34)⟩,
        ⟨some 36, none, .call false F.tattlerref5_find [(.r 33), (.r 35)]⟩,
        ⟨some 8, none, .asg (.r 36)⟩] [2, 3, 4, 5, 7, 8, 27, 28, 29])
      (.seq (.ops [⟨some 37, none, .mv (.r 8)⟩,
        ⟨some 38, none, .bin .geq .no (.r 37) (.c (.int .i64 0))⟩] [2, 3, 4, 5, 7, 8, 27, 28, 29, 38])
      (.cond (.r 38) (.dops 10 [⟨some 39, none, .faddr 8 (.r 5)⟩,
        ⟨some 40, none, .load false 1 (.r 39)⟩,
        ⟨some 41, none, .load true 4 (.r 7)⟩,
        ⟨some 42, none, .faddr 8 (.r 3)⟩,
        ⟨some 43, none, .load false 1 (.r 42)⟩,
        ⟨some 44, none, .mv (.r 8)⟩,
        ⟨some 45, none, .iaddr none 4 (.r 43) (.r 44)⟩,
        ⟨some 46, none, .load true 4 (.r 45)⟩,
        ⟨some 47, none, .call true F.tattlerref5_first [(.r 41), (.r 46)]⟩,
        ⟨some 48, none, .call true F.tattlerref5_copied [(.r 47)]⟩,
        ⟨some 49, none, .call false F.tattlerref5_insert [(.r 40), (.r 48)]⟩,
        ⟨some 50, none, .faddr 8 (.r 5)⟩,
        ⟨none, none, .store 1 (.r 50) (.r 49) [] none⟩] [2, 3, 4, 5, 27, 28, 29]) (.seq (.ops [⟨some 51, none, .faddr 0 (.r 3)⟩,
          ⟨some 52, none, .load true 8 (.r 51)⟩,
          ⟨some 53, none, .faddr 0 (.r 7)⟩,
          ⟨some 54, none, .load true 2 (.r 53)⟩,
          ⟨some 55, none, .call false F.tattlerref1_Covers [(.r 52), (.r 54)]⟩,
          ⟨some 56, none, .un .not (.r 55)⟩] [2, 3, 4, 5, 7, 27, 28, 29, 56])
        (.cond (.r 56) (.dops 4 [⟨some 57, none, .faddr 8 (.r 5)⟩,
          ⟨some 58, none, .load false 1 (.r 57)⟩,
          ⟨some 59, none, .load true 4 (.r 7)⟩,
          ⟨some 60, none, .call true F.tattlerref5_copied [(.r 59)]⟩,
          ⟨some 61, none, .call false F.tattlerref5_insert [(.r 58), (.r 60)]⟩,
          ⟨some 62, none, .faddr 8 (.r 5)⟩,
          ⟨none, none, .store 1 (.r 62) (.r 61) [] none⟩] [2, 3, 4, 5, 27, 28, 29]) .skip)))))))
  (.ops [⟨some 63, none, .bin .add .no (.r 29) (.c (.int .i64 1))⟩,
  ⟨some 29, none, .mv (.r 63)⟩] [2, 3, 4, 5, 27, 28, 29]))))
def c_tattlerref5_Join_l1 : VCode := (.seq (.ops [⟨some 68, none, .bin .lss .no (.r 67) (.r 66)⟩] [2, 4, 5, 65, 66, 67, 68])
  (.seq (.cond (.r 68) .skip (.exit 2))
  (.seq (.block 3 (.seq (.ops [⟨some 69, none, .iaddr none 4 (.r 65) (.r 67)⟩,
        ⟨some 70, none, .load true 4 (.r 69)⟩,
        ⟨some 10, none, .alloc [(.int .i64 0), (.int .i64 0), (.sl []), (.bool false)] []⟩,
        ⟨none, none, .store 4 (.r 10) (.r 70) [] none⟩] [2, 4, 5, 10, 65, 66, 67])
      (.seq (.ops [⟨some 71, none, .load true 9 (.r 2)⟩,
        ⟨some 72, none, .faddr 0 (.r 10)⟩,
        ⟨some 73, none, .load true 2 (.r 72)⟩,
        ⟨some 74, none, .call false F.tattlerref5_find [(.r 71), (.r 73)]⟩,
        ⟨some 75, none, .bin .lss .no (.r 74) (.c (.int .i64 0))⟩,
        ⟨some 76, none, .mv (.r 75)⟩,
        ⟨some 77, some (76, true), .faddr 0 (.r 2)⟩,
        ⟨some 78, some (76, true), .load true 8 (.r 77)⟩,
        ⟨some 79, some (76, true), .faddr 0 (.r 10)⟩,
        ⟨some 80, some (76, true), .load true 2 (.r 79)⟩,
        ⟨some 81, some (76, true), .call false F.tattlerref1_Covers [(.r 78), (.r 80)]⟩,
        ⟨some 82, some (76, true), .un .not (.r 81)⟩,
        ⟨some 83, none, .pick (.r 76) (.r 82) (.c (.bool false))⟩] [2, 4, 5, 10, 65, 66, 67, 83])
      (.cond (.r 83) (.dops 4 [⟨some 84, none, .faddr 8 (.r 5)⟩,
        ⟨some 85, none, .load false 1 (.r 84)⟩,
        ⟨some 86, none, .load true 4 (.r 10)⟩,
        ⟨some 87, none, .call true F.tattlerref5_copied [(.r 86)]⟩,
        ⟨some 88, none, .call false F.tattlerref5_insert [(.r 85), (.r 87)]⟩,
        ⟨some 89, none, .faddr 8 (.r 5)⟩,
        ⟨none, none, .store 1 (.r 89) (.r 88) [] none⟩] [2, 4, 5, 65, 66, 67]) .skip))))
  (.ops [⟨some 90, none, .bin .add .no (.r 67) (.c (.int .i64 1))⟩,
  ⟨some 67, none, .mv (.r 90)⟩] [2, 4, 5, 65, 66, 67]))))
/-- tattler/tattlerref5.Join -/
def c_tattlerref5_Join : VFun := ⟨2,
  (.seq (.ops [⟨some 2, none, .box 9 (.r 0)⟩,
    ⟨some 3, none, .box 9 (.r 1)⟩,
    ⟨some 4, none, .alloc [(.int .i64 0), (.int .i64 0), (.int .i64 0), (.int .i64 0), (.int .i64 0), (.int .i64 0), (.int .i64 0), (.int .i64 0), (.sl [])] []⟩] [2, 3, 4])
  (.seq (.seq (.ops [⟨some 11, none, .load true 9 (.r 2)⟩,
      ⟨some 12, none, .call false F.tattlerref5_May [(.r 11)]⟩,
      ⟨some 13, none, .un .not (.r 12)⟩,
      ⟨some 14, none, .mv (.r 13)⟩,
      ⟨some 15, some (14, false), .load true 9 (.r 3)⟩,
      ⟨some 16, some (14, false), .call false F.tattlerref5_May [(.r 15)]⟩,
      ⟨some 17, some (14, false), .un .not (.r 16)⟩,
      ⟨some 18, none, .pick (.r 14) (.c (.bool true)) (.r 17)⟩] [2, 3, 4, 18])
    (.cond (.r 18) (.seq (.ops [⟨some 19, none, .build [(.int .i64 0), (.int .i64 0), (.int .i64 0), (.int .i64 0), (.int .i64 0), (.int .i64 0), (.int .i64 0), (.int .i64 0), (.sl [])] []⟩,
        ⟨none, none, .store 9 (.r 4) (.r 19) [] none⟩] [4])
      .ret) .skip))
  (.seq (.ops [⟨some 20, none, .faddr 0 (.r 2)⟩,
    ⟨some 21, none, .load true 8 (.r 20)⟩,
    ⟨some 22, none, .faddr 0 (.r 3)⟩,
    ⟨some 23, none, .load true 8 (.r 22)⟩,
    ⟨some 24, none, .call false F.tattlerref1_Join [(.r 21), (.r 23)]⟩,
    ⟨some 25, none, .build [(.int .i64 0), (.int .i64 0), (.int .i64 0), (.int .i64 0), (.int .i64 0), (.int .i64 0), (.int .i64 0), (.int .i64 0), (.sl [])] [(0, 8, (.r 24))]⟩,
    ⟨some 5, none, .alloc [(.int .i64 0), (.int .i64 0), (.int .i64 0), (.int .i64 0), (.int .i64 0), (.int .i64 0), (.int .i64 0), (.int .i64 0), (.sl [])] []⟩,
    ⟨none, none, .store 9 (.r 5) (.r 25) [] none⟩] [2, 3, 4, 5])
  (.seq (.seq (.ops [⟨some 26, none, .faddr 8 (.r 2)⟩,
      ⟨some 27, none, .load false 1 (.r 26)⟩,
      ⟨some 28, none, .len .sl (.r 27)⟩,
      ⟨some 29, none, .mv (.c (.int .i64 0))⟩] [2, 3, 4, 5, 27, 28, 29])
    (.block 0 (.loop [2, 3, 4, 5, 27, 28, 29] [] c_tattlerref5_Join_l0)))
  (.seq (.seq (.ops [⟨some 64, none, .faddr 8 (.r 3)⟩,
      ⟨some 65, none, .load false 1 (.r 64)⟩,
      ⟨some 66, none, .len .sl (.r 65)⟩,
      ⟨some 67, none, .mv (.c (.int .i64 0))⟩] [2, 4, 5, 65, 66, 67])
    (.block 2 (.loop [2, 4, 5, 65, 66, 67] [] c_tattlerref5_Join_l1)))
  (.seq (.seq (.ops [⟨some 91, none, .faddr 8 (.r 5)⟩,
      ⟨some 92, none, .load false 1 (.r 91)⟩,
      ⟨some 93, none, .len .sl (.r 92)⟩,
      ⟨some 94, none, .bin .gtr .no (.r 93) (.c (.int .i64 16))⟩] [4, 5, 94])
    (.cond (.r 94) (.ops [⟨some 95, none, .faddr 8 (.r 5)⟩,
      ⟨some 96, none, .load false 1 (.r 95)⟩,
      ⟨some 97, none, .slice false 4 (.r 96) none (some (.c (.int .i64 16))) none⟩,
      ⟨some 98, none, .faddr 8 (.r 5)⟩,
      ⟨none, none, .store 1 (.r 98) (.r 97) [] none⟩] [4, 5]) .skip))
  (.seq (.ops [⟨some 99, none, .load true 9 (.r 5)⟩,
    ⟨none, none, .store 9 (.r 4) (.r 99) [] none⟩] [4])
  .ret))))))),
  [.cell 4 true 9], none⟩
/-- (*tattler/table.Table).Reap -/
def c_table_Table_Reap : VFun := ⟨2,
  (.seq (.ops [⟨some 4, none, .asg (.c (.bool false))⟩] [0, 1])
  (.seq (.ops [⟨some 8, none, .mv (.r 0)⟩,
    ⟨some 9, none, .mv (.r 1)⟩,
    ⟨some 10, none, .call false F.table_Table_Get [(.r 8), (.r 9)]⟩,
    ⟨some 7, none, .mv (.r 10)⟩,
    ⟨some 11, none, .extract 0 (.r 7)⟩,
    ⟨some 12, none, .extract 1 (.r 7)⟩,
    ⟨some 5, none, .alloc [(.int .i64 0), (.int .i64 0), (.int .i64 0), (.int .i64 0), (.int .i64 0), (.int .i64 0), (.int .i64 0), (.int .i64 0), (.sl [])] []⟩,
    ⟨none, none, .store 9 (.r 5) (.r 11) [] none⟩,
    ⟨some 6, none, .asg (.r 12)⟩] [0, 1, 5, 6])
  (.seq (.seq (.ops [⟨some 13, none, .mv (.r 6)⟩,
      ⟨some 14, none, .un .not (.r 13)⟩] [0, 1, 5, 14])
    (.cond (.r 14) (.seq (.ops [⟨some 4, none, .asg (.c (.bool false))⟩] [4])
      .ret) .skip))
  (.seq (.dops 7 [⟨some 15, none, .mv (.r 0)⟩,
    ⟨some 16, none, .nilck (.r 15)⟩,
    ⟨some 17, none, .faddr 0 (.r 16)⟩,
    ⟨some 18, none, .load false 1 (.r 17)⟩,
    ⟨some 19, none, .mv (.r 1)⟩,
    ⟨some 20, none, .load true 9 (.r 5)⟩,
    ⟨some 21, none, .call true F.sibs_Reap [(.r 20)]⟩,
    ⟨none, none, .mapupd .s (.r 18) (.r 19) (.r 21)⟩] [0, 1, 5])
  (.seq (.dops 7 [⟨some 22, none, .load true 9 (.r 5)⟩,
    ⟨some 23, none, .mv (.r 0)⟩,
    ⟨some 24, none, .nilck (.r 23)⟩,
    ⟨some 25, none, .faddr 0 (.r 24)⟩,
    ⟨some 26, none, .load false 1 (.r 25)⟩,
    ⟨some 27, none, .mv (.r 1)⟩,
    ⟨some 28, none, .lookup .s (.agg [(.int .i64 0), (.int .i64 0), (.int .i64 0), (.int .i64 0), (.int .i64 0), (.int .i64 0), (.int .i64 0), (.int .i64 0), (.sl [])]) false (.r 26) (.r 27)⟩,
    ⟨some 29, none, .call false F.sibs_Same [(.r 22), (.r 28)]⟩,
    ⟨some 30, none, .un .not (.r 29)⟩,
    ⟨some 4, none, .asg (.r 30)⟩] [4])
  .ret))))),
  [.r 4], none⟩
/-- (*tattler/tattlerref5.Table).Reap -/
def c_tattlerref5_Table_Reap : VFun := ⟨2,
  (.seq (.ops [⟨some 4, none, .asg (.c (.bool false))⟩] [0, 1])
  (.seq (.ops [⟨some 7, none, .mv (.r 0)⟩,
    ⟨some 8, none, .mv (.r 1)⟩,
    ⟨some 9, none, .call false F.tattlerref5_Table_At [(.r 7), (.r 8)]⟩,
    ⟨some 5, none, .asg (.r 9)⟩] [0, 5])
  (.seq (.seq (.dops 20 [⟨some 10, none, .mv (.r 5)⟩,
      ⟨some 11, none, .bin .lss .no (.r 10) (.c (.int .i64 0))⟩,
      ⟨some 12, none, .mv (.r 11)⟩,
      ⟨some 13, some (12, false), .mv (.r 0)⟩,
      ⟨some 14, some (12, false), .nilck (.r 13)⟩,
      ⟨some 15, some (12, false), .faddr 0 (.r 14)⟩,
      ⟨some 16, some (12, false), .load false 1 (.r 15)⟩,
      ⟨some 17, some (12, false), .mv (.r 5)⟩,
      ⟨some 18, some (12, false), .iaddr none 10 (.r 16) (.r 17)⟩,
      ⟨some 19, some (12, false), .faddr 1 (.r 18)⟩,
      ⟨some 20, some (12, false), .load true 9 (.r 19)⟩,
      ⟨some 21, some (12, false), .call true F.tattlerref5_Reap [(.r 20)]⟩,
      ⟨some 22, some (12, false), .mv (.r 0)⟩,
      ⟨some 23, some (12, false), .nilck (.r 22)⟩,
      ⟨some 24, some (12, false), .faddr 0 (.r 23)⟩,
      ⟨some 25, some (12, false), .load false 1 (.r 24)⟩,
      ⟨some 26, some (12, false), .mv (.r 5)⟩,
      ⟨some 27, some (12, false), .iaddr none 10 (.r 25) (.r 26)⟩,
      ⟨some 28, some (12, false), .faddr 1 (.r 27)⟩,
      ⟨some 29, some (12, false), .load true 9 (.r 28)⟩,
      ⟨some 30, some (12, false), .call false F.tattlerref5_Same [(.r 21), (.r 29)]⟩,
      ⟨some 31, none, .pick (.r 12) (.c (.bool true)) (.r 30)⟩] [0, 5, 31])
    (.cond (.r 31) (.seq (.ops [⟨some 4, none, .asg (.c (.bool false))⟩] [4])
      .ret) .skip))
  (.seq (.ops [⟨some 32, none, .mv (.r 0)⟩,
    ⟨some 33, none, .nilck (.r 32)⟩,
    ⟨some 34, none, .faddr 0 (.r 33)⟩,
    ⟨some 35, none, .load false 1 (.r 34)⟩,
    ⟨some 36, none, .appm 10 104 (.c .nsl) (.r 35)⟩,
    ⟨some 6, none, .asg (.r 36)⟩] [0, 5, 6])
  (.seq (.ops [⟨some 37, none, .mv (.r 6)⟩,
    ⟨some 38, none, .mv (.r 5)⟩,
    ⟨some 39, none, .mv (.r 6)⟩,
    ⟨some 40, none, .mv (.r 5)⟩,
    ⟨some 41, none, .iaddr none 10 (.r 39) (.r 40)⟩,
    ⟨some 42, none, .faddr 1 (.r 41)⟩,
    ⟨some 43, none, .load true 9 (.r 42)⟩,
    ⟨some 44, none, .call false F.tattlerref5_Reap [(.r 43)]⟩,
    ⟨some 45, none, .iaddr none 10 (.r 37) (.r 38)⟩,
    ⟨some 46, none, .faddr 1 (.r 45)⟩,
    ⟨none, none, .store 9 (.r 46) (.r 44) [] none⟩] [0, 6])
  (.seq (.ops [⟨some 6, none, .frzr 6 10 true⟩,
    ⟨some 47, none, .mv (.r 0)⟩,
    ⟨some 48, none, .mv (.r 6)⟩,
    ⟨some 49, none, .nilck (.r 47)⟩,
    ⟨some 50, none, .faddr 0 (.r 49)⟩,
    ⟨none, none, .store 1 (.r 50) (.r 48) [] none⟩] [])
  (.seq (.ops [⟨some 4, none, .asg (.c (.bool true))⟩] [4])
  .ret))))))),
  [.r 4], none⟩
/-- maps.Keys[map[string]tattler/api.Sibs,string,tattler/api.Sibs] -/
def c_maps_Keys_map_string_api_Sibs_string_api_Sibs : VFun := ⟨1,
  (.seq (.ops [⟨some 1, none, .box 1 (.r 0)⟩,
    ⟨some 2, none, .asg (.c .nofn)⟩] [1])
  (.seq (.ops [⟨some 3, none, .mkfn F.maps_Keys_map_string_api_Sibs_string_api_Sibs_c1 [] [(.r 1)]⟩,
    ⟨some 2, none, .asg (.r 3)⟩] [2])
  .ret)),
  [.r 2], none⟩
def c_slices_DeleteFunc_api_Entry_api_Entry_l0 : VCode := (.seq (.seq (.ops [⟨some 16, none, .mv (.r 6)⟩,
      ⟨some 17, none, .mv (.r 0)⟩,
      ⟨some 18, none, .len .sl (.r 17)⟩,
      ⟨some 19, none, .bin .lss .no (.r 16) (.r 18)⟩] [0, 1, 5, 6, 19])
    (.cond (.r 19) .skip (.exit 0)))
  (.seq (.block 1 (.seq (.ops [⟨some 22, none, .mv (.r 0)⟩,
        ⟨some 23, none, .mv (.r 6)⟩,
        ⟨some 24, none, .iaddr none 10 (.r 22) (.r 23)⟩,
        ⟨some 25, none, .load true 10 (.r 24)⟩,
        ⟨some 7, none, .alloc [(.str []), (.int .i64 0), (.int .i64 0), (.int .i64 0), (.int .i64 0), (.int .i64 0), (.int .i64 0), (.int .i64 0), (.int .i64 0), (.sl [])] []⟩,
        ⟨none, none, .store 10 (.r 7) (.r 25) [] none⟩] [0, 1, 5, 6, 7])
      (.seq (.ops [⟨some 26, none, .mv (.r 1)⟩,
        ⟨some 27, none, .load true 10 (.r 7)⟩,
        ⟨some 28, none, .callv false (.r 26) [(.r 27)]⟩,
        ⟨some 29, none, .un .not (.r 28)⟩] [0, 1, 5, 6, 7, 29])
      (.cond (.r 29) (.seq (.ops [⟨some 30, none, .mv (.r 0)⟩,
          ⟨some 31, none, .mv (.r 5)⟩,
          ⟨some 32, none, .load true 10 (.r 7)⟩,
          ⟨some 33, none, .iaddr none 10 (.r 30) (.r 31)⟩,
          ⟨none, none, .store 10 (.r 33) (.r 32) [] none⟩] [0, 1, 5, 6])
        (.ops [⟨some 34, none, .mv (.r 5)⟩,
        ⟨some 35, none, .bin .add .no (.r 34) (.c (.int .i64 1))⟩,
        ⟨some 5, none, .asg (.r 35)⟩] [0, 1, 5, 6])) .skip))))
  (.ops [⟨some 20, none, .mv (.r 6)⟩,
  ⟨some 21, none, .bin .add .no (.r 20) (.c (.int .i64 1))⟩,
  ⟨some 6, none, .asg (.r 21)⟩] [0, 1, 5, 6])))
/-- slices.DeleteFunc[[]tattler/api.Entry,tattler/api.Entry] -/
def c_slices_DeleteFunc_api_Entry_api_Entry : VFun := ⟨2,
  (.seq (.ops [⟨some 4, none, .asg (.c (.sl []))⟩] [0, 1])
  (.seq (.ops [⟨some 8, none, .mv (.r 0)⟩,
    ⟨some 9, none, .mv (.r 1)⟩,
    ⟨some 10, none, .call false F.slices_IndexFunc_api_Entry_api_Entry [(.r 8), (.r 9)]⟩,
    ⟨some 5, none, .asg (.r 10)⟩] [0, 1, 5])
  (.seq (.seq (.ops [⟨some 11, none, .mv (.r 5)⟩,
      ⟨some 12, none, .bin .eql .no (.r 11) (.c (.int .i64 (-1)))⟩] [0, 1, 5, 12])
    (.cond (.r 12) (.seq (.ops [⟨some 13, none, .mv (.r 0)⟩,
        ⟨some 4, none, .asg (.r 13)⟩] [4])
      .ret) .skip))
  (.seq (.seq (.ops [⟨some 14, none, .mv (.r 5)⟩,
      ⟨some 15, none, .bin .add .no (.r 14) (.c (.int .i64 1))⟩,
      ⟨some 6, none, .asg (.r 15)⟩] [0, 1, 5, 6])
    (.block 0 (.loop [0, 1, 5, 6] [(4, 0, 0)] c_slices_DeleteFunc_api_Entry_api_Entry_l0)))
  (.seq (.ops [⟨some 36, none, .mv (.r 0)⟩,
    ⟨some 37, none, .mv (.r 5)⟩,
    ⟨some 38, none, .slice false 10 (.r 36) (some (.r 37)) none none⟩,
    ⟨none, none, .clr [(.str []), (.int .i64 0), (.int .i64 0), (.int .i64 0), (.int .i64 0), (.int .i64 0), (.int .i64 0), (.int .i64 0), (.int .i64 0), (.sl [])] (.r 38)⟩] [0, 5])
  (.seq (.ops [⟨some 39, none, .mv (.r 0)⟩,
    ⟨some 40, none, .mv (.r 5)⟩,
    ⟨some 41, none, .slice false 10 (.r 39) none (some (.r 40)) none⟩,
    ⟨some 4, none, .asg (.r 41)⟩] [4])
  .ret)))))),
  [.r 4], none⟩
/-- (*tattler/table.Table).Bucket$1 -/
def c_table_Table_Bucket_c1 : VFun := ⟨2,
  (.seq (.ops [⟨some 2, none, .box 10 (.r 0)⟩,
    ⟨some 3, none, .asg (.c (.bool false))⟩] [1, 2])
  (.seq (.dops 4 [⟨some 4, none, .faddr 0 (.r 2)⟩,
    ⟨some 5, none, .load false 1 (.r 4)⟩,
    ⟨some 6, none, .call true F.keys_Bucket [(.r 5)]⟩,
    ⟨some 7, none, .load false 1 (.r 1)⟩,
    ⟨some 8, none, .bin .neq .no (.r 6) (.r 7)⟩,
    ⟨some 3, none, .asg (.r 8)⟩] [3])
  .ret)),
  [.r 3], none⟩
def c_keys_Bucket_l0 : VCode := (.seq (.ops [⟨some 10, none, .bin .lss .no (.r 9) (.r 8)⟩] [3, 7, 8, 9, 10])
  (.seq (.cond (.r 10) .skip (.exit 0))
  (.seq (.block 1 (.seq (.ops [⟨some 11, none, .iaddr none 1 (.r 7) (.r 9)⟩,
        ⟨some 12, none, .load false 1 (.r 11)⟩,
        ⟨some 5, none, .asg (.r 12)⟩] [3, 5, 7, 8, 9])
      (.ops [⟨some 13, none, .mv (.r 3)⟩,
      ⟨some 14, none, .mv (.r 5)⟩,
      ⟨some 15, none, .conv (.toInt .i64) (.r 14)⟩,
      ⟨some 16, none, .bin .add .no (.r 13) (.r 15)⟩,
      ⟨some 17, none, .bin .rem .no (.r 16) (.c (.int .i64 4))⟩,
      ⟨some 3, none, .asg (.r 17)⟩] [3, 7, 8, 9])))
  (.ops [⟨some 18, none, .bin .add .no (.r 9) (.c (.int .i64 1))⟩,
  ⟨some 9, none, .mv (.r 18)⟩] [3, 7, 8, 9]))))
/-- tattler/keys.Bucket -/
def c_keys_Bucket : VFun := ⟨1,
  (.seq (.ops [⟨some 2, none, .asg (.c (.int .i64 0))⟩] [0])
  (.seq (.ops [⟨some 3, none, .asg (.c (.int .i64 0))⟩] [0, 3])
  (.seq (.seq (.ops [⟨some 6, none, .mv (.r 0)⟩,
      ⟨some 7, none, .bstr (.r 6)⟩,
      ⟨some 8, none, .len .sl (.r 7)⟩,
      ⟨some 9, none, .mv (.c (.int .i64 0))⟩] [3, 7, 8, 9])
    (.block 0 (.loop [3, 7, 8, 9] [] c_keys_Bucket_l0)))
  (.seq (.ops [⟨some 19, none, .mv (.r 3)⟩,
    ⟨some 2, none, .asg (.r 19)⟩] [2])
  .ret)))),
  [.r 2], none⟩
def c_tattlerref5_Bucket_l0 : VCode := (.seq (.ops [⟨some 8, none, .bin .lss .no (.r 7) (.r 6)⟩] [0, 3, 6, 7, 8])
  (.seq (.cond (.r 8) .skip (.exit 0))
  (.seq (.block 1 (.seq (.ops [⟨some 9, none, .mv (.r 7)⟩,
        ⟨some 4, none, .asg (.r 9)⟩] [0, 3, 4, 6, 7])
      (.ops [⟨some 10, none, .mv (.r 3)⟩,
      ⟨some 11, none, .mv (.r 0)⟩,
      ⟨some 12, none, .mv (.r 4)⟩,
      ⟨some 13, none, .index true 0 1 false (.r 11) (.r 12)⟩,
      ⟨some 14, none, .conv (.toInt .i64) (.r 13)⟩,
      ⟨some 15, none, .bin .add .no (.r 10) (.r 14)⟩,
      ⟨some 16, none, .bin .rem .no (.r 15) (.c (.int .i64 4))⟩,
      ⟨some 3, none, .asg (.r 16)⟩] [0, 3, 6, 7])))
  (.ops [⟨some 17, none, .bin .add .no (.r 7) (.c (.int .i64 1))⟩,
  ⟨some 7, none, .mv (.r 17)⟩] [0, 3, 6, 7]))))
/-- tattler/tattlerref5.Bucket -/
def c_tattlerref5_Bucket : VFun := ⟨1,
  (.seq (.ops [⟨some 2, none, .asg (.c (.int .i64 0))⟩] [0])
  (.seq (.ops [⟨some 3, none, .asg (.c (.int .i64 0))⟩] [0, 3])
  (.seq (.seq (.ops [⟨some 5, none, .mv (.r 0)⟩,
      ⟨some 6, none, .len .str (.r 5)⟩,
      ⟨some 7, none, .mv (.c (.int .i64 0))⟩] [0, 3, 6, 7])
    (.block 0 (.loop [0, 3, 6, 7] [] c_tattlerref5_Bucket_l0)))
  (.seq (.ops [⟨some 18, none, .mv (.r 3)⟩,
    ⟨some 2, none, .asg (.r 18)⟩] [2])
  .ret)))),
  [.r 2], none⟩
def c_sibs_May_l0 : VCode := (.seq (.ops [⟨some 19, none, .bin .lss .no (.r 18) (.r 17)⟩] [1, 16, 17, 18, 19])
  (.seq (.cond (.r 19) .skip (.exit 0))
  (.seq (.block 1 (.seq (.ops [⟨some 20, none, .mv (.r 18)⟩,
        ⟨some 21, none, .iaddr none 4 (.r 16) (.r 18)⟩,
        ⟨some 22, none, .load true 4 (.r 21)⟩,
        ⟨some 4, none, .alloc [(.int .i64 0), (.int .i64 0), (.sl []), (.bool false)] []⟩,
        ⟨some 3, none, .asg (.r 20)⟩,
        ⟨none, none, .store 4 (.r 4) (.r 22) [] none⟩] [1, 3, 4, 16, 17, 18])
      (.seq (.dops 24 [⟨some 23, none, .load true 4 (.r 4)⟩,
        ⟨some 24, none, .call true F.sibs_mayValue [(.r 23)]⟩,
        ⟨some 25, none, .un .not (.r 24)⟩,
        ⟨some 26, none, .mv (.r 25)⟩,
        ⟨some 27, some (26, false), .faddr 0 (.r 1)⟩,
        ⟨some 28, some (26, false), .load true 8 (.r 27)⟩,
        ⟨some 29, some (26, false), .faddr 0 (.r 4)⟩,
        ⟨some 30, some (26, false), .load true 2 (.r 29)⟩,
        ⟨some 31, some (26, false), .call true F.vector_Covers [(.r 28), (.r 30)]⟩,
        ⟨some 32, some (26, false), .un .not (.r 31)⟩,
        ⟨some 33, none, .pick (.r 26) (.c (.bool true)) (.r 32)⟩,
        ⟨some 34, none, .mv (.r 33)⟩,
        ⟨some 35, some (34, false), .mv (.r 3)⟩,
        ⟨some 36, some (34, false), .bin .gtr .no (.r 35) (.c (.int .i64 0))⟩,
        ⟨some 37, some (34, false), .mv (.r 36)⟩,
        ⟨some 38, some (37, true), .faddr 8 (.r 1)⟩,
        ⟨some 39, some (37, true), .load false 1 (.r 38)⟩,
        ⟨some 40, some (37, true), .mv (.r 3)⟩,
        ⟨some 41, some (37, true), .bin .sub .no (.r 40) (.c (.int .i64 1))⟩,
        ⟨some 42, some (37, true), .iaddr none 4 (.r 39) (.r 41)⟩,
        ⟨some 43, some (37, true), .faddr 0 (.r 42)⟩,
        ⟨some 44, some (37, true), .load true 2 (.r 43)⟩,
        ⟨some 45, some (37, true), .faddr 0 (.r 4)⟩,
        ⟨some 46, some (37, true), .load true 2 (.r 45)⟩,
        ⟨some 47, some (37, true), .call false F.vector_Less [(.r 44), (.r 46)]⟩,
        ⟨some 48, some (37, true), .un .not (.r 47)⟩,
        ⟨some 49, some (34, false), .pick (.r 37) (.r 48) (.c (.bool false))⟩,
        ⟨some 50, none, .pick (.r 34) (.c (.bool true)) (.r 49)⟩] [1, 16, 17, 18, 50])
      (.cond (.r 50) (.seq (.ops [⟨some 2, none, .asg (.c (.bool false))⟩] [2])
        .ret) .skip))))
  (.ops [⟨some 51, none, .bin .add .no (.r 18) (.c (.int .i64 1))⟩,
  ⟨some 18, none, .mv (.r 51)⟩] [1, 16, 17, 18]))))
/-- tattler/sibs.May -/
def c_sibs_May : VFun := ⟨1,
  (.seq (.ops [⟨some 1, none, .box 9 (.r 0)⟩,
    ⟨some 2, none, .asg (.c (.bool false))⟩] [1])
  (.seq (.seq (.ops [⟨some 5, none, .faddr 0 (.r 1)⟩,
      ⟨some 6, none, .load true 8 (.r 5)⟩,
      ⟨some 7, none, .call false F.vector_May [(.r 6)]⟩,
      ⟨some 8, none, .un .not (.r 7)⟩,
      ⟨some 9, none, .mv (.r 8)⟩,
      ⟨some 10, some (9, false), .faddr 8 (.r 1)⟩,
      ⟨some 11, some (9, false), .load false 1 (.r 10)⟩,
      ⟨some 12, some (9, false), .len .sl (.r 11)⟩,
      ⟨some 13, some (9, false), .bin .gtr .no (.r 12) (.c (.int .i64 16))⟩,
      ⟨some 14, none, .pick (.r 9) (.c (.bool true)) (.r 13)⟩] [1, 14])
    (.cond (.r 14) (.seq (.ops [⟨some 2, none, .asg (.c (.bool false))⟩] [2])
      .ret) .skip))
  (.seq (.seq (.ops [⟨some 15, none, .faddr 8 (.r 1)⟩,
      ⟨some 16, none, .load false 1 (.r 15)⟩,
      ⟨some 17, none, .len .sl (.r 16)⟩,
      ⟨some 18, none, .mv (.c (.int .i64 0))⟩] [1, 16, 17, 18])
    (.block 0 (.loop [1, 16, 17, 18] [] c_sibs_May_l0)))
  (.seq (.ops [⟨some 2, none, .asg (.c (.bool true))⟩] [2])
  .ret)))),
  [.r 2], none⟩
def c_sibs_find_l0 : VCode := (.seq (.ops [⟨some 12, none, .bin .lss .no (.r 11) (.r 10)⟩] [3, 4, 9, 10, 11, 12])
  (.seq (.cond (.r 12) .skip (.exit 0))
  (.seq (.block 1 (.seq (.ops [⟨some 13, none, .iaddr none 4 (.r 9) (.r 11)⟩,
        ⟨some 14, none, .load true 4 (.r 13)⟩,
        ⟨some 7, none, .alloc [(.int .i64 0), (.int .i64 0), (.sl []), (.bool false)] []⟩,
        ⟨none, none, .store 4 (.r 7) (.r 14) [] none⟩] [3, 4, 7, 9, 10, 11])
      (.seq (.ops [⟨some 15, none, .faddr 0 (.r 7)⟩,
        ⟨some 16, none, .load true 2 (.r 15)⟩,
        ⟨some 17, none, .load true 2 (.r 3)⟩,
        ⟨some 18, none, .bin .eql (.agg [.i, .i]) (.r 16) (.r 17)⟩] [3, 4, 7, 9, 10, 11, 18])
      (.cond (.r 18) (.seq (.ops [⟨some 19, none, .load true 4 (.r 7)⟩,
          ⟨none, none, .store 4 (.r 4) (.r 19) [] none⟩,
          ⟨some 5, none, .asg (.c (.bool true))⟩] [4, 5])
        .ret) .skip))))
  (.ops [⟨some 20, none, .bin .add .no (.r 11) (.c (.int .i64 1))⟩,
  ⟨some 11, none, .mv (.r 20)⟩] [3, 4, 9, 10, 11]))))
/-- tattler/sibs.find -/
def c_sibs_find : VFun := ⟨2,
  (.seq (.ops [⟨some 2, none, .box 9 (.r 0)⟩,
    ⟨some 3, none, .box 2 (.r 1)⟩,
    ⟨some 4, none, .alloc [(.int .i64 0), (.int .i64 0), (.sl []), (.bool false)] []⟩,
    ⟨some 5, none, .asg (.c (.bool false))⟩] [2, 3, 4])
  (.seq (.seq (.ops [⟨some 8, none, .faddr 8 (.r 2)⟩,
      ⟨some 9, none, .load false 1 (.r 8)⟩,
      ⟨some 10, none, .len .sl (.r 9)⟩,
      ⟨some 11, none, .mv (.c (.int .i64 0))⟩] [3, 4, 9, 10, 11])
    (.block 0 (.loop [3, 4, 9, 10, 11] [] c_sibs_find_l0)))
  (.seq (.ops [⟨some 21, none, .build [(.int .i64 0), (.int .i64 0), (.sl []), (.bool false)] []⟩,
    ⟨none, none, .store 4 (.r 4) (.r 21) [] none⟩,
    ⟨some 5, none, .asg (.c (.bool false))⟩] [4, 5])
  .ret))),
  [.cell 4 true 4, .r 5], none⟩
/-- tattler/sibs.own -/
def c_sibs_own : VFun := ⟨1,
  (.seq (.ops [⟨some 1, none, .box 4 (.r 0)⟩,
    ⟨some 2, none, .alloc [(.int .i64 0), (.int .i64 0), (.sl []), (.bool false)] []⟩] [1, 2])
  (.seq (.ops [⟨some 3, none, .faddr 2 (.r 1)⟩,
    ⟨some 4, none, .load false 1 (.r 3)⟩,
    ⟨some 5, none, .call false F.slices_Clone_byte_byte [(.r 4)]⟩,
    ⟨some 6, none, .faddr 2 (.r 1)⟩,
    ⟨none, none, .store 1 (.r 6) (.r 5) [] none⟩] [1, 2])
  (.seq (.ops [⟨some 7, none, .load true 4 (.r 1)⟩,
    ⟨none, none, .store 4 (.r 2) (.r 7) [] none⟩] [2])
  .ret))),
  [.cell 2 true 4], none⟩
/-- tattler/sibs.better -/
def c_sibs_better : VFun := ⟨2,
  (.seq (.ops [⟨some 2, none, .box 4 (.r 0)⟩,
    ⟨some 3, none, .box 4 (.r 1)⟩,
    ⟨some 4, none, .alloc [(.int .i64 0), (.int .i64 0), (.sl []), (.bool false)] []⟩] [2, 3, 4])
  (.seq (.block 0 (.seq (.ops [⟨some 6, none, .faddr 3 (.r 2)⟩,
        ⟨some 7, none, .load false 1 (.r 6)⟩,
        ⟨some 8, none, .faddr 3 (.r 3)⟩,
        ⟨some 9, none, .load false 1 (.r 8)⟩,
        ⟨some 10, none, .bin .neq .bool (.r 7) (.r 9)⟩,
        ⟨some 11, none, .mv (.r 10)⟩,
        ⟨some 12, some (11, true), .faddr 3 (.r 2)⟩,
        ⟨some 13, some (11, true), .load false 1 (.r 12)⟩,
        ⟨some 14, none, .pick (.r 11) (.r 13) (.c (.bool false))⟩,
        ⟨some 5, none, .asg (.r 14)⟩] [2, 3, 4, 5])
      (.cond (.r 5) (.seq (.ops [⟨some 15, none, .load true 4 (.r 3)⟩,
          ⟨none, none, .store 4 (.r 4) (.r 15) [] none⟩] [4])
        .ret) (.seq (.ops [⟨some 17, none, .faddr 3 (.r 2)⟩,
          ⟨some 18, none, .load false 1 (.r 17)⟩,
          ⟨some 19, none, .faddr 3 (.r 3)⟩,
          ⟨some 20, none, .load false 1 (.r 19)⟩,
          ⟨some 21, none, .bin .neq .bool (.r 18) (.r 20)⟩,
          ⟨some 16, none, .asg (.r 21)⟩] [2, 3, 4, 16])
        (.cond (.r 16) (.seq (.ops [⟨some 22, none, .load true 4 (.r 2)⟩,
            ⟨none, none, .store 4 (.r 4) (.r 22) [] none⟩] [4])
          .ret) (.seq (.ops [⟨some 24, none, .faddr 2 (.r 3)⟩,
            ⟨some 25, none, .load false 1 (.r 24)⟩,
            ⟨some 26, none, .faddr 2 (.r 2)⟩,
            ⟨some 27, none, .load false 1 (.r 26)⟩,
            ⟨some 28, none, .call false F.bytes_Compare [(.r 25), (.r 27)]⟩,
            ⟨some 29, none, .bin .lss .no (.r 28) (.c (.int .i64 0))⟩,
            ⟨some 23, none, .asg (.r 29)⟩] [2, 3, 4, 23])
          (.cond (.r 23) (.seq (.ops [⟨some 30, none, .load true 4 (.r 3)⟩,
              ⟨none, none, .store 4 (.r 4) (.r 30) [] none⟩] [4])
            .ret) .skip)))))))
  (.seq (.ops [⟨some 31, none, .load true 4 (.r 2)⟩,
    ⟨none, none, .store 4 (.r 4) (.r 31) [] none⟩] [4])
  .ret))),
  [.cell 4 true 4], none⟩
/-- tattler/vector.Covers -/
def c_vector_Covers : VFun := ⟨2,
  (.seq (.ops [⟨some 2, none, .box 8 (.r 0)⟩,
    ⟨some 3, none, .box 2 (.r 1)⟩,
    ⟨some 4, none, .asg (.c (.bool false))⟩] [2, 3])
  (.seq (.dops 15 [⟨some 5, none, .faddr 0 (.r 3)⟩,
    ⟨some 6, none, .load false 1 (.r 5)⟩,
    ⟨some 7, none, .call true F.vector_is [(.r 6)]⟩,
    ⟨some 8, none, .mv (.r 7)⟩,
    ⟨some 9, some (8, true), .faddr 1 (.r 3)⟩,
    ⟨some 10, some (8, true), .load false 1 (.r 9)⟩,
    ⟨some 11, some (8, true), .bin .geq .no (.r 10) (.c (.int .i64 1))⟩,
    ⟨some 12, none, .pick (.r 8) (.r 11) (.c (.bool false))⟩,
    ⟨some 13, none, .mv (.r 12)⟩,
    ⟨some 14, some (13, true), .faddr 1 (.r 3)⟩,
    ⟨some 15, some (13, true), .load false 1 (.r 14)⟩,
    ⟨some 16, some (13, true), .faddr 0 (.r 3)⟩,
    ⟨some 17, some (13, true), .load false 1 (.r 16)⟩,
    ⟨some 18, some (13, true), .iaddr (some 8) 1 (.r 2) (.r 17)⟩,
    ⟨some 19, some (13, true), .load false 1 (.r 18)⟩,
    ⟨some 20, some (13, true), .bin .leq .no (.r 15) (.r 19)⟩,
    ⟨some 21, none, .pick (.r 13) (.r 20) (.c (.bool false))⟩,
    ⟨some 4, none, .asg (.r 21)⟩] [4])
  .ret)),
  [.r 4], none⟩
def c_vector_Join_l0 : VCode := (.seq (.ops [⟨some 9, none, .bin .lss .no (.r 8) (.c (.int .i64 8))⟩] [2, 4, 7, 8, 9])
  (.seq (.cond (.r 9) .skip (.exit 0))
  (.seq (.block 1 (.seq (.ops [⟨some 10, none, .mv (.r 8)⟩,
        ⟨some 11, none, .index false 8 1 false (.r 7) (.r 8)⟩,
        ⟨some 5, none, .asg (.r 10)⟩,
        ⟨some 6, none, .asg (.r 11)⟩] [2, 4, 5, 6, 7, 8])
      (.ops [⟨some 12, none, .mv (.r 5)⟩,
      ⟨some 13, none, .mv (.r 5)⟩,
      ⟨some 14, none, .iaddr (some 8) 1 (.r 2) (.r 13)⟩,
      ⟨some 15, none, .load false 1 (.r 14)⟩,
      ⟨some 16, none, .mv (.r 6)⟩,
      ⟨some 17, none, .mx [(.r 15), (.r 16)]⟩,
      ⟨some 18, none, .iaddr (some 8) 1 (.r 2) (.r 12)⟩,
      ⟨none, none, .store 1 (.r 18) (.r 17) [] none⟩] [2, 4, 7, 8])))
  (.ops [⟨some 19, none, .bin .add .no (.r 8) (.c (.int .i64 1))⟩,
  ⟨some 8, none, .mv (.r 19)⟩] [2, 4, 7, 8]))))
/-- tattler/vector.Join -/
def c_vector_Join : VFun := ⟨2,
  (.seq (.ops [⟨some 2, none, .box 8 (.r 0)⟩,
    ⟨some 3, none, .box 8 (.r 1)⟩,
    ⟨some 4, none, .alloc [(.int .i64 0), (.int .i64 0), (.int .i64 0), (.int .i64 0), (.int .i64 0), (.int .i64 0), (.int .i64 0), (.int .i64 0)] []⟩] [2, 3, 4])
  (.seq (.seq (.ops [⟨some 7, none, .load true 8 (.r 3)⟩,
      ⟨some 8, none, .mv (.c (.int .i64 0))⟩] [2, 4, 7, 8])
    (.block 0 (.loop [2, 4, 7, 8] [] c_vector_Join_l0)))
  (.seq (.ops [⟨some 20, none, .load true 8 (.r 2)⟩,
    ⟨none, none, .store 8 (.r 4) (.r 20) [] none⟩] [4])
  .ret))),
  [.cell 4 true 8], none⟩
def c_slices_EqualFunc_api_Value_api_Value_api_Value_api_Value_l0 : VCode := (.seq (.ops [⟨some 18, none, .bin .lss .no (.r 17) (.r 16)⟩] [1, 2, 15, 16, 17, 18])
  (.seq (.cond (.r 18) .skip (.exit 0))
  (.seq (.block 1 (.seq (.ops [⟨some 19, none, .mv (.r 17)⟩,
        ⟨some 20, none, .iaddr none 4 (.r 15) (.r 17)⟩,
        ⟨some 21, none, .load true 4 (.r 20)⟩,
        ⟨some 8, none, .alloc [(.int .i64 0), (.int .i64 0), (.sl []), (.bool false)] []⟩,
        ⟨some 7, none, .asg (.r 19)⟩,
        ⟨none, none, .store 4 (.r 8) (.r 21) [] none⟩] [1, 2, 7, 8, 15, 16, 17])
      (.seq (.ops [⟨some 22, none, .mv (.r 1)⟩,
        ⟨some 23, none, .mv (.r 7)⟩,
        ⟨some 24, none, .iaddr none 4 (.r 22) (.r 23)⟩,
        ⟨some 25, none, .load true 4 (.r 24)⟩,
        ⟨some 9, none, .alloc [(.int .i64 0), (.int .i64 0), (.sl []), (.bool false)] []⟩,
        ⟨none, none, .store 4 (.r 9) (.r 25) [] none⟩] [1, 2, 8, 9, 15, 16, 17])
      (.seq (.ops [⟨some 26, none, .mv (.r 2)⟩,
        ⟨some 27, none, .load true 4 (.r 8)⟩,
        ⟨some 28, none, .load true 4 (.r 9)⟩,
        ⟨some 29, none, .callv false (.r 26) [(.r 27), (.r 28)]⟩,
        ⟨some 30, none, .un .not (.r 29)⟩] [1, 2, 15, 16, 17, 30])
      (.cond (.r 30) (.seq (.ops [⟨some 6, none, .asg (.c (.bool false))⟩] [6])
        .ret) .skip)))))
  (.ops [⟨some 31, none, .bin .add .no (.r 17) (.c (.int .i64 1))⟩,
  ⟨some 17, none, .mv (.r 31)⟩] [1, 2, 15, 16, 17]))))
/-- slices.EqualFunc[[]tattler/api.Value,[]tattler/api.Value,tattler/api.Value,tattler/api.Value] -/
def c_slices_EqualFunc_api_Value_api_Value_api_Value_api_Value : VFun := ⟨3,
  (.seq (.ops [⟨some 6, none, .asg (.c (.bool false))⟩] [0, 1, 2])
  (.seq (.seq (.ops [⟨some 10, none, .mv (.r 0)⟩,
      ⟨some 11, none, .len .sl (.r 10)⟩,
      ⟨some 12, none, .mv (.r 1)⟩,
      ⟨some 13, none, .len .sl (.r 12)⟩,
      ⟨some 14, none, .bin .neq .no (.r 11) (.r 13)⟩] [0, 1, 2, 14])
    (.cond (.r 14) (.seq (.ops [⟨some 6, none, .asg (.c (.bool false))⟩] [6])
      .ret) .skip))
  (.seq (.seq (.ops [⟨some 15, none, .mv (.r 0)⟩,
      ⟨some 16, none, .len .sl (.r 15)⟩,
      ⟨some 17, none, .mv (.c (.int .i64 0))⟩] [1, 2, 15, 16, 17])
    (.block 0 (.loop [1, 2, 15, 16, 17] [] c_slices_EqualFunc_api_Value_api_Value_api_Value_api_Value_l0)))
  (.seq (.ops [⟨some 6, none, .asg (.c (.bool true))⟩] [6])
  .ret)))),
  [.r 6], none⟩
/-- tattler/sibs.Same$1 -/
def c_sibs_Same_c1 : VFun := ⟨2,
  (.seq (.ops [⟨some 2, none, .box 4 (.r 0)⟩,
    ⟨some 3, none, .box 4 (.r 1)⟩,
    ⟨some 4, none, .asg (.c (.bool false))⟩] [2, 3])
  (.seq (.ops [⟨some 5, none, .faddr 0 (.r 2)⟩,
    ⟨some 6, none, .load true 2 (.r 5)⟩,
    ⟨some 7, none, .faddr 0 (.r 3)⟩,
    ⟨some 8, none, .load true 2 (.r 7)⟩,
    ⟨some 9, none, .bin .eql (.agg [.i, .i]) (.r 6) (.r 8)⟩,
    ⟨some 10, none, .mv (.r 9)⟩,
    ⟨some 11, some (10, true), .faddr 3 (.r 2)⟩,
    ⟨some 12, some (10, true), .load false 1 (.r 11)⟩,
    ⟨some 13, some (10, true), .faddr 3 (.r 3)⟩,
    ⟨some 14, some (10, true), .load false 1 (.r 13)⟩,
    ⟨some 15, some (10, true), .bin .eql .bool (.r 12) (.r 14)⟩,
    ⟨some 16, none, .pick (.r 10) (.r 15) (.c (.bool false))⟩,
    ⟨some 17, none, .mv (.r 16)⟩,
    ⟨some 18, some (17, true), .faddr 2 (.r 2)⟩,
    ⟨some 19, some (17, true), .load false 1 (.r 18)⟩,
    ⟨some 20, some (17, true), .faddr 2 (.r 3)⟩,
    ⟨some 21, some (17, true), .load false 1 (.r 20)⟩,
    ⟨some 22, some (17, true), .call false F.bytes_Equal [(.r 19), (.r 21)]⟩,
    ⟨some 23, none, .pick (.r 17) (.r 22) (.c (.bool false))⟩,
    ⟨some 4, none, .asg (.r 23)⟩] [4])
  .ret)),
  [.r 4], none⟩
/-- bytes.Equal -/
def c_bytes_Equal : VFun := ⟨2,
  (.seq (.ops [⟨some 4, none, .asg (.c (.bool false))⟩] [0, 1])
  (.seq (.ops [⟨some 5, none, .mv (.r 0)⟩,
    ⟨some 6, none, .conv .strOfBytes (.r 5)⟩,
    ⟨some 7, none, .mv (.r 1)⟩,
    ⟨some 8, none, .conv .strOfBytes (.r 7)⟩,
    ⟨some 9, none, .bin .eql .no (.r 6) (.r 8)⟩,
    ⟨some 4, none, .asg (.r 9)⟩] [4])
  .ret)),
  [.r 4], none⟩
/-- tattler/tattlerref5.MayKey -/
def c_tattlerref5_MayKey : VFun := ⟨1,
  (.seq (.ops [⟨some 2, none, .asg (.c (.bool false))⟩] [0])
  (.seq (.ops [⟨some 3, none, .mv (.r 0)⟩,
    ⟨some 4, none, .len .str (.r 3)⟩,
    ⟨some 5, none, .bin .geq .no (.r 4) (.c (.int .i64 1))⟩,
    ⟨some 6, none, .mv (.r 5)⟩,
    ⟨some 7, some (6, true), .mv (.r 0)⟩,
    ⟨some 8, some (6, true), .len .str (.r 7)⟩,
    ⟨some 9, some (6, true), .bin .leq .no (.r 8) (.c (.int .i64 32))⟩,
    ⟨some 10, none, .pick (.r 6) (.r 9) (.c (.bool false))⟩,
    ⟨some 2, none, .asg (.r 10)⟩] [2])
  .ret)),
  [.r 2], none⟩
def c_tattlerref5_May_l0 : VCode := (.seq (.ops [⟨some 19, none, .bin .lss .no (.r 18) (.r 17)⟩] [1, 16, 17, 18, 19])
  (.seq (.cond (.r 19) .skip (.exit 0))
  (.seq (.block 1 (.seq (.ops [⟨some 20, none, .mv (.r 18)⟩,
        ⟨some 21, none, .iaddr none 4 (.r 16) (.r 18)⟩,
        ⟨some 22, none, .load true 4 (.r 21)⟩,
        ⟨some 4, none, .alloc [(.int .i64 0), (.int .i64 0), (.sl []), (.bool false)] []⟩,
        ⟨some 3, none, .asg (.r 20)⟩,
        ⟨none, none, .store 4 (.r 4) (.r 22) [] none⟩] [1, 3, 4, 16, 17, 18])
      (.seq (.dops 19 [⟨some 23, none, .faddr 0 (.r 1)⟩,
        ⟨some 24, none, .load true 8 (.r 23)⟩,
        ⟨some 25, none, .faddr 0 (.r 4)⟩,
        ⟨some 26, none, .load true 2 (.r 25)⟩,
        ⟨some 27, none, .call true F.tattlerref1_Covers [(.r 24), (.r 26)]⟩,
        ⟨some 28, none, .un .not (.r 27)⟩,
        ⟨some 29, none, .mv (.r 28)⟩,
        ⟨some 30, some (29, false), .mv (.r 3)⟩,
        ⟨some 31, some (29, false), .bin .gtr .no (.r 30) (.c (.int .i64 0))⟩,
        ⟨some 32, some (29, false), .mv (.r 31)⟩,
        ⟨some 33, some (32, true), .faddr 8 (.r 1)⟩,
        ⟨some 34, some (32, true), .load false 1 (.r 33)⟩,
        ⟨some 35, some (32, true), .mv (.r 3)⟩,
        ⟨some 36, some (32, true), .bin .sub .no (.r 35) (.c (.int .i64 1))⟩,
        ⟨some 37, some (32, true), .iaddr none 4 (.r 34) (.r 36)⟩,
        ⟨some 38, some (32, true), .faddr 0 (.r 37)⟩,
        ⟨some 39, some (32, true), .load true 2 (.r 38)⟩,
        ⟨some 40, some (32, true), .faddr 0 (.r 4)⟩,
        ⟨some 41, some (32, true), .load true 2 (.r 40)⟩,
        ⟨some 42, some (32, true), .call false F.tattlerref1_Less [(.r 39), (.r 41)]⟩,
        ⟨some 43, some (32, true), .un .not (.r 42)⟩,
        ⟨some 44, some (29, false), .pick (.r 32) (.r 43) (.c (.bool false))⟩,
        ⟨some 45, none, .pick (.r 29) (.c (.bool true)) (.r 44)⟩,
        ⟨some 46, none, .mv (.r 45)⟩,
        ⟨some 47, some (46, false), .faddr 2 (.r 4)⟩,
        ⟨some 48, some (46, false), .load false 1 (.r 47)⟩,
        ⟨some 49, some (46, false), .len .sl (.r 48)⟩,
        ⟨some 50, some (46, false), .bin .gtr .no (.r 49) (.c (.int .i64 200))⟩,
        ⟨some 51, none, .pick (.r 46) (.c (.bool true)) (.r 50)⟩,
        ⟨some 52, none, .mv (.r 51)⟩,
        ⟨some 53, some (52, false), .faddr 3 (.r 4)⟩,
        ⟨some 54, some (52, false), .load false 1 (.r 53)⟩,
        ⟨some 55, some (52, false), .mv (.r 54)⟩,
        ⟨some 56, some (55, true), .faddr 2 (.r 4)⟩,
        ⟨some 57, some (55, true), .load false 1 (.r 56)⟩,
        ⟨some 58, some (55, true), .len .sl (.r 57)⟩,
        ⟨some 59, some (55, true), .bin .gtr .no (.r 58) (.c (.int .i64 0))⟩,
        ⟨some 60, some (52, false), .pick (.r 55) (.r 59) (.c (.bool false))⟩,
        ⟨some 61, none, .pick (.r 52) (.c (.bool true)) (.r 60)⟩] [1, 16, 17, 18, 61])
      (.cond (.r 61) (.seq (.ops [⟨some 2, none, .asg (.c (.bool false))⟩] [2])
        .ret) .skip))))
  (.ops [⟨some 62, none, .bin .add .no (.r 18) (.c (.int .i64 1))⟩,
  ⟨some 18, none, .mv (.r 62)⟩] [1, 16, 17, 18]))))
/-- tattler/tattlerref5.May -/
def c_tattlerref5_May : VFun := ⟨1,
  (.seq (.ops [⟨some 1, none, .box 9 (.r 0)⟩,
    ⟨some 2, none, .asg (.c (.bool false))⟩] [1])
  (.seq (.seq (.ops [⟨some 5, none, .faddr 0 (.r 1)⟩,
      ⟨some 6, none, .load true 8 (.r 5)⟩,
      ⟨some 7, none, .call false F.tattlerref1_May [(.r 6)]⟩,
      ⟨some 8, none, .un .not (.r 7)⟩,
      ⟨some 9, none, .mv (.r 8)⟩,
      ⟨some 10, some (9, false), .faddr 8 (.r 1)⟩,
      ⟨some 11, some (9, false), .load false 1 (.r 10)⟩,
      ⟨some 12, some (9, false), .len .sl (.r 11)⟩,
      ⟨some 13, some (9, false), .bin .gtr .no (.r 12) (.c (.int .i64 16))⟩,
      ⟨some 14, none, .pick (.r 9) (.c (.bool true)) (.r 13)⟩] [1, 14])
    (.cond (.r 14) (.seq (.ops [⟨some 2, none, .asg (.c (.bool false))⟩] [2])
      .ret) .skip))
  (.seq (.seq (.ops [⟨some 15, none, .faddr 8 (.r 1)⟩,
      ⟨some 16, none, .load false 1 (.r 15)⟩,
      ⟨some 17, none, .len .sl (.r 16)⟩,
      ⟨some 18, none, .mv (.c (.int .i64 0))⟩] [1, 16, 17, 18])
    (.block 0 (.loop [1, 16, 17, 18] [] c_tattlerref5_May_l0)))
  (.seq (.ops [⟨some 2, none, .asg (.c (.bool true))⟩] [2])
  .ret)))),
  [.r 2], none⟩
def c_tattlerref1_Join_l0 : VCode := (.seq (.ops [⟨some 7, none, .bin .lss .no (.r 6) (.c (.int .i64 8))⟩] [2, 3, 4, 6, 7])
  (.seq (.cond (.r 7) .skip (.exit 0))
  (.seq (.block 1 (.seq (.ops [⟨some 8, none, .mv (.r 6)⟩,
        ⟨some 5, none, .asg (.r 8)⟩] [2, 3, 4, 5, 6])
      (.dops 8 [⟨some 9, none, .mv (.r 5)⟩,
      ⟨some 10, none, .mv (.r 5)⟩,
      ⟨some 11, none, .iaddr (some 8) 1 (.r 2) (.r 10)⟩,
      ⟨some 12, none, .load false 1 (.r 11)⟩,
      ⟨some 13, none, .mv (.r 5)⟩,
      ⟨some 14, none, .iaddr (some 8) 1 (.r 3) (.r 13)⟩,
      ⟨some 15, none, .load false 1 (.r 14)⟩,
      ⟨some 16, none, .mx [(.r 12), (.r 15)]⟩,
      ⟨some 17, none, .iaddr (some 8) 1 (.r 2) (.r 9)⟩,
      ⟨none, none, .store 1 (.r 17) (.r 16) [] none⟩] [2, 3, 4, 6])))
  (.ops [⟨some 18, none, .bin .add .no (.r 6) (.c (.int .i64 1))⟩,
  ⟨some 6, none, .mv (.r 18)⟩] [2, 3, 4, 6]))))
/-- tattler/tattlerref1.Join -/
def c_tattlerref1_Join : VFun := ⟨2,
  (.seq (.ops [⟨some 2, none, .box 8 (.r 0)⟩,
    ⟨some 3, none, .box 8 (.r 1)⟩,
    ⟨some 4, none, .alloc [(.int .i64 0), (.int .i64 0), (.int .i64 0), (.int .i64 0), (.int .i64 0), (.int .i64 0), (.int .i64 0), (.int .i64 0)] []⟩] [2, 3, 4])
  (.seq (.seq (.ops [⟨some 6, none, .mv (.c (.int .i64 0))⟩] [2, 3, 4, 6])
    (.block 0 (.loop [2, 3, 4, 6] [] c_tattlerref1_Join_l0)))
  (.seq (.ops [⟨some 19, none, .load true 8 (.r 2)⟩,
    ⟨none, none, .store 8 (.r 4) (.r 19) [] none⟩] [4])
  .ret))),
  [.cell 4 true 8], none⟩
def c_tattlerref5_find_l0 : VCode := (.seq (.ops [⟨some 11, none, .bin .lss .no (.r 10) (.r 9)⟩] [3, 8, 9, 10, 11])
  (.seq (.cond (.r 11) .skip (.exit 0))
  (.seq (.block 1 (.seq (.ops [⟨some 12, none, .mv (.r 10)⟩,
        ⟨some 13, none, .iaddr none 4 (.r 8) (.r 10)⟩,
        ⟨some 14, none, .load true 4 (.r 13)⟩,
        ⟨some 6, none, .alloc [(.int .i64 0), (.int .i64 0), (.sl []), (.bool false)] []⟩,
        ⟨some 5, none, .asg (.r 12)⟩,
        ⟨none, none, .store 4 (.r 6) (.r 14) [] none⟩] [3, 5, 6, 8, 9, 10])
      (.seq (.ops [⟨some 15, none, .faddr 0 (.r 6)⟩,
        ⟨some 16, none, .load true 2 (.r 15)⟩,
        ⟨some 17, none, .load true 2 (.r 3)⟩,
        ⟨some 18, none, .bin .eql (.agg [.i, .i]) (.r 16) (.r 17)⟩] [3, 5, 8, 9, 10, 18])
      (.cond (.r 18) (.seq (.ops [⟨some 19, none, .mv (.r 5)⟩,
          ⟨some 4, none, .asg (.r 19)⟩] [4])
        .ret) .skip))))
  (.ops [⟨some 20, none, .bin .add .no (.r 10) (.c (.int .i64 1))⟩,
  ⟨some 10, none, .mv (.r 20)⟩] [3, 8, 9, 10]))))
/-- tattler/tattlerref5.find -/
def c_tattlerref5_find : VFun := ⟨2,
  (.seq (.ops [⟨some 2, none, .box 9 (.r 0)⟩,
    ⟨some 3, none, .box 2 (.r 1)⟩,
    ⟨some 4, none, .asg (.c (.int .i64 0))⟩] [2, 3])
  (.seq (.seq (.ops [⟨some 7, none, .faddr 8 (.r 2)⟩,
      ⟨some 8, none, .load false 1 (.r 7)⟩,
      ⟨some 9, none, .len .sl (.r 8)⟩,
      ⟨some 10, none, .mv (.c (.int .i64 0))⟩] [3, 8, 9, 10])
    (.block 0 (.loop [3, 8, 9, 10] [] c_tattlerref5_find_l0)))
  (.seq (.ops [⟨some 4, none, .asg (.c (.int .i64 (-1)))⟩] [4])
  .ret))),
  [.r 4], none⟩
def c_tattlerref5_insert_l0 : VCode := (.seq (.seq (.dops 12 [⟨some 6, none, .mv (.r 5)⟩,
      ⟨some 7, none, .mv (.r 0)⟩,
      ⟨some 8, none, .len .sl (.r 7)⟩,
      ⟨some 9, none, .bin .lss .no (.r 6) (.r 8)⟩,
      ⟨some 10, none, .mv (.r 9)⟩,
      ⟨some 11, some (10, true), .mv (.r 0)⟩,
      ⟨some 12, some (10, true), .mv (.r 5)⟩,
      ⟨some 13, some (10, true), .iaddr none 4 (.r 11) (.r 12)⟩,
      ⟨some 14, some (10, true), .faddr 0 (.r 13)⟩,
      ⟨some 15, some (10, true), .load true 2 (.r 14)⟩,
      ⟨some 16, some (10, true), .faddr 0 (.r 3)⟩,
      ⟨some 17, some (10, true), .load true 2 (.r 16)⟩,
      ⟨some 18, some (10, true), .call false F.tattlerref1_Less [(.r 15), (.r 17)]⟩,
      ⟨some 19, none, .pick (.r 10) (.r 18) (.c (.bool false))⟩] [0, 3, 5, 19])
    (.cond (.r 19) .skip (.exit 0)))
  (.block 1 (.ops [⟨some 20, none, .mv (.r 5)⟩,
    ⟨some 21, none, .bin .add .no (.r 20) (.c (.int .i64 1))⟩,
    ⟨some 5, none, .asg (.r 21)⟩] [0, 3, 5])))
/-- tattler/tattlerref5.insert -/
def c_tattlerref5_insert : VFun := ⟨2,
  (.seq (.ops [⟨some 3, none, .box 4 (.r 1)⟩,
    ⟨some 4, none, .asg (.c (.sl []))⟩] [0, 3])
  (.seq (.ops [⟨some 5, none, .asg (.c (.int .i64 0))⟩] [0, 3, 5])
  (.seq (.block 0 (.loop [0, 3, 5] [(4, 0, 0)] c_tattlerref5_insert_l0))
  (.seq (.dops 10 [⟨some 22, none, .mv (.r 0)⟩,
    ⟨some 23, none, .mv (.r 5)⟩,
    ⟨some 24, none, .slice false 4 (.r 22) none (some (.r 23)) none⟩,
    ⟨some 25, none, .app .fresh 4 48 (.c (.sl [])) (.r 24)⟩,
    ⟨some 26, none, .load true 4 (.r 3)⟩,
    ⟨some 27, none, .bslice (.agg [(.int .i64 0), (.int .i64 0), (.sl []), (.bool false)]) 4 1 [(0, (.r 26))]⟩,
    ⟨some 28, none, .app (.reg 25) 4 48 (.r 25) (.r 27)⟩,
    ⟨some 29, none, .mv (.r 0)⟩,
    ⟨some 30, none, .mv (.r 5)⟩,
    ⟨some 31, none, .slice false 4 (.r 29) (some (.r 30)) none none⟩,
    ⟨some 32, none, .app (.reg 28) 4 48 (.r 28) (.r 31)⟩,
    ⟨some 4, none, .asg (.r 32)⟩] [4])
  .ret)))),
  [.r 4], none⟩
/-- tattler/tattlerref5.copied -/
def c_tattlerref5_copied : VFun := ⟨1,
  (.seq (.ops [⟨some 1, none, .box 4 (.r 0)⟩,
    ⟨some 2, none, .alloc [(.int .i64 0), (.int .i64 0), (.sl []), (.bool false)] []⟩] [1, 2])
  (.seq (.ops [⟨some 3, none, .faddr 2 (.r 1)⟩,
    ⟨some 4, none, .load false 1 (.r 3)⟩,
    ⟨some 5, none, .app .fresh 1 1 (.c (.sl [])) (.r 4)⟩,
    ⟨some 6, none, .faddr 2 (.r 1)⟩,
    ⟨none, none, .store 1 (.r 6) (.r 5) [] none⟩] [1, 2])
  (.seq (.ops [⟨some 7, none, .load true 4 (.r 1)⟩,
    ⟨none, none, .store 4 (.r 2) (.r 7) [] none⟩] [2])
  .ret))),
  [.cell 2 true 4], none⟩
/-- tattler/tattlerref5.first -/
def c_tattlerref5_first : VFun := ⟨2,
  (.seq (.ops [⟨some 2, none, .box 4 (.r 0)⟩,
    ⟨some 3, none, .box 4 (.r 1)⟩,
    ⟨some 4, none, .alloc [(.int .i64 0), (.int .i64 0), (.sl []), (.bool false)] []⟩] [2, 3, 4])
  (.seq (.seq (.ops [⟨some 5, none, .faddr 3 (.r 2)⟩,
      ⟨some 6, none, .load false 1 (.r 5)⟩,
      ⟨some 7, none, .faddr 3 (.r 3)⟩,
      ⟨some 8, none, .load false 1 (.r 7)⟩,
      ⟨some 9, none, .bin .neq .bool (.r 6) (.r 8)⟩] [2, 3, 4, 9])
    (.cond (.r 9) (.seq (.seq (.ops [⟨some 10, none, .faddr 3 (.r 2)⟩,
          ⟨some 11, none, .load false 1 (.r 10)⟩] [2, 3, 4, 11])
        (.cond (.r 11) (.seq (.ops [⟨some 12, none, .load true 4 (.r 3)⟩,
            ⟨none, none, .store 4 (.r 4) (.r 12) [] none⟩] [4])
          .ret) .skip))
      (.seq (.ops [⟨some 13, none, .load true 4 (.r 2)⟩,
        ⟨none, none, .store 4 (.r 4) (.r 13) [] none⟩] [4])
      .ret)) .skip))
  (.seq (.seq (.ops [⟨some 14, none, .faddr 2 (.r 3)⟩,
      ⟨some 15, none, .load false 1 (.r 14)⟩,
      ⟨some 16, none, .conv .strOfBytes (.r 15)⟩,
      ⟨some 17, none, .faddr 2 (.r 2)⟩,
      ⟨some 18, none, .load false 1 (.r 17)⟩,
      ⟨some 19, none, .conv .strOfBytes (.r 18)⟩,
      ⟨some 20, none, .bin .lss .no (.r 16) (.r 19)⟩] [2, 3, 4, 20])
    (.cond (.r 20) (.seq (.ops [⟨some 21, none, .load true 4 (.r 3)⟩,
        ⟨none, none, .store 4 (.r 4) (.r 21) [] none⟩] [4])
      .ret) .skip))
  (.seq (.ops [⟨some 22, none, .load true 4 (.r 2)⟩,
    ⟨none, none, .store 4 (.r 4) (.r 22) [] none⟩] [4])
  .ret)))),
  [.cell 4 true 4], none⟩
/-- tattler/tattlerref1.Covers -/
def c_tattlerref1_Covers : VFun := ⟨2,
  (.seq (.ops [⟨some 2, none, .box 8 (.r 0)⟩,
    ⟨some 3, none, .box 2 (.r 1)⟩,
    ⟨some 4, none, .asg (.c (.bool false))⟩] [2, 3])
  (.seq (.dops 20 [⟨some 5, none, .faddr 0 (.r 3)⟩,
    ⟨some 6, none, .load false 1 (.r 5)⟩,
    ⟨some 7, none, .bin .geq .no (.r 6) (.c (.int .i64 0))⟩,
    ⟨some 8, none, .mv (.r 7)⟩,
    ⟨some 9, some (8, true), .faddr 0 (.r 3)⟩,
    ⟨some 10, some (8, true), .load false 1 (.r 9)⟩,
    ⟨some 11, some (8, true), .bin .lss .no (.r 10) (.c (.int .i64 8))⟩,
    ⟨some 12, none, .pick (.r 8) (.r 11) (.c (.bool false))⟩,
    ⟨some 13, none, .mv (.r 12)⟩,
    ⟨some 14, some (13, true), .faddr 1 (.r 3)⟩,
    ⟨some 15, some (13, true), .load false 1 (.r 14)⟩,
    ⟨some 16, some (13, true), .bin .geq .no (.r 15) (.c (.int .i64 1))⟩,
    ⟨some 17, none, .pick (.r 13) (.r 16) (.c (.bool false))⟩,
    ⟨some 18, none, .mv (.r 17)⟩,
    ⟨some 19, some (18, true), .faddr 1 (.r 3)⟩,
    ⟨some 20, some (18, true), .load false 1 (.r 19)⟩,
    ⟨some 21, some (18, true), .faddr 0 (.r 3)⟩,
    ⟨some 22, some (18, true), .load false 1 (.r 21)⟩,
    ⟨some 23, some (18, true), .iaddr (some 8) 1 (.r 2) (.r 22)⟩,
    ⟨some 24, some (18, true), .load false 1 (.r 23)⟩,
    ⟨some 25, some (18, true), .bin .leq .no (.r 20) (.r 24)⟩,
    ⟨some 26, none, .pick (.r 18) (.r 25) (.c (.bool false))⟩,
    ⟨some 4, none, .asg (.r 26)⟩] [4])
  .ret)),
  [.r 4], none⟩
/-- tattler/sibs.Reap -/
def c_sibs_Reap : VFun := ⟨1,
  (.seq (.ops [⟨some 1, none, .box 9 (.r 0)⟩,
    ⟨some 2, none, .alloc [(.int .i64 0), (.int .i64 0), (.int .i64 0), (.int .i64 0), (.int .i64 0), (.int .i64 0), (.int .i64 0), (.int .i64 0), (.sl [])] []⟩] [1, 2])
  (.seq (.seq (.ops [⟨some 3, none, .load true 9 (.r 1)⟩,
      ⟨some 4, none, .call false F.sibs_May [(.r 3)]⟩,
      ⟨some 5, none, .un .not (.r 4)⟩] [1, 2, 5])
    (.cond (.r 5) (.seq (.ops [⟨some 6, none, .build [(.int .i64 0), (.int .i64 0), (.int .i64 0), (.int .i64 0), (.int .i64 0), (.int .i64 0), (.int .i64 0), (.int .i64 0), (.sl [])] []⟩,
        ⟨none, none, .store 9 (.r 2) (.r 6) [] none⟩] [2])
      .ret) .skip))
  (.seq (.seq (.ops [⟨some 7, none, .faddr 8 (.r 1)⟩,
      ⟨some 8, none, .load false 1 (.r 7)⟩,
      ⟨some 9, none, .call false F.slices_ContainsFunc_api_Value_api_Value [(.r 8), (.c (.fn F.sibs_Reap_c1 [] []))]⟩] [1, 2, 9])
    (.cond (.r 9) (.seq (.ops [⟨some 10, none, .load true 9 (.r 1)⟩,
        ⟨some 11, none, .call false F.sibs_copied [(.r 10)]⟩,
        ⟨none, none, .store 9 (.r 2) (.r 11) [] none⟩] [2])
      .ret) .skip))
  (.seq (.ops [⟨some 12, none, .faddr 0 (.r 1)⟩,
    ⟨some 13, none, .load true 8 (.r 12)⟩,
    ⟨some 14, none, .build [(.int .i64 0), (.int .i64 0), (.int .i64 0), (.int .i64 0), (.int .i64 0), (.int .i64 0), (.int .i64 0), (.int .i64 0), (.sl [])] [(0, 8, (.r 13))]⟩,
    ⟨none, none, .store 9 (.r 2) (.r 14) [] none⟩] [2])
  .ret)))),
  [.cell 2 true 9], none⟩
/-- tattler/tattlerref5.Reap -/
def c_tattlerref5_Reap : VFun := ⟨1,
  (.seq (.ops [⟨some 1, none, .box 9 (.r 0)⟩,
    ⟨some 2, none, .alloc [(.int .i64 0), (.int .i64 0), (.int .i64 0), (.int .i64 0), (.int .i64 0), (.int .i64 0), (.int .i64 0), (.int .i64 0), (.sl [])] []⟩] [1, 2])
  (.seq (.seq (.ops [⟨some 3, none, .load true 9 (.r 1)⟩,
      ⟨some 4, none, .call false F.tattlerref5_May [(.r 3)]⟩,
      ⟨some 5, none, .un .not (.r 4)⟩] [1, 2, 5])
    (.cond (.r 5) (.seq (.ops [⟨some 6, none, .build [(.int .i64 0), (.int .i64 0), (.int .i64 0), (.int .i64 0), (.int .i64 0), (.int .i64 0), (.int .i64 0), (.int .i64 0), (.sl [])] []⟩,
        ⟨none, none, .store 9 (.r 2) (.r 6) [] none⟩] [2])
      .ret) .skip))
  (.seq (.seq (.ops [⟨some 7, none, .faddr 8 (.r 1)⟩,
      ⟨some 8, none, .load false 1 (.r 7)⟩,
      ⟨some 9, none, .len .sl (.r 8)⟩,
      ⟨some 10, none, .bin .gtr .no (.r 9) (.c (.int .i64 0))⟩,
      ⟨some 11, none, .mv (.r 10)⟩,
      ⟨some 12, some (11, true), .load true 9 (.r 1)⟩,
      ⟨some 13, some (11, true), .call false F.tattlerref5_Live [(.r 12)]⟩,
      ⟨some 14, some (11, true), .len .sl (.r 13)⟩,
      ⟨some 15, some (11, true), .bin .eql .no (.r 14) (.c (.int .i64 0))⟩,
      ⟨some 16, none, .pick (.r 11) (.r 15) (.c (.bool false))⟩] [1, 2, 16])
    (.cond (.r 16) (.seq (.ops [⟨some 17, none, .faddr 0 (.r 1)⟩,
        ⟨some 18, none, .load true 8 (.r 17)⟩,
        ⟨some 19, none, .build [(.int .i64 0), (.int .i64 0), (.int .i64 0), (.int .i64 0), (.int .i64 0), (.int .i64 0), (.int .i64 0), (.int .i64 0), (.sl [])] [(0, 8, (.r 18))]⟩,
        ⟨none, none, .store 9 (.r 2) (.r 19) [] none⟩] [2])
      .ret) .skip))
  (.seq (.ops [⟨some 20, none, .load true 9 (.r 1)⟩,
    ⟨none, none, .store 9 (.r 2) (.r 20) [] none⟩] [2])
  .ret)))),
  [.cell 2 true 9], none⟩
def c_slices_IndexFunc_api_Entry_api_Entry_l0 : VCode := (.seq (.ops [⟨some 9, none, .bin .lss .no (.r 8) (.r 7)⟩] [0, 1, 7, 8, 9])
  (.seq (.cond (.r 9) .skip (.exit 0))
  (.seq (.block 1 (.seq (.ops [⟨some 10, none, .mv (.r 8)⟩,
        ⟨some 5, none, .asg (.r 10)⟩] [0, 1, 5, 7, 8])
      (.seq (.ops [⟨some 11, none, .mv (.r 1)⟩,
        ⟨some 12, none, .mv (.r 0)⟩,
        ⟨some 13, none, .mv (.r 5)⟩,
        ⟨some 14, none, .iaddr none 10 (.r 12) (.r 13)⟩,
        ⟨some 15, none, .load true 10 (.r 14)⟩,
        ⟨some 16, none, .callv false (.r 11) [(.r 15)]⟩] [0, 1, 5, 7, 8, 16])
      (.cond (.r 16) (.seq (.ops [⟨some 17, none, .mv (.r 5)⟩,
          ⟨some 4, none, .asg (.r 17)⟩] [4])
        .ret) .skip))))
  (.ops [⟨some 18, none, .bin .add .no (.r 8) (.c (.int .i64 1))⟩,
  ⟨some 8, none, .mv (.r 18)⟩] [0, 1, 7, 8]))))
/-- slices.IndexFunc[[]tattler/api.Entry,tattler/api.Entry] -/
def c_slices_IndexFunc_api_Entry_api_Entry : VFun := ⟨2,
  (.seq (.ops [⟨some 4, none, .asg (.c (.int .i64 0))⟩] [0, 1])
  (.seq (.seq (.ops [⟨some 6, none, .mv (.r 0)⟩,
      ⟨some 7, none, .len .sl (.r 6)⟩,
      ⟨some 8, none, .mv (.c (.int .i64 0))⟩] [0, 1, 7, 8])
    (.block 0 (.loop [0, 1, 7, 8] [] c_slices_IndexFunc_api_Entry_api_Entry_l0)))
  (.seq (.ops [⟨some 4, none, .asg (.c (.int .i64 (-1)))⟩] [4])
  .ret))),
  [.r 4], none⟩
def c_vector_May_l0 : VCode := (.seq (.ops [⟨some 7, none, .bin .lss .no (.r 6) (.c (.int .i64 8))⟩] [5, 6, 7])
  (.seq (.cond (.r 7) .skip (.exit 0))
  (.seq (.block 1 (.seq (.ops [⟨some 8, none, .index false 8 1 false (.r 5) (.r 6)⟩,
        ⟨some 4, none, .asg (.r 8)⟩] [4, 5, 6])
      (.seq (.ops [⟨some 9, none, .mv (.r 4)⟩,
        ⟨some 10, none, .bin .lss .no (.r 9) (.c (.int .i64 0))⟩,
        ⟨some 11, none, .mv (.r 10)⟩,
        ⟨some 12, some (11, false), .mv (.r 4)⟩,
        ⟨some 13, some (11, false), .bin .gtr .no (.r 12) (.c (.int .i64 1099511627776))⟩,
        ⟨some 14, none, .pick (.r 11) (.c (.bool true)) (.r 13)⟩] [5, 6, 14])
      (.cond (.r 14) (.seq (.ops [⟨some 2, none, .asg (.c (.bool false))⟩] [2])
        .ret) .skip))))
  (.ops [⟨some 15, none, .bin .add .no (.r 6) (.c (.int .i64 1))⟩,
  ⟨some 6, none, .mv (.r 15)⟩] [5, 6]))))
/-- tattler/vector.May -/
def c_vector_May : VFun := ⟨1,
  (.seq (.ops [⟨some 1, none, .box 8 (.r 0)⟩,
    ⟨some 2, none, .asg (.c (.bool false))⟩] [1])
  (.seq (.seq (.ops [⟨some 5, none, .load true 8 (.r 1)⟩,
      ⟨some 6, none, .mv (.c (.int .i64 0))⟩] [5, 6])
    (.block 0 (.loop [5, 6] [] c_vector_May_l0)))
  (.seq (.ops [⟨some 2, none, .asg (.c (.bool true))⟩] [2])
  .ret))),
  [.r 2], none⟩
/-- tattler/sibs.mayValue -/
def c_sibs_mayValue : VFun := ⟨1,
  (.seq (.ops [⟨some 1, none, .box 4 (.r 0)⟩,
    ⟨some 2, none, .asg (.c (.bool false))⟩] [1])
  (.seq (.ops [⟨some 3, none, .faddr 2 (.r 1)⟩,
    ⟨some 4, none, .load false 1 (.r 3)⟩,
    ⟨some 5, none, .len .sl (.r 4)⟩,
    ⟨some 6, none, .bin .leq .no (.r 5) (.c (.int .i64 200))⟩,
    ⟨some 7, none, .mv (.r 6)⟩,
    ⟨some 8, some (7, true), .faddr 3 (.r 1)⟩,
    ⟨some 9, some (7, true), .load false 1 (.r 8)⟩,
    ⟨some 10, some (7, true), .un .not (.r 9)⟩,
    ⟨some 11, some (7, true), .mv (.r 10)⟩,
    ⟨some 12, some (11, false), .faddr 2 (.r 1)⟩,
    ⟨some 13, some (11, false), .load false 1 (.r 12)⟩,
    ⟨some 14, some (11, false), .len .sl (.r 13)⟩,
    ⟨some 15, some (11, false), .bin .eql .no (.r 14) (.c (.int .i64 0))⟩,
    ⟨some 16, some (7, true), .pick (.r 11) (.c (.bool true)) (.r 15)⟩,
    ⟨some 17, none, .pick (.r 7) (.r 16) (.c (.bool false))⟩,
    ⟨some 2, none, .asg (.r 17)⟩] [2])
  .ret)),
  [.r 2], none⟩
/-- tattler/vector.Less -/
def c_vector_Less : VFun := ⟨2,
  (.seq (.ops [⟨some 2, none, .box 2 (.r 0)⟩,
    ⟨some 3, none, .box 2 (.r 1)⟩,
    ⟨some 4, none, .asg (.c (.bool false))⟩] [2, 3])
  (.seq (.dops 9 [⟨some 5, none, .faddr 0 (.r 2)⟩,
    ⟨some 6, none, .load false 1 (.r 5)⟩,
    ⟨some 7, none, .faddr 0 (.r 3)⟩,
    ⟨some 8, none, .load false 1 (.r 7)⟩,
    ⟨some 9, none, .call true F.cmp_Compare_int [(.r 6), (.r 8)]⟩,
    ⟨some 10, none, .faddr 1 (.r 2)⟩,
    ⟨some 11, none, .load false 1 (.r 10)⟩,
    ⟨some 12, none, .faddr 1 (.r 3)⟩,
    ⟨some 13, none, .load false 1 (.r 12)⟩,
    ⟨some 14, none, .call false F.cmp_Compare_int64 [(.r 11), (.r 13)]⟩,
    ⟨some 15, none, .bslice (.int .i64 0) 1 2 [(0, (.r 9)), (1, (.r 14))]⟩,
    ⟨some 16, none, .call false F.cmp_Or_int [(.r 15)]⟩,
    ⟨some 17, none, .bin .lss .no (.r 16) (.c (.int .i64 0))⟩,
    ⟨some 4, none, .asg (.r 17)⟩] [4])
  .ret)),
  [.r 4], none⟩
/-- slices.Clone[[]byte,byte] -/
def c_slices_Clone_byte_byte : VFun := ⟨1,
  (.seq (.ops [⟨some 2, none, .asg (.c (.sl []))⟩] [0])
  (.amb (.ops [⟨some 3, none, .mv (.r 0)⟩,
    ⟨some 4, none, .isnil (.r 3)⟩] [0, 4]) (.r 4) (.seq (.ops [⟨some 2, none, .asg (.c (.sl []))⟩] [2])
    .ret) .skip
  (.seq (.ops [⟨some 5, none, .bslice (.int .u8 0) 1 0 []⟩,
      ⟨some 6, none, .mv (.r 0)⟩,
      ⟨some 7, none, .app (.reg 5) 1 1 (.r 5) (.r 6)⟩,
      ⟨some 2, none, .asg (.r 7)⟩] [2])
    .ret))),
  [.r 2], none⟩
/-- bytes.Compare -/
def c_bytes_Compare : VFun := ⟨2,
  (.seq (.ops [⟨some 4, none, .asg (.c (.int .i64 0))⟩] [0, 1])
  (.seq (.ops [⟨some 5, none, .mv (.r 0)⟩,
    ⟨some 6, none, .mv (.r 1)⟩,
    ⟨some 7, none, .call false F.bytealg_Compare [(.r 5), (.r 6)]⟩,
    ⟨some 4, none, .asg (.r 7)⟩] [4])
  .ret)),
  [.r 4], none⟩
/-- tattler/vector.is -/
def c_vector_is : VFun := ⟨1,
  (.seq (.ops [⟨some 2, none, .asg (.c (.bool false))⟩] [0])
  (.seq (.ops [⟨some 3, none, .mv (.r 0)⟩,
    ⟨some 4, none, .bin .geq .no (.r 3) (.c (.int .i64 0))⟩,
    ⟨some 5, none, .mv (.r 4)⟩,
    ⟨some 6, some (5, true), .mv (.r 0)⟩,
    ⟨some 7, some (5, true), .bin .lss .no (.r 6) (.c (.int .i64 8))⟩,
    ⟨some 8, none, .pick (.r 5) (.r 7) (.c (.bool false))⟩,
    ⟨some 2, none, .asg (.r 8)⟩] [2])
  .ret)),
  [.r 2], none⟩
def c_tattlerref1_May_l0 : VCode := (.seq (.ops [⟨some 7, none, .bin .lss .no (.r 6) (.c (.int .i64 8))⟩] [5, 6, 7])
  (.seq (.cond (.r 7) .skip (.exit 0))
  (.seq (.block 1 (.seq (.ops [⟨some 8, none, .index false 8 1 false (.r 5) (.r 6)⟩,
        ⟨some 4, none, .asg (.r 8)⟩] [4, 5, 6])
      (.seq (.ops [⟨some 9, none, .mv (.r 4)⟩,
        ⟨some 10, none, .bin .lss .no (.r 9) (.c (.int .i64 0))⟩,
        ⟨some 11, none, .mv (.r 10)⟩,
        ⟨some 12, some (11, false), .mv (.r 4)⟩,
        ⟨some 13, some (11, false), .bin .gtr .no (.r 12) (.c (.int .i64 1099511627776))⟩,
        ⟨some 14, none, .pick (.r 11) (.c (.bool true)) (.r 13)⟩] [5, 6, 14])
      (.cond (.r 14) (.seq (.ops [⟨some 2, none, .asg (.c (.bool false))⟩] [2])
        .ret) .skip))))
  (.ops [⟨some 15, none, .bin .add .no (.r 6) (.c (.int .i64 1))⟩,
  ⟨some 6, none, .mv (.r 15)⟩] [5, 6]))))
/-- tattler/tattlerref1.May -/
def c_tattlerref1_May : VFun := ⟨1,
  (.seq (.ops [⟨some 1, none, .box 8 (.r 0)⟩,
    ⟨some 2, none, .asg (.c (.bool false))⟩] [1])
  (.seq (.seq (.ops [⟨some 5, none, .load true 8 (.r 1)⟩,
      ⟨some 6, none, .mv (.c (.int .i64 0))⟩] [5, 6])
    (.block 0 (.loop [5, 6] [] c_tattlerref1_May_l0)))
  (.seq (.ops [⟨some 2, none, .asg (.c (.bool true))⟩] [2])
  .ret))),
  [.r 2], none⟩
/-- tattler/tattlerref1.Less -/
def c_tattlerref1_Less : VFun := ⟨2,
  (.seq (.ops [⟨some 2, none, .box 2 (.r 0)⟩,
    ⟨some 3, none, .box 2 (.r 1)⟩,
    ⟨some 4, none, .asg (.c (.bool false))⟩] [2, 3])
  (.seq (.ops [⟨some 5, none, .faddr 0 (.r 2)⟩,
    ⟨some 6, none, .load false 1 (.r 5)⟩,
    ⟨some 7, none, .faddr 0 (.r 3)⟩,
    ⟨some 8, none, .load false 1 (.r 7)⟩,
    ⟨some 9, none, .bin .lss .no (.r 6) (.r 8)⟩,
    ⟨some 10, none, .mv (.r 9)⟩,
    ⟨some 11, some (10, false), .faddr 0 (.r 2)⟩,
    ⟨some 12, some (10, false), .load false 1 (.r 11)⟩,
    ⟨some 13, some (10, false), .faddr 0 (.r 3)⟩,
    ⟨some 14, some (10, false), .load false 1 (.r 13)⟩,
    ⟨some 15, some (10, false), .bin .eql .no (.r 12) (.r 14)⟩,
    ⟨some 16, some (10, false), .mv (.r 15)⟩,
    ⟨some 17, some (16, true), .faddr 1 (.r 2)⟩,
    ⟨some 18, some (16, true), .load false 1 (.r 17)⟩,
    ⟨some 19, some (16, true), .faddr 1 (.r 3)⟩,
    ⟨some 20, some (16, true), .load false 1 (.r 19)⟩,
    ⟨some 21, some (16, true), .bin .lss .no (.r 18) (.r 20)⟩,
    ⟨some 22, some (10, false), .pick (.r 16) (.r 21) (.c (.bool false))⟩,
    ⟨some 23, none, .pick (.r 10) (.c (.bool true)) (.r 22)⟩,
    ⟨some 4, none, .asg (.r 23)⟩] [4])
  .ret)),
  [.r 4], none⟩
/-- slices.ContainsFunc[[]tattler/api.Value,tattler/api.Value] -/
def c_slices_ContainsFunc_api_Value_api_Value : VFun := ⟨2,
  (.seq (.ops [⟨some 4, none, .asg (.c (.bool false))⟩] [0, 1])
  (.seq (.ops [⟨some 5, none, .mv (.r 0)⟩,
    ⟨some 6, none, .mv (.r 1)⟩,
    ⟨some 7, none, .call false F.slices_IndexFunc_api_Value_api_Value [(.r 5), (.r 6)]⟩,
    ⟨some 8, none, .bin .geq .no (.r 7) (.c (.int .i64 0))⟩,
    ⟨some 4, none, .asg (.r 8)⟩] [4])
  .ret)),
  [.r 4], none⟩
/-- tattler/sibs.Reap$1 -/
def c_sibs_Reap_c1 : VFun := ⟨1,
  (.seq (.ops [⟨some 1, none, .box 4 (.r 0)⟩,
    ⟨some 2, none, .asg (.c (.bool false))⟩] [1])
  (.seq (.ops [⟨some 3, none, .faddr 3 (.r 1)⟩,
    ⟨some 4, none, .load false 1 (.r 3)⟩,
    ⟨some 5, none, .un .not (.r 4)⟩,
    ⟨some 2, none, .asg (.r 5)⟩] [2])
  .ret)),
  [.r 2], none⟩
def c_sibs_copied_l0 : VCode := (.seq (.ops [⟨some 10, none, .bin .lss .no (.r 9) (.r 8)⟩] [1, 2, 3, 7, 8, 9, 10])
  (.seq (.cond (.r 10) .skip (.exit 0))
  (.seq (.block 1 (.seq (.ops [⟨some 11, none, .iaddr none 4 (.r 7) (.r 9)⟩,
        ⟨some 12, none, .load true 4 (.r 11)⟩,
        ⟨some 5, none, .alloc [(.int .i64 0), (.int .i64 0), (.sl []), (.bool false)] []⟩,
        ⟨none, none, .store 4 (.r 5) (.r 12) [] none⟩] [1, 2, 3, 5, 7, 8, 9])
      (.ops [⟨some 13, none, .mv (.r 3)⟩,
      ⟨some 14, none, .load true 4 (.r 5)⟩,
      ⟨some 15, none, .call false F.sibs_own [(.r 14)]⟩,
      ⟨some 16, none, .bslice (.agg [(.int .i64 0), (.int .i64 0), (.sl []), (.bool false)]) 4 1 [(0, (.r 15))]⟩,
      ⟨some 17, none, .app (.reg 3) 4 48 (.r 13) (.r 16)⟩,
      ⟨some 3, none, .asg (.r 17)⟩] [1, 2, 3, 7, 8, 9])))
  (.ops [⟨some 18, none, .bin .add .no (.r 9) (.c (.int .i64 1))⟩,
  ⟨some 9, none, .mv (.r 18)⟩] [1, 2, 3, 7, 8, 9]))))
/-- tattler/sibs.copied -/
def c_sibs_copied : VFun := ⟨1,
  (.seq (.ops [⟨some 1, none, .box 9 (.r 0)⟩,
    ⟨some 2, none, .alloc [(.int .i64 0), (.int .i64 0), (.int .i64 0), (.int .i64 0), (.int .i64 0), (.int .i64 0), (.int .i64 0), (.int .i64 0), (.sl [])] []⟩] [1, 2])
  (.seq (.ops [⟨some 3, none, .asg (.c (.sl []))⟩] [1, 2, 3])
  (.seq (.seq (.ops [⟨some 6, none, .faddr 8 (.r 1)⟩,
      ⟨some 7, none, .load false 1 (.r 6)⟩,
      ⟨some 8, none, .len .sl (.r 7)⟩,
      ⟨some 9, none, .mv (.c (.int .i64 0))⟩] [1, 2, 3, 7, 8, 9])
    (.block 0 (.loop [1, 2, 3, 7, 8, 9] [(3, 0, 4)] c_sibs_copied_l0)))
  (.seq (.ops [⟨some 19, none, .faddr 0 (.r 1)⟩,
    ⟨some 20, none, .load true 8 (.r 19)⟩,
    ⟨some 21, none, .mv (.r 3)⟩,
    ⟨some 22, none, .build [(.int .i64 0), (.int .i64 0), (.int .i64 0), (.int .i64 0), (.int .i64 0), (.int .i64 0), (.int .i64 0), (.int .i64 0), (.sl [])] [(0, 8, (.r 20)), (8, 1, (.r 21))]⟩,
    ⟨none, none, .store 9 (.r 2) (.r 22) [] none⟩] [2])
  .ret)))),
  [.cell 2 true 9], none⟩
def c_tattlerref5_Live_l0 : VCode := (.seq (.ops [⟨some 13, none, .bin .lss .no (.r 12) (.r 11)⟩] [3, 10, 11, 12, 13])
  (.seq (.cond (.r 13) .skip (.exit 0))
  (.seq (.block 1 (.seq (.ops [⟨some 14, none, .iaddr none 4 (.r 10) (.r 12)⟩,
        ⟨some 15, none, .load true 4 (.r 14)⟩,
        ⟨some 5, none, .alloc [(.int .i64 0), (.int .i64 0), (.sl []), (.bool false)] []⟩,
        ⟨none, none, .store 4 (.r 5) (.r 15) [] none⟩] [3, 5, 10, 11, 12])
      (.seq (.ops [⟨some 16, none, .faddr 3 (.r 5)⟩,
        ⟨some 17, none, .load false 1 (.r 16)⟩,
        ⟨some 18, none, .un .not (.r 17)⟩] [3, 5, 10, 11, 12, 18])
      (.cond (.r 18) (.ops [⟨some 19, none, .mv (.r 3)⟩,
        ⟨some 20, none, .faddr 2 (.r 5)⟩,
        ⟨some 21, none, .load false 1 (.r 20)⟩,
        ⟨some 22, none, .app .fresh 1 1 (.c (.sl [])) (.r 21)⟩,
        ⟨some 23, none, .bslice (.sl []) 1 1 [(0, (.r 22))]⟩,
        ⟨some 24, none, .app (.reg 3) 1 24 (.r 19) (.r 23)⟩,
        ⟨some 3, none, .asg (.r 24)⟩] [3, 10, 11, 12]) .skip))))
  (.ops [⟨some 25, none, .bin .add .no (.r 12) (.c (.int .i64 1))⟩,
  ⟨some 12, none, .mv (.r 25)⟩] [3, 10, 11, 12]))))
/-- tattler/tattlerref5.Live -/
def c_tattlerref5_Live : VFun := ⟨1,
  (.seq (.ops [⟨some 1, none, .box 9 (.r 0)⟩,
    ⟨some 2, none, .asg (.c (.sl []))⟩] [1])
  (.seq (.ops [⟨some 3, none, .asg (.c (.sl []))⟩] [1, 3])
  (.seq (.seq (.ops [⟨some 6, none, .load true 9 (.r 1)⟩,
      ⟨some 7, none, .call false F.tattlerref5_May [(.r 6)]⟩,
      ⟨some 8, none, .un .not (.r 7)⟩] [1, 3, 8])
    (.cond (.r 8) (.seq (.ops [⟨some 2, none, .asg (.c (.sl []))⟩] [2])
      .ret) .skip))
  (.seq (.seq (.ops [⟨some 9, none, .faddr 8 (.r 1)⟩,
      ⟨some 10, none, .load false 1 (.r 9)⟩,
      ⟨some 11, none, .len .sl (.r 10)⟩,
      ⟨some 12, none, .mv (.c (.int .i64 0))⟩] [3, 10, 11, 12])
    (.block 0 (.loop [3, 10, 11, 12] [(2, 0, 0), (3, 0, 1)] c_tattlerref5_Live_l0)))
  (.seq (.ops [⟨some 26, none, .mv (.r 3)⟩,
    ⟨some 2, none, .asg (.r 26)⟩] [2])
  .ret))))),
  [.r 2], none⟩
def c_cmp_Or_int_l0 : VCode := (.seq (.ops [⟨some 9, none, .bin .lss .no (.r 8) (.r 7)⟩] [3, 6, 7, 8, 9])
  (.seq (.cond (.r 9) .skip (.exit 0))
  (.seq (.block 1 (.seq (.ops [⟨some 10, none, .iaddr none 1 (.r 6) (.r 8)⟩,
        ⟨some 11, none, .load false 1 (.r 10)⟩,
        ⟨some 5, none, .asg (.r 11)⟩] [3, 5, 6, 7, 8])
      (.seq (.ops [⟨some 12, none, .mv (.r 5)⟩,
        ⟨some 13, none, .mv (.r 3)⟩,
        ⟨some 14, none, .bin .neq .no (.r 12) (.r 13)⟩] [3, 5, 6, 7, 8, 14])
      (.cond (.r 14) (.seq (.ops [⟨some 15, none, .mv (.r 5)⟩,
          ⟨some 2, none, .asg (.r 15)⟩] [2])
        .ret) .skip))))
  (.ops [⟨some 16, none, .bin .add .no (.r 8) (.c (.int .i64 1))⟩,
  ⟨some 8, none, .mv (.r 16)⟩] [3, 6, 7, 8]))))
/-- cmp.Or[int] -/
def c_cmp_Or_int : VFun := ⟨1,
  (.seq (.ops [⟨some 2, none, .asg (.c (.int .i64 0))⟩] [0])
  (.seq (.ops [⟨some 3, none, .asg (.c (.int .i64 0))⟩] [0, 3])
  (.seq (.seq (.ops [⟨some 6, none, .mv (.r 0)⟩,
      ⟨some 7, none, .len .sl (.r 6)⟩,
      ⟨some 8, none, .mv (.c (.int .i64 0))⟩] [3, 6, 7, 8])
    (.block 0 (.loop [3, 6, 7, 8] [] c_cmp_Or_int_l0)))
  (.seq (.ops [⟨some 17, none, .mv (.r 3)⟩,
    ⟨some 2, none, .asg (.r 17)⟩] [2])
  .ret)))),
  [.r 2], none⟩
/-- cmp.Compare[int] -/
def c_cmp_Compare_int : VFun := ⟨2,
  (.seq (.ops [⟨some 4, none, .asg (.c (.int .i64 0))⟩] [0, 1])
  (.seq (.ops [⟨some 7, none, .mv (.r 0)⟩,
    ⟨some 8, none, .call false F.cmp_isNaN_int [(.r 7)]⟩,
    ⟨some 5, none, .asg (.r 8)⟩] [0, 1, 5])
  (.seq (.ops [⟨some 9, none, .mv (.r 1)⟩,
    ⟨some 10, none, .call false F.cmp_isNaN_int [(.r 9)]⟩,
    ⟨some 6, none, .asg (.r 10)⟩] [0, 1, 5, 6])
  (.seq (.seq (.ops [⟨some 11, none, .mv (.r 5)⟩] [0, 1, 6, 11])
    (.cond (.r 11) (.seq (.seq (.ops [⟨some 12, none, .mv (.r 6)⟩] [12])
        (.cond (.r 12) (.seq (.ops [⟨some 4, none, .asg (.c (.int .i64 0))⟩] [4])
          .ret) .skip))
      (.seq (.ops [⟨some 4, none, .asg (.c (.int .i64 (-1)))⟩] [4])
      .ret)) .skip))
  (.seq (.seq (.ops [⟨some 13, none, .mv (.r 6)⟩] [0, 1, 13])
    (.cond (.r 13) (.seq (.ops [⟨some 4, none, .asg (.c (.int .i64 1))⟩] [4])
      .ret) .skip))
  (.seq (.seq (.ops [⟨some 14, none, .mv (.r 0)⟩,
      ⟨some 15, none, .mv (.r 1)⟩,
      ⟨some 16, none, .bin .lss .no (.r 14) (.r 15)⟩] [0, 1, 16])
    (.cond (.r 16) (.seq (.ops [⟨some 4, none, .asg (.c (.int .i64 (-1)))⟩] [4])
      .ret) .skip))
  (.seq (.seq (.ops [⟨some 17, none, .mv (.r 0)⟩,
      ⟨some 18, none, .mv (.r 1)⟩,
      ⟨some 19, none, .bin .gtr .no (.r 17) (.r 18)⟩] [19])
    (.cond (.r 19) (.seq (.ops [⟨some 4, none, .asg (.c (.int .i64 1))⟩] [4])
      .ret) .skip))
  (.seq (.ops [⟨some 4, none, .asg (.c (.int .i64 0))⟩] [4])
  .ret)))))))),
  [.r 4], none⟩
/-- cmp.Compare[int64] -/
def c_cmp_Compare_int64 : VFun := ⟨2,
  (.seq (.ops [⟨some 4, none, .asg (.c (.int .i64 0))⟩] [0, 1])
  (.seq (.ops [⟨some 7, none, .mv (.r 0)⟩,
    ⟨some 8, none, .call false F.cmp_isNaN_int64 [(.r 7)]⟩,
    ⟨some 5, none, .asg (.r 8)⟩] [0, 1, 5])
  (.seq (.ops [⟨some 9, none, .mv (.r 1)⟩,
    ⟨some 10, none, .call false F.cmp_isNaN_int64 [(.r 9)]⟩,
    ⟨some 6, none, .asg (.r 10)⟩] [0, 1, 5, 6])
  (.seq (.seq (.ops [⟨some 11, none, .mv (.r 5)⟩] [0, 1, 6, 11])
    (.cond (.r 11) (.seq (.seq (.ops [⟨some 12, none, .mv (.r 6)⟩] [12])
        (.cond (.r 12) (.seq (.ops [⟨some 4, none, .asg (.c (.int .i64 0))⟩] [4])
          .ret) .skip))
      (.seq (.ops [⟨some 4, none, .asg (.c (.int .i64 (-1)))⟩] [4])
      .ret)) .skip))
  (.seq (.seq (.ops [⟨some 13, none, .mv (.r 6)⟩] [0, 1, 13])
    (.cond (.r 13) (.seq (.ops [⟨some 4, none, .asg (.c (.int .i64 1))⟩] [4])
      .ret) .skip))
  (.seq (.seq (.ops [⟨some 14, none, .mv (.r 0)⟩,
      ⟨some 15, none, .mv (.r 1)⟩,
      ⟨some 16, none, .bin .lss .no (.r 14) (.r 15)⟩] [0, 1, 16])
    (.cond (.r 16) (.seq (.ops [⟨some 4, none, .asg (.c (.int .i64 (-1)))⟩] [4])
      .ret) .skip))
  (.seq (.seq (.ops [⟨some 17, none, .mv (.r 0)⟩,
      ⟨some 18, none, .mv (.r 1)⟩,
      ⟨some 19, none, .bin .gtr .no (.r 17) (.r 18)⟩] [19])
    (.cond (.r 19) (.seq (.ops [⟨some 4, none, .asg (.c (.int .i64 1))⟩] [4])
      .ret) .skip))
  (.seq (.ops [⟨some 4, none, .asg (.c (.int .i64 0))⟩] [4])
  .ret)))))))),
  [.r 4], none⟩
def c_slices_IndexFunc_api_Value_api_Value_l0 : VCode := (.seq (.ops [⟨some 9, none, .bin .lss .no (.r 8) (.r 7)⟩] [0, 1, 7, 8, 9])
  (.seq (.cond (.r 9) .skip (.exit 0))
  (.seq (.block 1 (.seq (.ops [⟨some 10, none, .mv (.r 8)⟩,
        ⟨some 5, none, .asg (.r 10)⟩] [0, 1, 5, 7, 8])
      (.seq (.ops [⟨some 11, none, .mv (.r 1)⟩,
        ⟨some 12, none, .mv (.r 0)⟩,
        ⟨some 13, none, .mv (.r 5)⟩,
        ⟨some 14, none, .iaddr none 4 (.r 12) (.r 13)⟩,
        ⟨some 15, none, .load true 4 (.r 14)⟩,
        ⟨some 16, none, .callv false (.r 11) [(.r 15)]⟩] [0, 1, 5, 7, 8, 16])
      (.cond (.r 16) (.seq (.ops [⟨some 17, none, .mv (.r 5)⟩,
          ⟨some 4, none, .asg (.r 17)⟩] [4])
        .ret) .skip))))
  (.ops [⟨some 18, none, .bin .add .no (.r 8) (.c (.int .i64 1))⟩,
  ⟨some 8, none, .mv (.r 18)⟩] [0, 1, 7, 8]))))
/-- slices.IndexFunc[[]tattler/api.Value,tattler/api.Value] -/
def c_slices_IndexFunc_api_Value_api_Value : VFun := ⟨2,
  (.seq (.ops [⟨some 4, none, .asg (.c (.int .i64 0))⟩] [0, 1])
  (.seq (.seq (.ops [⟨some 6, none, .mv (.r 0)⟩,
      ⟨some 7, none, .len .sl (.r 6)⟩,
      ⟨some 8, none, .mv (.c (.int .i64 0))⟩] [0, 1, 7, 8])
    (.block 0 (.loop [0, 1, 7, 8] [] c_slices_IndexFunc_api_Value_api_Value_l0)))
  (.seq (.ops [⟨some 4, none, .asg (.c (.int .i64 (-1)))⟩] [4])
  .ret))),
  [.r 4], none⟩
/-- cmp.isNaN[int] -/
def c_cmp_isNaN_int : VFun := ⟨1,
  (.seq (.ops [⟨some 2, none, .asg (.c (.bool false))⟩] [0])
  (.seq (.ops [⟨some 3, none, .mv (.r 0)⟩,
    ⟨some 4, none, .mv (.r 0)⟩,
    ⟨some 5, none, .bin .neq .no (.r 3) (.r 4)⟩,
    ⟨some 2, none, .asg (.r 5)⟩] [2])
  .ret)),
  [.r 2], none⟩
/-- cmp.isNaN[int64] -/
def c_cmp_isNaN_int64 : VFun := ⟨1,
  (.seq (.ops [⟨some 2, none, .asg (.c (.bool false))⟩] [0])
  (.seq (.ops [⟨some 3, none, .mv (.r 0)⟩,
    ⟨some 4, none, .mv (.r 0)⟩,
    ⟨some 5, none, .bin .neq .no (.r 3) (.r 4)⟩,
    ⟨some 2, none, .asg (.r 5)⟩] [2])
  .ret)),
  [.r 2], none⟩
def R : Nat → Option Nat := fun f => cnd (decide (f = 1000000007)) (some 0) (none)
theorem ok_tattlerlaw10_TableJoins : FunOk Tryz.prog R F.tattlerlaw10_TableJoins c_tattlerlaw10_TableJoins := funOk_of Tryz.func3 rfl (by kernel_rfl) (by kernel_rfl) (by kernel_rfl) (by kernel_rfl) (linC_of (by kernel_rfl)) (by kernel_rfl) (of_decide_eq_true (by kernel_rfl)) (by kernel_rfl)
theorem ok_tattlerlaw10_light : FunOk Tryz.prog R F.tattlerlaw10_light c_tattlerlaw10_light := funOk_of Tryz.func4 rfl (by kernel_rfl) (by kernel_rfl) (by kernel_rfl) (by kernel_rfl) (linC_of (by kernel_rfl)) (by kernel_rfl) (of_decide_eq_true (by kernel_rfl)) (by kernel_rfl)
theorem ok_tattlerlaw10_awake : FunOk Tryz.prog R F.tattlerlaw10_awake c_tattlerlaw10_awake := funOk_of Tryz.func5 rfl (by kernel_rfl) (by kernel_rfl) (by kernel_rfl) (by kernel_rfl) (linC_of (by kernel_rfl)) (by kernel_rfl) (of_decide_eq_true (by kernel_rfl)) (by kernel_rfl)
theorem ok_table_New : FunOk Tryz.prog R F.table_New c_table_New := funOk_of Tryz.func6 rfl (by kernel_rfl) (by kernel_rfl) (by kernel_rfl) (by kernel_rfl) (linC_of (by kernel_rfl)) (by kernel_rfl) (of_decide_eq_true (by kernel_rfl)) (by kernel_rfl)
theorem ok_table_Table_Join : FunOk Tryz.prog R F.table_Table_Join c_table_Table_Join := funOk_of Tryz.func7 rfl (by kernel_rfl) (by kernel_rfl) (by kernel_rfl) (by kernel_rfl) (linC_of (by kernel_rfl)) (by kernel_rfl) (of_decide_eq_true (by kernel_rfl)) (by kernel_rfl)
theorem ok_tattlerref5_Table_Join : FunOk Tryz.prog R F.tattlerref5_Table_Join c_tattlerref5_Table_Join := funOk_of Tryz.func8 rfl (by kernel_rfl) (by kernel_rfl) (by kernel_rfl) (by kernel_rfl) (linC_of (by kernel_rfl)) (by kernel_rfl) (of_decide_eq_true (by kernel_rfl)) (by kernel_rfl)
theorem ok_tattlerref5_Same : FunOk Tryz.prog R F.tattlerref5_Same c_tattlerref5_Same := funOk_of Tryz.func9 rfl (by kernel_rfl) (by kernel_rfl) (by kernel_rfl) (by kernel_rfl) (linC_of (by kernel_rfl)) (by kernel_rfl) (of_decide_eq_true (by kernel_rfl)) (by kernel_rfl)
theorem ok_tattlerlaw10_reap : FunOk Tryz.prog R F.tattlerlaw10_reap c_tattlerlaw10_reap := funOk_of Tryz.func10 rfl (by kernel_rfl) (by kernel_rfl) (by kernel_rfl) (by kernel_rfl) (linC_of (by kernel_rfl)) (by kernel_rfl) (of_decide_eq_true (by kernel_rfl)) (by kernel_rfl)
theorem ok_tattlerref5_SameEntries : FunOk Tryz.prog R F.tattlerref5_SameEntries c_tattlerref5_SameEntries := funOk_of Tryz.func11 rfl (by kernel_rfl) (by kernel_rfl) (by kernel_rfl) (by kernel_rfl) (linC_of (by kernel_rfl)) (by kernel_rfl) (of_decide_eq_true (by kernel_rfl)) (by kernel_rfl)
theorem ok_table_Table_All : FunOk Tryz.prog R F.table_Table_All c_table_Table_All := funOk_of Tryz.func12 rfl (by kernel_rfl) (by kernel_rfl) (by kernel_rfl) (by kernel_rfl) (linC_of (by kernel_rfl)) (by kernel_rfl) (of_decide_eq_true (by kernel_rfl)) (by kernel_rfl)
theorem ok_table_Table_Len : FunOk Tryz.prog R F.table_Table_Len c_table_Table_Len := funOk_of Tryz.func13 rfl (by kernel_rfl) (by kernel_rfl) (by kernel_rfl) (by kernel_rfl) (linC_of (by kernel_rfl)) (by kernel_rfl) (of_decide_eq_true (by kernel_rfl)) (by kernel_rfl)
theorem ok_table_Table_Bucket : FunOk Tryz.prog R F.table_Table_Bucket c_table_Table_Bucket := funOk_of Tryz.func14 rfl (by kernel_rfl) (by kernel_rfl) (by kernel_rfl) (by kernel_rfl) (linC_of (by kernel_rfl)) (by kernel_rfl) (of_decide_eq_true (by kernel_rfl)) (by kernel_rfl)
theorem ok_tattlerref5_Table_Bucket : FunOk Tryz.prog R F.tattlerref5_Table_Bucket c_tattlerref5_Table_Bucket := funOk_of Tryz.func15 rfl (by kernel_rfl) (by kernel_rfl) (by kernel_rfl) (by kernel_rfl) (linC_of (by kernel_rfl)) (by kernel_rfl) (of_decide_eq_true (by kernel_rfl)) (by kernel_rfl)
theorem ok_table_Table_Get : FunOk Tryz.prog R F.table_Table_Get c_table_Table_Get := funOk_of Tryz.func16 rfl (by kernel_rfl) (by kernel_rfl) (by kernel_rfl) (by kernel_rfl) (linC_of (by kernel_rfl)) (by kernel_rfl) (of_decide_eq_true (by kernel_rfl)) (by kernel_rfl)
theorem ok_tattlerref5_Table_Get : FunOk Tryz.prog R F.tattlerref5_Table_Get c_tattlerref5_Table_Get := funOk_of Tryz.func17 rfl (by kernel_rfl) (by kernel_rfl) (by kernel_rfl) (by kernel_rfl) (linC_of (by kernel_rfl)) (by kernel_rfl) (of_decide_eq_true (by kernel_rfl)) (by kernel_rfl)
theorem ok_sibs_MayEntry : FunOk Tryz.prog R F.sibs_MayEntry c_sibs_MayEntry := funOk_of Tryz.func18 rfl (by kernel_rfl) (by kernel_rfl) (by kernel_rfl) (by kernel_rfl) (linC_of (by kernel_rfl)) (by kernel_rfl) (of_decide_eq_true (by kernel_rfl)) (by kernel_rfl)
theorem lin_sibs_Join : linC Tryz.prog c_sibs_Join.body := (And.intro (linC_of (by kernel_rfl)) (And.intro (linC_of (by kernel_rfl)) (And.intro (linC_of (by kernel_rfl)) (And.intro (linC_of (by kernel_rfl)) (And.intro (linC_of (by kernel_rfl)) (And.intro (fun i hi => by simp only [List.mem_cons, List.not_mem_nil, or_false] at hi; rcases hi with rfl | rfl | rfl | rfl <;> first | exact trivial | exact V0.sorted_lin) (linC_of (by kernel_rfl))))))))
theorem ok_sibs_Join : FunOk Tryz.prog R F.sibs_Join c_sibs_Join := funOk_of Tryz.func19 rfl (by kernel_rfl) (by kernel_rfl) (by kernel_rfl) (by kernel_rfl) lin_sibs_Join (by kernel_rfl) (of_decide_eq_true (by kernel_rfl)) (by kernel_rfl)
theorem ok_table_copied : FunOk Tryz.prog R F.table_copied c_table_copied := funOk_of Tryz.func20 rfl (by kernel_rfl) (by kernel_rfl) (by kernel_rfl) (by kernel_rfl) (linC_of (by kernel_rfl)) (by kernel_rfl) (of_decide_eq_true (by kernel_rfl)) (by kernel_rfl)
theorem ok_sibs_Same : FunOk Tryz.prog R F.sibs_Same c_sibs_Same := funOk_of Tryz.func21 rfl (by kernel_rfl) (by kernel_rfl) (by kernel_rfl) (by kernel_rfl) (linC_of (by kernel_rfl)) (by kernel_rfl) (of_decide_eq_true (by kernel_rfl)) (by kernel_rfl)
theorem ok_tattlerref5_MayEntry : FunOk Tryz.prog R F.tattlerref5_MayEntry c_tattlerref5_MayEntry := funOk_of Tryz.func22 rfl (by kernel_rfl) (by kernel_rfl) (by kernel_rfl) (by kernel_rfl) (linC_of (by kernel_rfl)) (by kernel_rfl) (of_decide_eq_true (by kernel_rfl)) (by kernel_rfl)
theorem ok_tattlerref5_Table_At : FunOk Tryz.prog R F.tattlerref5_Table_At c_tattlerref5_Table_At := funOk_of Tryz.func23 rfl (by kernel_rfl) (by kernel_rfl) (by kernel_rfl) (by kernel_rfl) (linC_of (by kernel_rfl)) (by kernel_rfl) (of_decide_eq_true (by kernel_rfl)) (by kernel_rfl)
theorem ok_tattlerref5_Join : FunOk Tryz.prog R F.tattlerref5_Join c_tattlerref5_Join := funOk_of Tryz.func24 rfl (by kernel_rfl) (by kernel_rfl) (by kernel_rfl) (by kernel_rfl) (linC_of (by kernel_rfl)) (by kernel_rfl) (of_decide_eq_true (by kernel_rfl)) (by kernel_rfl)
theorem ok_table_Table_Reap : FunOk Tryz.prog R F.table_Table_Reap c_table_Table_Reap := funOk_of Tryz.func25 rfl (by kernel_rfl) (by kernel_rfl) (by kernel_rfl) (by kernel_rfl) (linC_of (by kernel_rfl)) (by kernel_rfl) (of_decide_eq_true (by kernel_rfl)) (by kernel_rfl)
theorem ok_tattlerref5_Table_Reap : FunOk Tryz.prog R F.tattlerref5_Table_Reap c_tattlerref5_Table_Reap := funOk_of Tryz.func26 rfl (by kernel_rfl) (by kernel_rfl) (by kernel_rfl) (by kernel_rfl) (linC_of (by kernel_rfl)) (by kernel_rfl) (of_decide_eq_true (by kernel_rfl)) (by kernel_rfl)
theorem ok_maps_Keys_map_string_api_Sibs_string_api_Sibs : FunOk Tryz.prog R F.maps_Keys_map_string_api_Sibs_string_api_Sibs c_maps_Keys_map_string_api_Sibs_string_api_Sibs := funOk_of Tryz.func28 rfl (by kernel_rfl) (by kernel_rfl) (by kernel_rfl) (by kernel_rfl) (linC_of (by kernel_rfl)) (by kernel_rfl) (of_decide_eq_true (by kernel_rfl)) (by kernel_rfl)
theorem ok_slices_DeleteFunc_api_Entry_api_Entry : FunOk Tryz.prog R F.slices_DeleteFunc_api_Entry_api_Entry c_slices_DeleteFunc_api_Entry_api_Entry := funOk_of Tryz.func29 rfl (by kernel_rfl) (by kernel_rfl) (by kernel_rfl) (by kernel_rfl) (linC_of (by kernel_rfl)) (by kernel_rfl) (of_decide_eq_true (by kernel_rfl)) (by kernel_rfl)
theorem ok_table_Table_Bucket_c1 : FunOk Tryz.prog R F.table_Table_Bucket_c1 c_table_Table_Bucket_c1 := funOk_of Tryz.func30 rfl (by kernel_rfl) (by kernel_rfl) (by kernel_rfl) (by kernel_rfl) (linC_of (by kernel_rfl)) (by kernel_rfl) (of_decide_eq_true (by kernel_rfl)) (by kernel_rfl)
theorem ok_keys_Bucket : FunOk Tryz.prog R F.keys_Bucket c_keys_Bucket := funOk_of Tryz.func31 rfl (by kernel_rfl) (by kernel_rfl) (by kernel_rfl) (by kernel_rfl) (linC_of (by kernel_rfl)) (by kernel_rfl) (of_decide_eq_true (by kernel_rfl)) (by kernel_rfl)
theorem ok_tattlerref5_Bucket : FunOk Tryz.prog R F.tattlerref5_Bucket c_tattlerref5_Bucket := funOk_of Tryz.func32 rfl (by kernel_rfl) (by kernel_rfl) (by kernel_rfl) (by kernel_rfl) (linC_of (by kernel_rfl)) (by kernel_rfl) (of_decide_eq_true (by kernel_rfl)) (by kernel_rfl)
theorem ok_sibs_May : FunOk Tryz.prog R F.sibs_May c_sibs_May := funOk_of Tryz.func33 rfl (by kernel_rfl) (by kernel_rfl) (by kernel_rfl) (by kernel_rfl) (linC_of (by kernel_rfl)) (by kernel_rfl) (of_decide_eq_true (by kernel_rfl)) (by kernel_rfl)
theorem ok_sibs_find : FunOk Tryz.prog R F.sibs_find c_sibs_find := funOk_of Tryz.func34 rfl (by kernel_rfl) (by kernel_rfl) (by kernel_rfl) (by kernel_rfl) (linC_of (by kernel_rfl)) (by kernel_rfl) (of_decide_eq_true (by kernel_rfl)) (by kernel_rfl)
theorem ok_sibs_own : FunOk Tryz.prog R F.sibs_own c_sibs_own := funOk_of Tryz.func35 rfl (by kernel_rfl) (by kernel_rfl) (by kernel_rfl) (by kernel_rfl) (linC_of (by kernel_rfl)) (by kernel_rfl) (of_decide_eq_true (by kernel_rfl)) (by kernel_rfl)
theorem ok_sibs_better : FunOk Tryz.prog R F.sibs_better c_sibs_better := funOk_of Tryz.func36 rfl (by kernel_rfl) (by kernel_rfl) (by kernel_rfl) (by kernel_rfl) (linC_of (by kernel_rfl)) (by kernel_rfl) (of_decide_eq_true (by kernel_rfl)) (by kernel_rfl)
theorem ok_vector_Covers : FunOk Tryz.prog R F.vector_Covers c_vector_Covers := funOk_of Tryz.func37 rfl (by kernel_rfl) (by kernel_rfl) (by kernel_rfl) (by kernel_rfl) (linC_of (by kernel_rfl)) (by kernel_rfl) (of_decide_eq_true (by kernel_rfl)) (by kernel_rfl)
theorem ok_vector_Join : FunOk Tryz.prog R F.vector_Join c_vector_Join := funOk_of Tryz.func39 rfl (by kernel_rfl) (by kernel_rfl) (by kernel_rfl) (by kernel_rfl) (linC_of (by kernel_rfl)) (by kernel_rfl) (of_decide_eq_true (by kernel_rfl)) (by kernel_rfl)
theorem ok_slices_EqualFunc_api_Value_api_Value_api_Value_api_Value : FunOk Tryz.prog R F.slices_EqualFunc_api_Value_api_Value_api_Value_api_Value c_slices_EqualFunc_api_Value_api_Value_api_Value_api_Value := funOk_of Tryz.func40 rfl (by kernel_rfl) (by kernel_rfl) (by kernel_rfl) (by kernel_rfl) (linC_of (by kernel_rfl)) (by kernel_rfl) (of_decide_eq_true (by kernel_rfl)) (by kernel_rfl)
theorem ok_sibs_Same_c1 : FunOk Tryz.prog R F.sibs_Same_c1 c_sibs_Same_c1 := funOk_of Tryz.func41 rfl (by kernel_rfl) (by kernel_rfl) (by kernel_rfl) (by kernel_rfl) (linC_of (by kernel_rfl)) (by kernel_rfl) (of_decide_eq_true (by kernel_rfl)) (by kernel_rfl)
theorem ok_bytes_Equal : FunOk Tryz.prog R F.bytes_Equal c_bytes_Equal := funOk_of Tryz.func42 rfl (by kernel_rfl) (by kernel_rfl) (by kernel_rfl) (by kernel_rfl) (linC_of (by kernel_rfl)) (by kernel_rfl) (of_decide_eq_true (by kernel_rfl)) (by kernel_rfl)
theorem ok_tattlerref5_MayKey : FunOk Tryz.prog R F.tattlerref5_MayKey c_tattlerref5_MayKey := funOk_of Tryz.func43 rfl (by kernel_rfl) (by kernel_rfl) (by kernel_rfl) (by kernel_rfl) (linC_of (by kernel_rfl)) (by kernel_rfl) (of_decide_eq_true (by kernel_rfl)) (by kernel_rfl)
theorem ok_tattlerref5_May : FunOk Tryz.prog R F.tattlerref5_May c_tattlerref5_May := funOk_of Tryz.func44 rfl (by kernel_rfl) (by kernel_rfl) (by kernel_rfl) (by kernel_rfl) (linC_of (by kernel_rfl)) (by kernel_rfl) (of_decide_eq_true (by kernel_rfl)) (by kernel_rfl)
theorem ok_tattlerref1_Join : FunOk Tryz.prog R F.tattlerref1_Join c_tattlerref1_Join := funOk_of Tryz.func45 rfl (by kernel_rfl) (by kernel_rfl) (by kernel_rfl) (by kernel_rfl) (linC_of (by kernel_rfl)) (by kernel_rfl) (of_decide_eq_true (by kernel_rfl)) (by kernel_rfl)
theorem ok_tattlerref5_find : FunOk Tryz.prog R F.tattlerref5_find c_tattlerref5_find := funOk_of Tryz.func46 rfl (by kernel_rfl) (by kernel_rfl) (by kernel_rfl) (by kernel_rfl) (linC_of (by kernel_rfl)) (by kernel_rfl) (of_decide_eq_true (by kernel_rfl)) (by kernel_rfl)
theorem ok_tattlerref5_insert : FunOk Tryz.prog R F.tattlerref5_insert c_tattlerref5_insert := funOk_of Tryz.func47 rfl (by kernel_rfl) (by kernel_rfl) (by kernel_rfl) (by kernel_rfl) (linC_of (by kernel_rfl)) (by kernel_rfl) (of_decide_eq_true (by kernel_rfl)) (by kernel_rfl)
theorem ok_tattlerref5_copied : FunOk Tryz.prog R F.tattlerref5_copied c_tattlerref5_copied := funOk_of Tryz.func48 rfl (by kernel_rfl) (by kernel_rfl) (by kernel_rfl) (by kernel_rfl) (linC_of (by kernel_rfl)) (by kernel_rfl) (of_decide_eq_true (by kernel_rfl)) (by kernel_rfl)
theorem ok_tattlerref5_first : FunOk Tryz.prog R F.tattlerref5_first c_tattlerref5_first := funOk_of Tryz.func49 rfl (by kernel_rfl) (by kernel_rfl) (by kernel_rfl) (by kernel_rfl) (linC_of (by kernel_rfl)) (by kernel_rfl) (of_decide_eq_true (by kernel_rfl)) (by kernel_rfl)
theorem ok_tattlerref1_Covers : FunOk Tryz.prog R F.tattlerref1_Covers c_tattlerref1_Covers := funOk_of Tryz.func50 rfl (by kernel_rfl) (by kernel_rfl) (by kernel_rfl) (by kernel_rfl) (linC_of (by kernel_rfl)) (by kernel_rfl) (of_decide_eq_true (by kernel_rfl)) (by kernel_rfl)
theorem ok_sibs_Reap : FunOk Tryz.prog R F.sibs_Reap c_sibs_Reap := funOk_of Tryz.func51 rfl (by kernel_rfl) (by kernel_rfl) (by kernel_rfl) (by kernel_rfl) (linC_of (by kernel_rfl)) (by kernel_rfl) (of_decide_eq_true (by kernel_rfl)) (by kernel_rfl)
theorem ok_tattlerref5_Reap : FunOk Tryz.prog R F.tattlerref5_Reap c_tattlerref5_Reap := funOk_of Tryz.func52 rfl (by kernel_rfl) (by kernel_rfl) (by kernel_rfl) (by kernel_rfl) (linC_of (by kernel_rfl)) (by kernel_rfl) (of_decide_eq_true (by kernel_rfl)) (by kernel_rfl)
theorem ok_slices_IndexFunc_api_Entry_api_Entry : FunOk Tryz.prog R F.slices_IndexFunc_api_Entry_api_Entry c_slices_IndexFunc_api_Entry_api_Entry := funOk_of Tryz.func56 rfl (by kernel_rfl) (by kernel_rfl) (by kernel_rfl) (by kernel_rfl) (linC_of (by kernel_rfl)) (by kernel_rfl) (of_decide_eq_true (by kernel_rfl)) (by kernel_rfl)
theorem ok_vector_May : FunOk Tryz.prog R F.vector_May c_vector_May := funOk_of Tryz.func57 rfl (by kernel_rfl) (by kernel_rfl) (by kernel_rfl) (by kernel_rfl) (linC_of (by kernel_rfl)) (by kernel_rfl) (of_decide_eq_true (by kernel_rfl)) (by kernel_rfl)
theorem ok_sibs_mayValue : FunOk Tryz.prog R F.sibs_mayValue c_sibs_mayValue := funOk_of Tryz.func58 rfl (by kernel_rfl) (by kernel_rfl) (by kernel_rfl) (by kernel_rfl) (linC_of (by kernel_rfl)) (by kernel_rfl) (of_decide_eq_true (by kernel_rfl)) (by kernel_rfl)
theorem ok_vector_Less : FunOk Tryz.prog R F.vector_Less c_vector_Less := funOk_of Tryz.func59 rfl (by kernel_rfl) (by kernel_rfl) (by kernel_rfl) (by kernel_rfl) (linC_of (by kernel_rfl)) (by kernel_rfl) (of_decide_eq_true (by kernel_rfl)) (by kernel_rfl)
theorem ok_slices_Clone_byte_byte : FunOk Tryz.prog R F.slices_Clone_byte_byte c_slices_Clone_byte_byte := funOk_of Tryz.func60 rfl (by kernel_rfl) (by kernel_rfl) (by kernel_rfl) (by kernel_rfl) (linC_of (by kernel_rfl)) (by kernel_rfl) (of_decide_eq_true (by kernel_rfl)) (by kernel_rfl)
theorem ok_bytes_Compare : FunOk Tryz.prog R F.bytes_Compare c_bytes_Compare := funOk_of Tryz.func61 rfl (by kernel_rfl) (by kernel_rfl) (by kernel_rfl) (by kernel_rfl) (linC_of (by kernel_rfl)) (by kernel_rfl) (of_decide_eq_true (by kernel_rfl)) (by kernel_rfl)
theorem ok_vector_is : FunOk Tryz.prog R F.vector_is c_vector_is := funOk_of Tryz.func62 rfl (by kernel_rfl) (by kernel_rfl) (by kernel_rfl) (by kernel_rfl) (linC_of (by kernel_rfl)) (by kernel_rfl) (of_decide_eq_true (by kernel_rfl)) (by kernel_rfl)
theorem ok_tattlerref1_May : FunOk Tryz.prog R F.tattlerref1_May c_tattlerref1_May := funOk_of Tryz.func65 rfl (by kernel_rfl) (by kernel_rfl) (by kernel_rfl) (by kernel_rfl) (linC_of (by kernel_rfl)) (by kernel_rfl) (of_decide_eq_true (by kernel_rfl)) (by kernel_rfl)
theorem ok_tattlerref1_Less : FunOk Tryz.prog R F.tattlerref1_Less c_tattlerref1_Less := funOk_of Tryz.func66 rfl (by kernel_rfl) (by kernel_rfl) (by kernel_rfl) (by kernel_rfl) (linC_of (by kernel_rfl)) (by kernel_rfl) (of_decide_eq_true (by kernel_rfl)) (by kernel_rfl)
theorem ok_slices_ContainsFunc_api_Value_api_Value : FunOk Tryz.prog R F.slices_ContainsFunc_api_Value_api_Value c_slices_ContainsFunc_api_Value_api_Value := funOk_of Tryz.func67 rfl (by kernel_rfl) (by kernel_rfl) (by kernel_rfl) (by kernel_rfl) (linC_of (by kernel_rfl)) (by kernel_rfl) (of_decide_eq_true (by kernel_rfl)) (by kernel_rfl)
theorem ok_sibs_Reap_c1 : FunOk Tryz.prog R F.sibs_Reap_c1 c_sibs_Reap_c1 := funOk_of Tryz.func68 rfl (by kernel_rfl) (by kernel_rfl) (by kernel_rfl) (by kernel_rfl) (linC_of (by kernel_rfl)) (by kernel_rfl) (of_decide_eq_true (by kernel_rfl)) (by kernel_rfl)
theorem ok_sibs_copied : FunOk Tryz.prog R F.sibs_copied c_sibs_copied := funOk_of Tryz.func69 rfl (by kernel_rfl) (by kernel_rfl) (by kernel_rfl) (by kernel_rfl) (linC_of (by kernel_rfl)) (by kernel_rfl) (of_decide_eq_true (by kernel_rfl)) (by kernel_rfl)
theorem ok_tattlerref5_Live : FunOk Tryz.prog R F.tattlerref5_Live c_tattlerref5_Live := funOk_of Tryz.func70 rfl (by kernel_rfl) (by kernel_rfl) (by kernel_rfl) (by kernel_rfl) (linC_of (by kernel_rfl)) (by kernel_rfl) (of_decide_eq_true (by kernel_rfl)) (by kernel_rfl)
theorem ok_cmp_Or_int : FunOk Tryz.prog R F.cmp_Or_int c_cmp_Or_int := funOk_of Tryz.func74 rfl (by kernel_rfl) (by kernel_rfl) (by kernel_rfl) (by kernel_rfl) (linC_of (by kernel_rfl)) (by kernel_rfl) (of_decide_eq_true (by kernel_rfl)) (by kernel_rfl)
theorem ok_cmp_Compare_int : FunOk Tryz.prog R F.cmp_Compare_int c_cmp_Compare_int := funOk_of Tryz.func75 rfl (by kernel_rfl) (by kernel_rfl) (by kernel_rfl) (by kernel_rfl) (linC_of (by kernel_rfl)) (by kernel_rfl) (of_decide_eq_true (by kernel_rfl)) (by kernel_rfl)
theorem ok_cmp_Compare_int64 : FunOk Tryz.prog R F.cmp_Compare_int64 c_cmp_Compare_int64 := funOk_of Tryz.func76 rfl (by kernel_rfl) (by kernel_rfl) (by kernel_rfl) (by kernel_rfl) (linC_of (by kernel_rfl)) (by kernel_rfl) (of_decide_eq_true (by kernel_rfl)) (by kernel_rfl)
theorem ok_slices_IndexFunc_api_Value_api_Value : FunOk Tryz.prog R F.slices_IndexFunc_api_Value_api_Value c_slices_IndexFunc_api_Value_api_Value := funOk_of Tryz.func79 rfl (by kernel_rfl) (by kernel_rfl) (by kernel_rfl) (by kernel_rfl) (linC_of (by kernel_rfl)) (by kernel_rfl) (of_decide_eq_true (by kernel_rfl)) (by kernel_rfl)
theorem ok_cmp_isNaN_int : FunOk Tryz.prog R F.cmp_isNaN_int c_cmp_isNaN_int := funOk_of Tryz.func91 rfl (by kernel_rfl) (by kernel_rfl) (by kernel_rfl) (by kernel_rfl) (linC_of (by kernel_rfl)) (by kernel_rfl) (of_decide_eq_true (by kernel_rfl)) (by kernel_rfl)
theorem ok_cmp_isNaN_int64 : FunOk Tryz.prog R F.cmp_isNaN_int64 c_cmp_isNaN_int64 := funOk_of Tryz.func92 rfl (by kernel_rfl) (by kernel_rfl) (by kernel_rfl) (by kernel_rfl) (linC_of (by kernel_rfl)) (by kernel_rfl) (of_decide_eq_true (by kernel_rfl)) (by kernel_rfl)
def tab : List (Nat × VFun) := [(F.tattlerlaw10_TableJoins, c_tattlerlaw10_TableJoins), (F.tattlerlaw10_light, c_tattlerlaw10_light), (F.tattlerlaw10_awake, c_tattlerlaw10_awake), (F.table_New, c_table_New), (F.table_Table_Join, c_table_Table_Join), (F.tattlerref5_Table_Join, c_tattlerref5_Table_Join), (F.tattlerref5_Same, c_tattlerref5_Same), (F.tattlerlaw10_reap, c_tattlerlaw10_reap), (F.tattlerref5_SameEntries, c_tattlerref5_SameEntries), (F.table_Table_All, c_table_Table_All), (F.table_Table_Len, c_table_Table_Len), (F.table_Table_Bucket, c_table_Table_Bucket), (F.tattlerref5_Table_Bucket, c_tattlerref5_Table_Bucket), (F.table_Table_Get, c_table_Table_Get), (F.tattlerref5_Table_Get, c_tattlerref5_Table_Get), (F.sibs_MayEntry, c_sibs_MayEntry), (F.sibs_Join, c_sibs_Join), (F.table_copied, c_table_copied), (F.sibs_Same, c_sibs_Same), (F.tattlerref5_MayEntry, c_tattlerref5_MayEntry), (F.tattlerref5_Table_At, c_tattlerref5_Table_At), (F.tattlerref5_Join, c_tattlerref5_Join), (F.table_Table_Reap, c_table_Table_Reap), (F.tattlerref5_Table_Reap, c_tattlerref5_Table_Reap), (F.maps_Keys_map_string_api_Sibs_string_api_Sibs, c_maps_Keys_map_string_api_Sibs_string_api_Sibs), (F.slices_DeleteFunc_api_Entry_api_Entry, c_slices_DeleteFunc_api_Entry_api_Entry), (F.table_Table_Bucket_c1, c_table_Table_Bucket_c1), (F.keys_Bucket, c_keys_Bucket), (F.tattlerref5_Bucket, c_tattlerref5_Bucket), (F.sibs_May, c_sibs_May), (F.sibs_find, c_sibs_find), (F.sibs_own, c_sibs_own), (F.sibs_better, c_sibs_better), (F.vector_Covers, c_vector_Covers), (F.vector_Join, c_vector_Join), (F.slices_EqualFunc_api_Value_api_Value_api_Value_api_Value, c_slices_EqualFunc_api_Value_api_Value_api_Value_api_Value), (F.sibs_Same_c1, c_sibs_Same_c1), (F.bytes_Equal, c_bytes_Equal), (F.tattlerref5_MayKey, c_tattlerref5_MayKey), (F.tattlerref5_May, c_tattlerref5_May), (F.tattlerref1_Join, c_tattlerref1_Join), (F.tattlerref5_find, c_tattlerref5_find), (F.tattlerref5_insert, c_tattlerref5_insert), (F.tattlerref5_copied, c_tattlerref5_copied), (F.tattlerref5_first, c_tattlerref5_first), (F.tattlerref1_Covers, c_tattlerref1_Covers), (F.sibs_Reap, c_sibs_Reap), (F.tattlerref5_Reap, c_tattlerref5_Reap), (F.slices_IndexFunc_api_Entry_api_Entry, c_slices_IndexFunc_api_Entry_api_Entry), (F.vector_May, c_vector_May), (F.sibs_mayValue, c_sibs_mayValue), (F.vector_Less, c_vector_Less), (F.slices_Clone_byte_byte, c_slices_Clone_byte_byte), (F.bytes_Compare, c_bytes_Compare), (F.vector_is, c_vector_is), (F.tattlerref1_May, c_tattlerref1_May), (F.tattlerref1_Less, c_tattlerref1_Less), (F.slices_ContainsFunc_api_Value_api_Value, c_slices_ContainsFunc_api_Value_api_Value), (F.sibs_Reap_c1, c_sibs_Reap_c1), (F.sibs_copied, c_sibs_copied), (F.tattlerref5_Live, c_tattlerref5_Live), (F.cmp_Or_int, c_cmp_Or_int), (F.cmp_Compare_int, c_cmp_Compare_int), (F.cmp_Compare_int64, c_cmp_Compare_int64), (F.slices_IndexFunc_api_Value_api_Value, c_slices_IndexFunc_api_Value_api_Value), (F.cmp_isNaN_int, c_cmp_isNaN_int), (F.cmp_isNaN_int64, c_cmp_isNaN_int64)]
theorem prim_slices_Sorted_string : PrimOk Tryz.prog R F.slices_Sorted_string (sortedP F.maps_Keys_map_string_api_Sibs_string_api_Sibs_c1) := sorted_ok V0.sortedAt rfl (fun h => nomatch (show some 0 = none from h))
theorem prim_bytealg_Compare : PrimOk Tryz.prog R F.bytealg_Compare compareP := compare_ok (fn := Tryz.f77) Tryz.func77 (by kernel_rfl) (by kernel_rfl) (by kernel_rfl) (by kernel_rfl) rfl
def prims : List (Nat × Prim) := [(F.slices_Sorted_string, (sortedP F.maps_Keys_map_string_api_Sibs_string_api_Sibs_c1)), (F.bytealg_Compare, compareP)]
abbrev E : Env := ⟨tabFn tab, primFn prims⟩
theorem envOk : EnvOk Tryz.prog R E := env_prims Tryz.checked.mixed ⟨prim_slices_Sorted_string, prim_bytealg_Compare, trivial⟩ ⟨ok_tattlerlaw10_TableJoins, ok_tattlerlaw10_light, ok_tattlerlaw10_awake, ok_table_New, ok_table_Table_Join, ok_tattlerref5_Table_Join, ok_tattlerref5_Same, ok_tattlerlaw10_reap, ok_tattlerref5_SameEntries, ok_table_Table_All, ok_table_Table_Len, ok_table_Table_Bucket, ok_tattlerref5_Table_Bucket, ok_table_Table_Get, ok_tattlerref5_Table_Get, ok_sibs_MayEntry, ok_sibs_Join, ok_table_copied, ok_sibs_Same, ok_tattlerref5_MayEntry, ok_tattlerref5_Table_At, ok_tattlerref5_Join, ok_table_Table_Reap, ok_tattlerref5_Table_Reap, ok_maps_Keys_map_string_api_Sibs_string_api_Sibs, ok_slices_DeleteFunc_api_Entry_api_Entry, ok_table_Table_Bucket_c1, ok_keys_Bucket, ok_tattlerref5_Bucket, ok_sibs_May, ok_sibs_find, ok_sibs_own, ok_sibs_better, ok_vector_Covers, ok_vector_Join, ok_slices_EqualFunc_api_Value_api_Value_api_Value_api_Value, ok_sibs_Same_c1, ok_bytes_Equal, ok_tattlerref5_MayKey, ok_tattlerref5_May, ok_tattlerref1_Join, ok_tattlerref5_find, ok_tattlerref5_insert, ok_tattlerref5_copied, ok_tattlerref5_first, ok_tattlerref1_Covers, ok_sibs_Reap, ok_tattlerref5_Reap, ok_slices_IndexFunc_api_Entry_api_Entry, ok_vector_May, ok_sibs_mayValue, ok_vector_Less, ok_slices_Clone_byte_byte, ok_bytes_Compare, ok_vector_is, ok_tattlerref1_May, ok_tattlerref1_Less, ok_slices_ContainsFunc_api_Value_api_Value, ok_sibs_Reap_c1, ok_sibs_copied, ok_tattlerref5_Live, ok_cmp_Or_int, ok_cmp_Compare_int, ok_cmp_Compare_int64, ok_slices_IndexFunc_api_Value_api_Value, ok_cmp_isNaN_int, ok_cmp_isNaN_int64, trivial⟩
theorem fn_tattlerlaw10_TableJoins : E.fn F.tattlerlaw10_TableJoins = some c_tattlerlaw10_TableJoins := rfl
theorem fn_tattlerlaw10_light : E.fn F.tattlerlaw10_light = some c_tattlerlaw10_light := rfl
theorem fn_tattlerlaw10_awake : E.fn F.tattlerlaw10_awake = some c_tattlerlaw10_awake := rfl
theorem fn_table_New : E.fn F.table_New = some c_table_New := rfl
theorem fn_table_Table_Join : E.fn F.table_Table_Join = some c_table_Table_Join := rfl
theorem fn_tattlerref5_Table_Join : E.fn F.tattlerref5_Table_Join = some c_tattlerref5_Table_Join := rfl
theorem fn_tattlerref5_Same : E.fn F.tattlerref5_Same = some c_tattlerref5_Same := rfl
theorem fn_tattlerlaw10_reap : E.fn F.tattlerlaw10_reap = some c_tattlerlaw10_reap := rfl
theorem fn_tattlerref5_SameEntries : E.fn F.tattlerref5_SameEntries = some c_tattlerref5_SameEntries := rfl
theorem fn_table_Table_All : E.fn F.table_Table_All = some c_table_Table_All := rfl
theorem fn_table_Table_Len : E.fn F.table_Table_Len = some c_table_Table_Len := rfl
theorem fn_table_Table_Bucket : E.fn F.table_Table_Bucket = some c_table_Table_Bucket := rfl
theorem fn_tattlerref5_Table_Bucket : E.fn F.tattlerref5_Table_Bucket = some c_tattlerref5_Table_Bucket := rfl
theorem fn_table_Table_Get : E.fn F.table_Table_Get = some c_table_Table_Get := rfl
theorem fn_tattlerref5_Table_Get : E.fn F.tattlerref5_Table_Get = some c_tattlerref5_Table_Get := rfl
theorem fn_sibs_MayEntry : E.fn F.sibs_MayEntry = some c_sibs_MayEntry := rfl
theorem fn_sibs_Join : E.fn F.sibs_Join = some c_sibs_Join := rfl
theorem fn_table_copied : E.fn F.table_copied = some c_table_copied := rfl
theorem fn_sibs_Same : E.fn F.sibs_Same = some c_sibs_Same := rfl
theorem fn_tattlerref5_MayEntry : E.fn F.tattlerref5_MayEntry = some c_tattlerref5_MayEntry := rfl
theorem fn_tattlerref5_Table_At : E.fn F.tattlerref5_Table_At = some c_tattlerref5_Table_At := rfl
theorem fn_tattlerref5_Join : E.fn F.tattlerref5_Join = some c_tattlerref5_Join := rfl
theorem fn_table_Table_Reap : E.fn F.table_Table_Reap = some c_table_Table_Reap := rfl
theorem fn_tattlerref5_Table_Reap : E.fn F.tattlerref5_Table_Reap = some c_tattlerref5_Table_Reap := rfl
theorem fn_maps_Keys_map_string_api_Sibs_string_api_Sibs : E.fn F.maps_Keys_map_string_api_Sibs_string_api_Sibs = some c_maps_Keys_map_string_api_Sibs_string_api_Sibs := rfl
theorem fn_slices_DeleteFunc_api_Entry_api_Entry : E.fn F.slices_DeleteFunc_api_Entry_api_Entry = some c_slices_DeleteFunc_api_Entry_api_Entry := rfl
theorem fn_table_Table_Bucket_c1 : E.fn F.table_Table_Bucket_c1 = some c_table_Table_Bucket_c1 := rfl
theorem fn_keys_Bucket : E.fn F.keys_Bucket = some c_keys_Bucket := rfl
theorem fn_tattlerref5_Bucket : E.fn F.tattlerref5_Bucket = some c_tattlerref5_Bucket := rfl
theorem fn_sibs_May : E.fn F.sibs_May = some c_sibs_May := rfl
theorem fn_sibs_find : E.fn F.sibs_find = some c_sibs_find := rfl
theorem fn_sibs_own : E.fn F.sibs_own = some c_sibs_own := rfl
theorem fn_sibs_better : E.fn F.sibs_better = some c_sibs_better := rfl
theorem fn_vector_Covers : E.fn F.vector_Covers = some c_vector_Covers := rfl
theorem fn_vector_Join : E.fn F.vector_Join = some c_vector_Join := rfl
theorem fn_slices_EqualFunc_api_Value_api_Value_api_Value_api_Value : E.fn F.slices_EqualFunc_api_Value_api_Value_api_Value_api_Value = some c_slices_EqualFunc_api_Value_api_Value_api_Value_api_Value := rfl
theorem fn_sibs_Same_c1 : E.fn F.sibs_Same_c1 = some c_sibs_Same_c1 := rfl
theorem fn_bytes_Equal : E.fn F.bytes_Equal = some c_bytes_Equal := rfl
theorem fn_tattlerref5_MayKey : E.fn F.tattlerref5_MayKey = some c_tattlerref5_MayKey := rfl
theorem fn_tattlerref5_May : E.fn F.tattlerref5_May = some c_tattlerref5_May := rfl
theorem fn_tattlerref1_Join : E.fn F.tattlerref1_Join = some c_tattlerref1_Join := rfl
theorem fn_tattlerref5_find : E.fn F.tattlerref5_find = some c_tattlerref5_find := rfl
theorem fn_tattlerref5_insert : E.fn F.tattlerref5_insert = some c_tattlerref5_insert := rfl
theorem fn_tattlerref5_copied : E.fn F.tattlerref5_copied = some c_tattlerref5_copied := rfl
theorem fn_tattlerref5_first : E.fn F.tattlerref5_first = some c_tattlerref5_first := rfl
theorem fn_tattlerref1_Covers : E.fn F.tattlerref1_Covers = some c_tattlerref1_Covers := rfl
theorem fn_sibs_Reap : E.fn F.sibs_Reap = some c_sibs_Reap := rfl
theorem fn_tattlerref5_Reap : E.fn F.tattlerref5_Reap = some c_tattlerref5_Reap := rfl
theorem fn_slices_IndexFunc_api_Entry_api_Entry : E.fn F.slices_IndexFunc_api_Entry_api_Entry = some c_slices_IndexFunc_api_Entry_api_Entry := rfl
theorem fn_vector_May : E.fn F.vector_May = some c_vector_May := rfl
theorem fn_sibs_mayValue : E.fn F.sibs_mayValue = some c_sibs_mayValue := rfl
theorem fn_vector_Less : E.fn F.vector_Less = some c_vector_Less := rfl
theorem fn_slices_Clone_byte_byte : E.fn F.slices_Clone_byte_byte = some c_slices_Clone_byte_byte := rfl
theorem fn_bytes_Compare : E.fn F.bytes_Compare = some c_bytes_Compare := rfl
theorem fn_vector_is : E.fn F.vector_is = some c_vector_is := rfl
theorem fn_tattlerref1_May : E.fn F.tattlerref1_May = some c_tattlerref1_May := rfl
theorem fn_tattlerref1_Less : E.fn F.tattlerref1_Less = some c_tattlerref1_Less := rfl
theorem fn_slices_ContainsFunc_api_Value_api_Value : E.fn F.slices_ContainsFunc_api_Value_api_Value = some c_slices_ContainsFunc_api_Value_api_Value := rfl
theorem fn_sibs_Reap_c1 : E.fn F.sibs_Reap_c1 = some c_sibs_Reap_c1 := rfl
theorem fn_sibs_copied : E.fn F.sibs_copied = some c_sibs_copied := rfl
theorem fn_tattlerref5_Live : E.fn F.tattlerref5_Live = some c_tattlerref5_Live := rfl
theorem fn_cmp_Or_int : E.fn F.cmp_Or_int = some c_cmp_Or_int := rfl
theorem fn_cmp_Compare_int : E.fn F.cmp_Compare_int = some c_cmp_Compare_int := rfl
theorem fn_cmp_Compare_int64 : E.fn F.cmp_Compare_int64 = some c_cmp_Compare_int64 := rfl
theorem fn_slices_IndexFunc_api_Value_api_Value : E.fn F.slices_IndexFunc_api_Value_api_Value = some c_slices_IndexFunc_api_Value_api_Value := rfl
theorem fn_cmp_isNaN_int : E.fn F.cmp_isNaN_int = some c_cmp_isNaN_int := rfl
theorem fn_cmp_isNaN_int64 : E.fn F.cmp_isNaN_int64 = some c_cmp_isNaN_int64 := rfl
end Go.Proofs.YtionebfmjjpnbaaGreat.V

