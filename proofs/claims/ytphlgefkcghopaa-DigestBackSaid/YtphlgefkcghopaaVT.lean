/- The functions' code as the V-machine has it; the kernel sees that it is theirs. -/
import Derived.Test.YtphlgefkcghopaaVmG4
import Derived.Test.YtphlgefkcghopaaChecked
import Derived.KernelRfl
namespace Go.Proofs.Ytphlgefkcghopaa.V
open Go.Vm
set_option maxRecDepth 100000
set_option linter.unusedVariables false
set_option linter.unusedSimpArgs false
def F.bytes_Equal : Nat := 52
def F.cmp_Compare_int : Nat := 100
def F.cmp_Compare_int64 : Nat := 101
def F.cmp_Or_int : Nat := 99
def F.cmp_isNaN_int : Nat := 109
def F.cmp_isNaN_int64 : Nat := 110
def F.digest_Lacks : Nat := 32
def F.digest_Lacks_c1 : Nat := 55
def F.digest_May : Nat := 38
def F.digest_Of : Nat := 30
def F.digest_Read : Nat := 37
def F.digest_Send : Nat := 23
def F.digest_Size : Nat := 25
def F.digest_Write : Nat := 34
def F.digest_copied : Nat := 44
def F.digest_dots : Nat := 49
def F.digest_lacked : Nat := 43
def F.digest_lacked_c1 : Nat := 82
def F.keys_May : Nat := 69
def F.sibs_Same : Nat := 31
def F.sibs_Same_c1 : Nat := 51
def F.sibs_Write : Nat := 83
def F.sibs_WriteEntry : Nat := 46
def F.slices_Clone_byte_byte : Nat := 62
def F.slices_ContainsFunc_api_Dot_api_Dot : Nat := 54
def F.slices_Contains_api_Dot_api_Dot : Nat := 57
def F.slices_EqualFunc_api_Value_api_Value_api_Value_api_Value : Nat := 50
def F.slices_IndexFunc_api_Digest_api_Digest : Nat := 81
def F.slices_IndexFunc_api_Dot_api_Dot : Nat := 90
def F.slices_Index_api_Dot_api_Dot : Nat := 92
def F.tattlerlaw13_DigestBack : Nat := 11
def F.tattlerlaw13_DigestBelow : Nat := 9
def F.tattlerlaw13_DigestGrows : Nat := 8
def F.tattlerlaw13_DigestOrder : Nat := 10
def F.tattlerlaw13_DigestPart : Nat := 7
def F.tattlerlaw13_agree : Nat := 29
def F.tattlerlaw13_awake : Nat := 22
def F.tattlerlaw13_light : Nat := 20
def F.tattlerlaw13_may : Nat := 26
def F.tattlerlaw13_thin : Nat := 21
def F.tattlerref1_Covers : Nat := 89
def F.tattlerref1_Join : Nat := 84
def F.tattlerref1_Less : Nat := 103
def F.tattlerref1_May : Nat := 102
def F.tattlerref5_Join : Nat := 48
def F.tattlerref5_May : Nat := 74
def F.tattlerref5_MayEntry : Nat := 41
def F.tattlerref5_MayKey : Nat := 73
def F.tattlerref5_Same : Nat := 45
def F.tattlerref5_SameDigests : Nat := 39
def F.tattlerref5_SameDots : Nat := 72
def F.tattlerref5_SameEntries : Nat := 24
def F.tattlerref5_Table_At : Nat := 47
def F.tattlerref5_Table_Get : Nat := 28
def F.tattlerref5_Table_Join : Nat := 27
def F.tattlerref5_copied : Nat := 87
def F.tattlerref5_find : Nat := 85
def F.tattlerref5_first : Nat := 88
def F.tattlerref5_insert : Nat := 86
def F.vector_Covers : Nat := 56
def F.vector_Join : Nat := 80
def F.vector_Leq : Nat := 53
def F.vector_Less : Nat := 71
def F.vector_May : Nat := 70
def F.vector_Read : Nat := 64
def F.vector_Write : Nat := 59
def F.vector_good : Nat := 97
def F.vector_is : Nat := 91
def F.wire_NewReader : Nat := 36
def F.wire_NewWriter : Nat := 33
def F.wire_Reader_Count : Nat := 65
def F.wire_Reader_End : Nat := 40
def F.wire_Reader_Int : Nat := 67
def F.wire_Reader_Left : Nat := 68
def F.wire_Reader_Num : Nat := 66
def F.wire_Reader_Text : Nat := 63
def F.wire_Reader_byte : Nat := 98
def F.wire_Reader_fail : Nat := 96
def F.wire_Reader_ok : Nat := 95
def F.wire_Writer_Done : Nat := 35
def F.wire_Writer_Flag : Nat := 108
def F.wire_Writer_Int : Nat := 61
def F.wire_Writer_Num : Nat := 60
def F.wire_Writer_Text : Nat := 58
def F.wire_Writer_put : Nat := 93
def F.wire_num : Nat := 94
def c_tattlerlaw13_DigestPart_l0 : VCode := (.seq (.ops [⟨some 55, none, .bin .lss .no (.r 54) (.r 53)⟩] [2, 7, 8, 9, 52, 53, 54, 55])
  (.seq (.cond (.r 55) .skip (.exit 0))
  (.seq (.block 1 (.seq (.ops [⟨some 56, none, .iaddr none 10 (.r 52) (.r 54)⟩,
        ⟨some 57, none, .load true 10 (.r 56)⟩,
        ⟨some 11, none, .alloc [(.str []), (.int .i64 0), (.int .i64 0), (.int .i64 0), (.int .i64 0), (.int .i64 0), (.int .i64 0), (.int .i64 0), (.int .i64 0), (.sl [])] []⟩,
        ⟨none, none, .store 10 (.r 11) (.r 57) [] none⟩] [2, 7, 8, 9, 11, 52, 53, 54])
      (.ops [⟨some 58, none, .mv (.r 9)⟩,
      ⟨some 59, none, .load true 10 (.r 11)⟩,
      ⟨some 60, none, .call false F.digest_Size [(.r 59)]⟩,
      ⟨some 61, none, .bin .add .no (.r 58) (.r 60)⟩,
      ⟨some 9, none, .asg (.r 61)⟩] [2, 7, 8, 9, 52, 53, 54])))
  (.ops [⟨some 62, none, .bin .add .no (.r 54) (.c (.int .i64 1))⟩,
  ⟨some 54, none, .mv (.r 62)⟩] [2, 7, 8, 9, 52, 53, 54]))))
/-- tattler/tattlerlaw13.DigestPart -/
def c_tattlerlaw13_DigestPart : VFun := ⟨3,
  (.seq (.ops [⟨some 6, none, .asg (.c (.bool false))⟩] [0, 1, 2])
  (.seq (.seq (.ops [⟨some 12, none, .mv (.r 0)⟩,
      ⟨some 13, none, .call false F.tattlerlaw13_light [(.r 12)]⟩,
      ⟨some 14, none, .un .not (.r 13)⟩,
      ⟨some 15, none, .mv (.r 14)⟩,
      ⟨some 16, some (15, false), .mv (.r 1)⟩,
      ⟨some 17, some (15, false), .call false F.tattlerlaw13_thin [(.r 16)]⟩,
      ⟨some 18, some (15, false), .un .not (.r 17)⟩,
      ⟨some 19, none, .pick (.r 15) (.c (.bool true)) (.r 18)⟩] [0, 1, 2, 19])
    (.cond (.r 19) (.seq (.ops [⟨some 20, none, .call false F.tattlerlaw13_awake []⟩,
        ⟨some 6, none, .asg (.r 20)⟩] [6])
      .ret) .skip))
  (.seq (.ops [⟨some 21, none, .mv (.r 0)⟩,
    ⟨some 22, none, .mv (.r 1)⟩,
    ⟨some 23, none, .call false F.digest_Send [(.r 21), (.r 22), (.c (.int .i64 1099511627776))]⟩,
    ⟨some 24, none, .mv (.r 0)⟩,
    ⟨some 25, none, .mv (.r 1)⟩,
    ⟨some 26, none, .mv (.r 2)⟩,
    ⟨some 27, none, .call false F.digest_Send [(.r 24), (.r 25), (.r 26)]⟩,
    ⟨some 7, none, .asg (.r 23)⟩,
    ⟨some 8, none, .asg (.r 27)⟩] [2, 7, 8])
  (.seq (.seq (.ops [⟨some 28, none, .mv (.r 8)⟩,
      ⟨some 29, none, .len .sl (.r 28)⟩,
      ⟨some 30, none, .mv (.r 7)⟩,
      ⟨some 31, none, .len .sl (.r 30)⟩,
      ⟨some 32, none, .bin .gtr .no (.r 29) (.r 31)⟩,
      ⟨some 33, none, .mv (.r 32)⟩,
      ⟨some 34, some (33, false), .mv (.r 7)⟩,
      ⟨some 35, some (33, false), .len .sl (.r 34)⟩,
      ⟨some 36, some (33, false), .bin .gtr .no (.r 35) (.c (.int .i64 0))⟩,
      ⟨some 37, some (33, false), .mv (.r 36)⟩,
      ⟨some 38, some (37, true), .mv (.r 8)⟩,
      ⟨some 39, some (37, true), .len .sl (.r 38)⟩,
      ⟨some 40, some (37, true), .bin .eql .no (.r 39) (.c (.int .i64 0))⟩,
      ⟨some 41, some (33, false), .pick (.r 37) (.r 40) (.c (.bool false))⟩,
      ⟨some 42, none, .pick (.r 33) (.c (.bool true)) (.r 41)⟩,
      ⟨some 43, none, .mv (.r 42)⟩,
      ⟨some 44, some (43, false), .mv (.r 8)⟩,
      ⟨some 45, some (43, false), .mv (.r 7)⟩,
      ⟨some 46, some (43, false), .mv (.r 8)⟩,
      ⟨some 47, some (43, false), .len .sl (.r 46)⟩,
      ⟨some 48, some (43, false), .slice false 10 (.r 45) none (some (.r 47)) none⟩,
      ⟨some 49, some (43, false), .call false F.tattlerref5_SameEntries [(.r 44), (.r 48)]⟩,
      ⟨some 50, some (43, false), .un .not (.r 49)⟩,
      ⟨some 51, none, .pick (.r 43) (.c (.bool true)) (.r 50)⟩] [2, 7, 8, 51])
    (.cond (.r 51) (.seq (.ops [⟨some 6, none, .asg (.c (.bool false))⟩] [6])
      .ret) .skip))
  (.seq (.ops [⟨some 9, none, .asg (.c (.int .i64 0))⟩] [2, 7, 8, 9])
  (.seq (.seq (.ops [⟨some 52, none, .mv (.r 8)⟩,
      ⟨some 53, none, .len .sl (.r 52)⟩,
      ⟨some 54, none, .mv (.c (.int .i64 0))⟩] [2, 7, 8, 9, 52, 53, 54])
    (.block 0 (.loop [2, 7, 8, 9, 52, 53, 54] [] c_tattlerlaw13_DigestPart_l0)))
  (.seq (.ops [⟨some 63, none, .mv (.r 8)⟩,
    ⟨some 64, none, .len .sl (.r 63)⟩,
    ⟨some 65, none, .bin .leq .no (.r 64) (.c (.int .i64 1))⟩,
    ⟨some 66, none, .mv (.r 65)⟩,
    ⟨some 67, some (66, false), .mv (.r 9)⟩,
    ⟨some 68, some (66, false), .mv (.r 2)⟩,
    ⟨some 69, some (66, false), .bin .leq .no (.r 67) (.r 68)⟩,
    ⟨some 70, none, .pick (.r 66) (.c (.bool true)) (.r 69)⟩,
    ⟨some 71, none, .mv (.r 70)⟩,
    ⟨some 72, some (71, true), .mv (.r 8)⟩,
    ⟨some 73, some (71, true), .len .sl (.r 72)⟩,
    ⟨some 74, some (71, true), .mv (.r 7)⟩,
    ⟨some 75, some (71, true), .len .sl (.r 74)⟩,
    ⟨some 76, some (71, true), .bin .eql .no (.r 73) (.r 75)⟩,
    ⟨some 77, some (71, true), .mv (.r 76)⟩,
    ⟨some 78, some (77, false), .mv (.r 9)⟩,
    ⟨some 79, some (77, false), .mv (.r 7)⟩,
    ⟨some 80, some (77, false), .mv (.r 8)⟩,
    ⟨some 81, some (77, false), .len .sl (.r 80)⟩,
    ⟨some 82, some (77, false), .iaddr none 10 (.r 79) (.r 81)⟩,
    ⟨some 83, some (77, false), .load true 10 (.r 82)⟩,
    ⟨some 84, some (77, false), .call false F.digest_Size [(.r 83)]⟩,
    ⟨some 85, some (77, false), .bin .add .no (.r 78) (.r 84)⟩,
    ⟨some 86, some (77, false), .mv (.r 2)⟩,
    ⟨some 87, some (77, false), .bin .gtr .no (.r 85) (.r 86)⟩,
    ⟨some 88, some (71, true), .pick (.r 77) (.c (.bool true)) (.r 87)⟩,
    ⟨some 89, none, .pick (.r 71) (.r 88) (.c (.bool false))⟩,
    ⟨some 90, none, .mv (.r 89)⟩,
    ⟨some 91, some (90, true), .call false F.tattlerlaw13_awake []⟩,
    ⟨some 92, none, .pick (.r 90) (.r 91) (.c (.bool false))⟩,
    ⟨some 6, none, .asg (.r 92)⟩] [6])
  .ret))))))),
  [.r 6], none⟩
def c_tattlerlaw13_DigestGrows_l0 : VCode := (.seq (.ops [⟨some 46, none, .bin .lss .no (.r 45) (.r 44)⟩] [1, 5, 6, 7, 43, 44, 45, 46])
  (.seq (.cond (.r 46) .skip (.exit 0))
  (.seq (.block 1 (.seq (.ops [⟨some 47, none, .iaddr none 10 (.r 43) (.r 45)⟩,
        ⟨some 48, none, .load true 10 (.r 47)⟩,
        ⟨some 9, none, .alloc [(.str []), (.int .i64 0), (.int .i64 0), (.int .i64 0), (.int .i64 0), (.int .i64 0), (.int .i64 0), (.int .i64 0), (.int .i64 0), (.sl [])] []⟩,
        ⟨none, none, .store 10 (.r 9) (.r 48) [] none⟩] [1, 5, 6, 7, 9, 43, 44, 45])
      (.seq (.ops [⟨some 49, none, .mv (.r 5)⟩,
        ⟨some 50, none, .load true 10 (.r 9)⟩,
        ⟨some 51, none, .call false F.tattlerref5_Table_Join [(.r 49), (.r 50)]⟩] [1, 5, 6, 7, 9, 43, 44, 45])
      (.ops [⟨some 52, none, .mv (.r 7)⟩,
      ⟨some 53, none, .faddr 1 (.r 9)⟩,
      ⟨some 54, none, .faddr 8 (.r 53)⟩,
      ⟨some 55, none, .load false 1 (.r 54)⟩,
      ⟨some 56, none, .len .sl (.r 55)⟩,
      ⟨some 57, none, .bin .add .no (.r 52) (.r 56)⟩,
      ⟨some 7, none, .asg (.r 57)⟩] [1, 5, 6, 7, 43, 44, 45]))))
  (.ops [⟨some 58, none, .bin .add .no (.r 45) (.c (.int .i64 1))⟩,
  ⟨some 45, none, .mv (.r 58)⟩] [1, 5, 6, 7, 43, 44, 45]))))
def c_tattlerlaw13_DigestGrows_l1 : VCode := (.seq (.ops [⟨some 62, none, .bin .lss .no (.r 61) (.r 60)⟩] [5, 6, 7, 59, 60, 61, 62])
  (.seq (.cond (.r 62) .skip (.exit 2))
  (.seq (.block 3 (.seq (.ops [⟨some 63, none, .iaddr none 10 (.r 59) (.r 61)⟩,
        ⟨some 64, none, .load true 10 (.r 63)⟩,
        ⟨some 11, none, .alloc [(.str []), (.int .i64 0), (.int .i64 0), (.int .i64 0), (.int .i64 0), (.int .i64 0), (.int .i64 0), (.int .i64 0), (.int .i64 0), (.sl [])] []⟩,
        ⟨none, none, .store 10 (.r 11) (.r 64) [] none⟩] [5, 6, 7, 11, 59, 60, 61])
      (.seq (.ops [⟨some 65, none, .mv (.r 6)⟩,
        ⟨some 66, none, .load true 10 (.r 11)⟩,
        ⟨some 67, none, .call false F.tattlerref5_Table_Join [(.r 65), (.r 66)]⟩] [5, 6, 7, 11, 59, 60, 61])
      (.ops [⟨some 68, none, .mv (.r 7)⟩,
      ⟨some 69, none, .faddr 1 (.r 11)⟩,
      ⟨some 70, none, .faddr 8 (.r 69)⟩,
      ⟨some 71, none, .load false 1 (.r 70)⟩,
      ⟨some 72, none, .len .sl (.r 71)⟩,
      ⟨some 73, none, .bin .add .no (.r 68) (.r 72)⟩,
      ⟨some 7, none, .asg (.r 73)⟩] [5, 6, 7, 59, 60, 61]))))
  (.ops [⟨some 74, none, .bin .add .no (.r 61) (.c (.int .i64 1))⟩,
  ⟨some 61, none, .mv (.r 74)⟩] [5, 6, 7, 59, 60, 61]))))
def c_tattlerlaw13_DigestGrows_l2 : VCode := (.seq (.ops [⟨some 81, none, .bin .lss .no (.r 80) (.r 79)⟩] [5, 6, 7, 78, 79, 80, 81])
  (.seq (.cond (.r 81) .skip (.exit 4))
  (.seq (.block 5 (.seq (.ops [⟨some 82, none, .iaddr none 10 (.r 78) (.r 80)⟩,
        ⟨some 83, none, .load true 10 (.r 82)⟩,
        ⟨some 13, none, .alloc [(.str []), (.int .i64 0), (.int .i64 0), (.int .i64 0), (.int .i64 0), (.int .i64 0), (.int .i64 0), (.int .i64 0), (.int .i64 0), (.sl [])] []⟩,
        ⟨none, none, .store 10 (.r 13) (.r 83) [] none⟩] [5, 6, 7, 13, 78, 79, 80])
      (.seq (.ops [⟨some 85, none, .mv (.r 6)⟩,
        ⟨some 86, none, .faddr 0 (.r 13)⟩,
        ⟨some 87, none, .load false 1 (.r 86)⟩,
        ⟨some 88, none, .call false F.tattlerref5_Table_Get [(.r 85), (.r 87)]⟩,
        ⟨some 84, none, .mv (.r 88)⟩,
        ⟨some 89, none, .extract 0 (.r 84)⟩,
        ⟨some 90, none, .extract 1 (.r 84)⟩,
        ⟨some 14, none, .alloc [(.int .i64 0), (.int .i64 0), (.int .i64 0), (.int .i64 0), (.int .i64 0), (.int .i64 0), (.int .i64 0), (.int .i64 0), (.sl [])] []⟩,
        ⟨none, none, .store 9 (.r 14) (.r 89) [] none⟩,
        ⟨some 15, none, .asg (.r 90)⟩] [5, 6, 7, 13, 14, 15, 78, 79, 80])
      (.seq (.ops [⟨some 91, none, .mv (.r 15)⟩,
        ⟨some 92, none, .mv (.r 91)⟩,
        ⟨some 93, some (92, true), .faddr 1 (.r 13)⟩,
        ⟨some 94, some (92, true), .load true 9 (.r 93)⟩,
        ⟨some 95, some (92, true), .load true 9 (.r 14)⟩,
        ⟨some 96, some (92, true), .call false F.tattlerlaw13_agree [(.r 94), (.r 95)]⟩,
        ⟨some 97, some (92, true), .un .not (.r 96)⟩,
        ⟨some 98, none, .pick (.r 92) (.r 97) (.c (.bool false))⟩] [5, 6, 7, 78, 79, 80, 98])
      (.cond (.r 98) (.seq (.ops [⟨some 99, none, .call false F.tattlerlaw13_awake []⟩,
          ⟨some 4, none, .asg (.r 99)⟩] [4])
        .ret) .skip)))))
  (.ops [⟨some 100, none, .bin .add .no (.r 80) (.c (.int .i64 1))⟩,
  ⟨some 80, none, .mv (.r 100)⟩] [5, 6, 7, 78, 79, 80]))))
def c_tattlerlaw13_DigestGrows_l3 : VCode := (.seq (.ops [⟨some 116, none, .bin .lss .no (.r 115) (.r 114)⟩] [5, 6, 113, 114, 115, 116])
  (.seq (.cond (.r 116) .skip (.exit 6))
  (.seq (.block 7 (.seq (.ops [⟨some 117, none, .iaddr none 10 (.r 113) (.r 115)⟩,
        ⟨some 118, none, .load true 10 (.r 117)⟩,
        ⟨some 17, none, .alloc [(.str []), (.int .i64 0), (.int .i64 0), (.int .i64 0), (.int .i64 0), (.int .i64 0), (.int .i64 0), (.int .i64 0), (.int .i64 0), (.sl [])] []⟩,
        ⟨none, none, .store 10 (.r 17) (.r 118) [] none⟩] [5, 6, 17, 113, 114, 115])
      (.ops [⟨some 119, none, .mv (.r 6)⟩,
      ⟨some 120, none, .load true 10 (.r 17)⟩,
      ⟨some 121, none, .call false F.tattlerref5_Table_Join [(.r 119), (.r 120)]⟩] [5, 6, 113, 114, 115])))
  (.ops [⟨some 122, none, .bin .add .no (.r 115) (.c (.int .i64 1))⟩,
  ⟨some 115, none, .mv (.r 122)⟩] [5, 6, 113, 114, 115]))))
def c_tattlerlaw13_DigestGrows_l4 : VCode := (.seq (.ops [⟨some 135, none, .bin .lss .no (.r 134) (.r 133)⟩] [5, 6, 132, 133, 134, 135])
  (.seq (.cond (.r 135) .skip (.exit 8))
  (.seq (.block 9 (.seq (.ops [⟨some 136, none, .iaddr none 10 (.r 132) (.r 134)⟩,
        ⟨some 137, none, .load true 10 (.r 136)⟩,
        ⟨some 19, none, .alloc [(.str []), (.int .i64 0), (.int .i64 0), (.int .i64 0), (.int .i64 0), (.int .i64 0), (.int .i64 0), (.int .i64 0), (.int .i64 0), (.sl [])] []⟩,
        ⟨none, none, .store 10 (.r 19) (.r 137) [] none⟩] [5, 6, 19, 132, 133, 134])
      (.ops [⟨some 138, none, .mv (.r 5)⟩,
      ⟨some 139, none, .load true 10 (.r 19)⟩,
      ⟨some 140, none, .call false F.tattlerref5_Table_Join [(.r 138), (.r 139)]⟩] [5, 6, 132, 133, 134])))
  (.ops [⟨some 141, none, .bin .add .no (.r 134) (.c (.int .i64 1))⟩,
  ⟨some 134, none, .mv (.r 141)⟩] [5, 6, 132, 133, 134]))))
/-- tattler/tattlerlaw13.DigestGrows -/
def c_tattlerlaw13_DigestGrows : VFun := ⟨2,
  (.seq (.ops [⟨some 4, none, .asg (.c (.bool false))⟩] [0, 1])
  (.seq (.seq (.ops [⟨some 20, none, .mv (.r 0)⟩,
      ⟨some 21, none, .call false F.tattlerlaw13_light [(.r 20)]⟩,
      ⟨some 22, none, .un .not (.r 21)⟩,
      ⟨some 23, none, .mv (.r 22)⟩,
      ⟨some 24, some (23, false), .mv (.r 1)⟩,
      ⟨some 25, some (23, false), .call false F.tattlerlaw13_light [(.r 24)]⟩,
      ⟨some 26, some (23, false), .un .not (.r 25)⟩,
      ⟨some 27, none, .pick (.r 23) (.c (.bool true)) (.r 26)⟩,
      ⟨some 28, none, .mv (.r 27)⟩,
      ⟨some 29, some (28, false), .mv (.r 0)⟩,
      ⟨some 30, some (28, false), .call false F.tattlerlaw13_may [(.r 29)]⟩,
      ⟨some 31, some (28, false), .un .not (.r 30)⟩,
      ⟨some 32, none, .pick (.r 28) (.c (.bool true)) (.r 31)⟩,
      ⟨some 33, none, .mv (.r 32)⟩,
      ⟨some 34, some (33, false), .mv (.r 1)⟩,
      ⟨some 35, some (33, false), .call false F.tattlerlaw13_may [(.r 34)]⟩,
      ⟨some 36, some (33, false), .un .not (.r 35)⟩,
      ⟨some 37, none, .pick (.r 33) (.c (.bool true)) (.r 36)⟩] [0, 1, 37])
    (.cond (.r 37) (.seq (.ops [⟨some 38, none, .call false F.tattlerlaw13_awake []⟩,
        ⟨some 4, none, .asg (.r 38)⟩] [4])
      .ret) .skip))
  (.seq (.ops [⟨some 39, none, .build [(.sl [])] []⟩,
    ⟨some 40, none, .box 1 (.r 39)⟩,
    ⟨some 41, none, .build [(.sl [])] []⟩,
    ⟨some 42, none, .box 1 (.r 41)⟩,
    ⟨some 5, none, .asg (.r 40)⟩,
    ⟨some 6, none, .asg (.r 42)⟩] [0, 1, 5, 6])
  (.seq (.ops [⟨some 7, none, .asg (.c (.int .i64 0))⟩] [0, 1, 5, 6, 7])
  (.seq (.seq (.ops [⟨some 43, none, .mv (.r 0)⟩,
      ⟨some 44, none, .len .sl (.r 43)⟩,
      ⟨some 45, none, .mv (.c (.int .i64 0))⟩] [1, 5, 6, 7, 43, 44, 45])
    (.block 0 (.loop [1, 5, 6, 7, 43, 44, 45] [] c_tattlerlaw13_DigestGrows_l0)))
  (.seq (.seq (.ops [⟨some 59, none, .mv (.r 1)⟩,
      ⟨some 60, none, .len .sl (.r 59)⟩,
      ⟨some 61, none, .mv (.c (.int .i64 0))⟩] [5, 6, 7, 59, 60, 61])
    (.block 2 (.loop [5, 6, 7, 59, 60, 61] [] c_tattlerlaw13_DigestGrows_l1)))
  (.seq (.seq (.ops [⟨some 75, none, .mv (.r 5)⟩,
      ⟨some 76, none, .nilck (.r 75)⟩,
      ⟨some 77, none, .faddr 0 (.r 76)⟩,
      ⟨some 78, none, .load false 1 (.r 77)⟩,
      ⟨some 79, none, .len .sl (.r 78)⟩,
      ⟨some 80, none, .mv (.c (.int .i64 0))⟩] [5, 6, 7, 78, 79, 80])
    (.block 4 (.loop [5, 6, 7, 78, 79, 80] [] c_tattlerlaw13_DigestGrows_l2)))
  (.seq (.seq (.ops [⟨some 101, none, .mv (.r 7)⟩,
      ⟨some 102, none, .bin .gtr .no (.r 101) (.c (.int .i64 16))⟩] [5, 6, 102])
    (.cond (.r 102) (.seq (.ops [⟨some 103, none, .call false F.tattlerlaw13_awake []⟩,
        ⟨some 4, none, .asg (.r 103)⟩] [4])
      .ret) .skip))
  (.seq (.seq (.dops 12 [⟨some 104, none, .mv (.r 5)⟩,
      ⟨some 105, none, .nilck (.r 104)⟩,
      ⟨some 106, none, .faddr 0 (.r 105)⟩,
      ⟨some 107, none, .load false 1 (.r 106)⟩,
      ⟨some 108, none, .mv (.r 6)⟩,
      ⟨some 109, none, .nilck (.r 108)⟩,
      ⟨some 110, none, .faddr 0 (.r 109)⟩,
      ⟨some 111, none, .load false 1 (.r 110)⟩,
      ⟨some 112, none, .call true F.digest_Of [(.r 111)]⟩,
      ⟨some 113, none, .call true F.digest_Send [(.r 107), (.r 112), (.c (.int .i64 1073741824))]⟩,
      ⟨some 114, none, .len .sl (.r 113)⟩,
      ⟨some 115, none, .mv (.c (.int .i64 0))⟩] [5, 6, 113, 114, 115])
    (.block 6 (.loop [5, 6, 113, 114, 115] [] c_tattlerlaw13_DigestGrows_l3)))
  (.seq (.seq (.dops 12 [⟨some 123, none, .mv (.r 6)⟩,
      ⟨some 124, none, .nilck (.r 123)⟩,
      ⟨some 125, none, .faddr 0 (.r 124)⟩,
      ⟨some 126, none, .load false 1 (.r 125)⟩,
      ⟨some 127, none, .mv (.r 5)⟩,
      ⟨some 128, none, .nilck (.r 127)⟩,
      ⟨some 129, none, .faddr 0 (.r 128)⟩,
      ⟨some 130, none, .load false 1 (.r 129)⟩,
      ⟨some 131, none, .call true F.digest_Of [(.r 130)]⟩,
      ⟨some 132, none, .call true F.digest_Send [(.r 126), (.r 131), (.c (.int .i64 1073741824))]⟩,
      ⟨some 133, none, .len .sl (.r 132)⟩,
      ⟨some 134, none, .mv (.c (.int .i64 0))⟩] [5, 6, 132, 133, 134])
    (.block 8 (.loop [5, 6, 132, 133, 134] [] c_tattlerlaw13_DigestGrows_l4)))
  (.seq (.dops 35 [⟨some 142, none, .mv (.r 5)⟩,
    ⟨some 143, none, .nilck (.r 142)⟩,
    ⟨some 144, none, .faddr 0 (.r 143)⟩,
    ⟨some 145, none, .load false 1 (.r 144)⟩,
    ⟨some 146, none, .mv (.r 6)⟩,
    ⟨some 147, none, .nilck (.r 146)⟩,
    ⟨some 148, none, .faddr 0 (.r 147)⟩,
    ⟨some 149, none, .load false 1 (.r 148)⟩,
    ⟨some 150, none, .call true F.digest_Of [(.r 149)]⟩,
    ⟨some 151, none, .call true F.digest_Send [(.r 145), (.r 150), (.c (.int .i64 1073741824))]⟩,
    ⟨some 152, none, .len .sl (.r 151)⟩,
    ⟨some 153, none, .bin .eql .no (.r 152) (.c (.int .i64 0))⟩,
    ⟨some 154, none, .mv (.r 153)⟩,
    ⟨some 155, some (154, true), .mv (.r 6)⟩,
    ⟨some 156, some (154, true), .nilck (.r 155)⟩,
    ⟨some 157, some (154, true), .faddr 0 (.r 156)⟩,
    ⟨some 158, some (154, true), .load false 1 (.r 157)⟩,
    ⟨some 159, some (154, true), .mv (.r 5)⟩,
    ⟨some 160, some (154, true), .nilck (.r 159)⟩,
    ⟨some 161, some (154, true), .faddr 0 (.r 160)⟩,
    ⟨some 162, some (154, true), .load false 1 (.r 161)⟩,
    ⟨some 163, some (154, true), .call true F.digest_Of [(.r 162)]⟩,
    ⟨some 164, some (154, true), .call true F.digest_Send [(.r 158), (.r 163), (.c (.int .i64 1073741824))]⟩,
    ⟨some 165, some (154, true), .len .sl (.r 164)⟩,
    ⟨some 166, some (154, true), .bin .eql .no (.r 165) (.c (.int .i64 0))⟩,
    ⟨some 167, none, .pick (.r 154) (.r 166) (.c (.bool false))⟩,
    ⟨some 168, none, .mv (.r 167)⟩,
    ⟨some 169, some (168, true), .mv (.r 5)⟩,
    ⟨some 170, some (168, true), .nilck (.r 169)⟩,
    ⟨some 171, some (168, true), .faddr 0 (.r 170)⟩,
    ⟨some 172, some (168, true), .load false 1 (.r 171)⟩,
    ⟨some 173, some (168, true), .mv (.r 6)⟩,
    ⟨some 174, some (168, true), .nilck (.r 173)⟩,
    ⟨some 175, some (168, true), .faddr 0 (.r 174)⟩,
    ⟨some 176, some (168, true), .load false 1 (.r 175)⟩,
    ⟨some 177, some (168, true), .call false F.tattlerref5_SameEntries [(.r 172), (.r 176)]⟩,
    ⟨some 178, none, .pick (.r 168) (.r 177) (.c (.bool false))⟩,
    ⟨some 179, none, .mv (.r 178)⟩,
    ⟨some 180, some (179, true), .call false F.tattlerlaw13_awake []⟩,
    ⟨some 181, none, .pick (.r 179) (.r 180) (.c (.bool false))⟩,
    ⟨some 4, none, .asg (.r 181)⟩] [4])
  .ret))))))))))),
  [.r 4], none⟩
def c_tattlerlaw13_DigestBelow_l0 : VCode := (.seq (.ops [⟨some 20, none, .bin .lss .no (.r 19) (.r 18)⟩] [3, 17, 18, 19, 20])
  (.seq (.cond (.r 20) .skip (.exit 0))
  (.seq (.block 1 (.seq (.ops [⟨some 21, none, .iaddr none 10 (.r 17) (.r 19)⟩,
        ⟨some 22, none, .load true 10 (.r 21)⟩,
        ⟨some 5, none, .alloc [(.str []), (.int .i64 0), (.int .i64 0), (.int .i64 0), (.int .i64 0), (.int .i64 0), (.int .i64 0), (.int .i64 0), (.int .i64 0), (.sl [])] []⟩,
        ⟨none, none, .store 10 (.r 5) (.r 22) [] none⟩] [3, 5, 17, 18, 19])
      (.ops [⟨some 23, none, .mv (.r 3)⟩,
      ⟨some 24, none, .load true 10 (.r 5)⟩,
      ⟨some 25, none, .call false F.tattlerref5_Table_Join [(.r 23), (.r 24)]⟩] [3, 17, 18, 19])))
  (.ops [⟨some 26, none, .bin .add .no (.r 19) (.c (.int .i64 1))⟩,
  ⟨some 19, none, .mv (.r 26)⟩] [3, 17, 18, 19]))))
/-- tattler/tattlerlaw13.DigestBelow -/
def c_tattlerlaw13_DigestBelow : VFun := ⟨1,
  (.seq (.ops [⟨some 2, none, .asg (.c (.bool false))⟩] [0])
  (.seq (.seq (.ops [⟨some 6, none, .mv (.r 0)⟩,
      ⟨some 7, none, .call false F.tattlerlaw13_light [(.r 6)]⟩,
      ⟨some 8, none, .un .not (.r 7)⟩,
      ⟨some 9, none, .mv (.r 8)⟩,
      ⟨some 10, some (9, false), .mv (.r 0)⟩,
      ⟨some 11, some (9, false), .call false F.tattlerlaw13_may [(.r 10)]⟩,
      ⟨some 12, some (9, false), .un .not (.r 11)⟩,
      ⟨some 13, none, .pick (.r 9) (.c (.bool true)) (.r 12)⟩] [0, 13])
    (.cond (.r 13) (.seq (.ops [⟨some 14, none, .call false F.tattlerlaw13_awake []⟩,
        ⟨some 2, none, .asg (.r 14)⟩] [2])
      .ret) .skip))
  (.seq (.ops [⟨some 15, none, .build [(.sl [])] []⟩,
    ⟨some 16, none, .box 1 (.r 15)⟩,
    ⟨some 3, none, .asg (.r 16)⟩] [0, 3])
  (.seq (.seq (.ops [⟨some 17, none, .mv (.r 0)⟩,
      ⟨some 18, none, .len .sl (.r 17)⟩,
      ⟨some 19, none, .mv (.c (.int .i64 0))⟩] [3, 17, 18, 19])
    (.block 0 (.loop [3, 17, 18, 19] [] c_tattlerlaw13_DigestBelow_l0)))
  (.seq (.dops 22 [⟨some 27, none, .mv (.r 3)⟩,
    ⟨some 28, none, .nilck (.r 27)⟩,
    ⟨some 29, none, .faddr 0 (.r 28)⟩,
    ⟨some 30, none, .load false 1 (.r 29)⟩,
    ⟨some 31, none, .mv (.r 3)⟩,
    ⟨some 32, none, .nilck (.r 31)⟩,
    ⟨some 33, none, .faddr 0 (.r 32)⟩,
    ⟨some 34, none, .load false 1 (.r 33)⟩,
    ⟨some 35, none, .call true F.digest_Of [(.r 34)]⟩,
    ⟨some 36, none, .call true F.digest_Send [(.r 30), (.r 35), (.c (.int .i64 1099511627776))]⟩,
    ⟨some 37, none, .len .sl (.r 36)⟩,
    ⟨some 38, none, .bin .eql .no (.r 37) (.c (.int .i64 0))⟩,
    ⟨some 39, none, .mv (.r 38)⟩,
    ⟨some 40, some (39, true), .mv (.r 3)⟩,
    ⟨some 41, some (39, true), .nilck (.r 40)⟩,
    ⟨some 42, some (39, true), .faddr 0 (.r 41)⟩,
    ⟨some 43, some (39, true), .load false 1 (.r 42)⟩,
    ⟨some 44, some (39, true), .call true F.digest_Send [(.r 43), (.c (.sl [])), (.c (.int .i64 1099511627776))]⟩,
    ⟨some 45, some (39, true), .mv (.r 3)⟩,
    ⟨some 46, some (39, true), .nilck (.r 45)⟩,
    ⟨some 47, some (39, true), .faddr 0 (.r 46)⟩,
    ⟨some 48, some (39, true), .load false 1 (.r 47)⟩,
    ⟨some 49, some (39, true), .call false F.tattlerref5_SameEntries [(.r 44), (.r 48)]⟩,
    ⟨some 50, none, .pick (.r 39) (.r 49) (.c (.bool false))⟩,
    ⟨some 51, none, .mv (.r 50)⟩,
    ⟨some 52, some (51, true), .call false F.tattlerlaw13_awake []⟩,
    ⟨some 53, none, .pick (.r 51) (.r 52) (.c (.bool false))⟩,
    ⟨some 2, none, .asg (.r 53)⟩] [2])
  .ret))))),
  [.r 2], none⟩
def c_tattlerlaw13_DigestOrder_l0 : VCode := (.seq (.ops [⟨some 34, none, .bin .lss .no (.r 33) (.r 32)⟩] [1, 5, 31, 32, 33, 34])
  (.seq (.cond (.r 34) .skip (.exit 0))
  (.seq (.block 1 (.seq (.ops [⟨some 35, none, .iaddr none 10 (.r 31) (.r 33)⟩,
        ⟨some 36, none, .load true 10 (.r 35)⟩,
        ⟨some 7, none, .alloc [(.str []), (.int .i64 0), (.int .i64 0), (.int .i64 0), (.int .i64 0), (.int .i64 0), (.int .i64 0), (.int .i64 0), (.int .i64 0), (.sl [])] []⟩,
        ⟨none, none, .store 10 (.r 7) (.r 36) [] none⟩] [1, 5, 7, 31, 32, 33])
      (.ops [⟨some 37, none, .mv (.r 5)⟩,
      ⟨some 38, none, .load true 10 (.r 7)⟩,
      ⟨some 39, none, .call false F.tattlerref5_Table_Join [(.r 37), (.r 38)]⟩] [1, 5, 31, 32, 33])))
  (.ops [⟨some 40, none, .bin .add .no (.r 33) (.c (.int .i64 1))⟩,
  ⟨some 33, none, .mv (.r 40)⟩] [1, 5, 31, 32, 33]))))
def c_tattlerlaw13_DigestOrder_l1 : VCode := (.seq (.ops [⟨some 86, none, .bin .lss .no (.r 85) (.r 84)⟩] [1, 5, 8, 10, 47, 48, 49, 83, 84, 85, 86])
  (.seq (.cond (.r 86) .skip (.exit 4))
  (.seq (.block 5 (.seq (.ops [⟨some 87, none, .iaddr none 10 (.r 83) (.r 85)⟩,
        ⟨some 88, none, .load true 10 (.r 87)⟩,
        ⟨some 14, none, .alloc [(.str []), (.int .i64 0), (.int .i64 0), (.int .i64 0), (.int .i64 0), (.int .i64 0), (.int .i64 0), (.int .i64 0), (.int .i64 0), (.sl [])] []⟩,
        ⟨none, none, .store 10 (.r 14) (.r 88) [] none⟩] [1, 5, 8, 10, 14, 47, 48, 49, 83, 84, 85])
      (.seq (.ops [⟨some 89, none, .faddr 0 (.r 14)⟩,
        ⟨some 90, none, .load false 1 (.r 89)⟩,
        ⟨some 91, none, .faddr 0 (.r 10)⟩,
        ⟨some 92, none, .load false 1 (.r 91)⟩,
        ⟨some 93, none, .bin .eql .no (.r 90) (.r 92)⟩] [1, 5, 8, 10, 14, 47, 48, 49, 83, 84, 85, 93])
      (.cond (.r 93) (.seq (.seq (.ops [⟨some 94, none, .load true 10 (.r 10)⟩,
            ⟨some 95, none, .load true 10 (.r 14)⟩,
            ⟨some 96, none, .call false F.digest_Lacks [(.r 94), (.r 95)]⟩,
            ⟨some 97, none, .un .not (.r 96)⟩] [1, 5, 8, 47, 48, 49, 97])
          (.cond (.r 97) (.seq (.ops [⟨some 4, none, .asg (.c (.bool false))⟩] [4])
            .ret) .skip))
        (.exit 4)) .skip))))
  (.ops [⟨some 98, none, .bin .add .no (.r 85) (.c (.int .i64 1))⟩,
  ⟨some 85, none, .mv (.r 98)⟩] [1, 5, 8, 10, 47, 48, 49, 83, 84, 85]))))
def c_tattlerlaw13_DigestOrder_l2 : VCode := (.seq (.ops [⟨some 50, none, .bin .lss .no (.r 49) (.r 48)⟩] [1, 5, 8, 47, 48, 49, 50])
  (.seq (.cond (.r 50) .skip (.exit 2))
  (.seq (.block 3 (.seq (.ops [⟨some 51, none, .mv (.r 49)⟩,
        ⟨some 52, none, .iaddr none 10 (.r 47) (.r 49)⟩,
        ⟨some 53, none, .load true 10 (.r 52)⟩,
        ⟨some 10, none, .alloc [(.str []), (.int .i64 0), (.int .i64 0), (.int .i64 0), (.int .i64 0), (.int .i64 0), (.int .i64 0), (.int .i64 0), (.int .i64 0), (.sl [])] []⟩,
        ⟨some 9, none, .asg (.r 51)⟩,
        ⟨none, none, .store 10 (.r 10) (.r 53) [] none⟩] [1, 5, 8, 9, 10, 47, 48, 49])
      (.seq (.seq (.dops 11 [⟨some 54, none, .mv (.r 9)⟩,
          ⟨some 55, none, .bin .gtr .no (.r 54) (.c (.int .i64 0))⟩,
          ⟨some 56, none, .mv (.r 55)⟩,
          ⟨some 57, some (56, true), .mv (.r 8)⟩,
          ⟨some 58, some (56, true), .mv (.r 9)⟩,
          ⟨some 59, some (56, true), .bin .sub .no (.r 58) (.c (.int .i64 1))⟩,
          ⟨some 60, some (56, true), .iaddr none 10 (.r 57) (.r 59)⟩,
          ⟨some 61, some (56, true), .faddr 0 (.r 60)⟩,
          ⟨some 62, some (56, true), .load false 1 (.r 61)⟩,
          ⟨some 63, some (56, true), .faddr 0 (.r 10)⟩,
          ⟨some 64, some (56, true), .load false 1 (.r 63)⟩,
          ⟨some 65, some (56, true), .bin .geq .no (.r 62) (.r 64)⟩,
          ⟨some 66, none, .pick (.r 56) (.r 65) (.c (.bool false))⟩] [1, 5, 8, 10, 47, 48, 49, 66])
        (.cond (.r 66) (.seq (.ops [⟨some 4, none, .asg (.c (.bool false))⟩] [4])
          .ret) .skip))
      (.seq (.ops [⟨some 68, none, .mv (.r 5)⟩,
        ⟨some 69, none, .faddr 0 (.r 10)⟩,
        ⟨some 70, none, .load false 1 (.r 69)⟩,
        ⟨some 71, none, .call false F.tattlerref5_Table_Get [(.r 68), (.r 70)]⟩,
        ⟨some 67, none, .mv (.r 71)⟩,
        ⟨some 72, none, .extract 0 (.r 67)⟩,
        ⟨some 73, none, .extract 1 (.r 67)⟩,
        ⟨some 11, none, .alloc [(.int .i64 0), (.int .i64 0), (.int .i64 0), (.int .i64 0), (.int .i64 0), (.int .i64 0), (.int .i64 0), (.int .i64 0), (.sl [])] []⟩,
        ⟨none, none, .store 9 (.r 11) (.r 72) [] none⟩,
        ⟨some 12, none, .asg (.r 73)⟩] [1, 5, 8, 10, 11, 12, 47, 48, 49])
      (.seq (.seq (.ops [⟨some 74, none, .mv (.r 12)⟩,
          ⟨some 75, none, .un .not (.r 74)⟩,
          ⟨some 76, none, .mv (.r 75)⟩,
          ⟨some 77, some (76, false), .load true 9 (.r 11)⟩,
          ⟨some 78, some (76, false), .faddr 1 (.r 10)⟩,
          ⟨some 79, some (76, false), .load true 9 (.r 78)⟩,
          ⟨some 80, some (76, false), .call false F.sibs_Same [(.r 77), (.r 79)]⟩,
          ⟨some 81, some (76, false), .un .not (.r 80)⟩,
          ⟨some 82, none, .pick (.r 76) (.c (.bool true)) (.r 81)⟩] [1, 5, 8, 10, 47, 48, 49, 82])
        (.cond (.r 82) (.seq (.ops [⟨some 4, none, .asg (.c (.bool false))⟩] [4])
          .ret) .skip))
      (.seq (.ops [⟨some 83, none, .mv (.r 1)⟩,
        ⟨some 84, none, .len .sl (.r 83)⟩,
        ⟨some 85, none, .mv (.c (.int .i64 0))⟩] [1, 5, 8, 10, 47, 48, 49, 83, 84, 85])
      (.block 4 (.loop [1, 5, 8, 10, 47, 48, 49, 83, 84, 85] [] c_tattlerlaw13_DigestOrder_l1))))))))
  (.ops [⟨some 99, none, .bin .add .no (.r 49) (.c (.int .i64 1))⟩,
  ⟨some 49, none, .mv (.r 99)⟩] [1, 5, 8, 47, 48, 49]))))
/-- tattler/tattlerlaw13.DigestOrder -/
def c_tattlerlaw13_DigestOrder : VFun := ⟨2,
  (.seq (.ops [⟨some 4, none, .asg (.c (.bool false))⟩] [0, 1])
  (.seq (.seq (.ops [⟨some 15, none, .mv (.r 0)⟩,
      ⟨some 16, none, .call false F.tattlerlaw13_light [(.r 15)]⟩,
      ⟨some 17, none, .un .not (.r 16)⟩,
      ⟨some 18, none, .mv (.r 17)⟩,
      ⟨some 19, some (18, false), .mv (.r 1)⟩,
      ⟨some 20, some (18, false), .call false F.tattlerlaw13_thin [(.r 19)]⟩,
      ⟨some 21, some (18, false), .un .not (.r 20)⟩,
      ⟨some 22, none, .pick (.r 18) (.c (.bool true)) (.r 21)⟩,
      ⟨some 23, none, .mv (.r 22)⟩,
      ⟨some 24, some (23, false), .mv (.r 0)⟩,
      ⟨some 25, some (23, false), .call false F.tattlerlaw13_may [(.r 24)]⟩,
      ⟨some 26, some (23, false), .un .not (.r 25)⟩,
      ⟨some 27, none, .pick (.r 23) (.c (.bool true)) (.r 26)⟩] [0, 1, 27])
    (.cond (.r 27) (.seq (.ops [⟨some 28, none, .call false F.tattlerlaw13_awake []⟩,
        ⟨some 4, none, .asg (.r 28)⟩] [4])
      .ret) .skip))
  (.seq (.ops [⟨some 29, none, .build [(.sl [])] []⟩,
    ⟨some 30, none, .box 1 (.r 29)⟩,
    ⟨some 5, none, .asg (.r 30)⟩] [0, 1, 5])
  (.seq (.seq (.ops [⟨some 31, none, .mv (.r 0)⟩,
      ⟨some 32, none, .len .sl (.r 31)⟩,
      ⟨some 33, none, .mv (.c (.int .i64 0))⟩] [1, 5, 31, 32, 33])
    (.block 0 (.loop [1, 5, 31, 32, 33] [] c_tattlerlaw13_DigestOrder_l0)))
  (.seq (.ops [⟨some 41, none, .mv (.r 5)⟩,
    ⟨some 42, none, .nilck (.r 41)⟩,
    ⟨some 43, none, .faddr 0 (.r 42)⟩,
    ⟨some 44, none, .load false 1 (.r 43)⟩,
    ⟨some 45, none, .mv (.r 1)⟩,
    ⟨some 46, none, .call false F.digest_Send [(.r 44), (.r 45), (.c (.int .i64 1099511627776))]⟩,
    ⟨some 8, none, .asg (.r 46)⟩] [1, 5, 8])
  (.seq (.seq (.ops [⟨some 47, none, .mv (.r 8)⟩,
      ⟨some 48, none, .len .sl (.r 47)⟩,
      ⟨some 49, none, .mv (.c (.int .i64 0))⟩] [1, 5, 8, 47, 48, 49])
    (.block 2 (.loop [1, 5, 8, 47, 48, 49] [] c_tattlerlaw13_DigestOrder_l2)))
  (.seq (.ops [⟨some 100, none, .call false F.tattlerlaw13_awake []⟩,
    ⟨some 4, none, .asg (.r 100)⟩] [4])
  .ret))))))),
  [.r 4], none⟩
/-- tattler/tattlerlaw13.DigestBack -/
def c_tattlerlaw13_DigestBack : VFun := ⟨1,
  (.seq (.ops [⟨some 1, none, .box 10 (.r 0)⟩,
    ⟨some 2, none, .asg (.c (.bool false))⟩] [1])
  (.seq (.seq (.ops [⟨some 9, none, .load true 10 (.r 1)⟩,
      ⟨some 10, none, .bslice (.agg [(.str []), (.int .i64 0), (.int .i64 0), (.int .i64 0), (.int .i64 0), (.int .i64 0), (.int .i64 0), (.int .i64 0), (.int .i64 0), (.sl [])]) 10 1 [(0, (.r 9))]⟩,
      ⟨some 11, none, .call false F.tattlerlaw13_thin [(.r 10)]⟩,
      ⟨some 12, none, .un .not (.r 11)⟩] [1, 12])
    (.cond (.r 12) (.seq (.ops [⟨some 13, none, .call false F.tattlerlaw13_awake []⟩,
        ⟨some 2, none, .asg (.r 13)⟩] [2])
      .ret) .skip))
  (.seq (.ops [⟨some 14, none, .call false F.wire_NewWriter [(.c (.int .i64 5000))]⟩,
    ⟨some 3, none, .asg (.r 14)⟩] [1, 3])
  (.seq (.ops [⟨some 15, none, .mv (.r 3)⟩,
    ⟨some 16, none, .load true 10 (.r 1)⟩,
    ⟨some 17, none, .call false F.digest_Write [(.r 15), (.r 16)]⟩] [1, 3])
  (.seq (.ops [⟨some 19, none, .mv (.r 3)⟩,
    ⟨some 20, none, .call false F.wire_Writer_Done [(.r 19)]⟩,
    ⟨some 18, none, .mv (.r 20)⟩,
    ⟨some 21, none, .extract 0 (.r 18)⟩,
    ⟨some 22, none, .extract 1 (.r 18)⟩,
    ⟨some 4, none, .asg (.r 21)⟩,
    ⟨some 5, none, .asg (.r 22)⟩] [1, 4, 5])
  (.seq (.ops [⟨some 23, none, .mv (.r 4)⟩,
    ⟨some 24, none, .call false F.wire_NewReader [(.r 23)]⟩,
    ⟨some 6, none, .asg (.r 24)⟩] [1, 5, 6])
  (.seq (.ops [⟨some 26, none, .mv (.r 6)⟩,
    ⟨some 27, none, .call false F.digest_Read [(.r 26)]⟩,
    ⟨some 25, none, .mv (.r 27)⟩,
    ⟨some 28, none, .extract 0 (.r 25)⟩,
    ⟨some 29, none, .extract 1 (.r 25)⟩,
    ⟨some 7, none, .alloc [(.str []), (.int .i64 0), (.int .i64 0), (.int .i64 0), (.int .i64 0), (.int .i64 0), (.int .i64 0), (.int .i64 0), (.int .i64 0), (.sl [])] []⟩,
    ⟨none, none, .store 10 (.r 7) (.r 28) [] none⟩,
    ⟨some 8, none, .asg (.r 29)⟩] [1, 5, 6, 7, 8])
  (.seq (.seq (.ops [⟨some 30, none, .mv (.r 5)⟩,
      ⟨some 31, none, .bin .neq .no (.r 30) (.c (.int .i64 0))⟩] [1, 6, 7, 8, 31])
    (.cond (.r 31) (.seq (.ops [⟨some 32, none, .call false F.tattlerlaw13_awake []⟩,
        ⟨some 2, none, .asg (.r 32)⟩] [2])
      .ret) .skip))
  (.seq (.ops [⟨some 33, none, .mv (.r 8)⟩,
    ⟨some 34, none, .load true 10 (.r 1)⟩,
    ⟨some 35, none, .call false F.digest_May [(.r 34)]⟩,
    ⟨some 36, none, .bin .eql .bool (.r 33) (.r 35)⟩,
    ⟨some 37, none, .mv (.r 36)⟩,
    ⟨some 38, some (37, true), .mv (.r 8)⟩,
    ⟨some 39, some (37, true), .un .not (.r 38)⟩,
    ⟨some 40, some (37, true), .mv (.r 39)⟩,
    ⟨some 41, some (40, false), .load true 10 (.r 7)⟩,
    ⟨some 42, some (40, false), .bslice (.agg [(.str []), (.int .i64 0), (.int .i64 0), (.int .i64 0), (.int .i64 0), (.int .i64 0), (.int .i64 0), (.int .i64 0), (.int .i64 0), (.sl [])]) 10 1 [(0, (.r 41))]⟩,
    ⟨some 43, some (40, false), .load true 10 (.r 1)⟩,
    ⟨some 44, some (40, false), .bslice (.agg [(.str []), (.int .i64 0), (.int .i64 0), (.int .i64 0), (.int .i64 0), (.int .i64 0), (.int .i64 0), (.int .i64 0), (.int .i64 0), (.sl [])]) 10 1 [(0, (.r 43))]⟩,
    ⟨some 45, some (40, false), .call false F.tattlerref5_SameDigests [(.r 42), (.r 44)]⟩,
    ⟨some 46, some (40, false), .mv (.r 45)⟩,
    ⟨some 47, some (46, true), .mv (.r 6)⟩,
    ⟨some 48, some (46, true), .call false F.wire_Reader_End [(.r 47)]⟩,
    ⟨some 49, some (46, true), .bin .eql .no (.r 48) (.c (.int .i64 0))⟩,
    ⟨some 50, some (40, false), .pick (.r 46) (.r 49) (.c (.bool false))⟩,
    ⟨some 51, some (37, true), .pick (.r 40) (.c (.bool true)) (.r 50)⟩,
    ⟨some 52, none, .pick (.r 37) (.r 51) (.c (.bool false))⟩,
    ⟨some 53, none, .mv (.r 52)⟩,
    ⟨some 54, some (53, true), .call false F.tattlerlaw13_awake []⟩,
    ⟨some 55, none, .pick (.r 53) (.r 54) (.c (.bool false))⟩,
    ⟨some 2, none, .asg (.r 55)⟩] [2])
  .ret))))))))),
  [.r 2], none⟩
def c_tattlerlaw13_light_l0 : VCode := (.seq (.ops [⟨some 32, none, .bin .lss .no (.r 31) (.r 30)⟩] [10, 11, 12, 29, 30, 31, 32])
  (.seq (.cond (.r 32) .skip (.exit 2))
  (.seq (.block 3 (.seq (.ops [⟨some 33, none, .iaddr none 4 (.r 29) (.r 31)⟩,
        ⟨some 34, none, .load true 4 (.r 33)⟩,
        ⟨some 6, none, .alloc [(.int .i64 0), (.int .i64 0), (.sl []), (.bool false)] []⟩,
        ⟨none, none, .store 4 (.r 6) (.r 34) [] none⟩] [6, 10, 11, 12, 29, 30, 31])
      (.seq (.ops [⟨some 35, none, .faddr 2 (.r 6)⟩,
        ⟨some 36, none, .load false 1 (.r 35)⟩,
        ⟨some 37, none, .len .sl (.r 36)⟩,
        ⟨some 38, none, .bin .gtr .no (.r 37) (.c (.int .i64 4000))⟩] [10, 11, 12, 29, 30, 31, 38])
      (.cond (.r 38) (.seq (.ops [⟨some 2, none, .asg (.c (.bool false))⟩] [2])
        .ret) .skip))))
  (.ops [⟨some 39, none, .bin .add .no (.r 31) (.c (.int .i64 1))⟩,
  ⟨some 31, none, .mv (.r 39)⟩] [10, 11, 12, 29, 30, 31]))))
def c_tattlerlaw13_light_l1 : VCode := (.seq (.ops [⟨some 13, none, .bin .lss .no (.r 12) (.r 11)⟩] [10, 11, 12, 13])
  (.seq (.cond (.r 13) .skip (.exit 0))
  (.seq (.block 1 (.seq (.ops [⟨some 14, none, .iaddr none 10 (.r 10) (.r 12)⟩,
        ⟨some 15, none, .load true 10 (.r 14)⟩,
        ⟨some 4, none, .alloc [(.str []), (.int .i64 0), (.int .i64 0), (.int .i64 0), (.int .i64 0), (.int .i64 0), (.int .i64 0), (.int .i64 0), (.int .i64 0), (.sl [])] []⟩,
        ⟨none, none, .store 10 (.r 4) (.r 15) [] none⟩] [4, 10, 11, 12])
      (.seq (.seq (.ops [⟨some 16, none, .faddr 1 (.r 4)⟩,
          ⟨some 17, none, .faddr 8 (.r 16)⟩,
          ⟨some 18, none, .load false 1 (.r 17)⟩,
          ⟨some 19, none, .len .sl (.r 18)⟩,
          ⟨some 20, none, .bin .gtr .no (.r 19) (.c (.int .i64 20))⟩,
          ⟨some 21, none, .mv (.r 20)⟩,
          ⟨some 22, some (21, false), .faddr 0 (.r 4)⟩,
          ⟨some 23, some (21, false), .load false 1 (.r 22)⟩,
          ⟨some 24, some (21, false), .len .str (.r 23)⟩,
          ⟨some 25, some (21, false), .bin .gtr .no (.r 24) (.c (.int .i64 100))⟩,
          ⟨some 26, none, .pick (.r 21) (.c (.bool true)) (.r 25)⟩] [4, 10, 11, 12, 26])
        (.cond (.r 26) (.seq (.ops [⟨some 2, none, .asg (.c (.bool false))⟩] [2])
          .ret) .skip))
      (.seq (.ops [⟨some 27, none, .faddr 1 (.r 4)⟩,
        ⟨some 28, none, .faddr 8 (.r 27)⟩,
        ⟨some 29, none, .load false 1 (.r 28)⟩,
        ⟨some 30, none, .len .sl (.r 29)⟩,
        ⟨some 31, none, .mv (.c (.int .i64 0))⟩] [10, 11, 12, 29, 30, 31])
      (.block 2 (.loop [10, 11, 12, 29, 30, 31] [] c_tattlerlaw13_light_l0))))))
  (.ops [⟨some 40, none, .bin .add .no (.r 12) (.c (.int .i64 1))⟩,
  ⟨some 12, none, .mv (.r 40)⟩] [10, 11, 12]))))
/-- tattler/tattlerlaw13.light -/
def c_tattlerlaw13_light : VFun := ⟨1,
  (.seq (.ops [⟨some 2, none, .asg (.c (.bool false))⟩] [0])
  (.seq (.seq (.ops [⟨some 7, none, .mv (.r 0)⟩,
      ⟨some 8, none, .len .sl (.r 7)⟩,
      ⟨some 9, none, .bin .gtr .no (.r 8) (.c (.int .i64 40))⟩] [0, 9])
    (.cond (.r 9) (.seq (.ops [⟨some 2, none, .asg (.c (.bool false))⟩] [2])
      .ret) .skip))
  (.seq (.seq (.ops [⟨some 10, none, .mv (.r 0)⟩,
      ⟨some 11, none, .len .sl (.r 10)⟩,
      ⟨some 12, none, .mv (.c (.int .i64 0))⟩] [10, 11, 12])
    (.block 0 (.loop [10, 11, 12] [] c_tattlerlaw13_light_l1)))
  (.seq (.ops [⟨some 2, none, .asg (.c (.bool true))⟩] [2])
  .ret)))),
  [.r 2], none⟩
def c_tattlerlaw13_thin_l0 : VCode := (.seq (.ops [⟨some 11, none, .bin .lss .no (.r 10) (.r 9)⟩] [8, 9, 10, 11])
  (.seq (.cond (.r 11) .skip (.exit 0))
  (.seq (.block 1 (.seq (.ops [⟨some 12, none, .iaddr none 10 (.r 8) (.r 10)⟩,
        ⟨some 13, none, .load true 10 (.r 12)⟩,
        ⟨some 4, none, .alloc [(.str []), (.int .i64 0), (.int .i64 0), (.int .i64 0), (.int .i64 0), (.int .i64 0), (.int .i64 0), (.int .i64 0), (.int .i64 0), (.sl [])] []⟩,
        ⟨none, none, .store 10 (.r 4) (.r 13) [] none⟩] [4, 8, 9, 10])
      (.seq (.ops [⟨some 14, none, .faddr 9 (.r 4)⟩,
        ⟨some 15, none, .load false 1 (.r 14)⟩,
        ⟨some 16, none, .len .sl (.r 15)⟩,
        ⟨some 17, none, .bin .gtr .no (.r 16) (.c (.int .i64 30))⟩] [8, 9, 10, 17])
      (.cond (.r 17) (.seq (.ops [⟨some 2, none, .asg (.c (.bool false))⟩] [2])
        .ret) .skip))))
  (.ops [⟨some 18, none, .bin .add .no (.r 10) (.c (.int .i64 1))⟩,
  ⟨some 10, none, .mv (.r 18)⟩] [8, 9, 10]))))
/-- tattler/tattlerlaw13.thin -/
def c_tattlerlaw13_thin : VFun := ⟨1,
  (.seq (.ops [⟨some 2, none, .asg (.c (.bool false))⟩] [0])
  (.seq (.seq (.ops [⟨some 5, none, .mv (.r 0)⟩,
      ⟨some 6, none, .len .sl (.r 5)⟩,
      ⟨some 7, none, .bin .gtr .no (.r 6) (.c (.int .i64 40))⟩] [0, 7])
    (.cond (.r 7) (.seq (.ops [⟨some 2, none, .asg (.c (.bool false))⟩] [2])
      .ret) .skip))
  (.seq (.seq (.ops [⟨some 8, none, .mv (.r 0)⟩,
      ⟨some 9, none, .len .sl (.r 8)⟩,
      ⟨some 10, none, .mv (.c (.int .i64 0))⟩] [8, 9, 10])
    (.block 0 (.loop [8, 9, 10] [] c_tattlerlaw13_thin_l0)))
  (.seq (.ops [⟨some 2, none, .asg (.c (.bool true))⟩] [2])
  .ret)))),
  [.r 2], none⟩
/-- tattler/tattlerlaw13.awake -/
def c_tattlerlaw13_awake : VFun := ⟨0,
  (.seq (.ops [⟨some 0, none, .asg (.c (.bool false))⟩] [])
  (.seq (.ops [⟨some 2, none, .build [(.int .i64 0), (.int .i64 0), (.int .i64 0), (.int .i64 0), (.int .i64 0), (.int .i64 0), (.int .i64 0), (.int .i64 0)] [(0, 1, (.c (.int .i64 1)))]⟩,
    ⟨some 3, none, .build [(.int .i64 0), (.int .i64 0), (.int .i64 0), (.int .i64 0), (.int .i64 0), (.int .i64 0), (.int .i64 0), (.int .i64 0), (.sl [])] [(0, 8, (.r 2))]⟩,
    ⟨some 4, none, .build [(.str []), (.int .i64 0), (.int .i64 0), (.int .i64 0), (.int .i64 0), (.int .i64 0), (.int .i64 0), (.int .i64 0), (.int .i64 0), (.sl [])] [(0, 1, (.c (.str [107]))), (1, 9, (.r 3))]⟩,
    ⟨some 1, none, .alloc [(.str []), (.int .i64 0), (.int .i64 0), (.int .i64 0), (.int .i64 0), (.int .i64 0), (.int .i64 0), (.int .i64 0), (.int .i64 0), (.sl [])] []⟩,
    ⟨none, none, .store 10 (.r 1) (.r 4) [] none⟩] [1])
  (.seq (.ops [⟨some 5, none, .load true 10 (.r 1)⟩,
    ⟨some 6, none, .build [(.int .i64 0), (.int .i64 0), (.int .i64 0), (.int .i64 0), (.int .i64 0), (.int .i64 0), (.int .i64 0), (.int .i64 0)] [(0, 1, (.c (.int .i64 1)))]⟩,
    ⟨some 7, none, .build [(.int .i64 0), (.int .i64 0)] [(0, 1, (.c (.int .i64 0))), (1, 1, (.c (.int .i64 1)))]⟩,
    ⟨some 8, none, .bslice (.agg [(.int .i64 0), (.int .i64 0)]) 2 1 [(0, (.r 7))]⟩,
    ⟨some 9, none, .build [(.str []), (.int .i64 0), (.int .i64 0), (.int .i64 0), (.int .i64 0), (.int .i64 0), (.int .i64 0), (.int .i64 0), (.int .i64 0), (.sl [])] [(0, 1, (.c (.str [107]))), (1, 8, (.r 6)), (9, 1, (.r 8))]⟩,
    ⟨some 10, none, .call false F.digest_Lacks [(.r 5), (.r 9)]⟩,
    ⟨some 11, none, .mv (.r 10)⟩,
    ⟨some 12, some (11, true), .load true 10 (.r 1)⟩,
    ⟨some 13, some (11, true), .build [(.int .i64 0), (.int .i64 0), (.int .i64 0), (.int .i64 0), (.int .i64 0), (.int .i64 0), (.int .i64 0), (.int .i64 0)] [(0, 1, (.c (.int .i64 1)))]⟩,
    ⟨some 14, some (11, true), .build [(.str []), (.int .i64 0), (.int .i64 0), (.int .i64 0), (.int .i64 0), (.int .i64 0), (.int .i64 0), (.int .i64 0), (.int .i64 0), (.sl [])] [(0, 1, (.c (.str [107]))), (1, 8, (.r 13))]⟩,
    ⟨some 15, some (11, true), .call false F.digest_Lacks [(.r 12), (.r 14)]⟩,
    ⟨some 16, some (11, true), .un .not (.r 15)⟩,
    ⟨some 17, none, .pick (.r 11) (.r 16) (.c (.bool false))⟩,
    ⟨some 0, none, .asg (.r 17)⟩] [0])
  .ret))),
  [.r 0], none⟩
def c_digest_Send_l0 : VCode := (.seq (.ops [⟨some 16, none, .bin .lss .no (.r 15) (.r 14)⟩] [1, 7, 8, 13, 14, 15, 16])
  (.seq (.cond (.r 16) .skip (.exit 0))
  (.seq (.block 1 (.seq (.ops [⟨some 17, none, .iaddr none 10 (.r 13) (.r 15)⟩,
        ⟨some 18, none, .load true 10 (.r 17)⟩,
        ⟨some 10, none, .alloc [(.str []), (.int .i64 0), (.int .i64 0), (.int .i64 0), (.int .i64 0), (.int .i64 0), (.int .i64 0), (.int .i64 0), (.int .i64 0), (.sl [])] []⟩,
        ⟨none, none, .store 10 (.r 10) (.r 18) [] none⟩] [1, 7, 8, 10, 13, 14, 15])
      (.seq (.seq (.ops [⟨some 19, none, .load true 10 (.r 10)⟩,
          ⟨some 20, none, .mv (.r 1)⟩,
          ⟨some 21, none, .call false F.digest_lacked [(.r 19), (.r 20)]⟩,
          ⟨some 22, none, .un .not (.r 21)⟩] [1, 7, 8, 10, 13, 14, 15, 22])
        (.cond (.r 22) (.exit 1) .skip))
      (.seq (.ops [⟨some 23, none, .load true 10 (.r 10)⟩,
        ⟨some 24, none, .call false F.digest_Size [(.r 23)]⟩,
        ⟨some 11, none, .asg (.r 24)⟩] [1, 7, 8, 10, 11, 13, 14, 15])
      (.seq (.seq (.ops [⟨some 25, none, .mv (.r 7)⟩,
          ⟨some 26, none, .len .sl (.r 25)⟩,
          ⟨some 27, none, .bin .gtr .no (.r 26) (.c (.int .i64 0))⟩,
          ⟨some 28, none, .mv (.r 27)⟩,
          ⟨some 29, some (28, true), .mv (.r 11)⟩,
          ⟨some 30, some (28, true), .mv (.r 8)⟩,
          ⟨some 31, some (28, true), .bin .gtr .no (.r 29) (.r 30)⟩,
          ⟨some 32, none, .pick (.r 28) (.r 31) (.c (.bool false))⟩] [1, 7, 8, 10, 11, 13, 14, 15, 32])
        (.cond (.r 32) (.exit 0) .skip))
      (.seq (.ops [⟨some 33, none, .mv (.r 8)⟩,
        ⟨some 34, none, .mv (.r 11)⟩,
        ⟨some 35, none, .mv (.r 8)⟩,
        ⟨some 36, none, .mx [(.r 35), (.c (.int .i64 0))]⟩,
        ⟨some 37, none, .mn [(.r 34), (.r 36)]⟩,
        ⟨some 38, none, .bin .sub .no (.r 33) (.r 37)⟩,
        ⟨some 8, none, .asg (.r 38)⟩] [1, 7, 8, 10, 13, 14, 15])
      (.ops [⟨some 39, none, .mv (.r 7)⟩,
      ⟨some 40, none, .load true 10 (.r 10)⟩,
      ⟨some 41, none, .call false F.digest_copied [(.r 40)]⟩,
      ⟨some 42, none, .bslice (.agg [(.str []), (.int .i64 0), (.int .i64 0), (.int .i64 0), (.int .i64 0), (.int .i64 0), (.int .i64 0), (.int .i64 0), (.int .i64 0), (.sl [])]) 10 1 [(0, (.r 41))]⟩,
      ⟨some 43, none, .app (.reg 7) 10 104 (.r 39) (.r 42)⟩,
      ⟨some 7, none, .asg (.r 43)⟩] [1, 7, 8, 13, 14, 15])))))))
  (.ops [⟨some 44, none, .bin .add .no (.r 15) (.c (.int .i64 1))⟩,
  ⟨some 15, none, .mv (.r 44)⟩] [1, 7, 8, 13, 14, 15]))))
/-- tattler/digest.Send -/
def c_digest_Send : VFun := ⟨3,
  (.seq (.ops [⟨some 6, none, .asg (.c (.sl []))⟩] [0, 1, 2])
  (.seq (.ops [⟨some 7, none, .asg (.c (.sl []))⟩] [0, 1, 2, 7])
  (.seq (.ops [⟨some 12, none, .mv (.r 2)⟩,
    ⟨some 8, none, .asg (.r 12)⟩] [0, 1, 7, 8])
  (.seq (.seq (.ops [⟨some 13, none, .mv (.r 0)⟩,
      ⟨some 14, none, .len .sl (.r 13)⟩,
      ⟨some 15, none, .mv (.c (.int .i64 0))⟩] [1, 7, 8, 13, 14, 15])
    (.block 0 (.loop [1, 7, 8, 13, 14, 15] [(6, 0, 0), (7, 0, 10)] c_digest_Send_l0)))
  (.seq (.ops [⟨some 45, none, .mv (.r 7)⟩,
    ⟨some 6, none, .asg (.r 45)⟩] [6])
  .ret))))),
  [.r 6], none⟩
def c_tattlerref5_SameEntries_l0 : VCode := (.seq (.ops [⟨some 14, none, .bin .lss .no (.r 13) (.r 12)⟩] [0, 1, 12, 13, 14])
  (.seq (.cond (.r 14) .skip (.exit 0))
  (.seq (.block 1 (.seq (.ops [⟨some 15, none, .mv (.r 13)⟩,
        ⟨some 5, none, .asg (.r 15)⟩] [0, 1, 5, 12, 13])
      (.seq (.dops 22 [⟨some 16, none, .mv (.r 0)⟩,
        ⟨some 17, none, .mv (.r 5)⟩,
        ⟨some 18, none, .iaddr none 10 (.r 16) (.r 17)⟩,
        ⟨some 19, none, .faddr 0 (.r 18)⟩,
        ⟨some 20, none, .load false 1 (.r 19)⟩,
        ⟨some 21, none, .mv (.r 1)⟩,
        ⟨some 22, none, .mv (.r 5)⟩,
        ⟨some 23, none, .iaddr none 10 (.r 21) (.r 22)⟩,
        ⟨some 24, none, .faddr 0 (.r 23)⟩,
        ⟨some 25, none, .load false 1 (.r 24)⟩,
        ⟨some 26, none, .bin .neq .no (.r 20) (.r 25)⟩,
        ⟨some 27, none, .mv (.r 26)⟩,
        ⟨some 28, some (27, false), .mv (.r 0)⟩,
        ⟨some 29, some (27, false), .mv (.r 5)⟩,
        ⟨some 30, some (27, false), .iaddr none 10 (.r 28) (.r 29)⟩,
        ⟨some 31, some (27, false), .faddr 1 (.r 30)⟩,
        ⟨some 32, some (27, false), .load true 9 (.r 31)⟩,
        ⟨some 33, some (27, false), .mv (.r 1)⟩,
        ⟨some 34, some (27, false), .mv (.r 5)⟩,
        ⟨some 35, some (27, false), .iaddr none 10 (.r 33) (.r 34)⟩,
        ⟨some 36, some (27, false), .faddr 1 (.r 35)⟩,
        ⟨some 37, some (27, false), .load true 9 (.r 36)⟩,
        ⟨some 38, some (27, false), .call false F.tattlerref5_Same [(.r 32), (.r 37)]⟩,
        ⟨some 39, some (27, false), .un .not (.r 38)⟩,
        ⟨some 40, none, .pick (.r 27) (.c (.bool true)) (.r 39)⟩] [0, 1, 12, 13, 40])
      (.cond (.r 40) (.seq (.ops [⟨some 4, none, .asg (.c (.bool false))⟩] [4])
        .ret) .skip))))
  (.ops [⟨some 41, none, .bin .add .no (.r 13) (.c (.int .i64 1))⟩,
  ⟨some 13, none, .mv (.r 41)⟩] [0, 1, 12, 13]))))
/-- tattler/tattlerref5.SameEntries -/
def c_tattlerref5_SameEntries : VFun := ⟨2,
  (.seq (.ops [⟨some 4, none, .asg (.c (.bool false))⟩] [0, 1])
  (.seq (.seq (.ops [⟨some 6, none, .mv (.r 0)⟩,
      ⟨some 7, none, .len .sl (.r 6)⟩,
      ⟨some 8, none, .mv (.r 1)⟩,
      ⟨some 9, none, .len .sl (.r 8)⟩,
      ⟨some 10, none, .bin .neq .no (.r 7) (.r 9)⟩] [0, 1, 10])
    (.cond (.r 10) (.seq (.ops [⟨some 4, none, .asg (.c (.bool false))⟩] [4])
      .ret) .skip))
  (.seq (.seq (.ops [⟨some 11, none, .mv (.r 0)⟩,
      ⟨some 12, none, .len .sl (.r 11)⟩,
      ⟨some 13, none, .mv (.c (.int .i64 0))⟩] [0, 1, 12, 13])
    (.block 0 (.loop [0, 1, 12, 13] [] c_tattlerref5_SameEntries_l0)))
  (.seq (.ops [⟨some 4, none, .asg (.c (.bool true))⟩] [4])
  .ret)))),
  [.r 4], none⟩
/-- tattler/digest.Size -/
def c_digest_Size : VFun := ⟨1,
  (.seq (.ops [⟨some 1, none, .box 10 (.r 0)⟩,
    ⟨some 2, none, .asg (.c (.int .i64 0))⟩] [1])
  (.seq (.ops [⟨some 6, none, .call false F.wire_NewWriter [(.c (.int .i64 1073741824))]⟩,
    ⟨some 3, none, .asg (.r 6)⟩] [1, 3])
  (.seq (.ops [⟨some 7, none, .mv (.r 3)⟩,
    ⟨some 8, none, .load true 10 (.r 1)⟩,
    ⟨some 9, none, .call false F.sibs_WriteEntry [(.r 7), (.r 8)]⟩] [3])
  (.seq (.ops [⟨some 11, none, .mv (.r 3)⟩,
    ⟨some 12, none, .call false F.wire_Writer_Done [(.r 11)]⟩,
    ⟨some 10, none, .mv (.r 12)⟩,
    ⟨some 13, none, .extract 0 (.r 10)⟩,
    ⟨some 14, none, .extract 1 (.r 10)⟩,
    ⟨some 4, none, .asg (.r 13)⟩,
    ⟨some 5, none, .asg (.r 14)⟩] [4])
  (.seq (.ops [⟨some 15, none, .mv (.r 4)⟩,
    ⟨some 16, none, .len .sl (.r 15)⟩,
    ⟨some 2, none, .asg (.r 16)⟩] [2])
  .ret))))),
  [.r 2], none⟩
def c_tattlerlaw13_may_l0 : VCode := (.seq (.ops [⟨some 8, none, .bin .lss .no (.r 7) (.r 6)⟩] [5, 6, 7, 8])
  (.seq (.cond (.r 8) .skip (.exit 0))
  (.seq (.block 1 (.seq (.ops [⟨some 9, none, .iaddr none 10 (.r 5) (.r 7)⟩,
        ⟨some 10, none, .load true 10 (.r 9)⟩,
        ⟨some 4, none, .alloc [(.str []), (.int .i64 0), (.int .i64 0), (.int .i64 0), (.int .i64 0), (.int .i64 0), (.int .i64 0), (.int .i64 0), (.int .i64 0), (.sl [])] []⟩,
        ⟨none, none, .store 10 (.r 4) (.r 10) [] none⟩] [4, 5, 6, 7])
      (.seq (.ops [⟨some 11, none, .load true 10 (.r 4)⟩,
        ⟨some 12, none, .call false F.tattlerref5_MayEntry [(.r 11)]⟩,
        ⟨some 13, none, .un .not (.r 12)⟩] [5, 6, 7, 13])
      (.cond (.r 13) (.seq (.ops [⟨some 2, none, .asg (.c (.bool false))⟩] [2])
        .ret) .skip))))
  (.ops [⟨some 14, none, .bin .add .no (.r 7) (.c (.int .i64 1))⟩,
  ⟨some 7, none, .mv (.r 14)⟩] [5, 6, 7]))))
/-- tattler/tattlerlaw13.may -/
def c_tattlerlaw13_may : VFun := ⟨1,
  (.seq (.ops [⟨some 2, none, .asg (.c (.bool false))⟩] [0])
  (.seq (.seq (.ops [⟨some 5, none, .mv (.r 0)⟩,
      ⟨some 6, none, .len .sl (.r 5)⟩,
      ⟨some 7, none, .mv (.c (.int .i64 0))⟩] [5, 6, 7])
    (.block 0 (.loop [5, 6, 7] [] c_tattlerlaw13_may_l0)))
  (.seq (.ops [⟨some 2, none, .asg (.c (.bool true))⟩] [2])
  .ret))),
  [.r 2], none⟩
def c_tattlerref5_Table_Join_l0 : VCode := (.seq (.seq (.dops 12 [⟨some 39, none, .mv (.r 9)⟩,
      ⟨some 40, none, .mv (.r 8)⟩,
      ⟨some 41, none, .len .sl (.r 40)⟩,
      ⟨some 42, none, .bin .lss .no (.r 39) (.r 41)⟩,
      ⟨some 43, none, .mv (.r 42)⟩,
      ⟨some 44, some (43, true), .mv (.r 8)⟩,
      ⟨some 45, some (43, true), .mv (.r 9)⟩,
      ⟨some 46, some (43, true), .iaddr none 10 (.r 44) (.r 45)⟩,
      ⟨some 47, some (43, true), .faddr 0 (.r 46)⟩,
      ⟨some 48, some (43, true), .load false 1 (.r 47)⟩,
      ⟨some 49, some (43, true), .faddr 0 (.r 3)⟩,
      ⟨some 50, some (43, true), .load false 1 (.r 49)⟩,
      ⟨some 51, some (43, true), .bin .lss .no (.r 48) (.r 50)⟩,
      ⟨some 52, none, .pick (.r 43) (.r 51) (.c (.bool false))⟩] [0, 3, 4, 8, 9, 52])
    (.cond (.r 52) .skip (.exit 0)))
  (.block 1 (.ops [⟨some 53, none, .mv (.r 9)⟩,
    ⟨some 54, none, .bin .add .no (.r 53) (.c (.int .i64 1))⟩,
    ⟨some 9, none, .asg (.r 54)⟩] [0, 3, 4, 8, 9])))
/-- (*tattler/tattlerref5.Table).Join -/
def c_tattlerref5_Table_Join : VFun := ⟨2,
  (.seq (.ops [⟨some 3, none, .box 10 (.r 1)⟩,
    ⟨some 4, none, .alloc [(.int .i64 0), (.int .i64 0), (.int .i64 0), (.int .i64 0), (.int .i64 0), (.int .i64 0), (.int .i64 0), (.int .i64 0), (.sl [])] []⟩,
    ⟨some 5, none, .asg (.c (.bool false))⟩,
    ⟨some 6, none, .asg (.c (.int .i64 0))⟩] [0, 3, 4])
  (.seq (.seq (.ops [⟨some 13, none, .load true 10 (.r 3)⟩,
      ⟨some 14, none, .call false F.tattlerref5_MayEntry [(.r 13)]⟩,
      ⟨some 15, none, .un .not (.r 14)⟩] [0, 3, 4, 15])
    (.cond (.r 15) (.seq (.ops [⟨some 16, none, .build [(.int .i64 0), (.int .i64 0), (.int .i64 0), (.int .i64 0), (.int .i64 0), (.int .i64 0), (.int .i64 0), (.int .i64 0), (.sl [])] []⟩,
        ⟨none, none, .store 9 (.r 4) (.r 16) [] none⟩,
        ⟨some 5, none, .asg (.c (.bool false))⟩,
        ⟨some 6, none, .asg (.c (.int .i64 1))⟩] [4, 5, 6])
      .ret) .skip))
  (.seq (.ops [⟨some 17, none, .mv (.r 0)⟩,
    ⟨some 18, none, .faddr 0 (.r 3)⟩,
    ⟨some 19, none, .load false 1 (.r 18)⟩,
    ⟨some 20, none, .call false F.tattlerref5_Table_At [(.r 17), (.r 19)]⟩,
    ⟨some 7, none, .asg (.r 20)⟩] [0, 3, 4, 7])
  (.seq (.seq (.ops [⟨some 21, none, .mv (.r 7)⟩,
      ⟨some 22, none, .bin .lss .no (.r 21) (.c (.int .i64 0))⟩,
      ⟨some 23, none, .mv (.r 22)⟩,
      ⟨some 24, some (23, true), .mv (.r 0)⟩,
      ⟨some 25, some (23, true), .nilck (.r 24)⟩,
      ⟨some 26, some (23, true), .faddr 0 (.r 25)⟩,
      ⟨some 27, some (23, true), .load false 1 (.r 26)⟩,
      ⟨some 28, some (23, true), .len .sl (.r 27)⟩,
      ⟨some 29, some (23, true), .bin .geq .no (.r 28) (.c (.int .i64 256))⟩,
      ⟨some 30, none, .pick (.r 23) (.r 29) (.c (.bool false))⟩] [0, 3, 4, 7, 30])
    (.cond (.r 30) (.seq (.ops [⟨some 31, none, .build [(.int .i64 0), (.int .i64 0), (.int .i64 0), (.int .i64 0), (.int .i64 0), (.int .i64 0), (.int .i64 0), (.int .i64 0), (.sl [])] []⟩,
        ⟨none, none, .store 9 (.r 4) (.r 31) [] none⟩,
        ⟨some 5, none, .asg (.c (.bool false))⟩,
        ⟨some 6, none, .asg (.c (.int .i64 11))⟩] [4, 5, 6])
      .ret) .skip))
  (.seq (.ops [⟨some 32, none, .mv (.r 0)⟩,
    ⟨some 33, none, .nilck (.r 32)⟩,
    ⟨some 34, none, .faddr 0 (.r 33)⟩,
    ⟨some 35, none, .load false 1 (.r 34)⟩,
    ⟨some 36, none, .appm 10 104 (.c .nsl) (.r 35)⟩,
    ⟨some 8, none, .asg (.r 36)⟩] [0, 3, 4, 7, 8])
  (.seq (.seq (.ops [⟨some 37, none, .mv (.r 7)⟩,
      ⟨some 38, none, .bin .lss .no (.r 37) (.c (.int .i64 0))⟩] [0, 3, 4, 7, 8, 38])
    (.cond (.r 38) (.seq (.ops [⟨some 8, none, .frzr 8 10 true⟩,
        ⟨some 9, none, .asg (.c (.int .i64 0))⟩] [0, 3, 4, 8, 9])
      (.seq (.block 0 (.loop [0, 3, 4, 8, 9] [] c_tattlerref5_Table_Join_l0))
      (.seq (.ops [⟨some 55, none, .build [(.int .i64 0), (.int .i64 0), (.int .i64 0), (.int .i64 0), (.int .i64 0), (.int .i64 0), (.int .i64 0), (.int .i64 0), (.sl [])] []⟩,
        ⟨some 56, none, .faddr 1 (.r 3)⟩,
        ⟨some 57, none, .load true 9 (.r 56)⟩,
        ⟨some 58, none, .call false F.tattlerref5_Join [(.r 55), (.r 57)]⟩,
        ⟨some 10, none, .alloc [(.int .i64 0), (.int .i64 0), (.int .i64 0), (.int .i64 0), (.int .i64 0), (.int .i64 0), (.int .i64 0), (.int .i64 0), (.sl [])] []⟩,
        ⟨none, none, .store 9 (.r 10) (.r 58) [] none⟩] [0, 3, 4, 8, 9, 10])
      (.seq (.dops 15 [⟨some 59, none, .mv (.r 0)⟩,
        ⟨some 60, none, .mv (.r 8)⟩,
        ⟨some 61, none, .mv (.r 9)⟩,
        ⟨some 62, none, .slice false 10 (.r 60) none (some (.r 61)) none⟩,
        ⟨some 63, none, .app .fresh 10 104 (.c (.sl [])) (.r 62)⟩,
        ⟨some 64, none, .faddr 0 (.r 3)⟩,
        ⟨some 65, none, .load false 1 (.r 64)⟩,
        ⟨some 66, none, .load true 9 (.r 10)⟩,
        ⟨some 67, none, .build [(.str []), (.int .i64 0), (.int .i64 0), (.int .i64 0), (.int .i64 0), (.int .i64 0), (.int .i64 0), (.int .i64 0), (.int .i64 0), (.sl [])] [(0, 1, (.r 65)), (1, 9, (.r 66))]⟩,
        ⟨some 68, none, .bslice (.agg [(.str []), (.int .i64 0), (.int .i64 0), (.int .i64 0), (.int .i64 0), (.int .i64 0), (.int .i64 0), (.int .i64 0), (.int .i64 0), (.sl [])]) 10 1 [(0, (.r 67))]⟩,
        ⟨some 69, none, .app (.reg 63) 10 104 (.r 63) (.r 68)⟩,
        ⟨some 70, none, .mv (.r 8)⟩,
        ⟨some 71, none, .mv (.r 9)⟩,
        ⟨some 72, none, .slice false 10 (.r 70) (some (.r 71)) none none⟩,
        ⟨some 73, none, .app (.reg 69) 10 104 (.r 69) (.r 72)⟩,
        ⟨some 74, none, .nilck (.r 59)⟩,
        ⟨some 75, none, .faddr 0 (.r 74)⟩,
        ⟨none, none, .store 1 (.r 75) (.r 73) [] none⟩] [4, 10])
      (.seq (.ops [⟨some 76, none, .load true 9 (.r 10)⟩,
        ⟨none, none, .store 9 (.r 4) (.r 76) [] none⟩,
        ⟨some 5, none, .asg (.c (.bool false))⟩,
        ⟨some 6, none, .asg (.c (.int .i64 0))⟩] [4, 5, 6])
      .ret))))) .skip))
  (.seq (.xops 9 8 [4, 6, 7] [⟨some 77, none, .mv (.r 8)⟩,
    ⟨some 78, none, .mv (.r 7)⟩,
    ⟨some 79, none, .iaddr none 10 (.r 77) (.r 78)⟩,
    ⟨some 80, none, .faddr 1 (.r 79)⟩,
    ⟨some 81, none, .load true 9 (.r 80)⟩,
    ⟨some 82, none, .faddr 1 (.r 3)⟩,
    ⟨some 83, none, .load true 9 (.r 82)⟩,
    ⟨some 84, none, .call true F.tattlerref5_Join [(.r 81), (.r 83)]⟩,
    ⟨some 11, none, .alloc [(.int .i64 0), (.int .i64 0), (.int .i64 0), (.int .i64 0), (.int .i64 0), (.int .i64 0), (.int .i64 0), (.int .i64 0), (.sl [])] []⟩,
    ⟨none, none, .store 9 (.r 11) (.r 84) [] none⟩] [0, 4, 7, 8, 11])
  (.seq (.dops 6 [⟨some 85, none, .load true 9 (.r 11)⟩,
    ⟨some 86, none, .mv (.r 8)⟩,
    ⟨some 87, none, .mv (.r 7)⟩,
    ⟨some 88, none, .iaddr none 10 (.r 86) (.r 87)⟩,
    ⟨some 89, none, .faddr 1 (.r 88)⟩,
    ⟨some 90, none, .load true 9 (.r 89)⟩,
    ⟨some 91, none, .call false F.tattlerref5_Same [(.r 85), (.r 90)]⟩,
    ⟨some 12, none, .asg (.r 91)⟩] [0, 4, 7, 8, 11, 12])
  (.seq (.ops [⟨some 92, none, .mv (.r 8)⟩,
    ⟨some 93, none, .mv (.r 7)⟩,
    ⟨some 94, none, .load true 9 (.r 11)⟩,
    ⟨some 95, none, .iaddr none 10 (.r 92) (.r 93)⟩,
    ⟨some 96, none, .faddr 1 (.r 95)⟩,
    ⟨none, none, .store 9 (.r 96) (.r 94) [] none⟩] [0, 4, 8, 11, 12])
  (.seq (.ops [⟨some 8, none, .frzr 8 10 true⟩,
    ⟨some 97, none, .mv (.r 0)⟩,
    ⟨some 98, none, .mv (.r 8)⟩,
    ⟨some 99, none, .nilck (.r 97)⟩,
    ⟨some 100, none, .faddr 0 (.r 99)⟩,
    ⟨none, none, .store 1 (.r 100) (.r 98) [] none⟩] [4, 11, 12])
  (.seq (.ops [⟨some 101, none, .load true 9 (.r 11)⟩,
    ⟨some 102, none, .mv (.r 12)⟩,
    ⟨none, none, .store 9 (.r 4) (.r 101) [] none⟩,
    ⟨some 5, none, .asg (.r 102)⟩,
    ⟨some 6, none, .asg (.c (.int .i64 0))⟩] [4, 5, 6])
  .ret))))))))))),
  [.cell 4 true 9, .r 5, .r 6], none⟩
/-- (*tattler/tattlerref5.Table).Get -/
def c_tattlerref5_Table_Get : VFun := ⟨2,
  (.seq (.ops [⟨some 4, none, .alloc [(.int .i64 0), (.int .i64 0), (.int .i64 0), (.int .i64 0), (.int .i64 0), (.int .i64 0), (.int .i64 0), (.int .i64 0), (.sl [])] []⟩,
    ⟨some 5, none, .asg (.c (.bool false))⟩] [0, 1, 4])
  (.seq (.seq (.ops [⟨some 7, none, .mv (.r 0)⟩,
      ⟨some 8, none, .mv (.r 1)⟩,
      ⟨some 9, none, .call false F.tattlerref5_Table_At [(.r 7), (.r 8)]⟩,
      ⟨some 6, none, .asg (.r 9)⟩] [0, 4, 6])
    (.seq (.ops [⟨some 10, none, .mv (.r 6)⟩,
      ⟨some 11, none, .bin .geq .no (.r 10) (.c (.int .i64 0))⟩] [0, 4, 6, 11])
    (.cond (.r 11) (.seq (.ops [⟨some 12, none, .mv (.r 0)⟩,
        ⟨some 13, none, .nilck (.r 12)⟩,
        ⟨some 14, none, .faddr 0 (.r 13)⟩,
        ⟨some 15, none, .load false 1 (.r 14)⟩,
        ⟨some 16, none, .mv (.r 6)⟩,
        ⟨some 17, none, .iaddr none 10 (.r 15) (.r 16)⟩,
        ⟨some 18, none, .faddr 1 (.r 17)⟩,
        ⟨some 19, none, .load true 9 (.r 18)⟩,
        ⟨none, none, .store 9 (.r 4) (.r 19) [] none⟩,
        ⟨some 5, none, .asg (.c (.bool true))⟩] [4, 5])
      .ret) .skip)))
  (.seq (.ops [⟨some 20, none, .build [(.int .i64 0), (.int .i64 0), (.int .i64 0), (.int .i64 0), (.int .i64 0), (.int .i64 0), (.int .i64 0), (.int .i64 0), (.sl [])] []⟩,
    ⟨none, none, .store 9 (.r 4) (.r 20) [] none⟩,
    ⟨some 5, none, .asg (.c (.bool false))⟩] [4, 5])
  .ret))),
  [.cell 4 true 9, .r 5], none⟩
def c_tattlerlaw13_agree_l0 : VCode := (.seq (.ops [⟨some 20, none, .bin .lss .no (.r 19) (.r 18)⟩] [3, 6, 10, 11, 12, 17, 18, 19, 20])
  (.seq (.cond (.r 20) .skip (.exit 2))
  (.seq (.block 3 (.seq (.ops [⟨some 21, none, .iaddr none 4 (.r 17) (.r 19)⟩,
        ⟨some 22, none, .load true 4 (.r 21)⟩,
        ⟨some 8, none, .alloc [(.int .i64 0), (.int .i64 0), (.sl []), (.bool false)] []⟩,
        ⟨none, none, .store 4 (.r 8) (.r 22) [] none⟩] [3, 6, 8, 10, 11, 12, 17, 18, 19])
      (.seq (.ops [⟨some 23, none, .faddr 0 (.r 6)⟩,
        ⟨some 24, none, .load true 2 (.r 23)⟩,
        ⟨some 25, none, .faddr 0 (.r 8)⟩,
        ⟨some 26, none, .load true 2 (.r 25)⟩,
        ⟨some 27, none, .bin .eql (.agg [.i, .i]) (.r 24) (.r 26)⟩,
        ⟨some 28, none, .mv (.r 27)⟩,
        ⟨some 29, some (28, true), .faddr 3 (.r 6)⟩,
        ⟨some 30, some (28, true), .load false 1 (.r 29)⟩,
        ⟨some 31, some (28, true), .faddr 3 (.r 8)⟩,
        ⟨some 32, some (28, true), .load false 1 (.r 31)⟩,
        ⟨some 33, some (28, true), .bin .neq .bool (.r 30) (.r 32)⟩,
        ⟨some 34, some (28, true), .mv (.r 33)⟩,
        ⟨some 35, some (34, false), .faddr 2 (.r 6)⟩,
        ⟨some 36, some (34, false), .load false 1 (.r 35)⟩,
        ⟨some 37, some (34, false), .conv .strOfBytes (.r 36)⟩,
        ⟨some 38, some (34, false), .faddr 2 (.r 8)⟩,
        ⟨some 39, some (34, false), .load false 1 (.r 38)⟩,
        ⟨some 40, some (34, false), .conv .strOfBytes (.r 39)⟩,
        ⟨some 41, some (34, false), .bin .neq .no (.r 37) (.r 40)⟩,
        ⟨some 42, some (28, true), .pick (.r 34) (.c (.bool true)) (.r 41)⟩,
        ⟨some 43, none, .pick (.r 28) (.r 42) (.c (.bool false))⟩] [3, 6, 10, 11, 12, 17, 18, 19, 43])
      (.cond (.r 43) (.seq (.ops [⟨some 4, none, .asg (.c (.bool false))⟩] [4])
        .ret) .skip))))
  (.ops [⟨some 44, none, .bin .add .no (.r 19) (.c (.int .i64 1))⟩,
  ⟨some 19, none, .mv (.r 44)⟩] [3, 6, 10, 11, 12, 17, 18, 19]))))
def c_tattlerlaw13_agree_l1 : VCode := (.seq (.ops [⟨some 13, none, .bin .lss .no (.r 12) (.r 11)⟩] [3, 10, 11, 12, 13])
  (.seq (.cond (.r 13) .skip (.exit 0))
  (.seq (.block 1 (.seq (.ops [⟨some 14, none, .iaddr none 4 (.r 10) (.r 12)⟩,
        ⟨some 15, none, .load true 4 (.r 14)⟩,
        ⟨some 6, none, .alloc [(.int .i64 0), (.int .i64 0), (.sl []), (.bool false)] []⟩,
        ⟨none, none, .store 4 (.r 6) (.r 15) [] none⟩] [3, 6, 10, 11, 12])
      (.seq (.ops [⟨some 16, none, .faddr 8 (.r 3)⟩,
        ⟨some 17, none, .load false 1 (.r 16)⟩,
        ⟨some 18, none, .len .sl (.r 17)⟩,
        ⟨some 19, none, .mv (.c (.int .i64 0))⟩] [3, 6, 10, 11, 12, 17, 18, 19])
      (.block 2 (.loop [3, 6, 10, 11, 12, 17, 18, 19] [] c_tattlerlaw13_agree_l0)))))
  (.ops [⟨some 45, none, .bin .add .no (.r 12) (.c (.int .i64 1))⟩,
  ⟨some 12, none, .mv (.r 45)⟩] [3, 10, 11, 12]))))
/-- tattler/tattlerlaw13.agree -/
def c_tattlerlaw13_agree : VFun := ⟨2,
  (.seq (.ops [⟨some 2, none, .box 9 (.r 0)⟩,
    ⟨some 3, none, .box 9 (.r 1)⟩,
    ⟨some 4, none, .asg (.c (.bool false))⟩] [2, 3])
  (.seq (.seq (.ops [⟨some 9, none, .faddr 8 (.r 2)⟩,
      ⟨some 10, none, .load false 1 (.r 9)⟩,
      ⟨some 11, none, .len .sl (.r 10)⟩,
      ⟨some 12, none, .mv (.c (.int .i64 0))⟩] [3, 10, 11, 12])
    (.block 0 (.loop [3, 10, 11, 12] [] c_tattlerlaw13_agree_l1)))
  (.seq (.ops [⟨some 4, none, .asg (.c (.bool true))⟩] [4])
  .ret))),
  [.r 4], none⟩
def c_digest_Of_l0 : VCode := (.seq (.ops [⟨some 9, none, .bin .lss .no (.r 8) (.r 7)⟩] [3, 6, 7, 8, 9])
  (.seq (.cond (.r 9) .skip (.exit 0))
  (.seq (.block 1 (.seq (.ops [⟨some 10, none, .iaddr none 10 (.r 6) (.r 8)⟩,
        ⟨some 11, none, .load true 10 (.r 10)⟩,
        ⟨some 5, none, .alloc [(.str []), (.int .i64 0), (.int .i64 0), (.int .i64 0), (.int .i64 0), (.int .i64 0), (.int .i64 0), (.int .i64 0), (.int .i64 0), (.sl [])] []⟩,
        ⟨none, none, .store 10 (.r 5) (.r 11) [] none⟩] [3, 5, 6, 7, 8])
      (.dops 11 [⟨some 12, none, .mv (.r 3)⟩,
      ⟨some 13, none, .faddr 0 (.r 5)⟩,
      ⟨some 14, none, .load false 1 (.r 13)⟩,
      ⟨some 15, none, .faddr 1 (.r 5)⟩,
      ⟨some 16, none, .faddr 0 (.r 15)⟩,
      ⟨some 17, none, .load true 8 (.r 16)⟩,
      ⟨some 18, none, .faddr 1 (.r 5)⟩,
      ⟨some 19, none, .load true 9 (.r 18)⟩,
      ⟨some 20, none, .call true F.digest_dots [(.r 19)]⟩,
      ⟨some 21, none, .build [(.str []), (.int .i64 0), (.int .i64 0), (.int .i64 0), (.int .i64 0), (.int .i64 0), (.int .i64 0), (.int .i64 0), (.int .i64 0), (.sl [])] [(0, 1, (.r 14)), (1, 8, (.r 17)), (9, 1, (.r 20))]⟩,
      ⟨some 22, none, .bslice (.agg [(.str []), (.int .i64 0), (.int .i64 0), (.int .i64 0), (.int .i64 0), (.int .i64 0), (.int .i64 0), (.int .i64 0), (.int .i64 0), (.sl [])]) 10 1 [(0, (.r 21))]⟩,
      ⟨some 23, none, .app (.reg 3) 10 104 (.r 12) (.r 22)⟩,
      ⟨some 3, none, .asg (.r 23)⟩] [3, 6, 7, 8])))
  (.ops [⟨some 24, none, .bin .add .no (.r 8) (.c (.int .i64 1))⟩,
  ⟨some 8, none, .mv (.r 24)⟩] [3, 6, 7, 8]))))
/-- tattler/digest.Of -/
def c_digest_Of : VFun := ⟨1,
  (.seq (.ops [⟨some 2, none, .asg (.c (.sl []))⟩] [0])
  (.seq (.ops [⟨some 3, none, .asg (.c (.sl []))⟩] [0, 3])
  (.seq (.seq (.ops [⟨some 6, none, .mv (.r 0)⟩,
      ⟨some 7, none, .len .sl (.r 6)⟩,
      ⟨some 8, none, .mv (.c (.int .i64 0))⟩] [3, 6, 7, 8])
    (.block 0 (.loop [3, 6, 7, 8] [(2, 0, 0), (3, 0, 10)] c_digest_Of_l0)))
  (.seq (.ops [⟨some 25, none, .mv (.r 3)⟩,
    ⟨some 2, none, .asg (.r 25)⟩] [2])
  .ret)))),
  [.r 2], none⟩
/-- tattler/sibs.Same -/
def c_sibs_Same : VFun := ⟨2,
  (.seq (.ops [⟨some 2, none, .box 9 (.r 0)⟩,
    ⟨some 3, none, .box 9 (.r 1)⟩,
    ⟨some 4, none, .asg (.c (.bool false))⟩] [2, 3])
  (.seq (.ops [⟨some 5, none, .faddr 0 (.r 2)⟩,
    ⟨some 6, none, .load true 8 (.r 5)⟩,
    ⟨some 7, none, .faddr 0 (.r 3)⟩,
    ⟨some 8, none, .load true 8 (.r 7)⟩,
    ⟨some 9, none, .bin .eql (.agg [.i, .i, .i, .i, .i, .i, .i, .i]) (.r 6) (.r 8)⟩,
    ⟨some 10, none, .mv (.r 9)⟩,
    ⟨some 11, some (10, true), .faddr 8 (.r 2)⟩,
    ⟨some 12, some (10, true), .load false 1 (.r 11)⟩,
    ⟨some 13, some (10, true), .faddr 8 (.r 3)⟩,
    ⟨some 14, some (10, true), .load false 1 (.r 13)⟩,
    ⟨some 15, some (10, true), .call false F.slices_EqualFunc_api_Value_api_Value_api_Value_api_Value [(.r 12), (.r 14), (.c (.fn F.sibs_Same_c1 [] []))]⟩,
    ⟨some 16, none, .pick (.r 10) (.r 15) (.c (.bool false))⟩,
    ⟨some 4, none, .asg (.r 16)⟩] [4])
  .ret)),
  [.r 4], none⟩
/-- tattler/digest.Lacks -/
def c_digest_Lacks : VFun := ⟨2,
  (.seq (.ops [⟨some 2, none, .box 10 (.r 0)⟩,
    ⟨some 3, none, .box 10 (.r 1)⟩,
    ⟨some 4, none, .asg (.c (.bool false))⟩] [2, 3])
  (.seq (.seq (.ops [⟨some 6, none, .faddr 0 (.r 2)⟩,
      ⟨some 7, none, .load false 1 (.r 6)⟩,
      ⟨some 8, none, .faddr 0 (.r 3)⟩,
      ⟨some 9, none, .load false 1 (.r 8)⟩,
      ⟨some 10, none, .bin .neq .no (.r 7) (.r 9)⟩,
      ⟨some 11, none, .mv (.r 10)⟩,
      ⟨some 12, some (11, false), .faddr 1 (.r 2)⟩,
      ⟨some 13, some (11, false), .faddr 0 (.r 12)⟩,
      ⟨some 14, some (11, false), .load true 8 (.r 13)⟩,
      ⟨some 15, some (11, false), .faddr 1 (.r 3)⟩,
      ⟨some 16, some (11, false), .load true 8 (.r 15)⟩,
      ⟨some 17, some (11, false), .call false F.vector_Leq [(.r 14), (.r 16)]⟩,
      ⟨some 18, some (11, false), .un .not (.r 17)⟩,
      ⟨some 19, none, .pick (.r 11) (.c (.bool true)) (.r 18)⟩] [2, 3, 19])
    (.cond (.r 19) (.seq (.ops [⟨some 4, none, .asg (.c (.bool true))⟩] [4])
      .ret) .skip))
  (.seq (.ops [⟨some 20, none, .faddr 1 (.r 2)⟩,
    ⟨some 21, none, .load true 9 (.r 20)⟩,
    ⟨some 22, none, .call false F.digest_dots [(.r 21)]⟩,
    ⟨some 5, none, .alloc [(.sl [])] []⟩,
    ⟨none, none, .store 1 (.r 5) (.r 22) [] none⟩] [2, 3, 5])
  (.seq (.ops [⟨some 23, none, .faddr 9 (.r 3)⟩,
    ⟨some 24, none, .load false 1 (.r 23)⟩,
    ⟨some 25, none, .mkfn F.digest_Lacks_c1 [] [(.r 2), (.r 5)]⟩,
    ⟨some 26, none, .call false F.slices_ContainsFunc_api_Dot_api_Dot [(.r 24), (.r 25)]⟩,
    ⟨some 4, none, .asg (.r 26)⟩] [4])
  .ret)))),
  [.r 4], none⟩
/-- tattler/wire.NewWriter -/
def c_wire_NewWriter : VFun := ⟨1,
  (.seq (.ops [⟨some 2, none, .asg (.c (.ptr none))⟩] [0])
  (.seq (.ops [⟨some 3, none, .mv (.r 0)⟩,
    ⟨some 4, none, .mx [(.c (.int .i64 0)), (.r 3)]⟩,
    ⟨some 5, none, .bld [(.sl []), (.int .i64 0), (.bool false)] [(1, 1, (.r 4))] [0]⟩,
    ⟨some 6, none, .boxo 3 (.r 5) [(0, 1)]⟩,
    ⟨some 2, none, .asg (.r 6)⟩] [2])
  .ret)),
  [.r 2], none⟩
def c_digest_Write_l0 : VCode := (.seq (.ops [⟨some 25, none, .bin .lss .no (.r 24) (.r 23)⟩] [0, 22, 23, 24, 25])
  (.seq (.cond (.r 25) .skip (.exit 0))
  (.seq (.block 1 (.seq (.ops [⟨some 26, none, .iaddr none 2 (.r 22) (.r 24)⟩,
        ⟨some 27, none, .load true 2 (.r 26)⟩,
        ⟨some 5, none, .alloc [(.int .i64 0), (.int .i64 0)] []⟩,
        ⟨none, none, .store 2 (.r 5) (.r 27) [] none⟩] [0, 5, 22, 23, 24])
      (.seq (.ops [⟨some 28, none, .mv (.r 0)⟩,
        ⟨some 29, none, .faddr 0 (.r 5)⟩,
        ⟨some 30, none, .load false 1 (.r 29)⟩,
        ⟨some 31, none, .conv (.toInt .u64) (.r 30)⟩,
        ⟨some 32, none, .call false F.wire_Writer_Num [(.r 28), (.r 31)]⟩] [0, 5, 22, 23, 24])
      (.ops [⟨some 33, none, .mv (.r 0)⟩,
      ⟨some 34, none, .faddr 1 (.r 5)⟩,
      ⟨some 35, none, .load false 1 (.r 34)⟩,
      ⟨some 36, none, .call false F.wire_Writer_Int [(.r 33), (.r 35)]⟩] [0, 22, 23, 24]))))
  (.ops [⟨some 37, none, .bin .add .no (.r 24) (.c (.int .i64 1))⟩,
  ⟨some 24, none, .mv (.r 37)⟩] [0, 22, 23, 24]))))
/-- tattler/digest.Write -/
def c_digest_Write : VFun := ⟨2,
  (.seq (.ops [⟨some 3, none, .box 10 (.r 1)⟩] [0, 3])
  (.seq (.ops [⟨some 6, none, .mv (.r 0)⟩,
    ⟨some 7, none, .faddr 0 (.r 3)⟩,
    ⟨some 8, none, .load false 1 (.r 7)⟩,
    ⟨some 9, none, .bstr (.r 8)⟩,
    ⟨some 10, none, .call false F.wire_Writer_Text [(.r 6), (.r 9)]⟩] [0, 3])
  (.seq (.ops [⟨some 11, none, .mv (.r 0)⟩,
    ⟨some 12, none, .faddr 1 (.r 3)⟩,
    ⟨some 13, none, .load true 8 (.r 12)⟩,
    ⟨some 14, none, .call false F.vector_Write [(.r 11), (.r 13)]⟩] [0, 3])
  (.seq (.ops [⟨some 15, none, .mv (.r 0)⟩,
    ⟨some 16, none, .faddr 9 (.r 3)⟩,
    ⟨some 17, none, .load false 1 (.r 16)⟩,
    ⟨some 18, none, .len .sl (.r 17)⟩,
    ⟨some 19, none, .conv (.toInt .u64) (.r 18)⟩,
    ⟨some 20, none, .call false F.wire_Writer_Num [(.r 15), (.r 19)]⟩] [0, 3])
  (.seq (.ops [⟨some 21, none, .faddr 9 (.r 3)⟩,
    ⟨some 22, none, .load false 1 (.r 21)⟩,
    ⟨some 23, none, .len .sl (.r 22)⟩,
    ⟨some 24, none, .mv (.c (.int .i64 0))⟩] [0, 22, 23, 24])
  (.block 0 (.loop [0, 22, 23, 24] [] c_digest_Write_l0))))))),
  [], none⟩
/-- (*tattler/wire.Writer).Done -/
def c_wire_Writer_Done : VFun := ⟨1,
  (.seq (.ops [⟨some 2, none, .asg (.c (.sl []))⟩,
    ⟨some 3, none, .asg (.c (.int .i64 0))⟩] [0])
  (.seq (.block 0 (.seq (.ops [⟨some 5, none, .mv (.r 0)⟩,
        ⟨some 6, none, .bin .eql .ptr (.r 5) (.c (.ptr none))⟩,
        ⟨some 4, none, .asg (.r 6)⟩] [0, 4])
      (.cond (.r 4) (.seq (.ops [⟨some 2, none, .asg (.c (.sl []))⟩,
          ⟨some 3, none, .asg (.c (.int .i64 1))⟩] [2, 3])
        .ret) (.seq (.ops [⟨some 8, none, .mv (.r 0)⟩,
          ⟨some 9, none, .nilck (.r 8)⟩,
          ⟨some 10, none, .faddr 2 (.r 9)⟩,
          ⟨some 11, none, .load false 1 (.r 10)⟩,
          ⟨some 7, none, .asg (.r 11)⟩] [0, 7])
        (.cond (.r 7) (.seq (.ops [⟨some 2, none, .asg (.c (.sl []))⟩,
            ⟨some 3, none, .asg (.c (.int .i64 4))⟩] [2, 3])
          .ret) .skip)))))
  (.seq (.ops [⟨some 12, none, .mv (.r 0)⟩,
    ⟨some 13, none, .nilck (.r 12)⟩,
    ⟨some 14, none, .faddr 0 (.r 13)⟩,
    ⟨some 15, none, .load false 1 (.r 14)⟩,
    ⟨some 16, none, .call false F.slices_Clone_byte_byte [(.r 15)]⟩,
    ⟨some 2, none, .asg (.r 16)⟩,
    ⟨some 3, none, .asg (.c (.int .i64 0))⟩] [2, 3])
  .ret))),
  [.r 2, .r 3], none⟩
/-- tattler/wire.NewReader -/
def c_wire_NewReader : VFun := ⟨1,
  (.seq (.ops [⟨some 2, none, .asg (.c (.ptr none))⟩] [0])
  (.seq (.ops [⟨some 3, none, .mv (.r 0)⟩,
    ⟨some 4, none, .call false F.slices_Clone_byte_byte [(.r 3)]⟩,
    ⟨some 5, none, .build [(.sl []), (.int .i64 0)] [(0, 1, (.r 4))]⟩,
    ⟨some 6, none, .box 2 (.r 5)⟩,
    ⟨some 2, none, .asg (.r 6)⟩] [2])
  .ret)),
  [.r 2], none⟩
def c_digest_Read_l0 : VCode := (.seq (.ops [⟨some 22, none, .bin .lss .no (.r 21) (.r 20)⟩] [0, 2, 4, 6, 20, 21, 22])
  (.seq (.cond (.r 22) .skip (.exit 0))
  (.seq (.block 1 (.seq (.ops [⟨some 23, none, .mv (.r 0)⟩,
        ⟨some 24, none, .call false F.wire_Reader_Num [(.r 23)]⟩,
        ⟨some 7, none, .asg (.r 24)⟩,
        ⟨none, none, .thwc 4 9 2⟩] [0, 2, 4, 6, 7, 20, 21])
      (.xops 9 6 [1] [⟨some 25, none, .faddr 9 (.r 4)⟩,
      ⟨some 26, none, .load false 1 (.r 25)⟩,
      ⟨some 27, none, .mv (.r 7)⟩,
      ⟨some 28, none, .mn [(.r 27), (.c (.int .u64 8))]⟩,
      ⟨some 29, none, .conv (.toInt .i64) (.r 28)⟩,
      ⟨some 30, none, .mv (.r 0)⟩,
      ⟨some 31, none, .call false F.wire_Reader_Int [(.r 30)]⟩,
      ⟨some 32, none, .build [(.int .i64 0), (.int .i64 0)] [(0, 1, (.r 29)), (1, 1, (.r 31))]⟩,
      ⟨some 33, none, .bslice (.agg [(.int .i64 0), (.int .i64 0)]) 2 1 [(0, (.r 32))]⟩,
      ⟨some 34, none, .appm 2 16 (.r 26) (.r 33)⟩,
      ⟨some 35, none, .faddr 9 (.r 4)⟩,
      ⟨none, none, .store 1 (.r 35) (.r 34) [] none⟩] [0, 2, 4, 6, 20, 21])))
  (.ops [⟨none, none, .setc 4 9 2 true⟩,
  ⟨some 36, none, .bin .add .no (.r 21) (.c (.int .i64 1))⟩,
  ⟨some 21, none, .mv (.r 36)⟩] [0, 2, 4, 6, 20, 21]))))
/-- tattler/digest.Read -/
def c_digest_Read : VFun := ⟨1,
  (.seq (.ops [⟨some 2, none, .alloc [(.str []), (.int .i64 0), (.int .i64 0), (.int .i64 0), (.int .i64 0), (.int .i64 0), (.int .i64 0), (.int .i64 0), (.int .i64 0), (.sl [])] []⟩,
    ⟨some 3, none, .asg (.c (.bool false))⟩] [0, 2])
  (.seq (.ops [⟨some 8, none, .mv (.r 0)⟩,
    ⟨some 9, none, .call false F.wire_Reader_Text [(.r 8), (.c (.int .i64 32))]⟩,
    ⟨some 10, none, .conv .strOfBytes (.r 9)⟩,
    ⟨some 11, none, .bld [(.str []), (.int .i64 0), (.int .i64 0), (.int .i64 0), (.int .i64 0), (.int .i64 0), (.int .i64 0), (.int .i64 0), (.int .i64 0), .nsl] [(0, 1, (.r 10))] []⟩,
    ⟨some 4, none, .alloc [(.str []), (.int .i64 0), (.int .i64 0), (.int .i64 0), (.int .i64 0), (.int .i64 0), (.int .i64 0), (.int .i64 0), (.int .i64 0), (.sl [])] []⟩,
    ⟨none, none, .store 10 (.r 4) (.r 11) [] none⟩,
    ⟨none, none, .setc 4 9 2 true⟩] [0, 2, 4])
  (.seq (.ops [⟨some 13, none, .mv (.r 0)⟩,
    ⟨some 14, none, .call false F.vector_Read [(.r 13)]⟩,
    ⟨some 12, none, .mv (.r 14)⟩,
    ⟨some 15, none, .extract 0 (.r 12)⟩,
    ⟨some 16, none, .extract 1 (.r 12)⟩,
    ⟨some 5, none, .alloc [(.int .i64 0), (.int .i64 0), (.int .i64 0), (.int .i64 0), (.int .i64 0), (.int .i64 0), (.int .i64 0), (.int .i64 0)] []⟩,
    ⟨none, none, .store 8 (.r 5) (.r 15) [] none⟩,
    ⟨some 6, none, .asg (.r 16)⟩] [0, 2, 4, 5, 6])
  (.seq (.ops [⟨some 17, none, .load true 8 (.r 5)⟩,
    ⟨some 18, none, .faddr 1 (.r 4)⟩,
    ⟨none, none, .store 8 (.r 18) (.r 17) [] none⟩] [0, 2, 4, 6])
  (.seq (.seq (.ops [⟨some 19, none, .mv (.r 0)⟩,
      ⟨some 20, none, .call false F.wire_Reader_Count [(.r 19), (.c (.int .i64 16))]⟩,
      ⟨some 21, none, .mv (.c (.int .i64 0))⟩] [0, 2, 4, 6, 20, 21])
    (.block 0 (.loop [0, 2, 4, 6, 20, 21] [] c_digest_Read_l0)))
  (.seq (.seq (.ops [⟨none, none, .thwc 4 9 2⟩,
      ⟨none, none, .frzc 4 9 2 true⟩,
      ⟨some 37, none, .mv (.r 6)⟩,
      ⟨some 38, none, .un .not (.r 37)⟩,
      ⟨some 39, none, .mv (.r 38)⟩,
      ⟨some 40, some (39, false), .mv (.r 0)⟩,
      ⟨some 41, some (39, false), .call false F.wire_Reader_End [(.r 40)]⟩,
      ⟨some 42, some (39, false), .bin .neq .no (.r 41) (.c (.int .i64 0))⟩,
      ⟨some 43, some (39, false), .mv (.r 42)⟩,
      ⟨some 44, some (43, true), .mv (.r 0)⟩,
      ⟨some 45, some (43, true), .call false F.wire_Reader_Left [(.r 44)]⟩,
      ⟨some 46, some (43, true), .bin .eql .no (.r 45) (.c (.int .i64 0))⟩,
      ⟨some 47, some (39, false), .pick (.r 43) (.r 46) (.c (.bool false))⟩,
      ⟨some 48, none, .pick (.r 39) (.c (.bool true)) (.r 47)⟩,
      ⟨some 49, none, .mv (.r 48)⟩,
      ⟨some 50, some (49, false), .load true 10 (.r 4)⟩,
      ⟨some 51, some (49, false), .call false F.digest_May [(.r 50)]⟩,
      ⟨some 52, some (49, false), .un .not (.r 51)⟩,
      ⟨some 53, none, .pick (.r 49) (.c (.bool true)) (.r 52)⟩] [2, 4, 53])
    (.cond (.r 53) (.seq (.ops [⟨some 54, none, .build [(.str []), (.int .i64 0), (.int .i64 0), (.int .i64 0), (.int .i64 0), (.int .i64 0), (.int .i64 0), (.int .i64 0), (.int .i64 0), (.sl [])] []⟩,
        ⟨none, none, .store 10 (.r 2) (.r 54) [] none⟩,
        ⟨some 3, none, .asg (.c (.bool false))⟩] [2, 3])
      .ret) .skip))
  (.seq (.ops [⟨some 55, none, .load true 10 (.r 4)⟩,
    ⟨none, none, .store 10 (.r 2) (.r 55) [] none⟩,
    ⟨some 3, none, .asg (.c (.bool true))⟩] [2, 3])
  .ret))))))),
  [.cell 2 true 10, .r 3], none⟩
def c_digest_May_l0 : VCode := (.seq (.ops [⟨some 25, none, .bin .lss .no (.r 24) (.r 23)⟩] [1, 22, 23, 24, 25])
  (.seq (.cond (.r 25) .skip (.exit 0))
  (.seq (.block 1 (.seq (.ops [⟨some 26, none, .mv (.r 24)⟩,
        ⟨some 27, none, .iaddr none 2 (.r 22) (.r 24)⟩,
        ⟨some 28, none, .load true 2 (.r 27)⟩,
        ⟨some 4, none, .alloc [(.int .i64 0), (.int .i64 0)] []⟩,
        ⟨some 3, none, .asg (.r 26)⟩,
        ⟨none, none, .store 2 (.r 4) (.r 28) [] none⟩] [1, 3, 4, 22, 23, 24])
      (.seq (.dops 16 [⟨some 29, none, .faddr 1 (.r 1)⟩,
        ⟨some 30, none, .load true 8 (.r 29)⟩,
        ⟨some 31, none, .load true 2 (.r 4)⟩,
        ⟨some 32, none, .call true F.vector_Covers [(.r 30), (.r 31)]⟩,
        ⟨some 33, none, .un .not (.r 32)⟩,
        ⟨some 34, none, .mv (.r 33)⟩,
        ⟨some 35, some (34, false), .mv (.r 3)⟩,
        ⟨some 36, some (34, false), .bin .gtr .no (.r 35) (.c (.int .i64 0))⟩,
        ⟨some 37, some (34, false), .mv (.r 36)⟩,
        ⟨some 38, some (37, true), .faddr 9 (.r 1)⟩,
        ⟨some 39, some (37, true), .load false 1 (.r 38)⟩,
        ⟨some 40, some (37, true), .mv (.r 3)⟩,
        ⟨some 41, some (37, true), .bin .sub .no (.r 40) (.c (.int .i64 1))⟩,
        ⟨some 42, some (37, true), .iaddr none 2 (.r 39) (.r 41)⟩,
        ⟨some 43, some (37, true), .load true 2 (.r 42)⟩,
        ⟨some 44, some (37, true), .load true 2 (.r 4)⟩,
        ⟨some 45, some (37, true), .call false F.vector_Less [(.r 43), (.r 44)]⟩,
        ⟨some 46, some (37, true), .un .not (.r 45)⟩,
        ⟨some 47, some (34, false), .pick (.r 37) (.r 46) (.c (.bool false))⟩,
        ⟨some 48, none, .pick (.r 34) (.c (.bool true)) (.r 47)⟩] [1, 22, 23, 24, 48])
      (.cond (.r 48) (.seq (.ops [⟨some 2, none, .asg (.c (.bool false))⟩] [2])
        .ret) .skip))))
  (.ops [⟨some 49, none, .bin .add .no (.r 24) (.c (.int .i64 1))⟩,
  ⟨some 24, none, .mv (.r 49)⟩] [1, 22, 23, 24]))))
/-- tattler/digest.May -/
def c_digest_May : VFun := ⟨1,
  (.seq (.ops [⟨some 1, none, .box 10 (.r 0)⟩,
    ⟨some 2, none, .asg (.c (.bool false))⟩] [1])
  (.seq (.seq (.ops [⟨some 5, none, .faddr 0 (.r 1)⟩,
      ⟨some 6, none, .load false 1 (.r 5)⟩,
      ⟨some 7, none, .call false F.keys_May [(.r 6)]⟩,
      ⟨some 8, none, .un .not (.r 7)⟩,
      ⟨some 9, none, .mv (.r 8)⟩,
      ⟨some 10, some (9, false), .faddr 1 (.r 1)⟩,
      ⟨some 11, some (9, false), .load true 8 (.r 10)⟩,
      ⟨some 12, some (9, false), .call false F.vector_May [(.r 11)]⟩,
      ⟨some 13, some (9, false), .un .not (.r 12)⟩,
      ⟨some 14, none, .pick (.r 9) (.c (.bool true)) (.r 13)⟩,
      ⟨some 15, none, .mv (.r 14)⟩,
      ⟨some 16, some (15, false), .faddr 9 (.r 1)⟩,
      ⟨some 17, some (15, false), .load false 1 (.r 16)⟩,
      ⟨some 18, some (15, false), .len .sl (.r 17)⟩,
      ⟨some 19, some (15, false), .bin .gtr .no (.r 18) (.c (.int .i64 16))⟩,
      ⟨some 20, none, .pick (.r 15) (.c (.bool true)) (.r 19)⟩] [1, 20])
    (.cond (.r 20) (.seq (.ops [⟨some 2, none, .asg (.c (.bool false))⟩] [2])
      .ret) .skip))
  (.seq (.seq (.ops [⟨some 21, none, .faddr 9 (.r 1)⟩,
      ⟨some 22, none, .load false 1 (.r 21)⟩,
      ⟨some 23, none, .len .sl (.r 22)⟩,
      ⟨some 24, none, .mv (.c (.int .i64 0))⟩] [1, 22, 23, 24])
    (.block 0 (.loop [1, 22, 23, 24] [] c_digest_May_l0)))
  (.seq (.ops [⟨some 2, none, .asg (.c (.bool true))⟩] [2])
  .ret)))),
  [.r 2], none⟩
def c_tattlerref5_SameDigests_l0 : VCode := (.seq (.ops [⟨some 14, none, .bin .lss .no (.r 13) (.r 12)⟩] [0, 1, 12, 13, 14])
  (.seq (.cond (.r 14) .skip (.exit 0))
  (.seq (.block 1 (.seq (.ops [⟨some 15, none, .mv (.r 13)⟩,
        ⟨some 5, none, .asg (.r 15)⟩] [0, 1, 5, 12, 13])
      (.seq (.dops 35 [⟨some 16, none, .mv (.r 0)⟩,
        ⟨some 17, none, .mv (.r 5)⟩,
        ⟨some 18, none, .iaddr none 10 (.r 16) (.r 17)⟩,
        ⟨some 19, none, .faddr 0 (.r 18)⟩,
        ⟨some 20, none, .load false 1 (.r 19)⟩,
        ⟨some 21, none, .mv (.r 1)⟩,
        ⟨some 22, none, .mv (.r 5)⟩,
        ⟨some 23, none, .iaddr none 10 (.r 21) (.r 22)⟩,
        ⟨some 24, none, .faddr 0 (.r 23)⟩,
        ⟨some 25, none, .load false 1 (.r 24)⟩,
        ⟨some 26, none, .bin .neq .no (.r 20) (.r 25)⟩,
        ⟨some 27, none, .mv (.r 26)⟩,
        ⟨some 28, some (27, false), .mv (.r 0)⟩,
        ⟨some 29, some (27, false), .mv (.r 5)⟩,
        ⟨some 30, some (27, false), .iaddr none 10 (.r 28) (.r 29)⟩,
        ⟨some 31, some (27, false), .faddr 1 (.r 30)⟩,
        ⟨some 32, some (27, false), .load true 8 (.r 31)⟩,
        ⟨some 33, some (27, false), .mv (.r 1)⟩,
        ⟨some 34, some (27, false), .mv (.r 5)⟩,
        ⟨some 35, some (27, false), .iaddr none 10 (.r 33) (.r 34)⟩,
        ⟨some 36, some (27, false), .faddr 1 (.r 35)⟩,
        ⟨some 37, some (27, false), .load true 8 (.r 36)⟩,
        ⟨some 38, some (27, false), .bin .neq (.agg [.i, .i, .i, .i, .i, .i, .i, .i]) (.r 32) (.r 37)⟩,
        ⟨some 39, none, .pick (.r 27) (.c (.bool true)) (.r 38)⟩,
        ⟨some 40, none, .mv (.r 39)⟩,
        ⟨some 41, some (40, false), .mv (.r 0)⟩,
        ⟨some 42, some (40, false), .mv (.r 5)⟩,
        ⟨some 43, some (40, false), .iaddr none 10 (.r 41) (.r 42)⟩,
        ⟨some 44, some (40, false), .faddr 9 (.r 43)⟩,
        ⟨some 45, some (40, false), .load false 1 (.r 44)⟩,
        ⟨some 46, some (40, false), .mv (.r 1)⟩,
        ⟨some 47, some (40, false), .mv (.r 5)⟩,
        ⟨some 48, some (40, false), .iaddr none 10 (.r 46) (.r 47)⟩,
        ⟨some 49, some (40, false), .faddr 9 (.r 48)⟩,
        ⟨some 50, some (40, false), .load false 1 (.r 49)⟩,
        ⟨some 51, some (40, false), .call false F.tattlerref5_SameDots [(.r 45), (.r 50)]⟩,
        ⟨some 52, some (40, false), .un .not (.r 51)⟩,
        ⟨some 53, none, .pick (.r 40) (.c (.bool true)) (.r 52)⟩] [0, 1, 12, 13, 53])
      (.cond (.r 53) (.seq (.ops [⟨some 4, none, .asg (.c (.bool false))⟩] [4])
        .ret) .skip))))
  (.ops [⟨some 54, none, .bin .add .no (.r 13) (.c (.int .i64 1))⟩,
  ⟨some 13, none, .mv (.r 54)⟩] [0, 1, 12, 13]))))
/-- tattler/tattlerref5.SameDigests -/
def c_tattlerref5_SameDigests : VFun := ⟨2,
  (.seq (.ops [⟨some 4, none, .asg (.c (.bool false))⟩] [0, 1])
  (.seq (.seq (.ops [⟨some 6, none, .mv (.r 0)⟩,
      ⟨some 7, none, .len .sl (.r 6)⟩,
      ⟨some 8, none, .mv (.r 1)⟩,
      ⟨some 9, none, .len .sl (.r 8)⟩,
      ⟨some 10, none, .bin .neq .no (.r 7) (.r 9)⟩] [0, 1, 10])
    (.cond (.r 10) (.seq (.ops [⟨some 4, none, .asg (.c (.bool false))⟩] [4])
      .ret) .skip))
  (.seq (.seq (.ops [⟨some 11, none, .mv (.r 0)⟩,
      ⟨some 12, none, .len .sl (.r 11)⟩,
      ⟨some 13, none, .mv (.c (.int .i64 0))⟩] [0, 1, 12, 13])
    (.block 0 (.loop [0, 1, 12, 13] [] c_tattlerref5_SameDigests_l0)))
  (.seq (.ops [⟨some 4, none, .asg (.c (.bool true))⟩] [4])
  .ret)))),
  [.r 4], none⟩
/-- (*tattler/wire.Reader).End -/
def c_wire_Reader_End : VFun := ⟨1,
  (.seq (.ops [⟨some 2, none, .asg (.c (.int .i64 0))⟩] [0])
  (.seq (.block 0 (.seq (.ops [⟨some 4, none, .mv (.r 0)⟩,
        ⟨some 5, none, .bin .eql .ptr (.r 4) (.c (.ptr none))⟩,
        ⟨some 3, none, .asg (.r 5)⟩] [0, 3])
      (.cond (.r 3) (.seq (.ops [⟨some 2, none, .asg (.c (.int .i64 1))⟩] [2])
        .ret) (.seq (.ops [⟨some 7, none, .mv (.r 0)⟩,
          ⟨some 8, none, .nilck (.r 7)⟩,
          ⟨some 9, none, .faddr 1 (.r 8)⟩,
          ⟨some 10, none, .load false 1 (.r 9)⟩,
          ⟨some 11, none, .bin .eql .no (.r 10) (.c (.int .i64 0))⟩,
          ⟨some 12, none, .mv (.r 11)⟩,
          ⟨some 13, some (12, true), .mv (.r 0)⟩,
          ⟨some 14, some (12, true), .nilck (.r 13)⟩,
          ⟨some 15, some (12, true), .faddr 0 (.r 14)⟩,
          ⟨some 16, some (12, true), .load false 1 (.r 15)⟩,
          ⟨some 17, some (12, true), .len .sl (.r 16)⟩,
          ⟨some 18, some (12, true), .bin .gtr .no (.r 17) (.c (.int .i64 0))⟩,
          ⟨some 19, none, .pick (.r 12) (.r 18) (.c (.bool false))⟩,
          ⟨some 6, none, .asg (.r 19)⟩] [0, 6])
        (.cond (.r 6) (.seq (.ops [⟨some 2, none, .asg (.c (.int .i64 3))⟩] [2])
          .ret) .skip)))))
  (.seq (.ops [⟨some 20, none, .mv (.r 0)⟩,
    ⟨some 21, none, .nilck (.r 20)⟩,
    ⟨some 22, none, .faddr 1 (.r 21)⟩,
    ⟨some 23, none, .load false 1 (.r 22)⟩,
    ⟨some 2, none, .asg (.r 23)⟩] [2])
  .ret))),
  [.r 2], none⟩
/-- tattler/tattlerref5.MayEntry -/
def c_tattlerref5_MayEntry : VFun := ⟨1,
  (.seq (.ops [⟨some 1, none, .box 10 (.r 0)⟩,
    ⟨some 2, none, .asg (.c (.bool false))⟩] [1])
  (.seq (.ops [⟨some 3, none, .faddr 0 (.r 1)⟩,
    ⟨some 4, none, .load false 1 (.r 3)⟩,
    ⟨some 5, none, .call false F.tattlerref5_MayKey [(.r 4)]⟩,
    ⟨some 6, none, .mv (.r 5)⟩,
    ⟨some 7, some (6, true), .faddr 1 (.r 1)⟩,
    ⟨some 8, some (6, true), .load true 9 (.r 7)⟩,
    ⟨some 9, some (6, true), .call false F.tattlerref5_May [(.r 8)]⟩,
    ⟨some 10, none, .pick (.r 6) (.r 9) (.c (.bool false))⟩,
    ⟨some 2, none, .asg (.r 10)⟩] [2])
  .ret)),
  [.r 2], none⟩
/-- tattler/digest.lacked -/
def c_digest_lacked : VFun := ⟨2,
  (.seq (.ops [⟨some 2, none, .box 10 (.r 0)⟩,
    ⟨some 4, none, .asg (.c (.bool false))⟩] [1, 2])
  (.seq (.ops [⟨some 6, none, .mv (.r 1)⟩,
    ⟨some 7, none, .mkfn F.digest_lacked_c1 [] [(.r 2)]⟩,
    ⟨some 8, none, .call false F.slices_IndexFunc_api_Digest_api_Digest [(.r 6), (.r 7)]⟩,
    ⟨some 5, none, .asg (.r 8)⟩] [1, 2, 5])
  (.seq (.dops 8 [⟨some 9, none, .mv (.r 5)⟩,
    ⟨some 10, none, .bin .lss .no (.r 9) (.c (.int .i64 0))⟩,
    ⟨some 11, none, .mv (.r 10)⟩,
    ⟨some 12, some (11, false), .load true 10 (.r 2)⟩,
    ⟨some 13, some (11, false), .mv (.r 1)⟩,
    ⟨some 14, some (11, false), .mv (.r 5)⟩,
    ⟨some 15, some (11, false), .iaddr none 10 (.r 13) (.r 14)⟩,
    ⟨some 16, some (11, false), .load true 10 (.r 15)⟩,
    ⟨some 17, some (11, false), .call false F.digest_Lacks [(.r 12), (.r 16)]⟩,
    ⟨some 18, none, .pick (.r 11) (.c (.bool true)) (.r 17)⟩,
    ⟨some 4, none, .asg (.r 18)⟩] [4])
  .ret))),
  [.r 4], none⟩
def c_digest_copied_l0 : VCode := (.seq (.ops [⟨some 11, none, .bin .lss .no (.r 10) (.r 9)⟩] [1, 2, 3, 8, 9, 10, 11])
  (.seq (.cond (.r 11) .skip (.exit 0))
  (.seq (.block 1 (.seq (.ops [⟨some 12, none, .iaddr none 4 (.r 8) (.r 10)⟩,
        ⟨some 13, none, .load true 4 (.r 12)⟩,
        ⟨some 5, none, .alloc [(.int .i64 0), (.int .i64 0), (.sl []), (.bool false)] []⟩,
        ⟨none, none, .store 4 (.r 5) (.r 13) [] none⟩] [1, 2, 3, 5, 8, 9, 10])
      (.seq (.ops [⟨some 14, none, .faddr 2 (.r 5)⟩,
        ⟨some 15, none, .load false 1 (.r 14)⟩,
        ⟨some 16, none, .call false F.slices_Clone_byte_byte [(.r 15)]⟩,
        ⟨some 17, none, .faddr 2 (.r 5)⟩,
        ⟨none, none, .store 1 (.r 17) (.r 16) [] none⟩] [1, 2, 3, 5, 8, 9, 10])
      (.ops [⟨some 18, none, .mv (.r 3)⟩,
      ⟨some 19, none, .load true 4 (.r 5)⟩,
      ⟨some 20, none, .bslice (.agg [(.int .i64 0), (.int .i64 0), (.sl []), (.bool false)]) 4 1 [(0, (.r 19))]⟩,
      ⟨some 21, none, .app (.reg 3) 4 48 (.r 18) (.r 20)⟩,
      ⟨some 3, none, .asg (.r 21)⟩] [1, 2, 3, 8, 9, 10]))))
  (.ops [⟨some 22, none, .bin .add .no (.r 10) (.c (.int .i64 1))⟩,
  ⟨some 10, none, .mv (.r 22)⟩] [1, 2, 3, 8, 9, 10]))))
/-- tattler/digest.copied -/
def c_digest_copied : VFun := ⟨1,
  (.seq (.ops [⟨some 1, none, .box 10 (.r 0)⟩,
    ⟨some 2, none, .alloc [(.str []), (.int .i64 0), (.int .i64 0), (.int .i64 0), (.int .i64 0), (.int .i64 0), (.int .i64 0), (.int .i64 0), (.int .i64 0), (.sl [])] []⟩] [1, 2])
  (.seq (.ops [⟨some 3, none, .asg (.c (.sl []))⟩] [1, 2, 3])
  (.seq (.seq (.ops [⟨some 6, none, .faddr 1 (.r 1)⟩,
      ⟨some 7, none, .faddr 8 (.r 6)⟩,
      ⟨some 8, none, .load false 1 (.r 7)⟩,
      ⟨some 9, none, .len .sl (.r 8)⟩,
      ⟨some 10, none, .mv (.c (.int .i64 0))⟩] [1, 2, 3, 8, 9, 10])
    (.block 0 (.loop [1, 2, 3, 8, 9, 10] [(3, 0, 4)] c_digest_copied_l0)))
  (.seq (.ops [⟨some 23, none, .mv (.r 3)⟩,
    ⟨some 24, none, .faddr 1 (.r 1)⟩,
    ⟨some 25, none, .faddr 8 (.r 24)⟩,
    ⟨none, none, .store 1 (.r 25) (.r 23) [] none⟩] [1, 2])
  (.seq (.ops [⟨some 26, none, .load true 10 (.r 1)⟩,
    ⟨none, none, .store 10 (.r 2) (.r 26) [] none⟩] [2])
  .ret))))),
  [.cell 2 true 10], none⟩
def c_tattlerref5_Same_l0 : VCode := (.seq (.ops [⟨some 26, none, .bin .lss .no (.r 25) (.r 24)⟩] [3, 23, 24, 25, 26])
  (.seq (.cond (.r 26) .skip (.exit 0))
  (.seq (.block 1 (.seq (.ops [⟨some 27, none, .mv (.r 25)⟩,
        ⟨some 28, none, .iaddr none 4 (.r 23) (.r 25)⟩,
        ⟨some 29, none, .load true 4 (.r 28)⟩,
        ⟨some 6, none, .alloc [(.int .i64 0), (.int .i64 0), (.sl []), (.bool false)] []⟩,
        ⟨some 5, none, .asg (.r 27)⟩,
        ⟨none, none, .store 4 (.r 6) (.r 29) [] none⟩] [3, 5, 6, 23, 24, 25])
      (.seq (.ops [⟨some 30, none, .faddr 8 (.r 3)⟩,
        ⟨some 31, none, .load false 1 (.r 30)⟩,
        ⟨some 32, none, .mv (.r 5)⟩,
        ⟨some 33, none, .iaddr none 4 (.r 31) (.r 32)⟩,
        ⟨some 34, none, .load true 4 (.r 33)⟩,
        ⟨some 7, none, .alloc [(.int .i64 0), (.int .i64 0), (.sl []), (.bool false)] []⟩,
        ⟨none, none, .store 4 (.r 7) (.r 34) [] none⟩] [3, 6, 7, 23, 24, 25])
      (.seq (.ops [⟨some 35, none, .faddr 0 (.r 6)⟩,
        ⟨some 36, none, .load true 2 (.r 35)⟩,
        ⟨some 37, none, .faddr 0 (.r 7)⟩,
        ⟨some 38, none, .load true 2 (.r 37)⟩,
        ⟨some 39, none, .bin .neq (.agg [.i, .i]) (.r 36) (.r 38)⟩,
        ⟨some 40, none, .mv (.r 39)⟩,
        ⟨some 41, some (40, false), .faddr 3 (.r 6)⟩,
        ⟨some 42, some (40, false), .load false 1 (.r 41)⟩,
        ⟨some 43, some (40, false), .faddr 3 (.r 7)⟩,
        ⟨some 44, some (40, false), .load false 1 (.r 43)⟩,
        ⟨some 45, some (40, false), .bin .neq .bool (.r 42) (.r 44)⟩,
        ⟨some 46, none, .pick (.r 40) (.c (.bool true)) (.r 45)⟩,
        ⟨some 47, none, .mv (.r 46)⟩,
        ⟨some 48, some (47, false), .faddr 2 (.r 6)⟩,
        ⟨some 49, some (47, false), .load false 1 (.r 48)⟩,
        ⟨some 50, some (47, false), .conv .strOfBytes (.r 49)⟩,
        ⟨some 51, some (47, false), .faddr 2 (.r 7)⟩,
        ⟨some 52, some (47, false), .load false 1 (.r 51)⟩,
        ⟨some 53, some (47, false), .conv .strOfBytes (.r 52)⟩,
        ⟨some 54, some (47, false), .bin .neq .no (.r 50) (.r 53)⟩,
        ⟨some 55, none, .pick (.r 47) (.c (.bool true)) (.r 54)⟩] [3, 23, 24, 25, 55])
      (.cond (.r 55) (.seq (.ops [⟨some 4, none, .asg (.c (.bool false))⟩] [4])
        .ret) .skip)))))
  (.ops [⟨some 56, none, .bin .add .no (.r 25) (.c (.int .i64 1))⟩,
  ⟨some 25, none, .mv (.r 56)⟩] [3, 23, 24, 25]))))
/-- tattler/tattlerref5.Same -/
def c_tattlerref5_Same : VFun := ⟨2,
  (.seq (.ops [⟨some 2, none, .box 9 (.r 0)⟩,
    ⟨some 3, none, .box 9 (.r 1)⟩,
    ⟨some 4, none, .asg (.c (.bool false))⟩] [2, 3])
  (.seq (.seq (.ops [⟨some 8, none, .faddr 0 (.r 2)⟩,
      ⟨some 9, none, .load true 8 (.r 8)⟩,
      ⟨some 10, none, .faddr 0 (.r 3)⟩,
      ⟨some 11, none, .load true 8 (.r 10)⟩,
      ⟨some 12, none, .bin .neq (.agg [.i, .i, .i, .i, .i, .i, .i, .i]) (.r 9) (.r 11)⟩,
      ⟨some 13, none, .mv (.r 12)⟩,
      ⟨some 14, some (13, false), .faddr 8 (.r 2)⟩,
      ⟨some 15, some (13, false), .load false 1 (.r 14)⟩,
      ⟨some 16, some (13, false), .len .sl (.r 15)⟩,
      ⟨some 17, some (13, false), .faddr 8 (.r 3)⟩,
      ⟨some 18, some (13, false), .load false 1 (.r 17)⟩,
      ⟨some 19, some (13, false), .len .sl (.r 18)⟩,
      ⟨some 20, some (13, false), .bin .neq .no (.r 16) (.r 19)⟩,
      ⟨some 21, none, .pick (.r 13) (.c (.bool true)) (.r 20)⟩] [2, 3, 21])
    (.cond (.r 21) (.seq (.ops [⟨some 4, none, .asg (.c (.bool false))⟩] [4])
      .ret) .skip))
  (.seq (.seq (.ops [⟨some 22, none, .faddr 8 (.r 2)⟩,
      ⟨some 23, none, .load false 1 (.r 22)⟩,
      ⟨some 24, none, .len .sl (.r 23)⟩,
      ⟨some 25, none, .mv (.c (.int .i64 0))⟩] [3, 23, 24, 25])
    (.block 0 (.loop [3, 23, 24, 25] [] c_tattlerref5_Same_l0)))
  (.seq (.ops [⟨some 4, none, .asg (.c (.bool true))⟩] [4])
  .ret)))),
  [.r 4], none⟩
/-- tattler/sibs.WriteEntry -/
def c_sibs_WriteEntry : VFun := ⟨2,
  (.seq (.ops [⟨some 3, none, .box 10 (.r 1)⟩] [0, 3])
  (.seq (.ops [⟨some 4, none, .mv (.r 0)⟩,
    ⟨some 5, none, .faddr 0 (.r 3)⟩,
    ⟨some 6, none, .load false 1 (.r 5)⟩,
    ⟨some 7, none, .bstr (.r 6)⟩,
    ⟨some 8, none, .call false F.wire_Writer_Text [(.r 4), (.r 7)]⟩] [0, 3])
  (.ops [⟨some 9, none, .mv (.r 0)⟩,
  ⟨some 10, none, .faddr 1 (.r 3)⟩,
  ⟨some 11, none, .load true 9 (.r 10)⟩,
  ⟨some 12, none, .call false F.sibs_Write [(.r 9), (.r 11)]⟩] []))),
  [], none⟩
def c_tattlerref5_Table_At_l0 : VCode := (.seq (.ops [⟨some 13, none, .bin .lss .no (.r 12) (.r 11)⟩] [1, 10, 11, 12, 13])
  (.seq (.cond (.r 13) .skip (.exit 0))
  (.seq (.block 1 (.seq (.ops [⟨some 14, none, .mv (.r 12)⟩,
        ⟨some 15, none, .iaddr none 10 (.r 10) (.r 12)⟩,
        ⟨some 16, none, .load true 10 (.r 15)⟩,
        ⟨some 6, none, .alloc [(.str []), (.int .i64 0), (.int .i64 0), (.int .i64 0), (.int .i64 0), (.int .i64 0), (.int .i64 0), (.int .i64 0), (.int .i64 0), (.sl [])] []⟩,
        ⟨some 5, none, .asg (.r 14)⟩,
        ⟨none, none, .store 10 (.r 6) (.r 16) [] none⟩] [1, 5, 6, 10, 11, 12])
      (.seq (.ops [⟨some 17, none, .faddr 0 (.r 6)⟩,
        ⟨some 18, none, .load false 1 (.r 17)⟩,
        ⟨some 19, none, .mv (.r 1)⟩,
        ⟨some 20, none, .bin .eql .no (.r 18) (.r 19)⟩] [1, 5, 10, 11, 12, 20])
      (.cond (.r 20) (.seq (.ops [⟨some 21, none, .mv (.r 5)⟩,
          ⟨some 4, none, .asg (.r 21)⟩] [4])
        .ret) .skip))))
  (.ops [⟨some 22, none, .bin .add .no (.r 12) (.c (.int .i64 1))⟩,
  ⟨some 12, none, .mv (.r 22)⟩] [1, 10, 11, 12]))))
/-- (*tattler/tattlerref5.Table).At -/
def c_tattlerref5_Table_At : VFun := ⟨2,
  (.seq (.ops [⟨some 4, none, .asg (.c (.int .i64 0))⟩] [0, 1])
  (.seq (.seq (.ops [⟨some 7, none, .mv (.r 0)⟩,
      ⟨some 8, none, .nilck (.r 7)⟩,
      ⟨some 9, none, .faddr 0 (.r 8)⟩,
      ⟨some 10, none, .load false 1 (.r 9)⟩,
      ⟨some 11, none, .len .sl (.r 10)⟩,
      ⟨some 12, none, .mv (.c (.int .i64 0))⟩] [1, 10, 11, 12])
    (.block 0 (.loop [1, 10, 11, 12] [] c_tattlerref5_Table_At_l0)))
  (.seq (.ops [⟨some 4, none, .asg (.c (.int .i64 (-1)))⟩] [4])
  .ret))),
  [.r 4], none⟩
def c_tattlerref5_Join_l0 : VCode := (.seq (.ops [⟨some 30, none, .bin .lss .no (.r 29) (.r 28)⟩] [2, 3, 4, 5, 27, 28, 29, 30])
  (.seq (.cond (.r 30) .skip (.exit 0))
  (.seq (.block 1 (.seq (.ops [⟨some 31, none, .iaddr none 4 (.r 27) (.r 29)⟩,
        ⟨some 32, none, .load true 4 (.r 31)⟩,
        ⟨some 7, none, .alloc [(.int .i64 0), (.int .i64 0), (.sl []), (.bool false)] []⟩,
        ⟨none, none, .store 4 (.r 7) (.r 32) [] none⟩] [2, 3, 4, 5, 7, 27, 28, 29])
      (.seq (.ops [⟨some 33, none, .load true 9 (.r 3)⟩,
        ⟨some 34, none, .faddr 0 (.r 7)⟩,
        ⟨some 35, none, .load true 2 (.r 34)⟩,
        ⟨some 36, none, .call false F.tattlerref5_find [(.r 33), (.r 35)]⟩,
        ⟨some 8, none, .asg (.r 36)⟩] [2, 3, 4, 5, 7, 8, 27, 28, 29])
      (.seq (.ops [⟨some 37, none, .mv (.r 8)⟩,
        ⟨some 38, none, .bin .geq .no (.r 37) (.c (.int .i64 0))⟩] [2, 3, 4, 5, 7, 8, 27, 28, 29, 38])
      (.cond (.r 38) (.dops 10 [⟨some 39, none, .faddr 8 (.r 5)⟩,
        ⟨some 40, none, .load false 1 (.r 39)⟩,
        ⟨some 41, none, .load true 4 (.r 7)⟩,
        ⟨some 42, none, .faddr 8 (.r 3)⟩,
        ⟨some 43, none, .load false 1 (.r 42)⟩,
        ⟨some 44, none, .mv (.r 8)⟩,
        ⟨some 45, none, .iaddr none 4 (.r 43) (.r 44)⟩,
        ⟨some 46, none, .load true 4 (.r 45)⟩,
        ⟨some 47, none, .call true F.tattlerref5_first [(.r 41), (.r 46)]⟩,
        ⟨some 48, none, .call true F.tattlerref5_copied [(.r 47)]⟩,
        ⟨some 49, none, .call false F.tattlerref5_insert [(.r 40), (.r 48)]⟩,
        ⟨some 50, none, .faddr 8 (.r 5)⟩,
        ⟨none, none, .store 1 (.r 50) (.r 49) [] none⟩] [2, 3, 4, 5, 27, 28, 29]) (.seq (.ops [⟨some 51, none, .faddr 0 (.r 3)⟩,
          ⟨some 52, none, .load true 8 (.r 51)⟩,
          ⟨some 53, none, .faddr 0 (.r 7)⟩,
          ⟨some 54, none, .load true 2 (.r 53)⟩,
          ⟨some 55, none, .call false F.tattlerref1_Covers [(.r 52), (.r 54)]⟩,
          ⟨some 56, none, .un .not (.r 55)⟩] [2, 3, 4, 5, 7, 27, 28, 29, 56])
        (.cond (.r 56) (.dops 4 [⟨some 57, none, .faddr 8 (.r 5)⟩,
          ⟨some 58, none, .load false 1 (.r 57)⟩,
          ⟨some 59, none, .load true 4 (.r 7)⟩,
          ⟨some 60, none, .call true F.tattlerref5_copied [(.r 59)]⟩,
          ⟨some 61, none, .call false F.tattlerref5_insert [(.r 58), (.r 60)]⟩,
          ⟨some 62, none, .faddr 8 (.r 5)⟩,
          ⟨none, none, .store 1 (.r 62) (.r 61) [] none⟩] [2, 3, 4, 5, 27, 28, 29]) .skip)))))))
  (.ops [⟨some 63, none, .bin .add .no (.r 29) (.c (.int .i64 1))⟩,
  ⟨some 29, none, .mv (.r 63)⟩] [2, 3, 4, 5, 27, 28, 29]))))
def c_tattlerref5_Join_l1 : VCode := (.seq (.ops [⟨some 68, none, .bin .lss .no (.r 67) (.r 66)⟩] [2, 4, 5, 65, 66, 67, 68])
  (.seq (.cond (.r 68) .skip (.exit 2))
  (.seq (.block 3 (.seq (.ops [⟨some 69, none, .iaddr none 4 (.r 65) (.r 67)⟩,
        ⟨some 70, none, .load true 4 (.r 69)⟩,
        ⟨some 10, none, .alloc [(.int .i64 0), (.int .i64 0), (.sl []), (.bool false)] []⟩,
        ⟨none, none, .store 4 (.r 10) (.r 70) [] none⟩] [2, 4, 5, 10, 65, 66, 67])
      (.seq (.ops [⟨some 71, none, .load true 9 (.r 2)⟩,
        ⟨some 72, none, .faddr 0 (.r 10)⟩,
        ⟨some 73, none, .load true 2 (.r 72)⟩,
        ⟨some 74, none, .call false F.tattlerref5_find [(.r 71), (.r 73)]⟩,
        ⟨some 75, none, .bin .lss .no (.r 74) (.c (.int .i64 0))⟩,
        ⟨some 76, none, .mv (.r 75)⟩,
        ⟨some 77, some (76, true), .faddr 0 (.r 2)⟩,
        ⟨some 78, some (76, true), .load true 8 (.r 77)⟩,
        ⟨some 79, some (76, true), .faddr 0 (.r 10)⟩,
        ⟨some 80, some (76, true), .load true 2 (.r 79)⟩,
        ⟨some 81, some (76, true), .call false F.tattlerref1_Covers [(.r 78), (.r 80)]⟩,
        ⟨some 82, some (76, true), .un .not (.r 81)⟩,
        ⟨some 83, none, .pick (.r 76) (.r 82) (.c (.bool false))⟩] [2, 4, 5, 10, 65, 66, 67, 83])
      (.cond (.r 83) (.dops 4 [⟨some 84, none, .faddr 8 (.r 5)⟩,
        ⟨some 85, none, .load false 1 (.r 84)⟩,
        ⟨some 86, none, .load true 4 (.r 10)⟩,
        ⟨some 87, none, .call true F.tattlerref5_copied [(.r 86)]⟩,
        ⟨some 88, none, .call false F.tattlerref5_insert [(.r 85), (.r 87)]⟩,
        ⟨some 89, none, .faddr 8 (.r 5)⟩,
        ⟨none, none, .store 1 (.r 89) (.r 88) [] none⟩] [2, 4, 5, 65, 66, 67]) .skip))))
  (.ops [⟨some 90, none, .bin .add .no (.r 67) (.c (.int .i64 1))⟩,
  ⟨some 67, none, .mv (.r 90)⟩] [2, 4, 5, 65, 66, 67]))))
/-- tattler/tattlerref5.Join -/
def c_tattlerref5_Join : VFun := ⟨2,
  (.seq (.ops [⟨some 2, none, .box 9 (.r 0)⟩,
    ⟨some 3, none, .box 9 (.r 1)⟩,
    ⟨some 4, none, .alloc [(.int .i64 0), (.int .i64 0), (.int .i64 0), (.int .i64 0), (.int .i64 0), (.int .i64 0), (.int .i64 0), (.int .i64 0), (.sl [])] []⟩] [2, 3, 4])
  (.seq (.seq (.ops [⟨some 11, none, .load true 9 (.r 2)⟩,
      ⟨some 12, none, .call false F.tattlerref5_May [(.r 11)]⟩,
      ⟨some 13, none, .un .not (.r 12)⟩,
      ⟨some 14, none, .mv (.r 13)⟩,
      ⟨some 15, some (14, false), .load true 9 (.r 3)⟩,
      ⟨some 16, some (14, false), .call false F.tattlerref5_May [(.r 15)]⟩,
      ⟨some 17, some (14, false), .un .not (.r 16)⟩,
      ⟨some 18, none, .pick (.r 14) (.c (.bool true)) (.r 17)⟩] [2, 3, 4, 18])
    (.cond (.r 18) (.seq (.ops [⟨some 19, none, .build [(.int .i64 0), (.int .i64 0), (.int .i64 0), (.int .i64 0), (.int .i64 0), (.int .i64 0), (.int .i64 0), (.int .i64 0), (.sl [])] []⟩,
        ⟨none, none, .store 9 (.r 4) (.r 19) [] none⟩] [4])
      .ret) .skip))
  (.seq (.ops [⟨some 20, none, .faddr 0 (.r 2)⟩,
    ⟨some 21, none, .load true 8 (.r 20)⟩,
    ⟨some 22, none, .faddr 0 (.r 3)⟩,
    ⟨some 23, none, .load true 8 (.r 22)⟩,
    ⟨some 24, none, .call false F.tattlerref1_Join [(.r 21), (.r 23)]⟩,
    ⟨some 25, none, .build [(.int .i64 0), (.int .i64 0), (.int .i64 0), (.int .i64 0), (.int .i64 0), (.int .i64 0), (.int .i64 0), (.int .i64 0), (.sl [])] [(0, 8, (.r 24))]⟩,
    ⟨some 5, none, .alloc [(.int .i64 0), (.int .i64 0), (.int .i64 0), (.int .i64 0), (.int .i64 0), (.int .i64 0), (.int .i64 0), (.int .i64 0), (.sl [])] []⟩,
    ⟨none, none, .store 9 (.r 5) (.r 25) [] none⟩] [2, 3, 4, 5])
  (.seq (.seq (.ops [⟨some 26, none, .faddr 8 (.r 2)⟩,
      ⟨some 27, none, .load false 1 (.r 26)⟩,
      ⟨some 28, none, .len .sl (.r 27)⟩,
      ⟨some 29, none, .mv (.c (.int .i64 0))⟩] [2, 3, 4, 5, 27, 28, 29])
    (.block 0 (.loop [2, 3, 4, 5, 27, 28, 29] [] c_tattlerref5_Join_l0)))
  (.seq (.seq (.ops [⟨some 64, none, .faddr 8 (.r 3)⟩,
      ⟨some 65, none, .load false 1 (.r 64)⟩,
      ⟨some 66, none, .len .sl (.r 65)⟩,
      ⟨some 67, none, .mv (.c (.int .i64 0))⟩] [2, 4, 5, 65, 66, 67])
    (.block 2 (.loop [2, 4, 5, 65, 66, 67] [] c_tattlerref5_Join_l1)))
  (.seq (.seq (.ops [⟨some 91, none, .faddr 8 (.r 5)⟩,
      ⟨some 92, none, .load false 1 (.r 91)⟩,
      ⟨some 93, none, .len .sl (.r 92)⟩,
      ⟨some 94, none, .bin .gtr .no (.r 93) (.c (.int .i64 16))⟩] [4, 5, 94])
    (.cond (.r 94) (.ops [⟨some 95, none, .faddr 8 (.r 5)⟩,
      ⟨some 96, none, .load false 1 (.r 95)⟩,
      ⟨some 97, none, .slice false 4 (.r 96) none (some (.c (.int .i64 16))) none⟩,
      ⟨some 98, none, .faddr 8 (.r 5)⟩,
      ⟨none, none, .store 1 (.r 98) (.r 97) [] none⟩] [4, 5]) .skip))
  (.seq (.ops [⟨some 99, none, .load true 9 (.r 5)⟩,
    ⟨none, none, .store 9 (.r 4) (.r 99) [] none⟩] [4])
  .ret))))))),
  [.cell 4 true 9], none⟩
def c_digest_dots_l0 : VCode := (.seq (.ops [⟨some 10, none, .bin .lss .no (.r 9) (.r 8)⟩] [3, 7, 8, 9, 10])
  (.seq (.cond (.r 10) .skip (.exit 0))
  (.seq (.block 1 (.seq (.ops [⟨some 11, none, .iaddr none 4 (.r 7) (.r 9)⟩,
        ⟨some 12, none, .load true 4 (.r 11)⟩,
        ⟨some 5, none, .alloc [(.int .i64 0), (.int .i64 0), (.sl []), (.bool false)] []⟩,
        ⟨none, none, .store 4 (.r 5) (.r 12) [] none⟩] [3, 5, 7, 8, 9])
      (.ops [⟨some 13, none, .mv (.r 3)⟩,
      ⟨some 14, none, .faddr 0 (.r 5)⟩,
      ⟨some 15, none, .load true 2 (.r 14)⟩,
      ⟨some 16, none, .bslice (.agg [(.int .i64 0), (.int .i64 0)]) 2 1 [(0, (.r 15))]⟩,
      ⟨some 17, none, .app (.reg 3) 2 16 (.r 13) (.r 16)⟩,
      ⟨some 3, none, .asg (.r 17)⟩] [3, 7, 8, 9])))
  (.ops [⟨some 18, none, .bin .add .no (.r 9) (.c (.int .i64 1))⟩,
  ⟨some 9, none, .mv (.r 18)⟩] [3, 7, 8, 9]))))
/-- tattler/digest.dots -/
def c_digest_dots : VFun := ⟨1,
  (.seq (.ops [⟨some 1, none, .box 9 (.r 0)⟩,
    ⟨some 2, none, .asg (.c (.sl []))⟩] [1])
  (.seq (.ops [⟨some 3, none, .asg (.c (.sl []))⟩] [1, 3])
  (.seq (.seq (.ops [⟨some 6, none, .faddr 8 (.r 1)⟩,
      ⟨some 7, none, .load false 1 (.r 6)⟩,
      ⟨some 8, none, .len .sl (.r 7)⟩,
      ⟨some 9, none, .mv (.c (.int .i64 0))⟩] [3, 7, 8, 9])
    (.block 0 (.loop [3, 7, 8, 9] [(2, 0, 0), (3, 0, 2)] c_digest_dots_l0)))
  (.seq (.ops [⟨some 19, none, .mv (.r 3)⟩,
    ⟨some 2, none, .asg (.r 19)⟩] [2])
  .ret)))),
  [.r 2], none⟩
def c_slices_EqualFunc_api_Value_api_Value_api_Value_api_Value_l0 : VCode := (.seq (.ops [⟨some 18, none, .bin .lss .no (.r 17) (.r 16)⟩] [1, 2, 15, 16, 17, 18])
  (.seq (.cond (.r 18) .skip (.exit 0))
  (.seq (.block 1 (.seq (.ops [⟨some 19, none, .mv (.r 17)⟩,
        ⟨some 20, none, .iaddr none 4 (.r 15) (.r 17)⟩,
        ⟨some 21, none, .load true 4 (.r 20)⟩,
        ⟨some 8, none, .alloc [(.int .i64 0), (.int .i64 0), (.sl []), (.bool false)] []⟩,
        ⟨some 7, none, .asg (.r 19)⟩,
        ⟨none, none, .store 4 (.r 8) (.r 21) [] none⟩] [1, 2, 7, 8, 15, 16, 17])
      (.seq (.ops [⟨some 22, none, .mv (.r 1)⟩,
        ⟨some 23, none, .mv (.r 7)⟩,
        ⟨some 24, none, .iaddr none 4 (.r 22) (.r 23)⟩,
        ⟨some 25, none, .load true 4 (.r 24)⟩,
        ⟨some 9, none, .alloc [(.int .i64 0), (.int .i64 0), (.sl []), (.bool false)] []⟩,
        ⟨none, none, .store 4 (.r 9) (.r 25) [] none⟩] [1, 2, 8, 9, 15, 16, 17])
      (.seq (.ops [⟨some 26, none, .mv (.r 2)⟩,
        ⟨some 27, none, .load true 4 (.r 8)⟩,
        ⟨some 28, none, .load true 4 (.r 9)⟩,
        ⟨some 29, none, .callv false (.r 26) [(.r 27), (.r 28)]⟩,
        ⟨some 30, none, .un .not (.r 29)⟩] [1, 2, 15, 16, 17, 30])
      (.cond (.r 30) (.seq (.ops [⟨some 6, none, .asg (.c (.bool false))⟩] [6])
        .ret) .skip)))))
  (.ops [⟨some 31, none, .bin .add .no (.r 17) (.c (.int .i64 1))⟩,
  ⟨some 17, none, .mv (.r 31)⟩] [1, 2, 15, 16, 17]))))
/-- slices.EqualFunc[[]tattler/api.Value,[]tattler/api.Value,tattler/api.Value,tattler/api.Value] -/
def c_slices_EqualFunc_api_Value_api_Value_api_Value_api_Value : VFun := ⟨3,
  (.seq (.ops [⟨some 6, none, .asg (.c (.bool false))⟩] [0, 1, 2])
  (.seq (.seq (.ops [⟨some 10, none, .mv (.r 0)⟩,
      ⟨some 11, none, .len .sl (.r 10)⟩,
      ⟨some 12, none, .mv (.r 1)⟩,
      ⟨some 13, none, .len .sl (.r 12)⟩,
      ⟨some 14, none, .bin .neq .no (.r 11) (.r 13)⟩] [0, 1, 2, 14])
    (.cond (.r 14) (.seq (.ops [⟨some 6, none, .asg (.c (.bool false))⟩] [6])
      .ret) .skip))
  (.seq (.seq (.ops [⟨some 15, none, .mv (.r 0)⟩,
      ⟨some 16, none, .len .sl (.r 15)⟩,
      ⟨some 17, none, .mv (.c (.int .i64 0))⟩] [1, 2, 15, 16, 17])
    (.block 0 (.loop [1, 2, 15, 16, 17] [] c_slices_EqualFunc_api_Value_api_Value_api_Value_api_Value_l0)))
  (.seq (.ops [⟨some 6, none, .asg (.c (.bool true))⟩] [6])
  .ret)))),
  [.r 6], none⟩
/-- tattler/sibs.Same$1 -/
def c_sibs_Same_c1 : VFun := ⟨2,
  (.seq (.ops [⟨some 2, none, .box 4 (.r 0)⟩,
    ⟨some 3, none, .box 4 (.r 1)⟩,
    ⟨some 4, none, .asg (.c (.bool false))⟩] [2, 3])
  (.seq (.ops [⟨some 5, none, .faddr 0 (.r 2)⟩,
    ⟨some 6, none, .load true 2 (.r 5)⟩,
    ⟨some 7, none, .faddr 0 (.r 3)⟩,
    ⟨some 8, none, .load true 2 (.r 7)⟩,
    ⟨some 9, none, .bin .eql (.agg [.i, .i]) (.r 6) (.r 8)⟩,
    ⟨some 10, none, .mv (.r 9)⟩,
    ⟨some 11, some (10, true), .faddr 3 (.r 2)⟩,
    ⟨some 12, some (10, true), .load false 1 (.r 11)⟩,
    ⟨some 13, some (10, true), .faddr 3 (.r 3)⟩,
    ⟨some 14, some (10, true), .load false 1 (.r 13)⟩,
    ⟨some 15, some (10, true), .bin .eql .bool (.r 12) (.r 14)⟩,
    ⟨some 16, none, .pick (.r 10) (.r 15) (.c (.bool false))⟩,
    ⟨some 17, none, .mv (.r 16)⟩,
    ⟨some 18, some (17, true), .faddr 2 (.r 2)⟩,
    ⟨some 19, some (17, true), .load false 1 (.r 18)⟩,
    ⟨some 20, some (17, true), .faddr 2 (.r 3)⟩,
    ⟨some 21, some (17, true), .load false 1 (.r 20)⟩,
    ⟨some 22, some (17, true), .call false F.bytes_Equal [(.r 19), (.r 21)]⟩,
    ⟨some 23, none, .pick (.r 17) (.r 22) (.c (.bool false))⟩,
    ⟨some 4, none, .asg (.r 23)⟩] [4])
  .ret)),
  [.r 4], none⟩
/-- bytes.Equal -/
def c_bytes_Equal : VFun := ⟨2,
  (.seq (.ops [⟨some 4, none, .asg (.c (.bool false))⟩] [0, 1])
  (.seq (.ops [⟨some 5, none, .mv (.r 0)⟩,
    ⟨some 6, none, .conv .strOfBytes (.r 5)⟩,
    ⟨some 7, none, .mv (.r 1)⟩,
    ⟨some 8, none, .conv .strOfBytes (.r 7)⟩,
    ⟨some 9, none, .bin .eql .no (.r 6) (.r 8)⟩,
    ⟨some 4, none, .asg (.r 9)⟩] [4])
  .ret)),
  [.r 4], none⟩
/-- tattler/vector.Leq -/
def c_vector_Leq : VFun := ⟨2,
  (.seq (.ops [⟨some 2, none, .box 8 (.r 0)⟩,
    ⟨some 3, none, .box 8 (.r 1)⟩,
    ⟨some 4, none, .asg (.c (.bool false))⟩] [2, 3])
  (.seq (.dops 4 [⟨some 5, none, .load true 8 (.r 2)⟩,
    ⟨some 6, none, .load true 8 (.r 3)⟩,
    ⟨some 7, none, .call true F.vector_Join [(.r 5), (.r 6)]⟩,
    ⟨some 8, none, .load true 8 (.r 3)⟩,
    ⟨some 9, none, .bin .eql (.agg [.i, .i, .i, .i, .i, .i, .i, .i]) (.r 7) (.r 8)⟩,
    ⟨some 4, none, .asg (.r 9)⟩] [4])
  .ret)),
  [.r 4], none⟩
/-- slices.ContainsFunc[[]tattler/api.Dot,tattler/api.Dot] -/
def c_slices_ContainsFunc_api_Dot_api_Dot : VFun := ⟨2,
  (.seq (.ops [⟨some 4, none, .asg (.c (.bool false))⟩] [0, 1])
  (.seq (.ops [⟨some 5, none, .mv (.r 0)⟩,
    ⟨some 6, none, .mv (.r 1)⟩,
    ⟨some 7, none, .call false F.slices_IndexFunc_api_Dot_api_Dot [(.r 5), (.r 6)]⟩,
    ⟨some 8, none, .bin .geq .no (.r 7) (.c (.int .i64 0))⟩,
    ⟨some 4, none, .asg (.r 8)⟩] [4])
  .ret)),
  [.r 4], none⟩
/-- tattler/digest.Lacks$1 -/
def c_digest_Lacks_c1 : VFun := ⟨3,
  (.seq (.ops [⟨some 3, none, .box 2 (.r 0)⟩,
    ⟨some 4, none, .asg (.c (.bool false))⟩] [1, 2, 3])
  (.seq (.ops [⟨some 5, none, .faddr 1 (.r 1)⟩,
    ⟨some 6, none, .faddr 0 (.r 5)⟩,
    ⟨some 7, none, .load true 8 (.r 6)⟩,
    ⟨some 8, none, .load true 2 (.r 3)⟩,
    ⟨some 9, none, .call false F.vector_Covers [(.r 7), (.r 8)]⟩,
    ⟨some 10, none, .mv (.r 9)⟩,
    ⟨some 11, some (10, true), .load false 1 (.r 2)⟩,
    ⟨some 12, some (10, true), .load true 2 (.r 3)⟩,
    ⟨some 13, some (10, true), .call false F.slices_Contains_api_Dot_api_Dot [(.r 11), (.r 12)]⟩,
    ⟨some 14, some (10, true), .un .not (.r 13)⟩,
    ⟨some 15, none, .pick (.r 10) (.r 14) (.c (.bool false))⟩,
    ⟨some 4, none, .asg (.r 15)⟩] [4])
  .ret)),
  [.r 4], none⟩
/-- tattler/vector.Covers -/
def c_vector_Covers : VFun := ⟨2,
  (.seq (.ops [⟨some 2, none, .box 8 (.r 0)⟩,
    ⟨some 3, none, .box 2 (.r 1)⟩,
    ⟨some 4, none, .asg (.c (.bool false))⟩] [2, 3])
  (.seq (.dops 15 [⟨some 5, none, .faddr 0 (.r 3)⟩,
    ⟨some 6, none, .load false 1 (.r 5)⟩,
    ⟨some 7, none, .call true F.vector_is [(.r 6)]⟩,
    ⟨some 8, none, .mv (.r 7)⟩,
    ⟨some 9, some (8, true), .faddr 1 (.r 3)⟩,
    ⟨some 10, some (8, true), .load false 1 (.r 9)⟩,
    ⟨some 11, some (8, true), .bin .geq .no (.r 10) (.c (.int .i64 1))⟩,
    ⟨some 12, none, .pick (.r 8) (.r 11) (.c (.bool false))⟩,
    ⟨some 13, none, .mv (.r 12)⟩,
    ⟨some 14, some (13, true), .faddr 1 (.r 3)⟩,
    ⟨some 15, some (13, true), .load false 1 (.r 14)⟩,
    ⟨some 16, some (13, true), .faddr 0 (.r 3)⟩,
    ⟨some 17, some (13, true), .load false 1 (.r 16)⟩,
    ⟨some 18, some (13, true), .iaddr (some 8) 1 (.r 2) (.r 17)⟩,
    ⟨some 19, some (13, true), .load false 1 (.r 18)⟩,
    ⟨some 20, some (13, true), .bin .leq .no (.r 15) (.r 19)⟩,
    ⟨some 21, none, .pick (.r 13) (.r 20) (.c (.bool false))⟩,
    ⟨some 4, none, .asg (.r 21)⟩] [4])
  .ret)),
  [.r 4], none⟩
/-- slices.Contains[[]tattler/api.Dot,tattler/api.Dot] -/
def c_slices_Contains_api_Dot_api_Dot : VFun := ⟨2,
  (.seq (.ops [⟨some 3, none, .box 2 (.r 1)⟩,
    ⟨some 4, none, .asg (.c (.bool false))⟩] [0, 3])
  (.seq (.ops [⟨some 5, none, .mv (.r 0)⟩,
    ⟨some 6, none, .load true 2 (.r 3)⟩,
    ⟨some 7, none, .call false F.slices_Index_api_Dot_api_Dot [(.r 5), (.r 6)]⟩,
    ⟨some 8, none, .bin .geq .no (.r 7) (.c (.int .i64 0))⟩,
    ⟨some 4, none, .asg (.r 8)⟩] [4])
  .ret)),
  [.r 4], none⟩
/-- (*tattler/wire.Writer).Text -/
def c_wire_Writer_Text : VFun := ⟨2,
  (.ops [⟨some 4, none, .mv (.r 0)⟩,
  ⟨some 5, none, .mv (.r 1)⟩,
  ⟨some 6, none, .len .sl (.r 5)⟩,
  ⟨some 7, none, .conv (.toInt .u64) (.r 6)⟩,
  ⟨some 8, none, .call false F.wire_num [(.r 7)]⟩,
  ⟨some 9, none, .mv (.r 1)⟩,
  ⟨some 10, none, .app (.reg 8) 1 1 (.r 8) (.r 9)⟩,
  ⟨some 11, none, .call false F.wire_Writer_put [(.r 4), (.r 10)]⟩] []),
  [], none⟩
def c_vector_Write_l0 : VCode := (.seq (.ops [⟨some 8, none, .bin .lss .no (.r 7) (.c (.int .i64 8))⟩] [0, 6, 7, 8])
  (.seq (.cond (.r 8) .skip (.exit 0))
  (.seq (.block 1 (.seq (.ops [⟨some 9, none, .index false 8 1 false (.r 6) (.r 7)⟩,
        ⟨some 5, none, .asg (.r 9)⟩] [0, 5, 6, 7])
      (.ops [⟨some 10, none, .mv (.r 0)⟩,
      ⟨some 11, none, .mv (.r 5)⟩,
      ⟨some 12, none, .call false F.wire_Writer_Int [(.r 10), (.r 11)]⟩] [0, 6, 7])))
  (.ops [⟨some 13, none, .bin .add .no (.r 7) (.c (.int .i64 1))⟩,
  ⟨some 7, none, .mv (.r 13)⟩] [0, 6, 7]))))
/-- tattler/vector.Write -/
def c_vector_Write : VFun := ⟨2,
  (.seq (.ops [⟨some 3, none, .box 8 (.r 1)⟩] [0, 3])
  (.seq (.ops [⟨some 6, none, .load true 8 (.r 3)⟩,
    ⟨some 7, none, .mv (.c (.int .i64 0))⟩] [0, 6, 7])
  (.block 0 (.loop [0, 6, 7] [] c_vector_Write_l0)))),
  [], none⟩
/-- (*tattler/wire.Writer).Num -/
def c_wire_Writer_Num : VFun := ⟨2,
  (.ops [⟨some 4, none, .mv (.r 0)⟩,
  ⟨some 5, none, .mv (.r 1)⟩,
  ⟨some 6, none, .call false F.wire_num [(.r 5)]⟩,
  ⟨some 7, none, .call false F.wire_Writer_put [(.r 4), (.r 6)]⟩] []),
  [], none⟩
/-- (*tattler/wire.Writer).Int -/
def c_wire_Writer_Int : VFun := ⟨2,
  (.ops [⟨some 4, none, .mv (.r 0)⟩,
  ⟨some 5, none, .mv (.r 1)⟩,
  ⟨some 6, none, .conv (.toInt .u64) (.r 5)⟩,
  ⟨some 7, none, .bin .shl .no (.r 6) (.c (.int .u64 1))⟩,
  ⟨some 8, none, .mv (.r 1)⟩,
  ⟨some 9, none, .bin .shr .no (.r 8) (.c (.int .u64 63))⟩,
  ⟨some 10, none, .conv (.toInt .u64) (.r 9)⟩,
  ⟨some 11, none, .bin .xor .no (.r 7) (.r 10)⟩,
  ⟨some 12, none, .call false F.wire_num [(.r 11)]⟩,
  ⟨some 13, none, .call false F.wire_Writer_put [(.r 4), (.r 12)]⟩] []),
  [], none⟩
/-- slices.Clone[[]byte,byte] -/
def c_slices_Clone_byte_byte : VFun := ⟨1,
  (.seq (.ops [⟨some 2, none, .asg (.c (.sl []))⟩] [0])
  (.amb (.ops [⟨some 3, none, .mv (.r 0)⟩,
    ⟨some 4, none, .isnil (.r 3)⟩] [0, 4]) (.r 4) (.seq (.ops [⟨some 2, none, .asg (.c (.sl []))⟩] [2])
    .ret) .skip
  (.seq (.ops [⟨some 5, none, .bslice (.int .u8 0) 1 0 []⟩,
      ⟨some 6, none, .mv (.r 0)⟩,
      ⟨some 7, none, .app (.reg 5) 1 1 (.r 5) (.r 6)⟩,
      ⟨some 2, none, .asg (.r 7)⟩] [2])
    .ret))),
  [.r 2], none⟩
/-- (*tattler/wire.Reader).Text -/
def c_wire_Reader_Text : VFun := ⟨2,
  (.seq (.ops [⟨some 4, none, .asg (.c (.sl []))⟩] [0, 1])
  (.seq (.ops [⟨some 7, none, .mv (.r 0)⟩,
    ⟨some 8, none, .mv (.r 1)⟩,
    ⟨some 9, none, .call false F.wire_Reader_Count [(.r 7), (.r 8)]⟩,
    ⟨some 5, none, .asg (.r 9)⟩] [0, 5])
  (.seq (.seq (.ops [⟨some 10, none, .mv (.r 0)⟩,
      ⟨some 11, none, .call false F.wire_Reader_ok [(.r 10)]⟩,
      ⟨some 12, none, .mv (.r 11)⟩,
      ⟨some 13, some (12, true), .mv (.r 5)⟩,
      ⟨some 14, some (12, true), .mv (.r 0)⟩,
      ⟨some 15, some (12, true), .nilck (.r 14)⟩,
      ⟨some 16, some (12, true), .faddr 0 (.r 15)⟩,
      ⟨some 17, some (12, true), .load false 1 (.r 16)⟩,
      ⟨some 18, some (12, true), .len .sl (.r 17)⟩,
      ⟨some 19, some (12, true), .bin .gtr .no (.r 13) (.r 18)⟩,
      ⟨some 20, none, .pick (.r 12) (.r 19) (.c (.bool false))⟩] [0, 5, 20])
    (.cond (.r 20) (.ops [⟨some 21, none, .mv (.r 0)⟩,
      ⟨some 22, none, .call false F.wire_Reader_fail [(.r 21), (.c (.int .i64 2))]⟩] [0, 5]) .skip))
  (.seq (.seq (.ops [⟨some 23, none, .mv (.r 0)⟩,
      ⟨some 24, none, .call false F.wire_Reader_ok [(.r 23)]⟩,
      ⟨some 25, none, .un .not (.r 24)⟩] [0, 5, 25])
    (.cond (.r 25) (.seq (.ops [⟨some 4, none, .asg (.c (.sl []))⟩] [4])
      .ret) .skip))
  (.seq (.ops [⟨some 26, none, .mv (.r 0)⟩,
    ⟨some 27, none, .nilck (.r 26)⟩,
    ⟨some 28, none, .faddr 0 (.r 27)⟩,
    ⟨some 29, none, .load false 1 (.r 28)⟩,
    ⟨some 30, none, .mv (.r 5)⟩,
    ⟨some 31, none, .slice false 1 (.r 29) none (some (.r 30)) none⟩,
    ⟨some 32, none, .call false F.slices_Clone_byte_byte [(.r 31)]⟩,
    ⟨some 6, none, .asg (.r 32)⟩] [0, 5, 6])
  (.seq (.ops [⟨some 33, none, .mv (.r 0)⟩,
    ⟨some 34, none, .mv (.r 0)⟩,
    ⟨some 35, none, .nilck (.r 34)⟩,
    ⟨some 36, none, .faddr 0 (.r 35)⟩,
    ⟨some 37, none, .load false 1 (.r 36)⟩,
    ⟨some 38, none, .mv (.r 5)⟩,
    ⟨some 39, none, .slice false 1 (.r 37) (some (.r 38)) none none⟩,
    ⟨some 40, none, .nilck (.r 33)⟩,
    ⟨some 41, none, .faddr 0 (.r 40)⟩,
    ⟨none, none, .store 1 (.r 41) (.r 39) [] none⟩] [6])
  (.seq (.ops [⟨some 42, none, .mv (.r 6)⟩,
    ⟨some 4, none, .asg (.r 42)⟩] [4])
  .ret))))))),
  [.r 4], none⟩
def c_vector_Read_l0 : VCode := (.seq (.ops [⟨some 7, none, .bin .lss .no (.r 6) (.c (.int .i64 8))⟩] [0, 2, 4, 6, 7])
  (.seq (.cond (.r 7) .skip (.exit 0))
  (.seq (.block 1 (.seq (.ops [⟨some 8, none, .mv (.r 6)⟩,
        ⟨some 5, none, .asg (.r 8)⟩] [0, 2, 4, 5, 6])
      (.ops [⟨some 9, none, .mv (.r 5)⟩,
      ⟨some 10, none, .mv (.r 0)⟩,
      ⟨some 11, none, .call false F.wire_Reader_Int [(.r 10)]⟩,
      ⟨some 12, none, .iaddr (some 8) 1 (.r 4) (.r 9)⟩,
      ⟨none, none, .store 1 (.r 12) (.r 11) [] none⟩] [0, 2, 4, 6])))
  (.ops [⟨some 13, none, .bin .add .no (.r 6) (.c (.int .i64 1))⟩,
  ⟨some 6, none, .mv (.r 13)⟩] [0, 2, 4, 6]))))
/-- tattler/vector.Read -/
def c_vector_Read : VFun := ⟨1,
  (.seq (.ops [⟨some 2, none, .alloc [(.int .i64 0), (.int .i64 0), (.int .i64 0), (.int .i64 0), (.int .i64 0), (.int .i64 0), (.int .i64 0), (.int .i64 0)] []⟩,
    ⟨some 3, none, .asg (.c (.bool false))⟩] [0, 2])
  (.seq (.ops [⟨some 4, none, .alloc [(.int .i64 0), (.int .i64 0), (.int .i64 0), (.int .i64 0), (.int .i64 0), (.int .i64 0), (.int .i64 0), (.int .i64 0)] []⟩] [0, 2, 4])
  (.seq (.seq (.ops [⟨some 6, none, .mv (.c (.int .i64 0))⟩] [0, 2, 4, 6])
    (.block 0 (.loop [0, 2, 4, 6] [] c_vector_Read_l0)))
  (.seq (.seq (.ops [⟨some 14, none, .mv (.r 0)⟩,
      ⟨some 15, none, .call false F.vector_good [(.r 14)]⟩,
      ⟨some 16, none, .un .not (.r 15)⟩,
      ⟨some 17, none, .mv (.r 16)⟩,
      ⟨some 18, some (17, false), .load true 8 (.r 4)⟩,
      ⟨some 19, some (17, false), .call false F.vector_May [(.r 18)]⟩,
      ⟨some 20, some (17, false), .un .not (.r 19)⟩,
      ⟨some 21, none, .pick (.r 17) (.c (.bool true)) (.r 20)⟩] [2, 4, 21])
    (.cond (.r 21) (.seq (.ops [⟨some 22, none, .build [(.int .i64 0), (.int .i64 0), (.int .i64 0), (.int .i64 0), (.int .i64 0), (.int .i64 0), (.int .i64 0), (.int .i64 0)] []⟩,
        ⟨none, none, .store 8 (.r 2) (.r 22) [] none⟩,
        ⟨some 3, none, .asg (.c (.bool false))⟩] [2, 3])
      .ret) .skip))
  (.seq (.ops [⟨some 23, none, .load true 8 (.r 4)⟩,
    ⟨none, none, .store 8 (.r 2) (.r 23) [] none⟩,
    ⟨some 3, none, .asg (.c (.bool true))⟩] [2, 3])
  .ret))))),
  [.cell 2 true 8, .r 3], none⟩
/-- (*tattler/wire.Reader).Count -/
def c_wire_Reader_Count : VFun := ⟨2,
  (.seq (.ops [⟨some 4, none, .asg (.c (.int .i64 0))⟩] [0, 1])
  (.seq (.ops [⟨some 6, none, .mv (.r 0)⟩,
    ⟨some 7, none, .call false F.wire_Reader_Num [(.r 6)]⟩,
    ⟨some 5, none, .asg (.r 7)⟩] [0, 1, 5])
  (.seq (.seq (.ops [⟨some 8, none, .mv (.r 0)⟩,
      ⟨some 9, none, .call false F.wire_Reader_ok [(.r 8)]⟩,
      ⟨some 10, none, .mv (.r 9)⟩,
      ⟨some 11, some (10, true), .mv (.r 5)⟩,
      ⟨some 12, some (10, true), .mv (.r 1)⟩,
      ⟨some 13, some (10, true), .mx [(.c (.int .i64 0)), (.r 12)]⟩,
      ⟨some 14, some (10, true), .conv (.toInt .u64) (.r 13)⟩,
      ⟨some 15, some (10, true), .bin .gtr .no (.r 11) (.r 14)⟩,
      ⟨some 16, none, .pick (.r 10) (.r 15) (.c (.bool false))⟩] [0, 5, 16])
    (.cond (.r 16) (.ops [⟨some 17, none, .mv (.r 0)⟩,
      ⟨some 18, none, .call false F.wire_Reader_fail [(.r 17), (.c (.int .i64 4))]⟩] [0, 5]) .skip))
  (.seq (.seq (.ops [⟨some 19, none, .mv (.r 0)⟩,
      ⟨some 20, none, .call false F.wire_Reader_ok [(.r 19)]⟩,
      ⟨some 21, none, .un .not (.r 20)⟩] [5, 21])
    (.cond (.r 21) (.seq (.ops [⟨some 4, none, .asg (.c (.int .i64 0))⟩] [4])
      .ret) .skip))
  (.seq (.ops [⟨some 22, none, .mv (.r 5)⟩,
    ⟨some 23, none, .conv (.toInt .i64) (.r 22)⟩,
    ⟨some 4, none, .asg (.r 23)⟩] [4])
  .ret))))),
  [.r 4], none⟩
def c_wire_Reader_Num_l0 : VCode := (.seq (.ops [⟨some 8, none, .bin .lss .no (.r 7) (.c (.int .i64 10))⟩] [0, 3, 7, 8])
  (.seq (.cond (.r 8) .skip (.exit 0))
  (.seq (.block 1 (.seq (.ops [⟨some 9, none, .mv (.r 7)⟩,
        ⟨some 4, none, .asg (.r 9)⟩] [0, 3, 4, 7])
      (.seq (.ops [⟨some 11, none, .mv (.r 0)⟩,
        ⟨some 12, none, .call false F.wire_Reader_byte [(.r 11)]⟩,
        ⟨some 10, none, .mv (.r 12)⟩,
        ⟨some 13, none, .extract 0 (.r 10)⟩,
        ⟨some 14, none, .extract 1 (.r 10)⟩,
        ⟨some 5, none, .asg (.r 13)⟩,
        ⟨some 6, none, .asg (.r 14)⟩] [0, 3, 4, 5, 6, 7])
      (.seq (.seq (.ops [⟨some 15, none, .mv (.r 6)⟩,
          ⟨some 16, none, .un .not (.r 15)⟩] [0, 3, 4, 5, 7, 16])
        (.cond (.r 16) (.seq (.ops [⟨some 2, none, .asg (.c (.int .u64 0))⟩] [2])
          .ret) .skip))
      (.seq (.seq (.ops [⟨some 17, none, .mv (.r 4)⟩,
          ⟨some 18, none, .bin .eql .no (.r 17) (.c (.int .i64 9))⟩,
          ⟨some 19, none, .mv (.r 18)⟩,
          ⟨some 20, some (19, true), .mv (.r 5)⟩,
          ⟨some 21, some (19, true), .bin .gtr .no (.r 20) (.c (.int .u8 1))⟩,
          ⟨some 22, none, .pick (.r 19) (.r 21) (.c (.bool false))⟩,
          ⟨some 23, none, .mv (.r 22)⟩,
          ⟨some 24, some (23, false), .mv (.r 4)⟩,
          ⟨some 25, some (23, false), .bin .gtr .no (.r 24) (.c (.int .i64 0))⟩,
          ⟨some 26, some (23, false), .mv (.r 25)⟩,
          ⟨some 27, some (26, true), .mv (.r 5)⟩,
          ⟨some 28, some (26, true), .bin .eql .no (.r 27) (.c (.int .u8 0))⟩,
          ⟨some 29, some (23, false), .pick (.r 26) (.r 28) (.c (.bool false))⟩,
          ⟨some 30, none, .pick (.r 23) (.c (.bool true)) (.r 29)⟩] [0, 3, 4, 5, 7, 30])
        (.cond (.r 30) (.seq (.ops [⟨some 31, none, .mv (.r 0)⟩,
            ⟨some 32, none, .call false F.wire_Reader_fail [(.r 31), (.c (.int .i64 3))]⟩] [])
          (.seq (.ops [⟨some 2, none, .asg (.c (.int .u64 0))⟩] [2])
          .ret)) .skip))
      (.seq (.ops [⟨some 33, none, .mv (.r 3)⟩,
        ⟨some 34, none, .mv (.r 5)⟩,
        ⟨some 35, none, .bin .andNot .no (.r 34) (.c (.int .u8 128))⟩,
        ⟨some 36, none, .conv (.toInt .u64) (.r 35)⟩,
        ⟨some 37, none, .mv (.r 4)⟩,
        ⟨some 38, none, .bin .mul .no (.c (.int .i64 7)) (.r 37)⟩,
        ⟨some 39, none, .bin .shl .no (.r 36) (.r 38)⟩,
        ⟨some 40, none, .bin .or .no (.r 33) (.r 39)⟩,
        ⟨some 3, none, .asg (.r 40)⟩] [0, 3, 5, 7])
      (.seq (.ops [⟨some 41, none, .mv (.r 5)⟩,
        ⟨some 42, none, .bin .lss .no (.r 41) (.c (.int .u8 128))⟩] [0, 3, 7, 42])
      (.cond (.r 42) (.exit 0) .skip))))))))
  (.ops [⟨some 43, none, .bin .add .no (.r 7) (.c (.int .i64 1))⟩,
  ⟨some 7, none, .mv (.r 43)⟩] [0, 3, 7]))))
/-- (*tattler/wire.Reader).Num -/
def c_wire_Reader_Num : VFun := ⟨1,
  (.seq (.ops [⟨some 2, none, .asg (.c (.int .u64 0))⟩] [0])
  (.seq (.ops [⟨some 3, none, .asg (.c (.int .u64 0))⟩] [0, 3])
  (.seq (.seq (.ops [⟨some 7, none, .mv (.c (.int .i64 0))⟩] [0, 3, 7])
    (.block 0 (.loop [0, 3, 7] [] c_wire_Reader_Num_l0)))
  (.seq (.ops [⟨some 44, none, .mv (.r 3)⟩,
    ⟨some 2, none, .asg (.r 44)⟩] [2])
  .ret)))),
  [.r 2], none⟩
/-- (*tattler/wire.Reader).Int -/
def c_wire_Reader_Int : VFun := ⟨1,
  (.seq (.ops [⟨some 2, none, .asg (.c (.int .i64 0))⟩] [0])
  (.seq (.ops [⟨some 4, none, .mv (.r 0)⟩,
    ⟨some 5, none, .call false F.wire_Reader_Num [(.r 4)]⟩,
    ⟨some 3, none, .asg (.r 5)⟩] [3])
  (.seq (.ops [⟨some 6, none, .mv (.r 3)⟩,
    ⟨some 7, none, .bin .shr .no (.r 6) (.c (.int .u64 1))⟩,
    ⟨some 8, none, .conv (.toInt .i64) (.r 7)⟩,
    ⟨some 9, none, .mv (.r 3)⟩,
    ⟨some 10, none, .bin .and .no (.r 9) (.c (.int .u64 1))⟩,
    ⟨some 11, none, .conv (.toInt .i64) (.r 10)⟩,
    ⟨some 12, none, .un .neg (.r 11)⟩,
    ⟨some 13, none, .bin .xor .no (.r 8) (.r 12)⟩,
    ⟨some 2, none, .asg (.r 13)⟩] [2])
  .ret))),
  [.r 2], none⟩
/-- (*tattler/wire.Reader).Left -/
def c_wire_Reader_Left : VFun := ⟨1,
  (.seq (.ops [⟨some 2, none, .asg (.c (.int .i64 0))⟩] [0])
  (.seq (.seq (.ops [⟨some 3, none, .mv (.r 0)⟩,
      ⟨some 4, none, .bin .eql .ptr (.r 3) (.c (.ptr none))⟩] [0, 4])
    (.cond (.r 4) (.seq (.ops [⟨some 2, none, .asg (.c (.int .i64 0))⟩] [2])
      .ret) .skip))
  (.seq (.ops [⟨some 5, none, .mv (.r 0)⟩,
    ⟨some 6, none, .nilck (.r 5)⟩,
    ⟨some 7, none, .faddr 0 (.r 6)⟩,
    ⟨some 8, none, .load false 1 (.r 7)⟩,
    ⟨some 9, none, .len .sl (.r 8)⟩,
    ⟨some 2, none, .asg (.r 9)⟩] [2])
  .ret))),
  [.r 2], none⟩
/-- tattler/keys.May -/
def c_keys_May : VFun := ⟨1,
  (.seq (.ops [⟨some 2, none, .asg (.c (.bool false))⟩] [0])
  (.seq (.ops [⟨some 3, none, .mv (.r 0)⟩,
    ⟨some 4, none, .len .str (.r 3)⟩,
    ⟨some 5, none, .bin .geq .no (.r 4) (.c (.int .i64 1))⟩,
    ⟨some 6, none, .mv (.r 5)⟩,
    ⟨some 7, some (6, true), .mv (.r 0)⟩,
    ⟨some 8, some (6, true), .len .str (.r 7)⟩,
    ⟨some 9, some (6, true), .bin .leq .no (.r 8) (.c (.int .i64 32))⟩,
    ⟨some 10, none, .pick (.r 6) (.r 9) (.c (.bool false))⟩,
    ⟨some 2, none, .asg (.r 10)⟩] [2])
  .ret)),
  [.r 2], none⟩
def c_vector_May_l0 : VCode := (.seq (.ops [⟨some 7, none, .bin .lss .no (.r 6) (.c (.int .i64 8))⟩] [5, 6, 7])
  (.seq (.cond (.r 7) .skip (.exit 0))
  (.seq (.block 1 (.seq (.ops [⟨some 8, none, .index false 8 1 false (.r 5) (.r 6)⟩,
        ⟨some 4, none, .asg (.r 8)⟩] [4, 5, 6])
      (.seq (.ops [⟨some 9, none, .mv (.r 4)⟩,
        ⟨some 10, none, .bin .lss .no (.r 9) (.c (.int .i64 0))⟩,
        ⟨some 11, none, .mv (.r 10)⟩,
        ⟨some 12, some (11, false), .mv (.r 4)⟩,
        ⟨some 13, some (11, false), .bin .gtr .no (.r 12) (.c (.int .i64 1099511627776))⟩,
        ⟨some 14, none, .pick (.r 11) (.c (.bool true)) (.r 13)⟩] [5, 6, 14])
      (.cond (.r 14) (.seq (.ops [⟨some 2, none, .asg (.c (.bool false))⟩] [2])
        .ret) .skip))))
  (.ops [⟨some 15, none, .bin .add .no (.r 6) (.c (.int .i64 1))⟩,
  ⟨some 6, none, .mv (.r 15)⟩] [5, 6]))))
/-- tattler/vector.May -/
def c_vector_May : VFun := ⟨1,
  (.seq (.ops [⟨some 1, none, .box 8 (.r 0)⟩,
    ⟨some 2, none, .asg (.c (.bool false))⟩] [1])
  (.seq (.seq (.ops [⟨some 5, none, .load true 8 (.r 1)⟩,
      ⟨some 6, none, .mv (.c (.int .i64 0))⟩] [5, 6])
    (.block 0 (.loop [5, 6] [] c_vector_May_l0)))
  (.seq (.ops [⟨some 2, none, .asg (.c (.bool true))⟩] [2])
  .ret))),
  [.r 2], none⟩
/-- tattler/vector.Less -/
def c_vector_Less : VFun := ⟨2,
  (.seq (.ops [⟨some 2, none, .box 2 (.r 0)⟩,
    ⟨some 3, none, .box 2 (.r 1)⟩,
    ⟨some 4, none, .asg (.c (.bool false))⟩] [2, 3])
  (.seq (.dops 9 [⟨some 5, none, .faddr 0 (.r 2)⟩,
    ⟨some 6, none, .load false 1 (.r 5)⟩,
    ⟨some 7, none, .faddr 0 (.r 3)⟩,
    ⟨some 8, none, .load false 1 (.r 7)⟩,
    ⟨some 9, none, .call true F.cmp_Compare_int [(.r 6), (.r 8)]⟩,
    ⟨some 10, none, .faddr 1 (.r 2)⟩,
    ⟨some 11, none, .load false 1 (.r 10)⟩,
    ⟨some 12, none, .faddr 1 (.r 3)⟩,
    ⟨some 13, none, .load false 1 (.r 12)⟩,
    ⟨some 14, none, .call false F.cmp_Compare_int64 [(.r 11), (.r 13)]⟩,
    ⟨some 15, none, .bslice (.int .i64 0) 1 2 [(0, (.r 9)), (1, (.r 14))]⟩,
    ⟨some 16, none, .call false F.cmp_Or_int [(.r 15)]⟩,
    ⟨some 17, none, .bin .lss .no (.r 16) (.c (.int .i64 0))⟩,
    ⟨some 4, none, .asg (.r 17)⟩] [4])
  .ret)),
  [.r 4], none⟩
def c_tattlerref5_SameDots_l0 : VCode := (.seq (.ops [⟨some 14, none, .bin .lss .no (.r 13) (.r 12)⟩] [0, 1, 12, 13, 14])
  (.seq (.cond (.r 14) .skip (.exit 0))
  (.seq (.block 1 (.seq (.ops [⟨some 15, none, .mv (.r 13)⟩,
        ⟨some 5, none, .asg (.r 15)⟩] [0, 1, 5, 12, 13])
      (.seq (.dops 8 [⟨some 16, none, .mv (.r 0)⟩,
        ⟨some 17, none, .mv (.r 5)⟩,
        ⟨some 18, none, .iaddr none 2 (.r 16) (.r 17)⟩,
        ⟨some 19, none, .load true 2 (.r 18)⟩,
        ⟨some 20, none, .mv (.r 1)⟩,
        ⟨some 21, none, .mv (.r 5)⟩,
        ⟨some 22, none, .iaddr none 2 (.r 20) (.r 21)⟩,
        ⟨some 23, none, .load true 2 (.r 22)⟩,
        ⟨some 24, none, .bin .neq (.agg [.i, .i]) (.r 19) (.r 23)⟩] [0, 1, 12, 13, 24])
      (.cond (.r 24) (.seq (.ops [⟨some 4, none, .asg (.c (.bool false))⟩] [4])
        .ret) .skip))))
  (.ops [⟨some 25, none, .bin .add .no (.r 13) (.c (.int .i64 1))⟩,
  ⟨some 13, none, .mv (.r 25)⟩] [0, 1, 12, 13]))))
/-- tattler/tattlerref5.SameDots -/
def c_tattlerref5_SameDots : VFun := ⟨2,
  (.seq (.ops [⟨some 4, none, .asg (.c (.bool false))⟩] [0, 1])
  (.seq (.seq (.ops [⟨some 6, none, .mv (.r 0)⟩,
      ⟨some 7, none, .len .sl (.r 6)⟩,
      ⟨some 8, none, .mv (.r 1)⟩,
      ⟨some 9, none, .len .sl (.r 8)⟩,
      ⟨some 10, none, .bin .neq .no (.r 7) (.r 9)⟩] [0, 1, 10])
    (.cond (.r 10) (.seq (.ops [⟨some 4, none, .asg (.c (.bool false))⟩] [4])
      .ret) .skip))
  (.seq (.seq (.ops [⟨some 11, none, .mv (.r 0)⟩,
      ⟨some 12, none, .len .sl (.r 11)⟩,
      ⟨some 13, none, .mv (.c (.int .i64 0))⟩] [0, 1, 12, 13])
    (.block 0 (.loop [0, 1, 12, 13] [] c_tattlerref5_SameDots_l0)))
  (.seq (.ops [⟨some 4, none, .asg (.c (.bool true))⟩] [4])
  .ret)))),
  [.r 4], none⟩
/-- tattler/tattlerref5.MayKey -/
def c_tattlerref5_MayKey : VFun := ⟨1,
  (.seq (.ops [⟨some 2, none, .asg (.c (.bool false))⟩] [0])
  (.seq (.ops [⟨some 3, none, .mv (.r 0)⟩,
    ⟨some 4, none, .len .str (.r 3)⟩,
    ⟨some 5, none, .bin .geq .no (.r 4) (.c (.int .i64 1))⟩,
    ⟨some 6, none, .mv (.r 5)⟩,
    ⟨some 7, some (6, true), .mv (.r 0)⟩,
    ⟨some 8, some (6, true), .len .str (.r 7)⟩,
    ⟨some 9, some (6, true), .bin .leq .no (.r 8) (.c (.int .i64 32))⟩,
    ⟨some 10, none, .pick (.r 6) (.r 9) (.c (.bool false))⟩,
    ⟨some 2, none, .asg (.r 10)⟩] [2])
  .ret)),
  [.r 2], none⟩
def c_tattlerref5_May_l0 : VCode := (.seq (.ops [⟨some 19, none, .bin .lss .no (.r 18) (.r 17)⟩] [1, 16, 17, 18, 19])
  (.seq (.cond (.r 19) .skip (.exit 0))
  (.seq (.block 1 (.seq (.ops [⟨some 20, none, .mv (.r 18)⟩,
        ⟨some 21, none, .iaddr none 4 (.r 16) (.r 18)⟩,
        ⟨some 22, none, .load true 4 (.r 21)⟩,
        ⟨some 4, none, .alloc [(.int .i64 0), (.int .i64 0), (.sl []), (.bool false)] []⟩,
        ⟨some 3, none, .asg (.r 20)⟩,
        ⟨none, none, .store 4 (.r 4) (.r 22) [] none⟩] [1, 3, 4, 16, 17, 18])
      (.seq (.dops 19 [⟨some 23, none, .faddr 0 (.r 1)⟩,
        ⟨some 24, none, .load true 8 (.r 23)⟩,
        ⟨some 25, none, .faddr 0 (.r 4)⟩,
        ⟨some 26, none, .load true 2 (.r 25)⟩,
        ⟨some 27, none, .call true F.tattlerref1_Covers [(.r 24), (.r 26)]⟩,
        ⟨some 28, none, .un .not (.r 27)⟩,
        ⟨some 29, none, .mv (.r 28)⟩,
        ⟨some 30, some (29, false), .mv (.r 3)⟩,
        ⟨some 31, some (29, false), .bin .gtr .no (.r 30) (.c (.int .i64 0))⟩,
        ⟨some 32, some (29, false), .mv (.r 31)⟩,
        ⟨some 33, some (32, true), .faddr 8 (.r 1)⟩,
        ⟨some 34, some (32, true), .load false 1 (.r 33)⟩,
        ⟨some 35, some (32, true), .mv (.r 3)⟩,
        ⟨some 36, some (32, true), .bin .sub .no (.r 35) (.c (.int .i64 1))⟩,
        ⟨some 37, some (32, true), .iaddr none 4 (.r 34) (.r 36)⟩,
        ⟨some 38, some (32, true), .faddr 0 (.r 37)⟩,
        ⟨some 39, some (32, true), .load true 2 (.r 38)⟩,
        ⟨some 40, some (32, true), .faddr 0 (.r 4)⟩,
        ⟨some 41, some (32, true), .load true 2 (.r 40)⟩,
        ⟨some 42, some (32, true), .call false F.tattlerref1_Less [(.r 39), (.r 41)]⟩,
        ⟨some 43, some (32, true), .un .not (.r 42)⟩,
        ⟨some 44, some (29, false), .pick (.r 32) (.r 43) (.c (.bool false))⟩,
        ⟨some 45, none, .pick (.r 29) (.c (.bool true)) (.r 44)⟩,
        ⟨some 46, none, .mv (.r 45)⟩,
        ⟨some 47, some (46, false), .faddr 2 (.r 4)⟩,
        ⟨some 48, some (46, false), .load false 1 (.r 47)⟩,
        ⟨some 49, some (46, false), .len .sl (.r 48)⟩,
        ⟨some 50, some (46, false), .bin .gtr .no (.r 49) (.c (.int .i64 200))⟩,
        ⟨some 51, none, .pick (.r 46) (.c (.bool true)) (.r 50)⟩,
        ⟨some 52, none, .mv (.r 51)⟩,
        ⟨some 53, some (52, false), .faddr 3 (.r 4)⟩,
        ⟨some 54, some (52, false), .load false 1 (.r 53)⟩,
        ⟨some 55, some (52, false), .mv (.r 54)⟩,
        ⟨some 56, some (55, true), .faddr 2 (.r 4)⟩,
        ⟨some 57, some (55, true), .load false 1 (.r 56)⟩,
        ⟨some 58, some (55, true), .len .sl (.r 57)⟩,
        ⟨some 59, some (55, true), .bin .gtr .no (.r 58) (.c (.int .i64 0))⟩,
        ⟨some 60, some (52, false), .pick (.r 55) (.r 59) (.c (.bool false))⟩,
        ⟨some 61, none, .pick (.r 52) (.c (.bool true)) (.r 60)⟩] [1, 16, 17, 18, 61])
      (.cond (.r 61) (.seq (.ops [⟨some 2, none, .asg (.c (.bool false))⟩] [2])
        .ret) .skip))))
  (.ops [⟨some 62, none, .bin .add .no (.r 18) (.c (.int .i64 1))⟩,
  ⟨some 18, none, .mv (.r 62)⟩] [1, 16, 17, 18]))))
/-- tattler/tattlerref5.May -/
def c_tattlerref5_May : VFun := ⟨1,
  (.seq (.ops [⟨some 1, none, .box 9 (.r 0)⟩,
    ⟨some 2, none, .asg (.c (.bool false))⟩] [1])
  (.seq (.seq (.ops [⟨some 5, none, .faddr 0 (.r 1)⟩,
      ⟨some 6, none, .load true 8 (.r 5)⟩,
      ⟨some 7, none, .call false F.tattlerref1_May [(.r 6)]⟩,
      ⟨some 8, none, .un .not (.r 7)⟩,
      ⟨some 9, none, .mv (.r 8)⟩,
      ⟨some 10, some (9, false), .faddr 8 (.r 1)⟩,
      ⟨some 11, some (9, false), .load false 1 (.r 10)⟩,
      ⟨some 12, some (9, false), .len .sl (.r 11)⟩,
      ⟨some 13, some (9, false), .bin .gtr .no (.r 12) (.c (.int .i64 16))⟩,
      ⟨some 14, none, .pick (.r 9) (.c (.bool true)) (.r 13)⟩] [1, 14])
    (.cond (.r 14) (.seq (.ops [⟨some 2, none, .asg (.c (.bool false))⟩] [2])
      .ret) .skip))
  (.seq (.seq (.ops [⟨some 15, none, .faddr 8 (.r 1)⟩,
      ⟨some 16, none, .load false 1 (.r 15)⟩,
      ⟨some 17, none, .len .sl (.r 16)⟩,
      ⟨some 18, none, .mv (.c (.int .i64 0))⟩] [1, 16, 17, 18])
    (.block 0 (.loop [1, 16, 17, 18] [] c_tattlerref5_May_l0)))
  (.seq (.ops [⟨some 2, none, .asg (.c (.bool true))⟩] [2])
  .ret)))),
  [.r 2], none⟩
def c_vector_Join_l0 : VCode := (.seq (.ops [⟨some 9, none, .bin .lss .no (.r 8) (.c (.int .i64 8))⟩] [2, 4, 7, 8, 9])
  (.seq (.cond (.r 9) .skip (.exit 0))
  (.seq (.block 1 (.seq (.ops [⟨some 10, none, .mv (.r 8)⟩,
        ⟨some 11, none, .index false 8 1 false (.r 7) (.r 8)⟩,
        ⟨some 5, none, .asg (.r 10)⟩,
        ⟨some 6, none, .asg (.r 11)⟩] [2, 4, 5, 6, 7, 8])
      (.ops [⟨some 12, none, .mv (.r 5)⟩,
      ⟨some 13, none, .mv (.r 5)⟩,
      ⟨some 14, none, .iaddr (some 8) 1 (.r 2) (.r 13)⟩,
      ⟨some 15, none, .load false 1 (.r 14)⟩,
      ⟨some 16, none, .mv (.r 6)⟩,
      ⟨some 17, none, .mx [(.r 15), (.r 16)]⟩,
      ⟨some 18, none, .iaddr (some 8) 1 (.r 2) (.r 12)⟩,
      ⟨none, none, .store 1 (.r 18) (.r 17) [] none⟩] [2, 4, 7, 8])))
  (.ops [⟨some 19, none, .bin .add .no (.r 8) (.c (.int .i64 1))⟩,
  ⟨some 8, none, .mv (.r 19)⟩] [2, 4, 7, 8]))))
/-- tattler/vector.Join -/
def c_vector_Join : VFun := ⟨2,
  (.seq (.ops [⟨some 2, none, .box 8 (.r 0)⟩,
    ⟨some 3, none, .box 8 (.r 1)⟩,
    ⟨some 4, none, .alloc [(.int .i64 0), (.int .i64 0), (.int .i64 0), (.int .i64 0), (.int .i64 0), (.int .i64 0), (.int .i64 0), (.int .i64 0)] []⟩] [2, 3, 4])
  (.seq (.seq (.ops [⟨some 7, none, .load true 8 (.r 3)⟩,
      ⟨some 8, none, .mv (.c (.int .i64 0))⟩] [2, 4, 7, 8])
    (.block 0 (.loop [2, 4, 7, 8] [] c_vector_Join_l0)))
  (.seq (.ops [⟨some 20, none, .load true 8 (.r 2)⟩,
    ⟨none, none, .store 8 (.r 4) (.r 20) [] none⟩] [4])
  .ret))),
  [.cell 4 true 8], none⟩
def c_slices_IndexFunc_api_Digest_api_Digest_l0 : VCode := (.seq (.ops [⟨some 9, none, .bin .lss .no (.r 8) (.r 7)⟩] [0, 1, 7, 8, 9])
  (.seq (.cond (.r 9) .skip (.exit 0))
  (.seq (.block 1 (.seq (.ops [⟨some 10, none, .mv (.r 8)⟩,
        ⟨some 5, none, .asg (.r 10)⟩] [0, 1, 5, 7, 8])
      (.seq (.ops [⟨some 11, none, .mv (.r 1)⟩,
        ⟨some 12, none, .mv (.r 0)⟩,
        ⟨some 13, none, .mv (.r 5)⟩,
        ⟨some 14, none, .iaddr none 10 (.r 12) (.r 13)⟩,
        ⟨some 15, none, .load true 10 (.r 14)⟩,
        ⟨some 16, none, .callv false (.r 11) [(.r 15)]⟩] [0, 1, 5, 7, 8, 16])
      (.cond (.r 16) (.seq (.ops [⟨some 17, none, .mv (.r 5)⟩,
          ⟨some 4, none, .asg (.r 17)⟩] [4])
        .ret) .skip))))
  (.ops [⟨some 18, none, .bin .add .no (.r 8) (.c (.int .i64 1))⟩,
  ⟨some 8, none, .mv (.r 18)⟩] [0, 1, 7, 8]))))
/-- slices.IndexFunc[[]tattler/api.Digest,tattler/api.Digest] -/
def c_slices_IndexFunc_api_Digest_api_Digest : VFun := ⟨2,
  (.seq (.ops [⟨some 4, none, .asg (.c (.int .i64 0))⟩] [0, 1])
  (.seq (.seq (.ops [⟨some 6, none, .mv (.r 0)⟩,
      ⟨some 7, none, .len .sl (.r 6)⟩,
      ⟨some 8, none, .mv (.c (.int .i64 0))⟩] [0, 1, 7, 8])
    (.block 0 (.loop [0, 1, 7, 8] [] c_slices_IndexFunc_api_Digest_api_Digest_l0)))
  (.seq (.ops [⟨some 4, none, .asg (.c (.int .i64 (-1)))⟩] [4])
  .ret))),
  [.r 4], none⟩
/-- tattler/digest.lacked$1 -/
def c_digest_lacked_c1 : VFun := ⟨2,
  (.seq (.ops [⟨some 2, none, .box 10 (.r 0)⟩,
    ⟨some 3, none, .asg (.c (.bool false))⟩] [1, 2])
  (.seq (.ops [⟨some 4, none, .faddr 0 (.r 2)⟩,
    ⟨some 5, none, .load false 1 (.r 4)⟩,
    ⟨some 6, none, .faddr 0 (.r 1)⟩,
    ⟨some 7, none, .load false 1 (.r 6)⟩,
    ⟨some 8, none, .bin .eql .no (.r 5) (.r 7)⟩,
    ⟨some 3, none, .asg (.r 8)⟩] [3])
  .ret)),
  [.r 3], none⟩
def c_sibs_Write_l0 : VCode := (.seq (.ops [⟨some 20, none, .bin .lss .no (.r 19) (.r 18)⟩] [0, 17, 18, 19, 20])
  (.seq (.cond (.r 20) .skip (.exit 0))
  (.seq (.block 1 (.seq (.ops [⟨some 21, none, .iaddr none 4 (.r 17) (.r 19)⟩,
        ⟨some 22, none, .load true 4 (.r 21)⟩,
        ⟨some 5, none, .alloc [(.int .i64 0), (.int .i64 0), (.sl []), (.bool false)] []⟩,
        ⟨none, none, .store 4 (.r 5) (.r 22) [] none⟩] [0, 5, 17, 18, 19])
      (.seq (.ops [⟨some 23, none, .mv (.r 0)⟩,
        ⟨some 24, none, .faddr 0 (.r 5)⟩,
        ⟨some 25, none, .faddr 0 (.r 24)⟩,
        ⟨some 26, none, .load false 1 (.r 25)⟩,
        ⟨some 27, none, .conv (.toInt .u64) (.r 26)⟩,
        ⟨some 28, none, .call false F.wire_Writer_Num [(.r 23), (.r 27)]⟩] [0, 5, 17, 18, 19])
      (.seq (.ops [⟨some 29, none, .mv (.r 0)⟩,
        ⟨some 30, none, .faddr 0 (.r 5)⟩,
        ⟨some 31, none, .faddr 1 (.r 30)⟩,
        ⟨some 32, none, .load false 1 (.r 31)⟩,
        ⟨some 33, none, .call false F.wire_Writer_Int [(.r 29), (.r 32)]⟩] [0, 5, 17, 18, 19])
      (.seq (.ops [⟨some 34, none, .mv (.r 0)⟩,
        ⟨some 35, none, .faddr 3 (.r 5)⟩,
        ⟨some 36, none, .load false 1 (.r 35)⟩,
        ⟨some 37, none, .call false F.wire_Writer_Flag [(.r 34), (.r 36)]⟩] [0, 5, 17, 18, 19])
      (.ops [⟨some 38, none, .mv (.r 0)⟩,
      ⟨some 39, none, .faddr 2 (.r 5)⟩,
      ⟨some 40, none, .load false 1 (.r 39)⟩,
      ⟨some 41, none, .call false F.wire_Writer_Text [(.r 38), (.r 40)]⟩] [0, 17, 18, 19]))))))
  (.ops [⟨some 42, none, .bin .add .no (.r 19) (.c (.int .i64 1))⟩,
  ⟨some 19, none, .mv (.r 42)⟩] [0, 17, 18, 19]))))
/-- tattler/sibs.Write -/
def c_sibs_Write : VFun := ⟨2,
  (.seq (.ops [⟨some 3, none, .box 9 (.r 1)⟩] [0, 3])
  (.seq (.ops [⟨some 6, none, .mv (.r 0)⟩,
    ⟨some 7, none, .faddr 0 (.r 3)⟩,
    ⟨some 8, none, .load true 8 (.r 7)⟩,
    ⟨some 9, none, .call false F.vector_Write [(.r 6), (.r 8)]⟩] [0, 3])
  (.seq (.ops [⟨some 10, none, .mv (.r 0)⟩,
    ⟨some 11, none, .faddr 8 (.r 3)⟩,
    ⟨some 12, none, .load false 1 (.r 11)⟩,
    ⟨some 13, none, .len .sl (.r 12)⟩,
    ⟨some 14, none, .conv (.toInt .u64) (.r 13)⟩,
    ⟨some 15, none, .call false F.wire_Writer_Num [(.r 10), (.r 14)]⟩] [0, 3])
  (.seq (.ops [⟨some 16, none, .faddr 8 (.r 3)⟩,
    ⟨some 17, none, .load false 1 (.r 16)⟩,
    ⟨some 18, none, .len .sl (.r 17)⟩,
    ⟨some 19, none, .mv (.c (.int .i64 0))⟩] [0, 17, 18, 19])
  (.block 0 (.loop [0, 17, 18, 19] [] c_sibs_Write_l0)))))),
  [], none⟩
def c_tattlerref1_Join_l0 : VCode := (.seq (.ops [⟨some 7, none, .bin .lss .no (.r 6) (.c (.int .i64 8))⟩] [2, 3, 4, 6, 7])
  (.seq (.cond (.r 7) .skip (.exit 0))
  (.seq (.block 1 (.seq (.ops [⟨some 8, none, .mv (.r 6)⟩,
        ⟨some 5, none, .asg (.r 8)⟩] [2, 3, 4, 5, 6])
      (.dops 8 [⟨some 9, none, .mv (.r 5)⟩,
      ⟨some 10, none, .mv (.r 5)⟩,
      ⟨some 11, none, .iaddr (some 8) 1 (.r 2) (.r 10)⟩,
      ⟨some 12, none, .load false 1 (.r 11)⟩,
      ⟨some 13, none, .mv (.r 5)⟩,
      ⟨some 14, none, .iaddr (some 8) 1 (.r 3) (.r 13)⟩,
      ⟨some 15, none, .load false 1 (.r 14)⟩,
      ⟨some 16, none, .mx [(.r 12), (.r 15)]⟩,
      ⟨some 17, none, .iaddr (some 8) 1 (.r 2) (.r 9)⟩,
      ⟨none, none, .store 1 (.r 17) (.r 16) [] none⟩] [2, 3, 4, 6])))
  (.ops [⟨some 18, none, .bin .add .no (.r 6) (.c (.int .i64 1))⟩,
  ⟨some 6, none, .mv (.r 18)⟩] [2, 3, 4, 6]))))
/-- tattler/tattlerref1.Join -/
def c_tattlerref1_Join : VFun := ⟨2,
  (.seq (.ops [⟨some 2, none, .box 8 (.r 0)⟩,
    ⟨some 3, none, .box 8 (.r 1)⟩,
    ⟨some 4, none, .alloc [(.int .i64 0), (.int .i64 0), (.int .i64 0), (.int .i64 0), (.int .i64 0), (.int .i64 0), (.int .i64 0), (.int .i64 0)] []⟩] [2, 3, 4])
  (.seq (.seq (.ops [⟨some 6, none, .mv (.c (.int .i64 0))⟩] [2, 3, 4, 6])
    (.block 0 (.loop [2, 3, 4, 6] [] c_tattlerref1_Join_l0)))
  (.seq (.ops [⟨some 19, none, .load true 8 (.r 2)⟩,
    ⟨none, none, .store 8 (.r 4) (.r 19) [] none⟩] [4])
  .ret))),
  [.cell 4 true 8], none⟩
def c_tattlerref5_find_l0 : VCode := (.seq (.ops [⟨some 11, none, .bin .lss .no (.r 10) (.r 9)⟩] [3, 8, 9, 10, 11])
  (.seq (.cond (.r 11) .skip (.exit 0))
  (.seq (.block 1 (.seq (.ops [⟨some 12, none, .mv (.r 10)⟩,
        ⟨some 13, none, .iaddr none 4 (.r 8) (.r 10)⟩,
        ⟨some 14, none, .load true 4 (.r 13)⟩,
        ⟨some 6, none, .alloc [(.int .i64 0), (.int .i64 0), (.sl []), (.bool false)] []⟩,
        ⟨some 5, none, .asg (.r 12)⟩,
        ⟨none, none, .store 4 (.r 6) (.r 14) [] none⟩] [3, 5, 6, 8, 9, 10])
      (.seq (.ops [⟨some 15, none, .faddr 0 (.r 6)⟩,
        ⟨some 16, none, .load true 2 (.r 15)⟩,
        ⟨some 17, none, .load true 2 (.r 3)⟩,
        ⟨some 18, none, .bin .eql (.agg [.i, .i]) (.r 16) (.r 17)⟩] [3, 5, 8, 9, 10, 18])
      (.cond (.r 18) (.seq (.ops [⟨some 19, none, .mv (.r 5)⟩,
          ⟨some 4, none, .asg (.r 19)⟩] [4])
        .ret) .skip))))
  (.ops [⟨some 20, none, .bin .add .no (.r 10) (.c (.int .i64 1))⟩,
  ⟨some 10, none, .mv (.r 20)⟩] [3, 8, 9, 10]))))
/-- tattler/tattlerref5.find -/
def c_tattlerref5_find : VFun := ⟨2,
  (.seq (.ops [⟨some 2, none, .box 9 (.r 0)⟩,
    ⟨some 3, none, .box 2 (.r 1)⟩,
    ⟨some 4, none, .asg (.c (.int .i64 0))⟩] [2, 3])
  (.seq (.seq (.ops [⟨some 7, none, .faddr 8 (.r 2)⟩,
      ⟨some 8, none, .load false 1 (.r 7)⟩,
      ⟨some 9, none, .len .sl (.r 8)⟩,
      ⟨some 10, none, .mv (.c (.int .i64 0))⟩] [3, 8, 9, 10])
    (.block 0 (.loop [3, 8, 9, 10] [] c_tattlerref5_find_l0)))
  (.seq (.ops [⟨some 4, none, .asg (.c (.int .i64 (-1)))⟩] [4])
  .ret))),
  [.r 4], none⟩
def c_tattlerref5_insert_l0 : VCode := (.seq (.seq (.dops 12 [⟨some 6, none, .mv (.r 5)⟩,
      ⟨some 7, none, .mv (.r 0)⟩,
      ⟨some 8, none, .len .sl (.r 7)⟩,
      ⟨some 9, none, .bin .lss .no (.r 6) (.r 8)⟩,
      ⟨some 10, none, .mv (.r 9)⟩,
      ⟨some 11, some (10, true), .mv (.r 0)⟩,
      ⟨some 12, some (10, true), .mv (.r 5)⟩,
      ⟨some 13, some (10, true), .iaddr none 4 (.r 11) (.r 12)⟩,
      ⟨some 14, some (10, true), .faddr 0 (.r 13)⟩,
      ⟨some 15, some (10, true), .load true 2 (.r 14)⟩,
      ⟨some 16, some (10, true), .faddr 0 (.r 3)⟩,
      ⟨some 17, some (10, true), .load true 2 (.r 16)⟩,
      ⟨some 18, some (10, true), .call false F.tattlerref1_Less [(.r 15), (.r 17)]⟩,
      ⟨some 19, none, .pick (.r 10) (.r 18) (.c (.bool false))⟩] [0, 3, 5, 19])
    (.cond (.r 19) .skip (.exit 0)))
  (.block 1 (.ops [⟨some 20, none, .mv (.r 5)⟩,
    ⟨some 21, none, .bin .add .no (.r 20) (.c (.int .i64 1))⟩,
    ⟨some 5, none, .asg (.r 21)⟩] [0, 3, 5])))
/-- tattler/tattlerref5.insert -/
def c_tattlerref5_insert : VFun := ⟨2,
  (.seq (.ops [⟨some 3, none, .box 4 (.r 1)⟩,
    ⟨some 4, none, .asg (.c (.sl []))⟩] [0, 3])
  (.seq (.ops [⟨some 5, none, .asg (.c (.int .i64 0))⟩] [0, 3, 5])
  (.seq (.block 0 (.loop [0, 3, 5] [(4, 0, 0)] c_tattlerref5_insert_l0))
  (.seq (.dops 10 [⟨some 22, none, .mv (.r 0)⟩,
    ⟨some 23, none, .mv (.r 5)⟩,
    ⟨some 24, none, .slice false 4 (.r 22) none (some (.r 23)) none⟩,
    ⟨some 25, none, .app .fresh 4 48 (.c (.sl [])) (.r 24)⟩,
    ⟨some 26, none, .load true 4 (.r 3)⟩,
    ⟨some 27, none, .bslice (.agg [(.int .i64 0), (.int .i64 0), (.sl []), (.bool false)]) 4 1 [(0, (.r 26))]⟩,
    ⟨some 28, none, .app (.reg 25) 4 48 (.r 25) (.r 27)⟩,
    ⟨some 29, none, .mv (.r 0)⟩,
    ⟨some 30, none, .mv (.r 5)⟩,
    ⟨some 31, none, .slice false 4 (.r 29) (some (.r 30)) none none⟩,
    ⟨some 32, none, .app (.reg 28) 4 48 (.r 28) (.r 31)⟩,
    ⟨some 4, none, .asg (.r 32)⟩] [4])
  .ret)))),
  [.r 4], none⟩
/-- tattler/tattlerref5.copied -/
def c_tattlerref5_copied : VFun := ⟨1,
  (.seq (.ops [⟨some 1, none, .box 4 (.r 0)⟩,
    ⟨some 2, none, .alloc [(.int .i64 0), (.int .i64 0), (.sl []), (.bool false)] []⟩] [1, 2])
  (.seq (.ops [⟨some 3, none, .faddr 2 (.r 1)⟩,
    ⟨some 4, none, .load false 1 (.r 3)⟩,
    ⟨some 5, none, .app .fresh 1 1 (.c (.sl [])) (.r 4)⟩,
    ⟨some 6, none, .faddr 2 (.r 1)⟩,
    ⟨none, none, .store 1 (.r 6) (.r 5) [] none⟩] [1, 2])
  (.seq (.ops [⟨some 7, none, .load true 4 (.r 1)⟩,
    ⟨none, none, .store 4 (.r 2) (.r 7) [] none⟩] [2])
  .ret))),
  [.cell 2 true 4], none⟩
/-- tattler/tattlerref5.first -/
def c_tattlerref5_first : VFun := ⟨2,
  (.seq (.ops [⟨some 2, none, .box 4 (.r 0)⟩,
    ⟨some 3, none, .box 4 (.r 1)⟩,
    ⟨some 4, none, .alloc [(.int .i64 0), (.int .i64 0), (.sl []), (.bool false)] []⟩] [2, 3, 4])
  (.seq (.seq (.ops [⟨some 5, none, .faddr 3 (.r 2)⟩,
      ⟨some 6, none, .load false 1 (.r 5)⟩,
      ⟨some 7, none, .faddr 3 (.r 3)⟩,
      ⟨some 8, none, .load false 1 (.r 7)⟩,
      ⟨some 9, none, .bin .neq .bool (.r 6) (.r 8)⟩] [2, 3, 4, 9])
    (.cond (.r 9) (.seq (.seq (.ops [⟨some 10, none, .faddr 3 (.r 2)⟩,
          ⟨some 11, none, .load false 1 (.r 10)⟩] [2, 3, 4, 11])
        (.cond (.r 11) (.seq (.ops [⟨some 12, none, .load true 4 (.r 3)⟩,
            ⟨none, none, .store 4 (.r 4) (.r 12) [] none⟩] [4])
          .ret) .skip))
      (.seq (.ops [⟨some 13, none, .load true 4 (.r 2)⟩,
        ⟨none, none, .store 4 (.r 4) (.r 13) [] none⟩] [4])
      .ret)) .skip))
  (.seq (.seq (.ops [⟨some 14, none, .faddr 2 (.r 3)⟩,
      ⟨some 15, none, .load false 1 (.r 14)⟩,
      ⟨some 16, none, .conv .strOfBytes (.r 15)⟩,
      ⟨some 17, none, .faddr 2 (.r 2)⟩,
      ⟨some 18, none, .load false 1 (.r 17)⟩,
      ⟨some 19, none, .conv .strOfBytes (.r 18)⟩,
      ⟨some 20, none, .bin .lss .no (.r 16) (.r 19)⟩] [2, 3, 4, 20])
    (.cond (.r 20) (.seq (.ops [⟨some 21, none, .load true 4 (.r 3)⟩,
        ⟨none, none, .store 4 (.r 4) (.r 21) [] none⟩] [4])
      .ret) .skip))
  (.seq (.ops [⟨some 22, none, .load true 4 (.r 2)⟩,
    ⟨none, none, .store 4 (.r 4) (.r 22) [] none⟩] [4])
  .ret)))),
  [.cell 4 true 4], none⟩
/-- tattler/tattlerref1.Covers -/
def c_tattlerref1_Covers : VFun := ⟨2,
  (.seq (.ops [⟨some 2, none, .box 8 (.r 0)⟩,
    ⟨some 3, none, .box 2 (.r 1)⟩,
    ⟨some 4, none, .asg (.c (.bool false))⟩] [2, 3])
  (.seq (.dops 20 [⟨some 5, none, .faddr 0 (.r 3)⟩,
    ⟨some 6, none, .load false 1 (.r 5)⟩,
    ⟨some 7, none, .bin .geq .no (.r 6) (.c (.int .i64 0))⟩,
    ⟨some 8, none, .mv (.r 7)⟩,
    ⟨some 9, some (8, true), .faddr 0 (.r 3)⟩,
    ⟨some 10, some (8, true), .load false 1 (.r 9)⟩,
    ⟨some 11, some (8, true), .bin .lss .no (.r 10) (.c (.int .i64 8))⟩,
    ⟨some 12, none, .pick (.r 8) (.r 11) (.c (.bool false))⟩,
    ⟨some 13, none, .mv (.r 12)⟩,
    ⟨some 14, some (13, true), .faddr 1 (.r 3)⟩,
    ⟨some 15, some (13, true), .load false 1 (.r 14)⟩,
    ⟨some 16, some (13, true), .bin .geq .no (.r 15) (.c (.int .i64 1))⟩,
    ⟨some 17, none, .pick (.r 13) (.r 16) (.c (.bool false))⟩,
    ⟨some 18, none, .mv (.r 17)⟩,
    ⟨some 19, some (18, true), .faddr 1 (.r 3)⟩,
    ⟨some 20, some (18, true), .load false 1 (.r 19)⟩,
    ⟨some 21, some (18, true), .faddr 0 (.r 3)⟩,
    ⟨some 22, some (18, true), .load false 1 (.r 21)⟩,
    ⟨some 23, some (18, true), .iaddr (some 8) 1 (.r 2) (.r 22)⟩,
    ⟨some 24, some (18, true), .load false 1 (.r 23)⟩,
    ⟨some 25, some (18, true), .bin .leq .no (.r 20) (.r 24)⟩,
    ⟨some 26, none, .pick (.r 18) (.r 25) (.c (.bool false))⟩,
    ⟨some 4, none, .asg (.r 26)⟩] [4])
  .ret)),
  [.r 4], none⟩
def c_slices_IndexFunc_api_Dot_api_Dot_l0 : VCode := (.seq (.ops [⟨some 9, none, .bin .lss .no (.r 8) (.r 7)⟩] [0, 1, 7, 8, 9])
  (.seq (.cond (.r 9) .skip (.exit 0))
  (.seq (.block 1 (.seq (.ops [⟨some 10, none, .mv (.r 8)⟩,
        ⟨some 5, none, .asg (.r 10)⟩] [0, 1, 5, 7, 8])
      (.seq (.ops [⟨some 11, none, .mv (.r 1)⟩,
        ⟨some 12, none, .mv (.r 0)⟩,
        ⟨some 13, none, .mv (.r 5)⟩,
        ⟨some 14, none, .iaddr none 2 (.r 12) (.r 13)⟩,
        ⟨some 15, none, .load true 2 (.r 14)⟩,
        ⟨some 16, none, .callv false (.r 11) [(.r 15)]⟩] [0, 1, 5, 7, 8, 16])
      (.cond (.r 16) (.seq (.ops [⟨some 17, none, .mv (.r 5)⟩,
          ⟨some 4, none, .asg (.r 17)⟩] [4])
        .ret) .skip))))
  (.ops [⟨some 18, none, .bin .add .no (.r 8) (.c (.int .i64 1))⟩,
  ⟨some 8, none, .mv (.r 18)⟩] [0, 1, 7, 8]))))
/-- slices.IndexFunc[[]tattler/api.Dot,tattler/api.Dot] -/
def c_slices_IndexFunc_api_Dot_api_Dot : VFun := ⟨2,
  (.seq (.ops [⟨some 4, none, .asg (.c (.int .i64 0))⟩] [0, 1])
  (.seq (.seq (.ops [⟨some 6, none, .mv (.r 0)⟩,
      ⟨some 7, none, .len .sl (.r 6)⟩,
      ⟨some 8, none, .mv (.c (.int .i64 0))⟩] [0, 1, 7, 8])
    (.block 0 (.loop [0, 1, 7, 8] [] c_slices_IndexFunc_api_Dot_api_Dot_l0)))
  (.seq (.ops [⟨some 4, none, .asg (.c (.int .i64 (-1)))⟩] [4])
  .ret))),
  [.r 4], none⟩
/-- tattler/vector.is -/
def c_vector_is : VFun := ⟨1,
  (.seq (.ops [⟨some 2, none, .asg (.c (.bool false))⟩] [0])
  (.seq (.ops [⟨some 3, none, .mv (.r 0)⟩,
    ⟨some 4, none, .bin .geq .no (.r 3) (.c (.int .i64 0))⟩,
    ⟨some 5, none, .mv (.r 4)⟩,
    ⟨some 6, some (5, true), .mv (.r 0)⟩,
    ⟨some 7, some (5, true), .bin .lss .no (.r 6) (.c (.int .i64 8))⟩,
    ⟨some 8, none, .pick (.r 5) (.r 7) (.c (.bool false))⟩,
    ⟨some 2, none, .asg (.r 8)⟩] [2])
  .ret)),
  [.r 2], none⟩
def c_slices_Index_api_Dot_api_Dot_l0 : VCode := (.seq (.ops [⟨some 9, none, .bin .lss .no (.r 8) (.r 7)⟩] [0, 3, 7, 8, 9])
  (.seq (.cond (.r 9) .skip (.exit 0))
  (.seq (.block 1 (.seq (.ops [⟨some 10, none, .mv (.r 8)⟩,
        ⟨some 5, none, .asg (.r 10)⟩] [0, 3, 5, 7, 8])
      (.seq (.dops 5 [⟨some 11, none, .load true 2 (.r 3)⟩,
        ⟨some 12, none, .mv (.r 0)⟩,
        ⟨some 13, none, .mv (.r 5)⟩,
        ⟨some 14, none, .iaddr none 2 (.r 12) (.r 13)⟩,
        ⟨some 15, none, .load true 2 (.r 14)⟩,
        ⟨some 16, none, .bin .eql (.agg [.i, .i]) (.r 11) (.r 15)⟩] [0, 3, 5, 7, 8, 16])
      (.cond (.r 16) (.seq (.ops [⟨some 17, none, .mv (.r 5)⟩,
          ⟨some 4, none, .asg (.r 17)⟩] [4])
        .ret) .skip))))
  (.ops [⟨some 18, none, .bin .add .no (.r 8) (.c (.int .i64 1))⟩,
  ⟨some 8, none, .mv (.r 18)⟩] [0, 3, 7, 8]))))
/-- slices.Index[[]tattler/api.Dot,tattler/api.Dot] -/
def c_slices_Index_api_Dot_api_Dot : VFun := ⟨2,
  (.seq (.ops [⟨some 3, none, .box 2 (.r 1)⟩,
    ⟨some 4, none, .asg (.c (.int .i64 0))⟩] [0, 3])
  (.seq (.seq (.ops [⟨some 6, none, .mv (.r 0)⟩,
      ⟨some 7, none, .len .sl (.r 6)⟩,
      ⟨some 8, none, .mv (.c (.int .i64 0))⟩] [0, 3, 7, 8])
    (.block 0 (.loop [0, 3, 7, 8] [] c_slices_Index_api_Dot_api_Dot_l0)))
  (.seq (.ops [⟨some 4, none, .asg (.c (.int .i64 (-1)))⟩] [4])
  .ret))),
  [.r 4], none⟩
/-- (*tattler/wire.Writer).put -/
def c_wire_Writer_put : VFun := ⟨2,
  (.seq (.seq (.dops 21 [⟨some 4, none, .mv (.r 0)⟩,
      ⟨some 5, none, .bin .eql .ptr (.r 4) (.c (.ptr none))⟩,
      ⟨some 6, none, .mv (.r 5)⟩,
      ⟨some 7, some (6, false), .mv (.r 0)⟩,
      ⟨some 8, some (6, false), .nilck (.r 7)⟩,
      ⟨some 9, some (6, false), .faddr 2 (.r 8)⟩,
      ⟨some 10, some (6, false), .load false 1 (.r 9)⟩,
      ⟨some 11, none, .pick (.r 6) (.c (.bool true)) (.r 10)⟩,
      ⟨some 12, none, .mv (.r 11)⟩,
      ⟨some 13, some (12, false), .mv (.r 1)⟩,
      ⟨some 14, some (12, false), .len .sl (.r 13)⟩,
      ⟨some 15, some (12, false), .mv (.r 0)⟩,
      ⟨some 16, some (12, false), .nilck (.r 15)⟩,
      ⟨some 17, some (12, false), .faddr 1 (.r 16)⟩,
      ⟨some 18, some (12, false), .load false 1 (.r 17)⟩,
      ⟨some 19, some (12, false), .mv (.r 0)⟩,
      ⟨some 20, some (12, false), .nilck (.r 19)⟩,
      ⟨some 21, some (12, false), .faddr 0 (.r 20)⟩,
      ⟨some 22, some (12, false), .load false 1 (.r 21)⟩,
      ⟨some 23, some (12, false), .len .sl (.r 22)⟩,
      ⟨some 24, some (12, false), .bin .sub .no (.r 18) (.r 23)⟩,
      ⟨some 25, some (12, false), .bin .gtr .no (.r 14) (.r 24)⟩,
      ⟨some 26, none, .pick (.r 12) (.c (.bool true)) (.r 25)⟩] [0, 1, 26])
    (.cond (.r 26) (.seq (.seq (.ops [⟨some 27, none, .mv (.r 0)⟩,
          ⟨some 28, none, .bin .neq .ptr (.r 27) (.c (.ptr none))⟩] [0, 28])
        (.cond (.r 28) (.ops [⟨some 29, none, .mv (.r 0)⟩,
          ⟨some 30, none, .nilck (.r 29)⟩,
          ⟨some 31, none, .faddr 2 (.r 30)⟩,
          ⟨none, none, .store 1 (.r 31) (.c (.bool true)) [] none⟩] []) .skip))
      .ret) .skip))
  (.ops [⟨some 32, none, .mv (.r 0)⟩,
  ⟨some 33, none, .mv (.r 0)⟩,
  ⟨some 34, none, .nilck (.r 33)⟩,
  ⟨some 35, none, .faddr 0 (.r 34)⟩,
  ⟨some 36, none, .load false 1 (.r 35)⟩,
  ⟨some 37, none, .mv (.r 1)⟩,
  ⟨some 38, none, .appc 35 1 1 (.r 36) (.r 37)⟩,
  ⟨some 39, none, .nilck (.r 32)⟩,
  ⟨some 40, none, .faddr 0 (.r 39)⟩,
  ⟨none, none, .store 1 (.r 40) (.r 38) [(0, 1)] (some 35)⟩] [])),
  [], none⟩
def c_wire_num_l0 : VCode := (.seq (.seq (.ops [⟨some 4, none, .mv (.r 0)⟩,
      ⟨some 5, none, .bin .geq .no (.r 4) (.c (.int .u64 128))⟩] [0, 3, 5])
    (.cond (.r 5) .skip (.exit 0)))
  (.block 1 (.seq (.ops [⟨some 6, none, .mv (.r 3)⟩,
      ⟨some 7, none, .mv (.r 0)⟩,
      ⟨some 8, none, .conv (.toInt .u8) (.r 7)⟩,
      ⟨some 9, none, .bin .or .no (.r 8) (.c (.int .u8 128))⟩,
      ⟨some 10, none, .bslice (.int .u8 0) 1 1 [(0, (.r 9))]⟩,
      ⟨some 11, none, .app (.reg 3) 1 1 (.r 6) (.r 10)⟩,
      ⟨some 3, none, .asg (.r 11)⟩] [0, 3])
    (.ops [⟨some 12, none, .mv (.r 0)⟩,
    ⟨some 13, none, .bin .shr .no (.r 12) (.c (.int .u64 7))⟩,
    ⟨some 0, none, .asg (.r 13)⟩] [0, 3]))))
/-- tattler/wire.num -/
def c_wire_num : VFun := ⟨1,
  (.seq (.ops [⟨some 2, none, .asg (.c (.sl []))⟩] [0])
  (.seq (.ops [⟨some 3, none, .asg (.c (.sl []))⟩] [0, 3])
  (.seq (.block 0 (.loop [0, 3] [(2, 0, 0), (3, 0, 1)] c_wire_num_l0))
  (.seq (.ops [⟨some 14, none, .mv (.r 3)⟩,
    ⟨some 15, none, .mv (.r 0)⟩,
    ⟨some 16, none, .conv (.toInt .u8) (.r 15)⟩,
    ⟨some 17, none, .bslice (.int .u8 0) 1 1 [(0, (.r 16))]⟩,
    ⟨some 18, none, .app (.reg 3) 1 1 (.r 14) (.r 17)⟩,
    ⟨some 2, none, .asg (.r 18)⟩] [2])
  .ret)))),
  [.r 2], none⟩
/-- (*tattler/wire.Reader).ok -/
def c_wire_Reader_ok : VFun := ⟨1,
  (.seq (.ops [⟨some 2, none, .asg (.c (.bool false))⟩] [0])
  (.seq (.ops [⟨some 3, none, .mv (.r 0)⟩,
    ⟨some 4, none, .bin .neq .ptr (.r 3) (.c (.ptr none))⟩,
    ⟨some 5, none, .mv (.r 4)⟩,
    ⟨some 6, some (5, true), .mv (.r 0)⟩,
    ⟨some 7, some (5, true), .nilck (.r 6)⟩,
    ⟨some 8, some (5, true), .faddr 1 (.r 7)⟩,
    ⟨some 9, some (5, true), .load false 1 (.r 8)⟩,
    ⟨some 10, some (5, true), .bin .eql .no (.r 9) (.c (.int .i64 0))⟩,
    ⟨some 11, none, .pick (.r 5) (.r 10) (.c (.bool false))⟩,
    ⟨some 2, none, .asg (.r 11)⟩] [2])
  .ret)),
  [.r 2], none⟩
/-- (*tattler/wire.Reader).fail -/
def c_wire_Reader_fail : VFun := ⟨2,
  (.ops [⟨some 4, none, .mv (.r 0)⟩,
  ⟨some 5, none, .mv (.r 0)⟩,
  ⟨some 6, none, .mv (.r 1)⟩,
  ⟨some 7, none, .nilck (.r 4)⟩,
  ⟨some 8, none, .faddr 1 (.r 7)⟩,
  ⟨none, none, .store 1 (.r 8) (.r 6) [] none⟩,
  ⟨some 9, none, .nilck (.r 5)⟩,
  ⟨some 10, none, .faddr 0 (.r 9)⟩,
  ⟨none, none, .store 1 (.r 10) (.c (.sl [])) [] none⟩] []),
  [], none⟩
/-- tattler/vector.good -/
def c_vector_good : VFun := ⟨1,
  (.seq (.ops [⟨some 2, none, .asg (.c (.bool false))⟩] [0])
  (.seq (.ops [⟨some 3, none, .mv (.r 0)⟩,
    ⟨some 4, none, .call false F.wire_Reader_End [(.r 3)]⟩,
    ⟨some 5, none, .bin .eql .no (.r 4) (.c (.int .i64 0))⟩,
    ⟨some 6, none, .mv (.r 5)⟩,
    ⟨some 7, some (6, false), .mv (.r 0)⟩,
    ⟨some 8, some (6, false), .call false F.wire_Reader_Left [(.r 7)]⟩,
    ⟨some 9, some (6, false), .bin .gtr .no (.r 8) (.c (.int .i64 0))⟩,
    ⟨some 10, none, .pick (.r 6) (.c (.bool true)) (.r 9)⟩,
    ⟨some 2, none, .asg (.r 10)⟩] [2])
  .ret)),
  [.r 2], none⟩
/-- (*tattler/wire.Reader).byte -/
def c_wire_Reader_byte : VFun := ⟨1,
  (.seq (.ops [⟨some 2, none, .asg (.c (.int .u8 0))⟩,
    ⟨some 3, none, .asg (.c (.bool false))⟩] [0])
  (.seq (.seq (.ops [⟨some 5, none, .mv (.r 0)⟩,
      ⟨some 6, none, .call false F.wire_Reader_ok [(.r 5)]⟩,
      ⟨some 7, none, .un .not (.r 6)⟩] [0, 7])
    (.cond (.r 7) (.seq (.ops [⟨some 2, none, .asg (.c (.int .u8 0))⟩,
        ⟨some 3, none, .asg (.c (.bool false))⟩] [2, 3])
      .ret) .skip))
  (.seq (.seq (.ops [⟨some 8, none, .mv (.r 0)⟩,
      ⟨some 9, none, .nilck (.r 8)⟩,
      ⟨some 10, none, .faddr 0 (.r 9)⟩,
      ⟨some 11, none, .load false 1 (.r 10)⟩,
      ⟨some 12, none, .len .sl (.r 11)⟩,
      ⟨some 13, none, .bin .eql .no (.r 12) (.c (.int .i64 0))⟩] [0, 13])
    (.cond (.r 13) (.seq (.ops [⟨some 14, none, .mv (.r 0)⟩,
        ⟨some 15, none, .call false F.wire_Reader_fail [(.r 14), (.c (.int .i64 2))]⟩] [])
      (.seq (.ops [⟨some 2, none, .asg (.c (.int .u8 0))⟩,
        ⟨some 3, none, .asg (.c (.bool false))⟩] [2, 3])
      .ret)) .skip))
  (.seq (.ops [⟨some 16, none, .mv (.r 0)⟩,
    ⟨some 17, none, .nilck (.r 16)⟩,
    ⟨some 18, none, .faddr 0 (.r 17)⟩,
    ⟨some 19, none, .load false 1 (.r 18)⟩,
    ⟨some 20, none, .iaddr none 1 (.r 19) (.c (.int .i64 0))⟩,
    ⟨some 21, none, .load false 1 (.r 20)⟩,
    ⟨some 4, none, .asg (.r 21)⟩] [0, 4])
  (.seq (.ops [⟨some 22, none, .mv (.r 0)⟩,
    ⟨some 23, none, .mv (.r 0)⟩,
    ⟨some 24, none, .nilck (.r 23)⟩,
    ⟨some 25, none, .faddr 0 (.r 24)⟩,
    ⟨some 26, none, .load false 1 (.r 25)⟩,
    ⟨some 27, none, .slice false 1 (.r 26) (some (.c (.int .i64 1))) none none⟩,
    ⟨some 28, none, .nilck (.r 22)⟩,
    ⟨some 29, none, .faddr 0 (.r 28)⟩,
    ⟨none, none, .store 1 (.r 29) (.r 27) [] none⟩] [4])
  (.seq (.ops [⟨some 30, none, .mv (.r 4)⟩,
    ⟨some 2, none, .asg (.r 30)⟩,
    ⟨some 3, none, .asg (.c (.bool true))⟩] [2, 3])
  .ret)))))),
  [.r 2, .r 3], none⟩
def c_cmp_Or_int_l0 : VCode := (.seq (.ops [⟨some 9, none, .bin .lss .no (.r 8) (.r 7)⟩] [3, 6, 7, 8, 9])
  (.seq (.cond (.r 9) .skip (.exit 0))
  (.seq (.block 1 (.seq (.ops [⟨some 10, none, .iaddr none 1 (.r 6) (.r 8)⟩,
        ⟨some 11, none, .load false 1 (.r 10)⟩,
        ⟨some 5, none, .asg (.r 11)⟩] [3, 5, 6, 7, 8])
      (.seq (.ops [⟨some 12, none, .mv (.r 5)⟩,
        ⟨some 13, none, .mv (.r 3)⟩,
        ⟨some 14, none, .bin .neq .no (.r 12) (.r 13)⟩] [3, 5, 6, 7, 8, 14])
      (.cond (.r 14) (.seq (.ops [⟨some 15, none, .mv (.r 5)⟩,
          ⟨some 2, none, .asg (.r 15)⟩] [2])
        .ret) .skip))))
  (.ops [⟨some 16, none, .bin .add .no (.r 8) (.c (.int .i64 1))⟩,
  ⟨some 8, none, .mv (.r 16)⟩] [3, 6, 7, 8]))))
/-- cmp.Or[int] -/
def c_cmp_Or_int : VFun := ⟨1,
  (.seq (.ops [⟨some 2, none, .asg (.c (.int .i64 0))⟩] [0])
  (.seq (.ops [⟨some 3, none, .asg (.c (.int .i64 0))⟩] [0, 3])
  (.seq (.seq (.ops [⟨some 6, none, .mv (.r 0)⟩,
      ⟨some 7, none, .len .sl (.r 6)⟩,
      ⟨some 8, none, .mv (.c (.int .i64 0))⟩] [3, 6, 7, 8])
    (.block 0 (.loop [3, 6, 7, 8] [] c_cmp_Or_int_l0)))
  (.seq (.ops [⟨some 17, none, .mv (.r 3)⟩,
    ⟨some 2, none, .asg (.r 17)⟩] [2])
  .ret)))),
  [.r 2], none⟩
/-- cmp.Compare[int] -/
def c_cmp_Compare_int : VFun := ⟨2,
  (.seq (.ops [⟨some 4, none, .asg (.c (.int .i64 0))⟩] [0, 1])
  (.seq (.ops [⟨some 7, none, .mv (.r 0)⟩,
    ⟨some 8, none, .call false F.cmp_isNaN_int [(.r 7)]⟩,
    ⟨some 5, none, .asg (.r 8)⟩] [0, 1, 5])
  (.seq (.ops [⟨some 9, none, .mv (.r 1)⟩,
    ⟨some 10, none, .call false F.cmp_isNaN_int [(.r 9)]⟩,
    ⟨some 6, none, .asg (.r 10)⟩] [0, 1, 5, 6])
  (.seq (.seq (.ops [⟨some 11, none, .mv (.r 5)⟩] [0, 1, 6, 11])
    (.cond (.r 11) (.seq (.seq (.ops [⟨some 12, none, .mv (.r 6)⟩] [12])
        (.cond (.r 12) (.seq (.ops [⟨some 4, none, .asg (.c (.int .i64 0))⟩] [4])
          .ret) .skip))
      (.seq (.ops [⟨some 4, none, .asg (.c (.int .i64 (-1)))⟩] [4])
      .ret)) .skip))
  (.seq (.seq (.ops [⟨some 13, none, .mv (.r 6)⟩] [0, 1, 13])
    (.cond (.r 13) (.seq (.ops [⟨some 4, none, .asg (.c (.int .i64 1))⟩] [4])
      .ret) .skip))
  (.seq (.seq (.ops [⟨some 14, none, .mv (.r 0)⟩,
      ⟨some 15, none, .mv (.r 1)⟩,
      ⟨some 16, none, .bin .lss .no (.r 14) (.r 15)⟩] [0, 1, 16])
    (.cond (.r 16) (.seq (.ops [⟨some 4, none, .asg (.c (.int .i64 (-1)))⟩] [4])
      .ret) .skip))
  (.seq (.seq (.ops [⟨some 17, none, .mv (.r 0)⟩,
      ⟨some 18, none, .mv (.r 1)⟩,
      ⟨some 19, none, .bin .gtr .no (.r 17) (.r 18)⟩] [19])
    (.cond (.r 19) (.seq (.ops [⟨some 4, none, .asg (.c (.int .i64 1))⟩] [4])
      .ret) .skip))
  (.seq (.ops [⟨some 4, none, .asg (.c (.int .i64 0))⟩] [4])
  .ret)))))))),
  [.r 4], none⟩
/-- cmp.Compare[int64] -/
def c_cmp_Compare_int64 : VFun := ⟨2,
  (.seq (.ops [⟨some 4, none, .asg (.c (.int .i64 0))⟩] [0, 1])
  (.seq (.ops [⟨some 7, none, .mv (.r 0)⟩,
    ⟨some 8, none, .call false F.cmp_isNaN_int64 [(.r 7)]⟩,
    ⟨some 5, none, .asg (.r 8)⟩] [0, 1, 5])
  (.seq (.ops [⟨some 9, none, .mv (.r 1)⟩,
    ⟨some 10, none, .call false F.cmp_isNaN_int64 [(.r 9)]⟩,
    ⟨some 6, none, .asg (.r 10)⟩] [0, 1, 5, 6])
  (.seq (.seq (.ops [⟨some 11, none, .mv (.r 5)⟩] [0, 1, 6, 11])
    (.cond (.r 11) (.seq (.seq (.ops [⟨some 12, none, .mv (.r 6)⟩] [12])
        (.cond (.r 12) (.seq (.ops [⟨some 4, none, .asg (.c (.int .i64 0))⟩] [4])
          .ret) .skip))
      (.seq (.ops [⟨some 4, none, .asg (.c (.int .i64 (-1)))⟩] [4])
      .ret)) .skip))
  (.seq (.seq (.ops [⟨some 13, none, .mv (.r 6)⟩] [0, 1, 13])
    (.cond (.r 13) (.seq (.ops [⟨some 4, none, .asg (.c (.int .i64 1))⟩] [4])
      .ret) .skip))
  (.seq (.seq (.ops [⟨some 14, none, .mv (.r 0)⟩,
      ⟨some 15, none, .mv (.r 1)⟩,
      ⟨some 16, none, .bin .lss .no (.r 14) (.r 15)⟩] [0, 1, 16])
    (.cond (.r 16) (.seq (.ops [⟨some 4, none, .asg (.c (.int .i64 (-1)))⟩] [4])
      .ret) .skip))
  (.seq (.seq (.ops [⟨some 17, none, .mv (.r 0)⟩,
      ⟨some 18, none, .mv (.r 1)⟩,
      ⟨some 19, none, .bin .gtr .no (.r 17) (.r 18)⟩] [19])
    (.cond (.r 19) (.seq (.ops [⟨some 4, none, .asg (.c (.int .i64 1))⟩] [4])
      .ret) .skip))
  (.seq (.ops [⟨some 4, none, .asg (.c (.int .i64 0))⟩] [4])
  .ret)))))))),
  [.r 4], none⟩
def c_tattlerref1_May_l0 : VCode := (.seq (.ops [⟨some 7, none, .bin .lss .no (.r 6) (.c (.int .i64 8))⟩] [5, 6, 7])
  (.seq (.cond (.r 7) .skip (.exit 0))
  (.seq (.block 1 (.seq (.ops [⟨some 8, none, .index false 8 1 false (.r 5) (.r 6)⟩,
        ⟨some 4, none, .asg (.r 8)⟩] [4, 5, 6])
      (.seq (.ops [⟨some 9, none, .mv (.r 4)⟩,
        ⟨some 10, none, .bin .lss .no (.r 9) (.c (.int .i64 0))⟩,
        ⟨some 11, none, .mv (.r 10)⟩,
        ⟨some 12, some (11, false), .mv (.r 4)⟩,
        ⟨some 13, some (11, false), .bin .gtr .no (.r 12) (.c (.int .i64 1099511627776))⟩,
        ⟨some 14, none, .pick (.r 11) (.c (.bool true)) (.r 13)⟩] [5, 6, 14])
      (.cond (.r 14) (.seq (.ops [⟨some 2, none, .asg (.c (.bool false))⟩] [2])
        .ret) .skip))))
  (.ops [⟨some 15, none, .bin .add .no (.r 6) (.c (.int .i64 1))⟩,
  ⟨some 6, none, .mv (.r 15)⟩] [5, 6]))))
/-- tattler/tattlerref1.May -/
def c_tattlerref1_May : VFun := ⟨1,
  (.seq (.ops [⟨some 1, none, .box 8 (.r 0)⟩,
    ⟨some 2, none, .asg (.c (.bool false))⟩] [1])
  (.seq (.seq (.ops [⟨some 5, none, .load true 8 (.r 1)⟩,
      ⟨some 6, none, .mv (.c (.int .i64 0))⟩] [5, 6])
    (.block 0 (.loop [5, 6] [] c_tattlerref1_May_l0)))
  (.seq (.ops [⟨some 2, none, .asg (.c (.bool true))⟩] [2])
  .ret))),
  [.r 2], none⟩
/-- tattler/tattlerref1.Less -/
def c_tattlerref1_Less : VFun := ⟨2,
  (.seq (.ops [⟨some 2, none, .box 2 (.r 0)⟩,
    ⟨some 3, none, .box 2 (.r 1)⟩,
    ⟨some 4, none, .asg (.c (.bool false))⟩] [2, 3])
  (.seq (.ops [⟨some 5, none, .faddr 0 (.r 2)⟩,
    ⟨some 6, none, .load false 1 (.r 5)⟩,
    ⟨some 7, none, .faddr 0 (.r 3)⟩,
    ⟨some 8, none, .load false 1 (.r 7)⟩,
    ⟨some 9, none, .bin .lss .no (.r 6) (.r 8)⟩,
    ⟨some 10, none, .mv (.r 9)⟩,
    ⟨some 11, some (10, false), .faddr 0 (.r 2)⟩,
    ⟨some 12, some (10, false), .load false 1 (.r 11)⟩,
    ⟨some 13, some (10, false), .faddr 0 (.r 3)⟩,
    ⟨some 14, some (10, false), .load false 1 (.r 13)⟩,
    ⟨some 15, some (10, false), .bin .eql .no (.r 12) (.r 14)⟩,
    ⟨some 16, some (10, false), .mv (.r 15)⟩,
    ⟨some 17, some (16, true), .faddr 1 (.r 2)⟩,
    ⟨some 18, some (16, true), .load false 1 (.r 17)⟩,
    ⟨some 19, some (16, true), .faddr 1 (.r 3)⟩,
    ⟨some 20, some (16, true), .load false 1 (.r 19)⟩,
    ⟨some 21, some (16, true), .bin .lss .no (.r 18) (.r 20)⟩,
    ⟨some 22, some (10, false), .pick (.r 16) (.r 21) (.c (.bool false))⟩,
    ⟨some 23, none, .pick (.r 10) (.c (.bool true)) (.r 22)⟩,
    ⟨some 4, none, .asg (.r 23)⟩] [4])
  .ret)),
  [.r 4], none⟩
/-- (*tattler/wire.Writer).Flag -/
def c_wire_Writer_Flag : VFun := ⟨2,
  (.seq (.ops [⟨some 4, none, .mv (.r 1)⟩] [0, 4])
  (.cond (.r 4) (.ops [⟨some 5, none, .mv (.r 0)⟩,
    ⟨some 6, none, .bslice (.int .u8 0) 1 1 [(0, (.c (.int .u8 1)))]⟩,
    ⟨some 7, none, .call false F.wire_Writer_put [(.r 5), (.r 6)]⟩] []) (.ops [⟨some 8, none, .mv (.r 0)⟩,
    ⟨some 9, none, .bslice (.int .u8 0) 1 1 [(0, (.c (.int .u8 0)))]⟩,
    ⟨some 10, none, .call false F.wire_Writer_put [(.r 8), (.r 9)]⟩] []))),
  [], none⟩
/-- cmp.isNaN[int] -/
def c_cmp_isNaN_int : VFun := ⟨1,
  (.seq (.ops [⟨some 2, none, .asg (.c (.bool false))⟩] [0])
  (.seq (.ops [⟨some 3, none, .mv (.r 0)⟩,
    ⟨some 4, none, .mv (.r 0)⟩,
    ⟨some 5, none, .bin .neq .no (.r 3) (.r 4)⟩,
    ⟨some 2, none, .asg (.r 5)⟩] [2])
  .ret)),
  [.r 2], none⟩
/-- cmp.isNaN[int64] -/
def c_cmp_isNaN_int64 : VFun := ⟨1,
  (.seq (.ops [⟨some 2, none, .asg (.c (.bool false))⟩] [0])
  (.seq (.ops [⟨some 3, none, .mv (.r 0)⟩,
    ⟨some 4, none, .mv (.r 0)⟩,
    ⟨some 5, none, .bin .neq .no (.r 3) (.r 4)⟩,
    ⟨some 2, none, .asg (.r 5)⟩] [2])
  .ret)),
  [.r 2], none⟩
def R : Nat → Option Nat := fun f => cnd (decide (f = F.wire_num)) (some 1) (none)
theorem ok_tattlerlaw13_DigestPart : FunOk Try.prog R F.tattlerlaw13_DigestPart c_tattlerlaw13_DigestPart := funOk_of Try.func7 rfl (by kernel_rfl) (by kernel_rfl) (by kernel_rfl) (by kernel_rfl) (linC_of (by kernel_rfl)) (by kernel_rfl) (of_decide_eq_true (by kernel_rfl)) (by kernel_rfl)
theorem ok_tattlerlaw13_DigestGrows : FunOk Try.prog R F.tattlerlaw13_DigestGrows c_tattlerlaw13_DigestGrows := funOk_of Try.func8 rfl (by kernel_rfl) (by kernel_rfl) (by kernel_rfl) (by kernel_rfl) (linC_of (by kernel_rfl)) (by kernel_rfl) (of_decide_eq_true (by kernel_rfl)) (by kernel_rfl)
theorem ok_tattlerlaw13_DigestBelow : FunOk Try.prog R F.tattlerlaw13_DigestBelow c_tattlerlaw13_DigestBelow := funOk_of Try.func9 rfl (by kernel_rfl) (by kernel_rfl) (by kernel_rfl) (by kernel_rfl) (linC_of (by kernel_rfl)) (by kernel_rfl) (of_decide_eq_true (by kernel_rfl)) (by kernel_rfl)
theorem ok_tattlerlaw13_DigestOrder : FunOk Try.prog R F.tattlerlaw13_DigestOrder c_tattlerlaw13_DigestOrder := funOk_of Try.func10 rfl (by kernel_rfl) (by kernel_rfl) (by kernel_rfl) (by kernel_rfl) (linC_of (by kernel_rfl)) (by kernel_rfl) (of_decide_eq_true (by kernel_rfl)) (by kernel_rfl)
theorem ok_tattlerlaw13_DigestBack : FunOk Try.prog R F.tattlerlaw13_DigestBack c_tattlerlaw13_DigestBack := funOk_of Try.func11 rfl (by kernel_rfl) (by kernel_rfl) (by kernel_rfl) (by kernel_rfl) (linC_of (by kernel_rfl)) (by kernel_rfl) (of_decide_eq_true (by kernel_rfl)) (by kernel_rfl)
theorem ok_tattlerlaw13_light : FunOk Try.prog R F.tattlerlaw13_light c_tattlerlaw13_light := funOk_of Try.func20 rfl (by kernel_rfl) (by kernel_rfl) (by kernel_rfl) (by kernel_rfl) (linC_of (by kernel_rfl)) (by kernel_rfl) (of_decide_eq_true (by kernel_rfl)) (by kernel_rfl)
theorem ok_tattlerlaw13_thin : FunOk Try.prog R F.tattlerlaw13_thin c_tattlerlaw13_thin := funOk_of Try.func21 rfl (by kernel_rfl) (by kernel_rfl) (by kernel_rfl) (by kernel_rfl) (linC_of (by kernel_rfl)) (by kernel_rfl) (of_decide_eq_true (by kernel_rfl)) (by kernel_rfl)
theorem ok_tattlerlaw13_awake : FunOk Try.prog R F.tattlerlaw13_awake c_tattlerlaw13_awake := funOk_of Try.func22 rfl (by kernel_rfl) (by kernel_rfl) (by kernel_rfl) (by kernel_rfl) (linC_of (by kernel_rfl)) (by kernel_rfl) (of_decide_eq_true (by kernel_rfl)) (by kernel_rfl)
theorem ok_digest_Send : FunOk Try.prog R F.digest_Send c_digest_Send := funOk_of Try.func23 rfl (by kernel_rfl) (by kernel_rfl) (by kernel_rfl) (by kernel_rfl) (linC_of (by kernel_rfl)) (by kernel_rfl) (of_decide_eq_true (by kernel_rfl)) (by kernel_rfl)
theorem ok_tattlerref5_SameEntries : FunOk Try.prog R F.tattlerref5_SameEntries c_tattlerref5_SameEntries := funOk_of Try.func24 rfl (by kernel_rfl) (by kernel_rfl) (by kernel_rfl) (by kernel_rfl) (linC_of (by kernel_rfl)) (by kernel_rfl) (of_decide_eq_true (by kernel_rfl)) (by kernel_rfl)
theorem ok_digest_Size : FunOk Try.prog R F.digest_Size c_digest_Size := funOk_of Try.func25 rfl (by kernel_rfl) (by kernel_rfl) (by kernel_rfl) (by kernel_rfl) (linC_of (by kernel_rfl)) (by kernel_rfl) (of_decide_eq_true (by kernel_rfl)) (by kernel_rfl)
theorem ok_tattlerlaw13_may : FunOk Try.prog R F.tattlerlaw13_may c_tattlerlaw13_may := funOk_of Try.func26 rfl (by kernel_rfl) (by kernel_rfl) (by kernel_rfl) (by kernel_rfl) (linC_of (by kernel_rfl)) (by kernel_rfl) (of_decide_eq_true (by kernel_rfl)) (by kernel_rfl)
theorem ok_tattlerref5_Table_Join : FunOk Try.prog R F.tattlerref5_Table_Join c_tattlerref5_Table_Join := funOk_of Try.func27 rfl (by kernel_rfl) (by kernel_rfl) (by kernel_rfl) (by kernel_rfl) (linC_of (by kernel_rfl)) (by kernel_rfl) (of_decide_eq_true (by kernel_rfl)) (by kernel_rfl)
theorem ok_tattlerref5_Table_Get : FunOk Try.prog R F.tattlerref5_Table_Get c_tattlerref5_Table_Get := funOk_of Try.func28 rfl (by kernel_rfl) (by kernel_rfl) (by kernel_rfl) (by kernel_rfl) (linC_of (by kernel_rfl)) (by kernel_rfl) (of_decide_eq_true (by kernel_rfl)) (by kernel_rfl)
theorem ok_tattlerlaw13_agree : FunOk Try.prog R F.tattlerlaw13_agree c_tattlerlaw13_agree := funOk_of Try.func29 rfl (by kernel_rfl) (by kernel_rfl) (by kernel_rfl) (by kernel_rfl) (linC_of (by kernel_rfl)) (by kernel_rfl) (of_decide_eq_true (by kernel_rfl)) (by kernel_rfl)
theorem ok_digest_Of : FunOk Try.prog R F.digest_Of c_digest_Of := funOk_of Try.func30 rfl (by kernel_rfl) (by kernel_rfl) (by kernel_rfl) (by kernel_rfl) (linC_of (by kernel_rfl)) (by kernel_rfl) (of_decide_eq_true (by kernel_rfl)) (by kernel_rfl)
theorem ok_sibs_Same : FunOk Try.prog R F.sibs_Same c_sibs_Same := funOk_of Try.func31 rfl (by kernel_rfl) (by kernel_rfl) (by kernel_rfl) (by kernel_rfl) (linC_of (by kernel_rfl)) (by kernel_rfl) (of_decide_eq_true (by kernel_rfl)) (by kernel_rfl)
theorem ok_digest_Lacks : FunOk Try.prog R F.digest_Lacks c_digest_Lacks := funOk_of Try.func32 rfl (by kernel_rfl) (by kernel_rfl) (by kernel_rfl) (by kernel_rfl) (linC_of (by kernel_rfl)) (by kernel_rfl) (of_decide_eq_true (by kernel_rfl)) (by kernel_rfl)
theorem ok_wire_NewWriter : FunOk Try.prog R F.wire_NewWriter c_wire_NewWriter := funOk_of Try.func33 rfl (by kernel_rfl) (by kernel_rfl) (by kernel_rfl) (by kernel_rfl) (linC_of (by kernel_rfl)) (by kernel_rfl) (of_decide_eq_true (by kernel_rfl)) (by kernel_rfl)
theorem ok_digest_Write : FunOk Try.prog R F.digest_Write c_digest_Write := funOk_of Try.func34 rfl (by kernel_rfl) (by kernel_rfl) (by kernel_rfl) (by kernel_rfl) (linC_of (by kernel_rfl)) (by kernel_rfl) (of_decide_eq_true (by kernel_rfl)) (by kernel_rfl)
theorem ok_wire_Writer_Done : FunOk Try.prog R F.wire_Writer_Done c_wire_Writer_Done := funOk_of Try.func35 rfl (by kernel_rfl) (by kernel_rfl) (by kernel_rfl) (by kernel_rfl) (linC_of (by kernel_rfl)) (by kernel_rfl) (of_decide_eq_true (by kernel_rfl)) (by kernel_rfl)
theorem ok_wire_NewReader : FunOk Try.prog R F.wire_NewReader c_wire_NewReader := funOk_of Try.func36 rfl (by kernel_rfl) (by kernel_rfl) (by kernel_rfl) (by kernel_rfl) (linC_of (by kernel_rfl)) (by kernel_rfl) (of_decide_eq_true (by kernel_rfl)) (by kernel_rfl)
theorem ok_digest_Read : FunOk Try.prog R F.digest_Read c_digest_Read := funOk_of Try.func37 rfl (by kernel_rfl) (by kernel_rfl) (by kernel_rfl) (by kernel_rfl) (linC_of (by kernel_rfl)) (by kernel_rfl) (of_decide_eq_true (by kernel_rfl)) (by kernel_rfl)
theorem ok_digest_May : FunOk Try.prog R F.digest_May c_digest_May := funOk_of Try.func38 rfl (by kernel_rfl) (by kernel_rfl) (by kernel_rfl) (by kernel_rfl) (linC_of (by kernel_rfl)) (by kernel_rfl) (of_decide_eq_true (by kernel_rfl)) (by kernel_rfl)
theorem ok_tattlerref5_SameDigests : FunOk Try.prog R F.tattlerref5_SameDigests c_tattlerref5_SameDigests := funOk_of Try.func39 rfl (by kernel_rfl) (by kernel_rfl) (by kernel_rfl) (by kernel_rfl) (linC_of (by kernel_rfl)) (by kernel_rfl) (of_decide_eq_true (by kernel_rfl)) (by kernel_rfl)
theorem ok_wire_Reader_End : FunOk Try.prog R F.wire_Reader_End c_wire_Reader_End := funOk_of Try.func40 rfl (by kernel_rfl) (by kernel_rfl) (by kernel_rfl) (by kernel_rfl) (linC_of (by kernel_rfl)) (by kernel_rfl) (of_decide_eq_true (by kernel_rfl)) (by kernel_rfl)
theorem ok_tattlerref5_MayEntry : FunOk Try.prog R F.tattlerref5_MayEntry c_tattlerref5_MayEntry := funOk_of Try.func41 rfl (by kernel_rfl) (by kernel_rfl) (by kernel_rfl) (by kernel_rfl) (linC_of (by kernel_rfl)) (by kernel_rfl) (of_decide_eq_true (by kernel_rfl)) (by kernel_rfl)
theorem ok_digest_lacked : FunOk Try.prog R F.digest_lacked c_digest_lacked := funOk_of Try.func43 rfl (by kernel_rfl) (by kernel_rfl) (by kernel_rfl) (by kernel_rfl) (linC_of (by kernel_rfl)) (by kernel_rfl) (of_decide_eq_true (by kernel_rfl)) (by kernel_rfl)
theorem ok_digest_copied : FunOk Try.prog R F.digest_copied c_digest_copied := funOk_of Try.func44 rfl (by kernel_rfl) (by kernel_rfl) (by kernel_rfl) (by kernel_rfl) (linC_of (by kernel_rfl)) (by kernel_rfl) (of_decide_eq_true (by kernel_rfl)) (by kernel_rfl)
theorem ok_tattlerref5_Same : FunOk Try.prog R F.tattlerref5_Same c_tattlerref5_Same := funOk_of Try.func45 rfl (by kernel_rfl) (by kernel_rfl) (by kernel_rfl) (by kernel_rfl) (linC_of (by kernel_rfl)) (by kernel_rfl) (of_decide_eq_true (by kernel_rfl)) (by kernel_rfl)
theorem ok_sibs_WriteEntry : FunOk Try.prog R F.sibs_WriteEntry c_sibs_WriteEntry := funOk_of Try.func46 rfl (by kernel_rfl) (by kernel_rfl) (by kernel_rfl) (by kernel_rfl) (linC_of (by kernel_rfl)) (by kernel_rfl) (of_decide_eq_true (by kernel_rfl)) (by kernel_rfl)
theorem ok_tattlerref5_Table_At : FunOk Try.prog R F.tattlerref5_Table_At c_tattlerref5_Table_At := funOk_of Try.func47 rfl (by kernel_rfl) (by kernel_rfl) (by kernel_rfl) (by kernel_rfl) (linC_of (by kernel_rfl)) (by kernel_rfl) (of_decide_eq_true (by kernel_rfl)) (by kernel_rfl)
theorem ok_tattlerref5_Join : FunOk Try.prog R F.tattlerref5_Join c_tattlerref5_Join := funOk_of Try.func48 rfl (by kernel_rfl) (by kernel_rfl) (by kernel_rfl) (by kernel_rfl) (linC_of (by kernel_rfl)) (by kernel_rfl) (of_decide_eq_true (by kernel_rfl)) (by kernel_rfl)
theorem ok_digest_dots : FunOk Try.prog R F.digest_dots c_digest_dots := funOk_of Try.func49 rfl (by kernel_rfl) (by kernel_rfl) (by kernel_rfl) (by kernel_rfl) (linC_of (by kernel_rfl)) (by kernel_rfl) (of_decide_eq_true (by kernel_rfl)) (by kernel_rfl)
theorem ok_slices_EqualFunc_api_Value_api_Value_api_Value_api_Value : FunOk Try.prog R F.slices_EqualFunc_api_Value_api_Value_api_Value_api_Value c_slices_EqualFunc_api_Value_api_Value_api_Value_api_Value := funOk_of Try.func50 rfl (by kernel_rfl) (by kernel_rfl) (by kernel_rfl) (by kernel_rfl) (linC_of (by kernel_rfl)) (by kernel_rfl) (of_decide_eq_true (by kernel_rfl)) (by kernel_rfl)
theorem ok_sibs_Same_c1 : FunOk Try.prog R F.sibs_Same_c1 c_sibs_Same_c1 := funOk_of Try.func51 rfl (by kernel_rfl) (by kernel_rfl) (by kernel_rfl) (by kernel_rfl) (linC_of (by kernel_rfl)) (by kernel_rfl) (of_decide_eq_true (by kernel_rfl)) (by kernel_rfl)
theorem ok_bytes_Equal : FunOk Try.prog R F.bytes_Equal c_bytes_Equal := funOk_of Try.func52 rfl (by kernel_rfl) (by kernel_rfl) (by kernel_rfl) (by kernel_rfl) (linC_of (by kernel_rfl)) (by kernel_rfl) (of_decide_eq_true (by kernel_rfl)) (by kernel_rfl)
theorem ok_vector_Leq : FunOk Try.prog R F.vector_Leq c_vector_Leq := funOk_of Try.func53 rfl (by kernel_rfl) (by kernel_rfl) (by kernel_rfl) (by kernel_rfl) (linC_of (by kernel_rfl)) (by kernel_rfl) (of_decide_eq_true (by kernel_rfl)) (by kernel_rfl)
theorem ok_slices_ContainsFunc_api_Dot_api_Dot : FunOk Try.prog R F.slices_ContainsFunc_api_Dot_api_Dot c_slices_ContainsFunc_api_Dot_api_Dot := funOk_of Try.func54 rfl (by kernel_rfl) (by kernel_rfl) (by kernel_rfl) (by kernel_rfl) (linC_of (by kernel_rfl)) (by kernel_rfl) (of_decide_eq_true (by kernel_rfl)) (by kernel_rfl)
theorem ok_digest_Lacks_c1 : FunOk Try.prog R F.digest_Lacks_c1 c_digest_Lacks_c1 := funOk_of Try.func55 rfl (by kernel_rfl) (by kernel_rfl) (by kernel_rfl) (by kernel_rfl) (linC_of (by kernel_rfl)) (by kernel_rfl) (of_decide_eq_true (by kernel_rfl)) (by kernel_rfl)
theorem ok_vector_Covers : FunOk Try.prog R F.vector_Covers c_vector_Covers := funOk_of Try.func56 rfl (by kernel_rfl) (by kernel_rfl) (by kernel_rfl) (by kernel_rfl) (linC_of (by kernel_rfl)) (by kernel_rfl) (of_decide_eq_true (by kernel_rfl)) (by kernel_rfl)
theorem ok_slices_Contains_api_Dot_api_Dot : FunOk Try.prog R F.slices_Contains_api_Dot_api_Dot c_slices_Contains_api_Dot_api_Dot := funOk_of Try.func57 rfl (by kernel_rfl) (by kernel_rfl) (by kernel_rfl) (by kernel_rfl) (linC_of (by kernel_rfl)) (by kernel_rfl) (of_decide_eq_true (by kernel_rfl)) (by kernel_rfl)
theorem ok_wire_Writer_Text : FunOk Try.prog R F.wire_Writer_Text c_wire_Writer_Text := funOk_of Try.func58 rfl (by kernel_rfl) (by kernel_rfl) (by kernel_rfl) (by kernel_rfl) (linC_of (by kernel_rfl)) (by kernel_rfl) (of_decide_eq_true (by kernel_rfl)) (by kernel_rfl)
theorem ok_vector_Write : FunOk Try.prog R F.vector_Write c_vector_Write := funOk_of Try.func59 rfl (by kernel_rfl) (by kernel_rfl) (by kernel_rfl) (by kernel_rfl) (linC_of (by kernel_rfl)) (by kernel_rfl) (of_decide_eq_true (by kernel_rfl)) (by kernel_rfl)
theorem ok_wire_Writer_Num : FunOk Try.prog R F.wire_Writer_Num c_wire_Writer_Num := funOk_of Try.func60 rfl (by kernel_rfl) (by kernel_rfl) (by kernel_rfl) (by kernel_rfl) (linC_of (by kernel_rfl)) (by kernel_rfl) (of_decide_eq_true (by kernel_rfl)) (by kernel_rfl)
theorem ok_wire_Writer_Int : FunOk Try.prog R F.wire_Writer_Int c_wire_Writer_Int := funOk_of Try.func61 rfl (by kernel_rfl) (by kernel_rfl) (by kernel_rfl) (by kernel_rfl) (linC_of (by kernel_rfl)) (by kernel_rfl) (of_decide_eq_true (by kernel_rfl)) (by kernel_rfl)
theorem ok_slices_Clone_byte_byte : FunOk Try.prog R F.slices_Clone_byte_byte c_slices_Clone_byte_byte := funOk_of Try.func62 rfl (by kernel_rfl) (by kernel_rfl) (by kernel_rfl) (by kernel_rfl) (linC_of (by kernel_rfl)) (by kernel_rfl) (of_decide_eq_true (by kernel_rfl)) (by kernel_rfl)
theorem ok_wire_Reader_Text : FunOk Try.prog R F.wire_Reader_Text c_wire_Reader_Text := funOk_of Try.func63 rfl (by kernel_rfl) (by kernel_rfl) (by kernel_rfl) (by kernel_rfl) (linC_of (by kernel_rfl)) (by kernel_rfl) (of_decide_eq_true (by kernel_rfl)) (by kernel_rfl)
theorem ok_vector_Read : FunOk Try.prog R F.vector_Read c_vector_Read := funOk_of Try.func64 rfl (by kernel_rfl) (by kernel_rfl) (by kernel_rfl) (by kernel_rfl) (linC_of (by kernel_rfl)) (by kernel_rfl) (of_decide_eq_true (by kernel_rfl)) (by kernel_rfl)
theorem ok_wire_Reader_Count : FunOk Try.prog R F.wire_Reader_Count c_wire_Reader_Count := funOk_of Try.func65 rfl (by kernel_rfl) (by kernel_rfl) (by kernel_rfl) (by kernel_rfl) (linC_of (by kernel_rfl)) (by kernel_rfl) (of_decide_eq_true (by kernel_rfl)) (by kernel_rfl)
theorem ok_wire_Reader_Num : FunOk Try.prog R F.wire_Reader_Num c_wire_Reader_Num := funOk_of Try.func66 rfl (by kernel_rfl) (by kernel_rfl) (by kernel_rfl) (by kernel_rfl) (linC_of (by kernel_rfl)) (by kernel_rfl) (of_decide_eq_true (by kernel_rfl)) (by kernel_rfl)
theorem ok_wire_Reader_Int : FunOk Try.prog R F.wire_Reader_Int c_wire_Reader_Int := funOk_of Try.func67 rfl (by kernel_rfl) (by kernel_rfl) (by kernel_rfl) (by kernel_rfl) (linC_of (by kernel_rfl)) (by kernel_rfl) (of_decide_eq_true (by kernel_rfl)) (by kernel_rfl)
theorem ok_wire_Reader_Left : FunOk Try.prog R F.wire_Reader_Left c_wire_Reader_Left := funOk_of Try.func68 rfl (by kernel_rfl) (by kernel_rfl) (by kernel_rfl) (by kernel_rfl) (linC_of (by kernel_rfl)) (by kernel_rfl) (of_decide_eq_true (by kernel_rfl)) (by kernel_rfl)
theorem ok_keys_May : FunOk Try.prog R F.keys_May c_keys_May := funOk_of Try.func69 rfl (by kernel_rfl) (by kernel_rfl) (by kernel_rfl) (by kernel_rfl) (linC_of (by kernel_rfl)) (by kernel_rfl) (of_decide_eq_true (by kernel_rfl)) (by kernel_rfl)
theorem ok_vector_May : FunOk Try.prog R F.vector_May c_vector_May := funOk_of Try.func70 rfl (by kernel_rfl) (by kernel_rfl) (by kernel_rfl) (by kernel_rfl) (linC_of (by kernel_rfl)) (by kernel_rfl) (of_decide_eq_true (by kernel_rfl)) (by kernel_rfl)
theorem ok_vector_Less : FunOk Try.prog R F.vector_Less c_vector_Less := funOk_of Try.func71 rfl (by kernel_rfl) (by kernel_rfl) (by kernel_rfl) (by kernel_rfl) (linC_of (by kernel_rfl)) (by kernel_rfl) (of_decide_eq_true (by kernel_rfl)) (by kernel_rfl)
theorem ok_tattlerref5_SameDots : FunOk Try.prog R F.tattlerref5_SameDots c_tattlerref5_SameDots := funOk_of Try.func72 rfl (by kernel_rfl) (by kernel_rfl) (by kernel_rfl) (by kernel_rfl) (linC_of (by kernel_rfl)) (by kernel_rfl) (of_decide_eq_true (by kernel_rfl)) (by kernel_rfl)
theorem ok_tattlerref5_MayKey : FunOk Try.prog R F.tattlerref5_MayKey c_tattlerref5_MayKey := funOk_of Try.func73 rfl (by kernel_rfl) (by kernel_rfl) (by kernel_rfl) (by kernel_rfl) (linC_of (by kernel_rfl)) (by kernel_rfl) (of_decide_eq_true (by kernel_rfl)) (by kernel_rfl)
theorem ok_tattlerref5_May : FunOk Try.prog R F.tattlerref5_May c_tattlerref5_May := funOk_of Try.func74 rfl (by kernel_rfl) (by kernel_rfl) (by kernel_rfl) (by kernel_rfl) (linC_of (by kernel_rfl)) (by kernel_rfl) (of_decide_eq_true (by kernel_rfl)) (by kernel_rfl)
theorem ok_vector_Join : FunOk Try.prog R F.vector_Join c_vector_Join := funOk_of Try.func80 rfl (by kernel_rfl) (by kernel_rfl) (by kernel_rfl) (by kernel_rfl) (linC_of (by kernel_rfl)) (by kernel_rfl) (of_decide_eq_true (by kernel_rfl)) (by kernel_rfl)
theorem ok_slices_IndexFunc_api_Digest_api_Digest : FunOk Try.prog R F.slices_IndexFunc_api_Digest_api_Digest c_slices_IndexFunc_api_Digest_api_Digest := funOk_of Try.func81 rfl (by kernel_rfl) (by kernel_rfl) (by kernel_rfl) (by kernel_rfl) (linC_of (by kernel_rfl)) (by kernel_rfl) (of_decide_eq_true (by kernel_rfl)) (by kernel_rfl)
theorem ok_digest_lacked_c1 : FunOk Try.prog R F.digest_lacked_c1 c_digest_lacked_c1 := funOk_of Try.func82 rfl (by kernel_rfl) (by kernel_rfl) (by kernel_rfl) (by kernel_rfl) (linC_of (by kernel_rfl)) (by kernel_rfl) (of_decide_eq_true (by kernel_rfl)) (by kernel_rfl)
theorem ok_sibs_Write : FunOk Try.prog R F.sibs_Write c_sibs_Write := funOk_of Try.func83 rfl (by kernel_rfl) (by kernel_rfl) (by kernel_rfl) (by kernel_rfl) (linC_of (by kernel_rfl)) (by kernel_rfl) (of_decide_eq_true (by kernel_rfl)) (by kernel_rfl)
theorem ok_tattlerref1_Join : FunOk Try.prog R F.tattlerref1_Join c_tattlerref1_Join := funOk_of Try.func84 rfl (by kernel_rfl) (by kernel_rfl) (by kernel_rfl) (by kernel_rfl) (linC_of (by kernel_rfl)) (by kernel_rfl) (of_decide_eq_true (by kernel_rfl)) (by kernel_rfl)
theorem ok_tattlerref5_find : FunOk Try.prog R F.tattlerref5_find c_tattlerref5_find := funOk_of Try.func85 rfl (by kernel_rfl) (by kernel_rfl) (by kernel_rfl) (by kernel_rfl) (linC_of (by kernel_rfl)) (by kernel_rfl) (of_decide_eq_true (by kernel_rfl)) (by kernel_rfl)
theorem ok_tattlerref5_insert : FunOk Try.prog R F.tattlerref5_insert c_tattlerref5_insert := funOk_of Try.func86 rfl (by kernel_rfl) (by kernel_rfl) (by kernel_rfl) (by kernel_rfl) (linC_of (by kernel_rfl)) (by kernel_rfl) (of_decide_eq_true (by kernel_rfl)) (by kernel_rfl)
theorem ok_tattlerref5_copied : FunOk Try.prog R F.tattlerref5_copied c_tattlerref5_copied := funOk_of Try.func87 rfl (by kernel_rfl) (by kernel_rfl) (by kernel_rfl) (by kernel_rfl) (linC_of (by kernel_rfl)) (by kernel_rfl) (of_decide_eq_true (by kernel_rfl)) (by kernel_rfl)
theorem ok_tattlerref5_first : FunOk Try.prog R F.tattlerref5_first c_tattlerref5_first := funOk_of Try.func88 rfl (by kernel_rfl) (by kernel_rfl) (by kernel_rfl) (by kernel_rfl) (linC_of (by kernel_rfl)) (by kernel_rfl) (of_decide_eq_true (by kernel_rfl)) (by kernel_rfl)
theorem ok_tattlerref1_Covers : FunOk Try.prog R F.tattlerref1_Covers c_tattlerref1_Covers := funOk_of Try.func89 rfl (by kernel_rfl) (by kernel_rfl) (by kernel_rfl) (by kernel_rfl) (linC_of (by kernel_rfl)) (by kernel_rfl) (of_decide_eq_true (by kernel_rfl)) (by kernel_rfl)
theorem ok_slices_IndexFunc_api_Dot_api_Dot : FunOk Try.prog R F.slices_IndexFunc_api_Dot_api_Dot c_slices_IndexFunc_api_Dot_api_Dot := funOk_of Try.func90 rfl (by kernel_rfl) (by kernel_rfl) (by kernel_rfl) (by kernel_rfl) (linC_of (by kernel_rfl)) (by kernel_rfl) (of_decide_eq_true (by kernel_rfl)) (by kernel_rfl)
theorem ok_vector_is : FunOk Try.prog R F.vector_is c_vector_is := funOk_of Try.func91 rfl (by kernel_rfl) (by kernel_rfl) (by kernel_rfl) (by kernel_rfl) (linC_of (by kernel_rfl)) (by kernel_rfl) (of_decide_eq_true (by kernel_rfl)) (by kernel_rfl)
theorem ok_slices_Index_api_Dot_api_Dot : FunOk Try.prog R F.slices_Index_api_Dot_api_Dot c_slices_Index_api_Dot_api_Dot := funOk_of Try.func92 rfl (by kernel_rfl) (by kernel_rfl) (by kernel_rfl) (by kernel_rfl) (linC_of (by kernel_rfl)) (by kernel_rfl) (of_decide_eq_true (by kernel_rfl)) (by kernel_rfl)
theorem ok_wire_Writer_put : FunOk Try.prog R F.wire_Writer_put c_wire_Writer_put := funOk_of Try.func93 rfl (by kernel_rfl) (by kernel_rfl) (by kernel_rfl) (by kernel_rfl) (linC_of (by kernel_rfl)) (by kernel_rfl) (of_decide_eq_true (by kernel_rfl)) (by kernel_rfl)
theorem ok_wire_num : FunOk Try.prog R F.wire_num c_wire_num := funOk_of Try.func94 rfl (by kernel_rfl) (by kernel_rfl) (by kernel_rfl) (by kernel_rfl) (linC_of (by kernel_rfl)) (by kernel_rfl) (of_decide_eq_true (by kernel_rfl)) (by kernel_rfl)
theorem ok_wire_Reader_ok : FunOk Try.prog R F.wire_Reader_ok c_wire_Reader_ok := funOk_of Try.func95 rfl (by kernel_rfl) (by kernel_rfl) (by kernel_rfl) (by kernel_rfl) (linC_of (by kernel_rfl)) (by kernel_rfl) (of_decide_eq_true (by kernel_rfl)) (by kernel_rfl)
theorem ok_wire_Reader_fail : FunOk Try.prog R F.wire_Reader_fail c_wire_Reader_fail := funOk_of Try.func96 rfl (by kernel_rfl) (by kernel_rfl) (by kernel_rfl) (by kernel_rfl) (linC_of (by kernel_rfl)) (by kernel_rfl) (of_decide_eq_true (by kernel_rfl)) (by kernel_rfl)
theorem ok_vector_good : FunOk Try.prog R F.vector_good c_vector_good := funOk_of Try.func97 rfl (by kernel_rfl) (by kernel_rfl) (by kernel_rfl) (by kernel_rfl) (linC_of (by kernel_rfl)) (by kernel_rfl) (of_decide_eq_true (by kernel_rfl)) (by kernel_rfl)
theorem ok_wire_Reader_byte : FunOk Try.prog R F.wire_Reader_byte c_wire_Reader_byte := funOk_of Try.func98 rfl (by kernel_rfl) (by kernel_rfl) (by kernel_rfl) (by kernel_rfl) (linC_of (by kernel_rfl)) (by kernel_rfl) (of_decide_eq_true (by kernel_rfl)) (by kernel_rfl)
theorem ok_cmp_Or_int : FunOk Try.prog R F.cmp_Or_int c_cmp_Or_int := funOk_of Try.func99 rfl (by kernel_rfl) (by kernel_rfl) (by kernel_rfl) (by kernel_rfl) (linC_of (by kernel_rfl)) (by kernel_rfl) (of_decide_eq_true (by kernel_rfl)) (by kernel_rfl)
theorem ok_cmp_Compare_int : FunOk Try.prog R F.cmp_Compare_int c_cmp_Compare_int := funOk_of Try.func100 rfl (by kernel_rfl) (by kernel_rfl) (by kernel_rfl) (by kernel_rfl) (linC_of (by kernel_rfl)) (by kernel_rfl) (of_decide_eq_true (by kernel_rfl)) (by kernel_rfl)
theorem ok_cmp_Compare_int64 : FunOk Try.prog R F.cmp_Compare_int64 c_cmp_Compare_int64 := funOk_of Try.func101 rfl (by kernel_rfl) (by kernel_rfl) (by kernel_rfl) (by kernel_rfl) (linC_of (by kernel_rfl)) (by kernel_rfl) (of_decide_eq_true (by kernel_rfl)) (by kernel_rfl)
theorem ok_tattlerref1_May : FunOk Try.prog R F.tattlerref1_May c_tattlerref1_May := funOk_of Try.func102 rfl (by kernel_rfl) (by kernel_rfl) (by kernel_rfl) (by kernel_rfl) (linC_of (by kernel_rfl)) (by kernel_rfl) (of_decide_eq_true (by kernel_rfl)) (by kernel_rfl)
theorem ok_tattlerref1_Less : FunOk Try.prog R F.tattlerref1_Less c_tattlerref1_Less := funOk_of Try.func103 rfl (by kernel_rfl) (by kernel_rfl) (by kernel_rfl) (by kernel_rfl) (linC_of (by kernel_rfl)) (by kernel_rfl) (of_decide_eq_true (by kernel_rfl)) (by kernel_rfl)
theorem ok_wire_Writer_Flag : FunOk Try.prog R F.wire_Writer_Flag c_wire_Writer_Flag := funOk_of Try.func108 rfl (by kernel_rfl) (by kernel_rfl) (by kernel_rfl) (by kernel_rfl) (linC_of (by kernel_rfl)) (by kernel_rfl) (of_decide_eq_true (by kernel_rfl)) (by kernel_rfl)
theorem ok_cmp_isNaN_int : FunOk Try.prog R F.cmp_isNaN_int c_cmp_isNaN_int := funOk_of Try.func109 rfl (by kernel_rfl) (by kernel_rfl) (by kernel_rfl) (by kernel_rfl) (linC_of (by kernel_rfl)) (by kernel_rfl) (of_decide_eq_true (by kernel_rfl)) (by kernel_rfl)
theorem ok_cmp_isNaN_int64 : FunOk Try.prog R F.cmp_isNaN_int64 c_cmp_isNaN_int64 := funOk_of Try.func110 rfl (by kernel_rfl) (by kernel_rfl) (by kernel_rfl) (by kernel_rfl) (linC_of (by kernel_rfl)) (by kernel_rfl) (of_decide_eq_true (by kernel_rfl)) (by kernel_rfl)
def tab : List (Nat × VFun) := [(F.tattlerlaw13_DigestPart, c_tattlerlaw13_DigestPart), (F.tattlerlaw13_DigestGrows, c_tattlerlaw13_DigestGrows), (F.tattlerlaw13_DigestBelow, c_tattlerlaw13_DigestBelow), (F.tattlerlaw13_DigestOrder, c_tattlerlaw13_DigestOrder), (F.tattlerlaw13_DigestBack, c_tattlerlaw13_DigestBack), (F.tattlerlaw13_light, c_tattlerlaw13_light), (F.tattlerlaw13_thin, c_tattlerlaw13_thin), (F.tattlerlaw13_awake, c_tattlerlaw13_awake), (F.digest_Send, c_digest_Send), (F.tattlerref5_SameEntries, c_tattlerref5_SameEntries), (F.digest_Size, c_digest_Size), (F.tattlerlaw13_may, c_tattlerlaw13_may), (F.tattlerref5_Table_Join, c_tattlerref5_Table_Join), (F.tattlerref5_Table_Get, c_tattlerref5_Table_Get), (F.tattlerlaw13_agree, c_tattlerlaw13_agree), (F.digest_Of, c_digest_Of), (F.sibs_Same, c_sibs_Same), (F.digest_Lacks, c_digest_Lacks), (F.wire_NewWriter, c_wire_NewWriter), (F.digest_Write, c_digest_Write), (F.wire_Writer_Done, c_wire_Writer_Done), (F.wire_NewReader, c_wire_NewReader), (F.digest_Read, c_digest_Read), (F.digest_May, c_digest_May), (F.tattlerref5_SameDigests, c_tattlerref5_SameDigests), (F.wire_Reader_End, c_wire_Reader_End), (F.tattlerref5_MayEntry, c_tattlerref5_MayEntry), (F.digest_lacked, c_digest_lacked), (F.digest_copied, c_digest_copied), (F.tattlerref5_Same, c_tattlerref5_Same), (F.sibs_WriteEntry, c_sibs_WriteEntry), (F.tattlerref5_Table_At, c_tattlerref5_Table_At), (F.tattlerref5_Join, c_tattlerref5_Join), (F.digest_dots, c_digest_dots), (F.slices_EqualFunc_api_Value_api_Value_api_Value_api_Value, c_slices_EqualFunc_api_Value_api_Value_api_Value_api_Value), (F.sibs_Same_c1, c_sibs_Same_c1), (F.bytes_Equal, c_bytes_Equal), (F.vector_Leq, c_vector_Leq), (F.slices_ContainsFunc_api_Dot_api_Dot, c_slices_ContainsFunc_api_Dot_api_Dot), (F.digest_Lacks_c1, c_digest_Lacks_c1), (F.vector_Covers, c_vector_Covers), (F.slices_Contains_api_Dot_api_Dot, c_slices_Contains_api_Dot_api_Dot), (F.wire_Writer_Text, c_wire_Writer_Text), (F.vector_Write, c_vector_Write), (F.wire_Writer_Num, c_wire_Writer_Num), (F.wire_Writer_Int, c_wire_Writer_Int), (F.slices_Clone_byte_byte, c_slices_Clone_byte_byte), (F.wire_Reader_Text, c_wire_Reader_Text), (F.vector_Read, c_vector_Read), (F.wire_Reader_Count, c_wire_Reader_Count), (F.wire_Reader_Num, c_wire_Reader_Num), (F.wire_Reader_Int, c_wire_Reader_Int), (F.wire_Reader_Left, c_wire_Reader_Left), (F.keys_May, c_keys_May), (F.vector_May, c_vector_May), (F.vector_Less, c_vector_Less), (F.tattlerref5_SameDots, c_tattlerref5_SameDots), (F.tattlerref5_MayKey, c_tattlerref5_MayKey), (F.tattlerref5_May, c_tattlerref5_May), (F.vector_Join, c_vector_Join), (F.slices_IndexFunc_api_Digest_api_Digest, c_slices_IndexFunc_api_Digest_api_Digest), (F.digest_lacked_c1, c_digest_lacked_c1), (F.sibs_Write, c_sibs_Write), (F.tattlerref1_Join, c_tattlerref1_Join), (F.tattlerref5_find, c_tattlerref5_find), (F.tattlerref5_insert, c_tattlerref5_insert), (F.tattlerref5_copied, c_tattlerref5_copied), (F.tattlerref5_first, c_tattlerref5_first), (F.tattlerref1_Covers, c_tattlerref1_Covers), (F.slices_IndexFunc_api_Dot_api_Dot, c_slices_IndexFunc_api_Dot_api_Dot), (F.vector_is, c_vector_is), (F.slices_Index_api_Dot_api_Dot, c_slices_Index_api_Dot_api_Dot), (F.wire_Writer_put, c_wire_Writer_put), (F.wire_num, c_wire_num), (F.wire_Reader_ok, c_wire_Reader_ok), (F.wire_Reader_fail, c_wire_Reader_fail), (F.vector_good, c_vector_good), (F.wire_Reader_byte, c_wire_Reader_byte), (F.cmp_Or_int, c_cmp_Or_int), (F.cmp_Compare_int, c_cmp_Compare_int), (F.cmp_Compare_int64, c_cmp_Compare_int64), (F.tattlerref1_May, c_tattlerref1_May), (F.tattlerref1_Less, c_tattlerref1_Less), (F.wire_Writer_Flag, c_wire_Writer_Flag), (F.cmp_isNaN_int, c_cmp_isNaN_int), (F.cmp_isNaN_int64, c_cmp_isNaN_int64)]
abbrev E : Env := ⟨tabFn tab, fun _ => none⟩
theorem envOk : EnvOk Try.prog R E := env_tab Try.checked.mixed ⟨ok_tattlerlaw13_DigestPart, ok_tattlerlaw13_DigestGrows, ok_tattlerlaw13_DigestBelow, ok_tattlerlaw13_DigestOrder, ok_tattlerlaw13_DigestBack, ok_tattlerlaw13_light, ok_tattlerlaw13_thin, ok_tattlerlaw13_awake, ok_digest_Send, ok_tattlerref5_SameEntries, ok_digest_Size, ok_tattlerlaw13_may, ok_tattlerref5_Table_Join, ok_tattlerref5_Table_Get, ok_tattlerlaw13_agree, ok_digest_Of, ok_sibs_Same, ok_digest_Lacks, ok_wire_NewWriter, ok_digest_Write, ok_wire_Writer_Done, ok_wire_NewReader, ok_digest_Read, ok_digest_May, ok_tattlerref5_SameDigests, ok_wire_Reader_End, ok_tattlerref5_MayEntry, ok_digest_lacked, ok_digest_copied, ok_tattlerref5_Same, ok_sibs_WriteEntry, ok_tattlerref5_Table_At, ok_tattlerref5_Join, ok_digest_dots, ok_slices_EqualFunc_api_Value_api_Value_api_Value_api_Value, ok_sibs_Same_c1, ok_bytes_Equal, ok_vector_Leq, ok_slices_ContainsFunc_api_Dot_api_Dot, ok_digest_Lacks_c1, ok_vector_Covers, ok_slices_Contains_api_Dot_api_Dot, ok_wire_Writer_Text, ok_vector_Write, ok_wire_Writer_Num, ok_wire_Writer_Int, ok_slices_Clone_byte_byte, ok_wire_Reader_Text, ok_vector_Read, ok_wire_Reader_Count, ok_wire_Reader_Num, ok_wire_Reader_Int, ok_wire_Reader_Left, ok_keys_May, ok_vector_May, ok_vector_Less, ok_tattlerref5_SameDots, ok_tattlerref5_MayKey, ok_tattlerref5_May, ok_vector_Join, ok_slices_IndexFunc_api_Digest_api_Digest, ok_digest_lacked_c1, ok_sibs_Write, ok_tattlerref1_Join, ok_tattlerref5_find, ok_tattlerref5_insert, ok_tattlerref5_copied, ok_tattlerref5_first, ok_tattlerref1_Covers, ok_slices_IndexFunc_api_Dot_api_Dot, ok_vector_is, ok_slices_Index_api_Dot_api_Dot, ok_wire_Writer_put, ok_wire_num, ok_wire_Reader_ok, ok_wire_Reader_fail, ok_vector_good, ok_wire_Reader_byte, ok_cmp_Or_int, ok_cmp_Compare_int, ok_cmp_Compare_int64, ok_tattlerref1_May, ok_tattlerref1_Less, ok_wire_Writer_Flag, ok_cmp_isNaN_int, ok_cmp_isNaN_int64, trivial⟩
theorem fn_tattlerlaw13_DigestPart : E.fn F.tattlerlaw13_DigestPart = some c_tattlerlaw13_DigestPart := rfl
theorem fn_tattlerlaw13_DigestGrows : E.fn F.tattlerlaw13_DigestGrows = some c_tattlerlaw13_DigestGrows := rfl
theorem fn_tattlerlaw13_DigestBelow : E.fn F.tattlerlaw13_DigestBelow = some c_tattlerlaw13_DigestBelow := rfl
theorem fn_tattlerlaw13_DigestOrder : E.fn F.tattlerlaw13_DigestOrder = some c_tattlerlaw13_DigestOrder := rfl
theorem fn_tattlerlaw13_DigestBack : E.fn F.tattlerlaw13_DigestBack = some c_tattlerlaw13_DigestBack := rfl
theorem fn_tattlerlaw13_light : E.fn F.tattlerlaw13_light = some c_tattlerlaw13_light := rfl
theorem fn_tattlerlaw13_thin : E.fn F.tattlerlaw13_thin = some c_tattlerlaw13_thin := rfl
theorem fn_tattlerlaw13_awake : E.fn F.tattlerlaw13_awake = some c_tattlerlaw13_awake := rfl
theorem fn_digest_Send : E.fn F.digest_Send = some c_digest_Send := rfl
theorem fn_tattlerref5_SameEntries : E.fn F.tattlerref5_SameEntries = some c_tattlerref5_SameEntries := rfl
theorem fn_digest_Size : E.fn F.digest_Size = some c_digest_Size := rfl
theorem fn_tattlerlaw13_may : E.fn F.tattlerlaw13_may = some c_tattlerlaw13_may := rfl
theorem fn_tattlerref5_Table_Join : E.fn F.tattlerref5_Table_Join = some c_tattlerref5_Table_Join := rfl
theorem fn_tattlerref5_Table_Get : E.fn F.tattlerref5_Table_Get = some c_tattlerref5_Table_Get := rfl
theorem fn_tattlerlaw13_agree : E.fn F.tattlerlaw13_agree = some c_tattlerlaw13_agree := rfl
theorem fn_digest_Of : E.fn F.digest_Of = some c_digest_Of := rfl
theorem fn_sibs_Same : E.fn F.sibs_Same = some c_sibs_Same := rfl
theorem fn_digest_Lacks : E.fn F.digest_Lacks = some c_digest_Lacks := rfl
theorem fn_wire_NewWriter : E.fn F.wire_NewWriter = some c_wire_NewWriter := rfl
theorem fn_digest_Write : E.fn F.digest_Write = some c_digest_Write := rfl
theorem fn_wire_Writer_Done : E.fn F.wire_Writer_Done = some c_wire_Writer_Done := rfl
theorem fn_wire_NewReader : E.fn F.wire_NewReader = some c_wire_NewReader := rfl
theorem fn_digest_Read : E.fn F.digest_Read = some c_digest_Read := rfl
theorem fn_digest_May : E.fn F.digest_May = some c_digest_May := rfl
theorem fn_tattlerref5_SameDigests : E.fn F.tattlerref5_SameDigests = some c_tattlerref5_SameDigests := rfl
theorem fn_wire_Reader_End : E.fn F.wire_Reader_End = some c_wire_Reader_End := rfl
theorem fn_tattlerref5_MayEntry : E.fn F.tattlerref5_MayEntry = some c_tattlerref5_MayEntry := rfl
theorem fn_digest_lacked : E.fn F.digest_lacked = some c_digest_lacked := rfl
theorem fn_digest_copied : E.fn F.digest_copied = some c_digest_copied := rfl
theorem fn_tattlerref5_Same : E.fn F.tattlerref5_Same = some c_tattlerref5_Same := rfl
theorem fn_sibs_WriteEntry : E.fn F.sibs_WriteEntry = some c_sibs_WriteEntry := rfl
theorem fn_tattlerref5_Table_At : E.fn F.tattlerref5_Table_At = some c_tattlerref5_Table_At := rfl
theorem fn_tattlerref5_Join : E.fn F.tattlerref5_Join = some c_tattlerref5_Join := rfl
theorem fn_digest_dots : E.fn F.digest_dots = some c_digest_dots := rfl
theorem fn_slices_EqualFunc_api_Value_api_Value_api_Value_api_Value : E.fn F.slices_EqualFunc_api_Value_api_Value_api_Value_api_Value = some c_slices_EqualFunc_api_Value_api_Value_api_Value_api_Value := rfl
theorem fn_sibs_Same_c1 : E.fn F.sibs_Same_c1 = some c_sibs_Same_c1 := rfl
theorem fn_bytes_Equal : E.fn F.bytes_Equal = some c_bytes_Equal := rfl
theorem fn_vector_Leq : E.fn F.vector_Leq = some c_vector_Leq := rfl
theorem fn_slices_ContainsFunc_api_Dot_api_Dot : E.fn F.slices_ContainsFunc_api_Dot_api_Dot = some c_slices_ContainsFunc_api_Dot_api_Dot := rfl
theorem fn_digest_Lacks_c1 : E.fn F.digest_Lacks_c1 = some c_digest_Lacks_c1 := rfl
theorem fn_vector_Covers : E.fn F.vector_Covers = some c_vector_Covers := rfl
theorem fn_slices_Contains_api_Dot_api_Dot : E.fn F.slices_Contains_api_Dot_api_Dot = some c_slices_Contains_api_Dot_api_Dot := rfl
theorem fn_wire_Writer_Text : E.fn F.wire_Writer_Text = some c_wire_Writer_Text := rfl
theorem fn_vector_Write : E.fn F.vector_Write = some c_vector_Write := rfl
theorem fn_wire_Writer_Num : E.fn F.wire_Writer_Num = some c_wire_Writer_Num := rfl
theorem fn_wire_Writer_Int : E.fn F.wire_Writer_Int = some c_wire_Writer_Int := rfl
theorem fn_slices_Clone_byte_byte : E.fn F.slices_Clone_byte_byte = some c_slices_Clone_byte_byte := rfl
theorem fn_wire_Reader_Text : E.fn F.wire_Reader_Text = some c_wire_Reader_Text := rfl
theorem fn_vector_Read : E.fn F.vector_Read = some c_vector_Read := rfl
theorem fn_wire_Reader_Count : E.fn F.wire_Reader_Count = some c_wire_Reader_Count := rfl
theorem fn_wire_Reader_Num : E.fn F.wire_Reader_Num = some c_wire_Reader_Num := rfl
theorem fn_wire_Reader_Int : E.fn F.wire_Reader_Int = some c_wire_Reader_Int := rfl
theorem fn_wire_Reader_Left : E.fn F.wire_Reader_Left = some c_wire_Reader_Left := rfl
theorem fn_keys_May : E.fn F.keys_May = some c_keys_May := rfl
theorem fn_vector_May : E.fn F.vector_May = some c_vector_May := rfl
theorem fn_vector_Less : E.fn F.vector_Less = some c_vector_Less := rfl
theorem fn_tattlerref5_SameDots : E.fn F.tattlerref5_SameDots = some c_tattlerref5_SameDots := rfl
theorem fn_tattlerref5_MayKey : E.fn F.tattlerref5_MayKey = some c_tattlerref5_MayKey := rfl
theorem fn_tattlerref5_May : E.fn F.tattlerref5_May = some c_tattlerref5_May := rfl
theorem fn_vector_Join : E.fn F.vector_Join = some c_vector_Join := rfl
theorem fn_slices_IndexFunc_api_Digest_api_Digest : E.fn F.slices_IndexFunc_api_Digest_api_Digest = some c_slices_IndexFunc_api_Digest_api_Digest := rfl
theorem fn_digest_lacked_c1 : E.fn F.digest_lacked_c1 = some c_digest_lacked_c1 := rfl
theorem fn_sibs_Write : E.fn F.sibs_Write = some c_sibs_Write := rfl
theorem fn_tattlerref1_Join : E.fn F.tattlerref1_Join = some c_tattlerref1_Join := rfl
theorem fn_tattlerref5_find : E.fn F.tattlerref5_find = some c_tattlerref5_find := rfl
theorem fn_tattlerref5_insert : E.fn F.tattlerref5_insert = some c_tattlerref5_insert := rfl
theorem fn_tattlerref5_copied : E.fn F.tattlerref5_copied = some c_tattlerref5_copied := rfl
theorem fn_tattlerref5_first : E.fn F.tattlerref5_first = some c_tattlerref5_first := rfl
theorem fn_tattlerref1_Covers : E.fn F.tattlerref1_Covers = some c_tattlerref1_Covers := rfl
theorem fn_slices_IndexFunc_api_Dot_api_Dot : E.fn F.slices_IndexFunc_api_Dot_api_Dot = some c_slices_IndexFunc_api_Dot_api_Dot := rfl
theorem fn_vector_is : E.fn F.vector_is = some c_vector_is := rfl
theorem fn_slices_Index_api_Dot_api_Dot : E.fn F.slices_Index_api_Dot_api_Dot = some c_slices_Index_api_Dot_api_Dot := rfl
theorem fn_wire_Writer_put : E.fn F.wire_Writer_put = some c_wire_Writer_put := rfl
theorem fn_wire_num : E.fn F.wire_num = some c_wire_num := rfl
theorem fn_wire_Reader_ok : E.fn F.wire_Reader_ok = some c_wire_Reader_ok := rfl
theorem fn_wire_Reader_fail : E.fn F.wire_Reader_fail = some c_wire_Reader_fail := rfl
theorem fn_vector_good : E.fn F.vector_good = some c_vector_good := rfl
theorem fn_wire_Reader_byte : E.fn F.wire_Reader_byte = some c_wire_Reader_byte := rfl
theorem fn_cmp_Or_int : E.fn F.cmp_Or_int = some c_cmp_Or_int := rfl
theorem fn_cmp_Compare_int : E.fn F.cmp_Compare_int = some c_cmp_Compare_int := rfl
theorem fn_cmp_Compare_int64 : E.fn F.cmp_Compare_int64 = some c_cmp_Compare_int64 := rfl
theorem fn_tattlerref1_May : E.fn F.tattlerref1_May = some c_tattlerref1_May := rfl
theorem fn_tattlerref1_Less : E.fn F.tattlerref1_Less = some c_tattlerref1_Less := rfl
theorem fn_wire_Writer_Flag : E.fn F.wire_Writer_Flag = some c_wire_Writer_Flag := rfl
theorem fn_cmp_isNaN_int : E.fn F.cmp_isNaN_int = some c_cmp_isNaN_int := rfl
theorem fn_cmp_isNaN_int64 : E.fn F.cmp_isNaN_int64 = some c_cmp_isNaN_int64 := rfl
end Go.Proofs.Ytphlgefkcghopaa.V

