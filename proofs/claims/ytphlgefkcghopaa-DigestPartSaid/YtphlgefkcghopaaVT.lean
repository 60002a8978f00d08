/- The functions' code as the V-machine has it; the kernel sees that it is theirs. -/
import Derived.Test.YtphlgefkcghopaaVmG4
import Derived.Test.YtphlgefkcghopaaChecked
import Derived.KernelRfl
namespace Go.Proofs.Ytphlgefkcghopaa.V
open Go.Vm
set_option maxRecDepth 100000
set_option linter.unusedVariables false
set_option linter.unusedSimpArgs false
def F.digest_Lacks : Nat := 32
def F.digest_Lacks_c1 : Nat := 55
def F.digest_Send : Nat := 23
def F.digest_Size : Nat := 25
def F.digest_copied : Nat := 44
def F.digest_dots : Nat := 49
def F.digest_lacked : Nat := 43
def F.digest_lacked_c1 : Nat := 82
def F.sibs_Write : Nat := 83
def F.sibs_WriteEntry : Nat := 46
def F.slices_Clone_byte_byte : Nat := 62
def F.slices_ContainsFunc_api_Dot_api_Dot : Nat := 54
def F.slices_Contains_api_Dot_api_Dot : Nat := 57
def F.slices_IndexFunc_api_Digest_api_Digest : Nat := 81
def F.slices_IndexFunc_api_Dot_api_Dot : Nat := 90
def F.slices_Index_api_Dot_api_Dot : Nat := 92
def F.tattlerlaw13_DigestPart : Nat := 7
def F.tattlerlaw13_awake : Nat := 22
def F.tattlerlaw13_light : Nat := 20
def F.tattlerlaw13_thin : Nat := 21
def F.tattlerref5_Same : Nat := 45
def F.tattlerref5_SameEntries : Nat := 24
def F.vector_Covers : Nat := 56
def F.vector_Join : Nat := 80
def F.vector_Leq : Nat := 53
def F.vector_Write : Nat := 59
def F.vector_is : Nat := 91
def F.wire_NewWriter : Nat := 33
def F.wire_Writer_Done : Nat := 35
def F.wire_Writer_Flag : Nat := 108
def F.wire_Writer_Int : Nat := 61
def F.wire_Writer_Num : Nat := 60
def F.wire_Writer_Text : Nat := 58
def F.wire_Writer_put : Nat := 93
def F.wire_num : Nat := 94
def c_tattlerlaw13_DigestPart_l0 : VCode := (.seq (.ops [⟨some 55, none, .bin .lss .no (.r 54) (.r 53)⟩] [2, 7, 8, 9, 52, 53, 54, 55])
  (.seq (.cond (.r 55) .skip (.exit 0))
  (.seq (.block 1 (.seq (.ops [⟨some 56, none, .iaddr none 10 (.r 52) (.r 54)⟩,
        ⟨some 57, none, .load true 10 (.r 56)⟩,
        ⟨some 11, none, .alloc [(.str []), (.int .i64 0), (.int .i64 0), (.int .i64 0), (.int .i64 0), (.int .i64 0), (.int .i64 0), (.int .i64 0), (.int .i64 0), (.sl [])] []⟩,
        ⟨none, none, .store 10 (.r 11) (.r 57) [] none⟩] [2, 7, 8, 9, 11, 52, 53, 54])
      (.ops [⟨some 58, none, .mv (.r 9)⟩,
      ⟨some 59, none, .load true 10 (.r 11)⟩,
      ⟨some 60, none, .call false F.digest_Size [(.r 59)]⟩,
      ⟨some 61, none, .bin .add .no (.r 58) (.r 60)⟩,
      ⟨some 9, none, .asg (.r 61)⟩] [2, 7, 8, 9, 52, 53, 54])))
  (.ops [⟨some 62, none, .bin .add .no (.r 54) (.c (.int .i64 1))⟩,
  ⟨some 54, none, .mv (.r 62)⟩] [2, 7, 8, 9, 52, 53, 54]))))
/-- tattler/tattlerlaw13.DigestPart -/
def c_tattlerlaw13_DigestPart : VFun := ⟨3,
  (.seq (.ops [⟨some 6, none, .asg (.c (.bool false))⟩] [0, 1, 2])
  (.seq (.seq (.ops [⟨some 12, none, .mv (.r 0)⟩,
      ⟨some 13, none, .call false F.tattlerlaw13_light [(.r 12)]⟩,
      ⟨some 14, none, .un .not (.r 13)⟩,
      ⟨some 15, none, .mv (.r 14)⟩,
      ⟨some 16, some (15, false), .mv (.r 1)⟩,
      ⟨some 17, some (15, false), .call false F.tattlerlaw13_thin [(.r 16)]⟩,
      ⟨some 18, some (15, false), .un .not (.r 17)⟩,
      ⟨some 19, none, .pick (.r 15) (.c (.bool true)) (.r 18)⟩] [0, 1, 2, 19])
    (.cond (.r 19) (.seq (.ops [⟨some 20, none, .call false F.tattlerlaw13_awake []⟩,
        ⟨some 6, none, .asg (.r 20)⟩] [6])
      .ret) .skip))
  (.seq (.ops [⟨some 21, none, .mv (.r 0)⟩,
    ⟨some 22, none, .mv (.r 1)⟩,
    ⟨some 23, none, .call false F.digest_Send [(.r 21), (.r 22), (.c (.int .i64 1099511627776))]⟩,
    ⟨some 24, none, .mv (.r 0)⟩,
    ⟨some 25, none, .mv (.r 1)⟩,
    ⟨some 26, none, .mv (.r 2)⟩,
    ⟨some 27, none, .call false F.digest_Send [(.r 24), (.r 25), (.r 26)]⟩,
    ⟨some 7, none, .asg (.r 23)⟩,
    ⟨some 8, none, .asg (.r 27)⟩] [2, 7, 8])
  (.seq (.seq (.ops [⟨some 28, none, .mv (.r 8)⟩,
      ⟨some 29, none, .len .sl (.r 28)⟩,
      ⟨some 30, none, .mv (.r 7)⟩,
      ⟨some 31, none, .len .sl (.r 30)⟩,
      ⟨some 32, none, .bin .gtr .no (.r 29) (.r 31)⟩,
      ⟨some 33, none, .mv (.r 32)⟩,
      ⟨some 34, some (33, false), .mv (.r 7)⟩,
      ⟨some 35, some (33, false), .len .sl (.r 34)⟩,
      ⟨some 36, some (33, false), .bin .gtr .no (.r 35) (.c (.int .i64 0))⟩,
      ⟨some 37, some (33, false), .mv (.r 36)⟩,
      ⟨some 38, some (37, true), .mv (.r 8)⟩,
      ⟨some 39, some (37, true), .len .sl (.r 38)⟩,
      ⟨some 40, some (37, true), .bin .eql .no (.r 39) (.c (.int .i64 0))⟩,
      ⟨some 41, some (33, false), .pick (.r 37) (.r 40) (.c (.bool false))⟩,
      ⟨some 42, none, .pick (.r 33) (.c (.bool true)) (.r 41)⟩,
      ⟨some 43, none, .mv (.r 42)⟩,
      ⟨some 44, some (43, false), .mv (.r 8)⟩,
      ⟨some 45, some (43, false), .mv (.r 7)⟩,
      ⟨some 46, some (43, false), .mv (.r 8)⟩,
      ⟨some 47, some (43, false), .len .sl (.r 46)⟩,
      ⟨some 48, some (43, false), .slice false 10 (.r 45) none (some (.r 47)) none⟩,
      ⟨some 49, some (43, false), .call false F.tattlerref5_SameEntries [(.r 44), (.r 48)]⟩,
      ⟨some 50, some (43, false), .un .not (.r 49)⟩,
      ⟨some 51, none, .pick (.r 43) (.c (.bool true)) (.r 50)⟩] [2, 7, 8, 51])
    (.cond (.r 51) (.seq (.ops [⟨some 6, none, .asg (.c (.bool false))⟩] [6])
      .ret) .skip))
  (.seq (.ops [⟨some 9, none, .asg (.c (.int .i64 0))⟩] [2, 7, 8, 9])
  (.seq (.seq (.ops [⟨some 52, none, .mv (.r 8)⟩,
      ⟨some 53, none, .len .sl (.r 52)⟩,
      ⟨some 54, none, .mv (.c (.int .i64 0))⟩] [2, 7, 8, 9, 52, 53, 54])
    (.block 0 (.loop [2, 7, 8, 9, 52, 53, 54] [] c_tattlerlaw13_DigestPart_l0)))
  (.seq (.ops [⟨some 63, none, .mv (.r 8)⟩,
    ⟨some 64, none, .len .sl (.r 63)⟩,
    ⟨some 65, none, .bin .leq .no (.r 64) (.c (.int .i64 1))⟩,
    ⟨some 66, none, .mv (.r 65)⟩,
    ⟨some 67, some (66, false), .mv (.r 9)⟩,
    ⟨some 68, some (66, false), .mv (.r 2)⟩,
    ⟨some 69, some (66, false), .bin .leq .no (.r 67) (.r 68)⟩,
    ⟨some 70, none, .pick (.r 66) (.c (.bool true)) (.r 69)⟩,
    ⟨some 71, none, .mv (.r 70)⟩,
    ⟨some 72, some (71, true), .mv (.r 8)⟩,
    ⟨some 73, some (71, true), .len .sl (.r 72)⟩,
    ⟨some 74, some (71, true), .mv (.r 7)⟩,
    ⟨some 75, some (71, true), .len .sl (.r 74)⟩,
    ⟨some 76, some (71, true), .bin .eql .no (.r 73) (.r 75)⟩,
    ⟨some 77, some (71, true), .mv (.r 76)⟩,
    ⟨some 78, some (77, false), .mv (.r 9)⟩,
    ⟨some 79, some (77, false), .mv (.r 7)⟩,
    ⟨some 80, some (77, false), .mv (.r 8)⟩,
    ⟨some 81, some (77, false), .len .sl (.r 80)⟩,
    ⟨some 82, some (77, false), .iaddr none 10 (.r 79) (.r 81)⟩,
    ⟨some 83, some (77, false), .load true 10 (.r 82)⟩,
    ⟨some 84, some (77, false), .call false F.digest_Size [(.r 83)]⟩,
    ⟨some 85, some (77, false), .bin .add .no (.r 78) (.r 84)⟩,
    ⟨some 86, some (77, false), .mv (.r 2)⟩,
    ⟨some 87, some (77, false), .bin .gtr .no (.r 85) (.r 86)⟩,
    ⟨some 88, some (71, true), .pick (.r 77) (.c (.bool true)) (.r 87)⟩,
    ⟨some 89, none, .pick (.r 71) (.r 88) (.c (.bool false))⟩,
    ⟨some 90, none, .mv (.r 89)⟩,
    ⟨some 91, some (90, true), .call false F.tattlerlaw13_awake []⟩,
    ⟨some 92, none, .pick (.r 90) (.r 91) (.c (.bool false))⟩,
    ⟨some 6, none, .asg (.r 92)⟩] [6])
  .ret))))))),
  [.r 6], none⟩
def c_tattlerlaw13_light_l0 : VCode := (.seq (.ops [⟨some 32, none, .bin .lss .no (.r 31) (.r 30)⟩] [10, 11, 12, 29, 30, 31, 32])
  (.seq (.cond (.r 32) .skip (.exit 2))
  (.seq (.block 3 (.seq (.ops [⟨some 33, none, .iaddr none 4 (.r 29) (.r 31)⟩,
        ⟨some 34, none, .load true 4 (.r 33)⟩,
        ⟨some 6, none, .alloc [(.int .i64 0), (.int .i64 0), (.sl []), (.bool false)] []⟩,
        ⟨none, none, .store 4 (.r 6) (.r 34) [] none⟩] [6, 10, 11, 12, 29, 30, 31])
      (.seq (.ops [⟨some 35, none, .faddr 2 (.r 6)⟩,
        ⟨some 36, none, .load false 1 (.r 35)⟩,
        ⟨some 37, none, .len .sl (.r 36)⟩,
        ⟨some 38, none, .bin .gtr .no (.r 37) (.c (.int .i64 4000))⟩] [10, 11, 12, 29, 30, 31, 38])
      (.cond (.r 38) (.seq (.ops [⟨some 2, none, .asg (.c (.bool false))⟩] [2])
        .ret) .skip))))
  (.ops [⟨some 39, none, .bin .add .no (.r 31) (.c (.int .i64 1))⟩,
  ⟨some 31, none, .mv (.r 39)⟩] [10, 11, 12, 29, 30, 31]))))
def c_tattlerlaw13_light_l1 : VCode := (.seq (.ops [⟨some 13, none, .bin .lss .no (.r 12) (.r 11)⟩] [10, 11, 12, 13])
  (.seq (.cond (.r 13) .skip (.exit 0))
  (.seq (.block 1 (.seq (.ops [⟨some 14, none, .iaddr none 10 (.r 10) (.r 12)⟩,
        ⟨some 15, none, .load true 10 (.r 14)⟩,
        ⟨some 4, none, .alloc [(.str []), (.int .i64 0), (.int .i64 0), (.int .i64 0), (.int .i64 0), (.int .i64 0), (.int .i64 0), (.int .i64 0), (.int .i64 0), (.sl [])] []⟩,
        ⟨none, none, .store 10 (.r 4) (.r 15) [] none⟩] [4, 10, 11, 12])
      (.seq (.seq (.ops [⟨some 16, none, .faddr 1 (.r 4)⟩,
          ⟨some 17, none, .faddr 8 (.r 16)⟩,
          ⟨some 18, none, .load false 1 (.r 17)⟩,
          ⟨some 19, none, .len .sl (.r 18)⟩,
          ⟨some 20, none, .bin .gtr .no (.r 19) (.c (.int .i64 20))⟩,
          ⟨some 21, none, .mv (.r 20)⟩,
          ⟨some 22, some (21, false), .faddr 0 (.r 4)⟩,
          ⟨some 23, some (21, false), .load false 1 (.r 22)⟩,
          ⟨some 24, some (21, false), .len .str (.r 23)⟩,
          ⟨some 25, some (21, false), .bin .gtr .no (.r 24) (.c (.int .i64 100))⟩,
          ⟨some 26, none, .pick (.r 21) (.c (.bool true)) (.r 25)⟩] [4, 10, 11, 12, 26])
        (.cond (.r 26) (.seq (.ops [⟨some 2, none, .asg (.c (.bool false))⟩] [2])
          .ret) .skip))
      (.seq (.ops [⟨some 27, none, .faddr 1 (.r 4)⟩,
        ⟨some 28, none, .faddr 8 (.r 27)⟩,
        ⟨some 29, none, .load false 1 (.r 28)⟩,
        ⟨some 30, none, .len .sl (.r 29)⟩,
        ⟨some 31, none, .mv (.c (.int .i64 0))⟩] [10, 11, 12, 29, 30, 31])
      (.block 2 (.loop [10, 11, 12, 29, 30, 31] [] c_tattlerlaw13_light_l0))))))
  (.ops [⟨some 40, none, .bin .add .no (.r 12) (.c (.int .i64 1))⟩,
  ⟨some 12, none, .mv (.r 40)⟩] [10, 11, 12]))))
/-- tattler/tattlerlaw13.light -/
def c_tattlerlaw13_light : VFun := ⟨1,
  (.seq (.ops [⟨some 2, none, .asg (.c (.bool false))⟩] [0])
  (.seq (.seq (.ops [⟨some 7, none, .mv (.r 0)⟩,
      ⟨some 8, none, .len .sl (.r 7)⟩,
      ⟨some 9, none, .bin .gtr .no (.r 8) (.c (.int .i64 40))⟩] [0, 9])
    (.cond (.r 9) (.seq (.ops [⟨some 2, none, .asg (.c (.bool false))⟩] [2])
      .ret) .skip))
  (.seq (.seq (.ops [⟨some 10, none, .mv (.r 0)⟩,
      ⟨some 11, none, .len .sl (.r 10)⟩,
      ⟨some 12, none, .mv (.c (.int .i64 0))⟩] [10, 11, 12])
    (.block 0 (.loop [10, 11, 12] [] c_tattlerlaw13_light_l1)))
  (.seq (.ops [⟨some 2, none, .asg (.c (.bool true))⟩] [2])
  .ret)))),
  [.r 2], none⟩
def c_tattlerlaw13_thin_l0 : VCode := (.seq (.ops [⟨some 11, none, .bin .lss .no (.r 10) (.r 9)⟩] [8, 9, 10, 11])
  (.seq (.cond (.r 11) .skip (.exit 0))
  (.seq (.block 1 (.seq (.ops [⟨some 12, none, .iaddr none 10 (.r 8) (.r 10)⟩,
        ⟨some 13, none, .load true 10 (.r 12)⟩,
        ⟨some 4, none, .alloc [(.str []), (.int .i64 0), (.int .i64 0), (.int .i64 0), (.int .i64 0), (.int .i64 0), (.int .i64 0), (.int .i64 0), (.int .i64 0), (.sl [])] []⟩,
        ⟨none, none, .store 10 (.r 4) (.r 13) [] none⟩] [4, 8, 9, 10])
      (.seq (.ops [⟨some 14, none, .faddr 9 (.r 4)⟩,
        ⟨some 15, none, .load false 1 (.r 14)⟩,
        ⟨some 16, none, .len .sl (.r 15)⟩,
        ⟨some 17, none, .bin .gtr .no (.r 16) (.c (.int .i64 30))⟩] [8, 9, 10, 17])
      (.cond (.r 17) (.seq (.ops [⟨some 2, none, .asg (.c (.bool false))⟩] [2])
        .ret) .skip))))
  (.ops [⟨some 18, none, .bin .add .no (.r 10) (.c (.int .i64 1))⟩,
  ⟨some 10, none, .mv (.r 18)⟩] [8, 9, 10]))))
/-- tattler/tattlerlaw13.thin -/
def c_tattlerlaw13_thin : VFun := ⟨1,
  (.seq (.ops [⟨some 2, none, .asg (.c (.bool false))⟩] [0])
  (.seq (.seq (.ops [⟨some 5, none, .mv (.r 0)⟩,
      ⟨some 6, none, .len .sl (.r 5)⟩,
      ⟨some 7, none, .bin .gtr .no (.r 6) (.c (.int .i64 40))⟩] [0, 7])
    (.cond (.r 7) (.seq (.ops [⟨some 2, none, .asg (.c (.bool false))⟩] [2])
      .ret) .skip))
  (.seq (.seq (.ops [⟨some 8, none, .mv (.r 0)⟩,
      ⟨some 9, none, .len .sl (.r 8)⟩,
      ⟨some 10, none, .mv (.c (.int .i64 0))⟩] [8, 9, 10])
    (.block 0 (.loop [8, 9, 10] [] c_tattlerlaw13_thin_l0)))
  (.seq (.ops [⟨some 2, none, .asg (.c (.bool true))⟩] [2])
  .ret)))),
  [.r 2], none⟩
/-- tattler/tattlerlaw13.awake -/
def c_tattlerlaw13_awake : VFun := ⟨0,
  (.seq (.ops [⟨some 0, none, .asg (.c (.bool false))⟩] [])
  (.seq (.ops [⟨some 2, none, .build [(.int .i64 0), (.int .i64 0), (.int .i64 0), (.int .i64 0), (.int .i64 0), (.int .i64 0), (.int .i64 0), (.int .i64 0)] [(0, 1, (.c (.int .i64 1)))]⟩,
    ⟨some 3, none, .build [(.int .i64 0), (.int .i64 0), (.int .i64 0), (.int .i64 0), (.int .i64 0), (.int .i64 0), (.int .i64 0), (.int .i64 0), (.sl [])] [(0, 8, (.r 2))]⟩,
    ⟨some 4, none, .build [(.str []), (.int .i64 0), (.int .i64 0), (.int .i64 0), (.int .i64 0), (.int .i64 0), (.int .i64 0), (.int .i64 0), (.int .i64 0), (.sl [])] [(0, 1, (.c (.str [107]))), (1, 9, (.r 3))]⟩,
    ⟨some 1, none, .alloc [(.str []), (.int .i64 0), (.int .i64 0), (.int .i64 0), (.int .i64 0), (.int .i64 0), (.int .i64 0), (.int .i64 0), (.int .i64 0), (.sl [])] []⟩,
    ⟨none, none, .store 10 (.r 1) (.r 4) [] none⟩] [1])
  (.seq (.ops [⟨some 5, none, .load true 10 (.r 1)⟩,
    ⟨some 6, none, .build [(.int .i64 0), (.int .i64 0), (.int .i64 0), (.int .i64 0), (.int .i64 0), (.int .i64 0), (.int .i64 0), (.int .i64 0)] [(0, 1, (.c (.int .i64 1)))]⟩,
    ⟨some 7, none, .build [(.int .i64 0), (.int .i64 0)] [(0, 1, (.c (.int .i64 0))), (1, 1, (.c (.int .i64 1)))]⟩,
    ⟨some 8, none, .bslice (.agg [(.int .i64 0), (.int .i64 0)]) 2 1 [(0, (.r 7))]⟩,
    ⟨some 9, none, .build [(.str []), (.int .i64 0), (.int .i64 0), (.int .i64 0), (.int .i64 0), (.int .i64 0), (.int .i64 0), (.int .i64 0), (.int .i64 0), (.sl [])] [(0, 1, (.c (.str [107]))), (1, 8, (.r 6)), (9, 1, (.r 8))]⟩,
    ⟨some 10, none, .call false F.digest_Lacks [(.r 5), (.r 9)]⟩,
    ⟨some 11, none, .mv (.r 10)⟩,
    ⟨some 12, some (11, true), .load true 10 (.r 1)⟩,
    ⟨some 13, some (11, true), .build [(.int .i64 0), (.int .i64 0), (.int .i64 0), (.int .i64 0), (.int .i64 0), (.int .i64 0), (.int .i64 0), (.int .i64 0)] [(0, 1, (.c (.int .i64 1)))]⟩,
    ⟨some 14, some (11, true), .build [(.str []), (.int .i64 0), (.int .i64 0), (.int .i64 0), (.int .i64 0), (.int .i64 0), (.int .i64 0), (.int .i64 0), (.int .i64 0), (.sl [])] [(0, 1, (.c (.str [107]))), (1, 8, (.r 13))]⟩,
    ⟨some 15, some (11, true), .call false F.digest_Lacks [(.r 12), (.r 14)]⟩,
    ⟨some 16, some (11, true), .un .not (.r 15)⟩,
    ⟨some 17, none, .pick (.r 11) (.r 16) (.c (.bool false))⟩,
    ⟨some 0, none, .asg (.r 17)⟩] [0])
  .ret))),
  [.r 0], none⟩
def c_digest_Send_l0 : VCode := (.seq (.ops [⟨some 16, none, .bin .lss .no (.r 15) (.r 14)⟩] [1, 7, 8, 13, 14, 15, 16])
  (.seq (.cond (.r 16) .skip (.exit 0))
  (.seq (.block 1 (.seq (.ops [⟨some 17, none, .iaddr none 10 (.r 13) (.r 15)⟩,
        ⟨some 18, none, .load true 10 (.r 17)⟩,
        ⟨some 10, none, .alloc [(.str []), (.int .i64 0), (.int .i64 0), (.int .i64 0), (.int .i64 0), (.int .i64 0), (.int .i64 0), (.int .i64 0), (.int .i64 0), (.sl [])] []⟩,
        ⟨none, none, .store 10 (.r 10) (.r 18) [] none⟩] [1, 7, 8, 10, 13, 14, 15])
      (.seq (.seq (.ops [⟨some 19, none, .load true 10 (.r 10)⟩,
          ⟨some 20, none, .mv (.r 1)⟩,
          ⟨some 21, none, .call false F.digest_lacked [(.r 19), (.r 20)]⟩,
          ⟨some 22, none, .un .not (.r 21)⟩] [1, 7, 8, 10, 13, 14, 15, 22])
        (.cond (.r 22) (.exit 1) .skip))
      (.seq (.ops [⟨some 23, none, .load true 10 (.r 10)⟩,
        ⟨some 24, none, .call false F.digest_Size [(.r 23)]⟩,
        ⟨some 11, none, .asg (.r 24)⟩] [1, 7, 8, 10, 11, 13, 14, 15])
      (.seq (.seq (.ops [⟨some 25, none, .mv (.r 7)⟩,
          ⟨some 26, none, .len .sl (.r 25)⟩,
          ⟨some 27, none, .bin .gtr .no (.r 26) (.c (.int .i64 0))⟩,
          ⟨some 28, none, .mv (.r 27)⟩,
          ⟨some 29, some (28, true), .mv (.r 11)⟩,
          ⟨some 30, some (28, true), .mv (.r 8)⟩,
          ⟨some 31, some (28, true), .bin .gtr .no (.r 29) (.r 30)⟩,
          ⟨some 32, none, .pick (.r 28) (.r 31) (.c (.bool false))⟩] [1, 7, 8, 10, 11, 13, 14, 15, 32])
        (.cond (.r 32) (.exit 0) .skip))
      (.seq (.ops [⟨some 33, none, .mv (.r 8)⟩,
        ⟨some 34, none, .mv (.r 11)⟩,
        ⟨some 35, none, .mv (.r 8)⟩,
        ⟨some 36, none, .mx [(.r 35), (.c (.int .i64 0))]⟩,
        ⟨some 37, none, .mn [(.r 34), (.r 36)]⟩,
        ⟨some 38, none, .bin .sub .no (.r 33) (.r 37)⟩,
        ⟨some 8, none, .asg (.r 38)⟩] [1, 7, 8, 10, 13, 14, 15])
      (.ops [⟨some 39, none, .mv (.r 7)⟩,
      ⟨some 40, none, .load true 10 (.r 10)⟩,
      ⟨some 41, none, .call false F.digest_copied [(.r 40)]⟩,
      ⟨some 42, none, .bslice (.agg [(.str []), (.int .i64 0), (.int .i64 0), (.int .i64 0), (.int .i64 0), (.int .i64 0), (.int .i64 0), (.int .i64 0), (.int .i64 0), (.sl [])]) 10 1 [(0, (.r 41))]⟩,
      ⟨some 43, none, .app (.reg 7) 10 104 (.r 39) (.r 42)⟩,
      ⟨some 7, none, .asg (.r 43)⟩] [1, 7, 8, 13, 14, 15])))))))
  (.ops [⟨some 44, none, .bin .add .no (.r 15) (.c (.int .i64 1))⟩,
  ⟨some 15, none, .mv (.r 44)⟩] [1, 7, 8, 13, 14, 15]))))
/-- tattler/digest.Send -/
def c_digest_Send : VFun := ⟨3,
  (.seq (.ops [⟨some 6, none, .asg (.c (.sl []))⟩] [0, 1, 2])
  (.seq (.ops [⟨some 7, none, .asg (.c (.sl []))⟩] [0, 1, 2, 7])
  (.seq (.ops [⟨some 12, none, .mv (.r 2)⟩,
    ⟨some 8, none, .asg (.r 12)⟩] [0, 1, 7, 8])
  (.seq (.seq (.ops [⟨some 13, none, .mv (.r 0)⟩,
      ⟨some 14, none, .len .sl (.r 13)⟩,
      ⟨some 15, none, .mv (.c (.int .i64 0))⟩] [1, 7, 8, 13, 14, 15])
    (.block 0 (.loop [1, 7, 8, 13, 14, 15] [(6, 0, 0), (7, 0, 10)] c_digest_Send_l0)))
  (.seq (.ops [⟨some 45, none, .mv (.r 7)⟩,
    ⟨some 6, none, .asg (.r 45)⟩] [6])
  .ret))))),
  [.r 6], none⟩
def c_tattlerref5_SameEntries_l0 : VCode := (.seq (.ops [⟨some 14, none, .bin .lss .no (.r 13) (.r 12)⟩] [0, 1, 12, 13, 14])
  (.seq (.cond (.r 14) .skip (.exit 0))
  (.seq (.block 1 (.seq (.ops [⟨some 15, none, .mv (.r 13)⟩,
        ⟨some 5, none, .asg (.r 15)⟩] [0, 1, 5, 12, 13])
      (.seq (.dops 22 [⟨some 16, none, .mv (.r 0)⟩,
        ⟨some 17, none, .mv (.r 5)⟩,
        ⟨some 18, none, .iaddr none 10 (.r 16) (.r 17)⟩,
        ⟨some 19, none, .faddr 0 (.r 18)⟩,
        ⟨some 20, none, .load false 1 (.r 19)⟩,
        ⟨some 21, none, .mv (.r 1)⟩,
        ⟨some 22, none, .mv (.r 5)⟩,
        ⟨some 23, none, .iaddr none 10 (.r 21) (.r 22)⟩,
        ⟨some 24, none, .faddr 0 (.r 23)⟩,
        ⟨some 25, none, .load false 1 (.r 24)⟩,
        ⟨some 26, none, .bin .neq .no (.r 20) (.r 25)⟩,
        ⟨some 27, none, .mv (.r 26)⟩,
        ⟨some 28, some (27, false), .mv (.r 0)⟩,
        ⟨some 29, some (27, false), .mv (.r 5)⟩,
        ⟨some 30, some (27, false), .iaddr none 10 (.r 28) (.r 29)⟩,
        ⟨some 31, some (27, false), .faddr 1 (.r 30)⟩,
        ⟨some 32, some (27, false), .load true 9 (.r 31)⟩,
        ⟨some 33, some (27, false), .mv (.r 1)⟩,
        ⟨some 34, some (27, false), .mv (.r 5)⟩,
        ⟨some 35, some (27, false), .iaddr none 10 (.r 33) (.r 34)⟩,
        ⟨some 36, some (27, false), .faddr 1 (.r 35)⟩,
        ⟨some 37, some (27, false), .load true 9 (.r 36)⟩,
        ⟨some 38, some (27, false), .call false F.tattlerref5_Same [(.r 32), (.r 37)]⟩,
        ⟨some 39, some (27, false), .un .not (.r 38)⟩,
        ⟨some 40, none, .pick (.r 27) (.c (.bool true)) (.r 39)⟩] [0, 1, 12, 13, 40])
      (.cond (.r 40) (.seq (.ops [⟨some 4, none, .asg (.c (.bool false))⟩] [4])
        .ret) .skip))))
  (.ops [⟨some 41, none, .bin .add .no (.r 13) (.c (.int .i64 1))⟩,
  ⟨some 13, none, .mv (.r 41)⟩] [0, 1, 12, 13]))))
/-- tattler/tattlerref5.SameEntries -/
def c_tattlerref5_SameEntries : VFun := ⟨2,
  (.seq (.ops [⟨some 4, none, .asg (.c (.bool false))⟩] [0, 1])
  (.seq (.seq (.ops [⟨some 6, none, .mv (.r 0)⟩,
      ⟨some 7, none, .len .sl (.r 6)⟩,
      ⟨some 8, none, .mv (.r 1)⟩,
      ⟨some 9, none, .len .sl (.r 8)⟩,
      ⟨some 10, none, .bin .neq .no (.r 7) (.r 9)⟩] [0, 1, 10])
    (.cond (.r 10) (.seq (.ops [⟨some 4, none, .asg (.c (.bool false))⟩] [4])
      .ret) .skip))
  (.seq (.seq (.ops [⟨some 11, none, .mv (.r 0)⟩,
      ⟨some 12, none, .len .sl (.r 11)⟩,
      ⟨some 13, none, .mv (.c (.int .i64 0))⟩] [0, 1, 12, 13])
    (.block 0 (.loop [0, 1, 12, 13] [] c_tattlerref5_SameEntries_l0)))
  (.seq (.ops [⟨some 4, none, .asg (.c (.bool true))⟩] [4])
  .ret)))),
  [.r 4], none⟩
/-- tattler/digest.Size -/
def c_digest_Size : VFun := ⟨1,
  (.seq (.ops [⟨some 1, none, .box 10 (.r 0)⟩,
    ⟨some 2, none, .asg (.c (.int .i64 0))⟩] [1])
  (.seq (.ops [⟨some 6, none, .call false F.wire_NewWriter [(.c (.int .i64 1073741824))]⟩,
    ⟨some 3, none, .asg (.r 6)⟩] [1, 3])
  (.seq (.ops [⟨some 7, none, .mv (.r 3)⟩,
    ⟨some 8, none, .load true 10 (.r 1)⟩,
    ⟨some 9, none, .call false F.sibs_WriteEntry [(.r 7), (.r 8)]⟩] [3])
  (.seq (.ops [⟨some 11, none, .mv (.r 3)⟩,
    ⟨some 12, none, .call false F.wire_Writer_Done [(.r 11)]⟩,
    ⟨some 10, none, .mv (.r 12)⟩,
    ⟨some 13, none, .extract 0 (.r 10)⟩,
    ⟨some 14, none, .extract 1 (.r 10)⟩,
    ⟨some 4, none, .asg (.r 13)⟩,
    ⟨some 5, none, .asg (.r 14)⟩] [4])
  (.seq (.ops [⟨some 15, none, .mv (.r 4)⟩,
    ⟨some 16, none, .len .sl (.r 15)⟩,
    ⟨some 2, none, .asg (.r 16)⟩] [2])
  .ret))))),
  [.r 2], none⟩
/-- tattler/digest.Lacks -/
def c_digest_Lacks : VFun := ⟨2,
  (.seq (.ops [⟨some 2, none, .box 10 (.r 0)⟩,
    ⟨some 3, none, .box 10 (.r 1)⟩,
    ⟨some 4, none, .asg (.c (.bool false))⟩] [2, 3])
  (.seq (.seq (.ops [⟨some 6, none, .faddr 0 (.r 2)⟩,
      ⟨some 7, none, .load false 1 (.r 6)⟩,
      ⟨some 8, none, .faddr 0 (.r 3)⟩,
      ⟨some 9, none, .load false 1 (.r 8)⟩,
      ⟨some 10, none, .bin .neq .no (.r 7) (.r 9)⟩,
      ⟨some 11, none, .mv (.r 10)⟩,
      ⟨some 12, some (11, false), .faddr 1 (.r 2)⟩,
      ⟨some 13, some (11, false), .faddr 0 (.r 12)⟩,
      ⟨some 14, some (11, false), .load true 8 (.r 13)⟩,
      ⟨some 15, some (11, false), .faddr 1 (.r 3)⟩,
      ⟨some 16, some (11, false), .load true 8 (.r 15)⟩,
      ⟨some 17, some (11, false), .call false F.vector_Leq [(.r 14), (.r 16)]⟩,
      ⟨some 18, some (11, false), .un .not (.r 17)⟩,
      ⟨some 19, none, .pick (.r 11) (.c (.bool true)) (.r 18)⟩] [2, 3, 19])
    (.cond (.r 19) (.seq (.ops [⟨some 4, none, .asg (.c (.bool true))⟩] [4])
      .ret) .skip))
  (.seq (.ops [⟨some 20, none, .faddr 1 (.r 2)⟩,
    ⟨some 21, none, .load true 9 (.r 20)⟩,
    ⟨some 22, none, .call false F.digest_dots [(.r 21)]⟩,
    ⟨some 5, none, .alloc [(.sl [])] []⟩,
    ⟨none, none, .store 1 (.r 5) (.r 22) [] none⟩] [2, 3, 5])
  (.seq (.ops [⟨some 23, none, .faddr 9 (.r 3)⟩,
    ⟨some 24, none, .load false 1 (.r 23)⟩,
    ⟨some 25, none, .mkfn F.digest_Lacks_c1 [] [(.r 2), (.r 5)]⟩,
    ⟨some 26, none, .call false F.slices_ContainsFunc_api_Dot_api_Dot [(.r 24), (.r 25)]⟩,
    ⟨some 4, none, .asg (.r 26)⟩] [4])
  .ret)))),
  [.r 4], none⟩
/-- tattler/wire.NewWriter -/
def c_wire_NewWriter : VFun := ⟨1,
  (.seq (.ops [⟨some 2, none, .asg (.c (.ptr none))⟩] [0])
  (.seq (.ops [⟨some 3, none, .mv (.r 0)⟩,
    ⟨some 4, none, .mx [(.c (.int .i64 0)), (.r 3)]⟩,
    ⟨some 5, none, .bld [(.sl []), (.int .i64 0), (.bool false)] [(1, 1, (.r 4))] [0]⟩,
    ⟨some 6, none, .boxo 3 (.r 5) [(0, 1)]⟩,
    ⟨some 2, none, .asg (.r 6)⟩] [2])
  .ret)),
  [.r 2], none⟩
/-- (*tattler/wire.Writer).Done -/
def c_wire_Writer_Done : VFun := ⟨1,
  (.seq (.ops [⟨some 2, none, .asg (.c (.sl []))⟩,
    ⟨some 3, none, .asg (.c (.int .i64 0))⟩] [0])
  (.seq (.block 0 (.seq (.ops [⟨some 5, none, .mv (.r 0)⟩,
        ⟨some 6, none, .bin .eql .ptr (.r 5) (.c (.ptr none))⟩,
        ⟨some 4, none, .asg (.r 6)⟩] [0, 4])
      (.cond (.r 4) (.seq (.ops [⟨some 2, none, .asg (.c (.sl []))⟩,
          ⟨some 3, none, .asg (.c (.int .i64 1))⟩] [2, 3])
        .ret) (.seq (.ops [⟨some 8, none, .mv (.r 0)⟩,
          ⟨some 9, none, .nilck (.r 8)⟩,
          ⟨some 10, none, .faddr 2 (.r 9)⟩,
          ⟨some 11, none, .load false 1 (.r 10)⟩,
          ⟨some 7, none, .asg (.r 11)⟩] [0, 7])
        (.cond (.r 7) (.seq (.ops [⟨some 2, none, .asg (.c (.sl []))⟩,
            ⟨some 3, none, .asg (.c (.int .i64 4))⟩] [2, 3])
          .ret) .skip)))))
  (.seq (.ops [⟨some 12, none, .mv (.r 0)⟩,
    ⟨some 13, none, .nilck (.r 12)⟩,
    ⟨some 14, none, .faddr 0 (.r 13)⟩,
    ⟨some 15, none, .load false 1 (.r 14)⟩,
    ⟨some 16, none, .call false F.slices_Clone_byte_byte [(.r 15)]⟩,
    ⟨some 2, none, .asg (.r 16)⟩,
    ⟨some 3, none, .asg (.c (.int .i64 0))⟩] [2, 3])
  .ret))),
  [.r 2, .r 3], none⟩
/-- tattler/digest.lacked -/
def c_digest_lacked : VFun := ⟨2,
  (.seq (.ops [⟨some 2, none, .box 10 (.r 0)⟩,
    ⟨some 4, none, .asg (.c (.bool false))⟩] [1, 2])
  (.seq (.ops [⟨some 6, none, .mv (.r 1)⟩,
    ⟨some 7, none, .mkfn F.digest_lacked_c1 [] [(.r 2)]⟩,
    ⟨some 8, none, .call false F.slices_IndexFunc_api_Digest_api_Digest [(.r 6), (.r 7)]⟩,
    ⟨some 5, none, .asg (.r 8)⟩] [1, 2, 5])
  (.seq (.dops 8 [⟨some 9, none, .mv (.r 5)⟩,
    ⟨some 10, none, .bin .lss .no (.r 9) (.c (.int .i64 0))⟩,
    ⟨some 11, none, .mv (.r 10)⟩,
    ⟨some 12, some (11, false), .load true 10 (.r 2)⟩,
    ⟨some 13, some (11, false), .mv (.r 1)⟩,
    ⟨some 14, some (11, false), .mv (.r 5)⟩,
    ⟨some 15, some (11, false), .iaddr none 10 (.r 13) (.r 14)⟩,
    ⟨some 16, some (11, false), .load true 10 (.r 15)⟩,
    ⟨some 17, some (11, false), .call false F.digest_Lacks [(.r 12), (.r 16)]⟩,
    ⟨some 18, none, .pick (.r 11) (.c (.bool true)) (.r 17)⟩,
    ⟨some 4, none, .asg (.r 18)⟩] [4])
  .ret))),
  [.r 4], none⟩
def c_digest_copied_l0 : VCode := (.seq (.ops [⟨some 11, none, .bin .lss .no (.r 10) (.r 9)⟩] [1, 2, 3, 8, 9, 10, 11])
  (.seq (.cond (.r 11) .skip (.exit 0))
  (.seq (.block 1 (.seq (.ops [⟨some 12, none, .iaddr none 4 (.r 8) (.r 10)⟩,
        ⟨some 13, none, .load true 4 (.r 12)⟩,
        ⟨some 5, none, .alloc [(.int .i64 0), (.int .i64 0), (.sl []), (.bool false)] []⟩,
        ⟨none, none, .store 4 (.r 5) (.r 13) [] none⟩] [1, 2, 3, 5, 8, 9, 10])
      (.seq (.ops [⟨some 14, none, .faddr 2 (.r 5)⟩,
        ⟨some 15, none, .load false 1 (.r 14)⟩,
        ⟨some 16, none, .call false F.slices_Clone_byte_byte [(.r 15)]⟩,
        ⟨some 17, none, .faddr 2 (.r 5)⟩,
        ⟨none, none, .store 1 (.r 17) (.r 16) [] none⟩] [1, 2, 3, 5, 8, 9, 10])
      (.ops [⟨some 18, none, .mv (.r 3)⟩,
      ⟨some 19, none, .load true 4 (.r 5)⟩,
      ⟨some 20, none, .bslice (.agg [(.int .i64 0), (.int .i64 0), (.sl []), (.bool false)]) 4 1 [(0, (.r 19))]⟩,
      ⟨some 21, none, .app (.reg 3) 4 48 (.r 18) (.r 20)⟩,
      ⟨some 3, none, .asg (.r 21)⟩] [1, 2, 3, 8, 9, 10]))))
  (.ops [⟨some 22, none, .bin .add .no (.r 10) (.c (.int .i64 1))⟩,
  ⟨some 10, none, .mv (.r 22)⟩] [1, 2, 3, 8, 9, 10]))))
/-- tattler/digest.copied -/
def c_digest_copied : VFun := ⟨1,
  (.seq (.ops [⟨some 1, none, .box 10 (.r 0)⟩,
    ⟨some 2, none, .alloc [(.str []), (.int .i64 0), (.int .i64 0), (.int .i64 0), (.int .i64 0), (.int .i64 0), (.int .i64 0), (.int .i64 0), (.int .i64 0), (.sl [])] []⟩] [1, 2])
  (.seq (.ops [⟨some 3, none, .asg (.c (.sl []))⟩] [1, 2, 3])
  (.seq (.seq (.ops [⟨some 6, none, .faddr 1 (.r 1)⟩,
      ⟨some 7, none, .faddr 8 (.r 6)⟩,
      ⟨some 8, none, .load false 1 (.r 7)⟩,
      ⟨some 9, none, .len .sl (.r 8)⟩,
      ⟨some 10, none, .mv (.c (.int .i64 0))⟩] [1, 2, 3, 8, 9, 10])
    (.block 0 (.loop [1, 2, 3, 8, 9, 10] [(3, 0, 4)] c_digest_copied_l0)))
  (.seq (.ops [⟨some 23, none, .mv (.r 3)⟩,
    ⟨some 24, none, .faddr 1 (.r 1)⟩,
    ⟨some 25, none, .faddr 8 (.r 24)⟩,
    ⟨none, none, .store 1 (.r 25) (.r 23) [] none⟩] [1, 2])
  (.seq (.ops [⟨some 26, none, .load true 10 (.r 1)⟩,
    ⟨none, none, .store 10 (.r 2) (.r 26) [] none⟩] [2])
  .ret))))),
  [.cell 2 true 10], none⟩
def c_tattlerref5_Same_l0 : VCode := (.seq (.ops [⟨some 26, none, .bin .lss .no (.r 25) (.r 24)⟩] [3, 23, 24, 25, 26])
  (.seq (.cond (.r 26) .skip (.exit 0))
  (.seq (.block 1 (.seq (.ops [⟨some 27, none, .mv (.r 25)⟩,
        ⟨some 28, none, .iaddr none 4 (.r 23) (.r 25)⟩,
        ⟨some 29, none, .load true 4 (.r 28)⟩,
        ⟨some 6, none, .alloc [(.int .i64 0), (.int .i64 0), (.sl []), (.bool false)] []⟩,
        ⟨some 5, none, .asg (.r 27)⟩,
        ⟨none, none, .store 4 (.r 6) (.r 29) [] none⟩] [3, 5, 6, 23, 24, 25])
      (.seq (.ops [⟨some 30, none, .faddr 8 (.r 3)⟩,
        ⟨some 31, none, .load false 1 (.r 30)⟩,
        ⟨some 32, none, .mv (.r 5)⟩,
        ⟨some 33, none, .iaddr none 4 (.r 31) (.r 32)⟩,
        ⟨some 34, none, .load true 4 (.r 33)⟩,
        ⟨some 7, none, .alloc [(.int .i64 0), (.int .i64 0), (.sl []), (.bool false)] []⟩,
        ⟨none, none, .store 4 (.r 7) (.r 34) [] none⟩] [3, 6, 7, 23, 24, 25])
      (.seq (.ops [⟨some 35, none, .faddr 0 (.r 6)⟩,
        ⟨some 36, none, .load true 2 (.r 35)⟩,
        ⟨some 37, none, .faddr 0 (.r 7)⟩,
        ⟨some 38, none, .load true 2 (.r 37)⟩,
        ⟨some 39, none, .bin .neq (.agg [.i, .i]) (.r 36) (.r 38)⟩,
        ⟨some 40, none, .mv (.r 39)⟩,
        ⟨some 41, some (40, false), .faddr 3 (.r 6)⟩,
        ⟨some 42, some (40, false), .load false 1 (.r 41)⟩,
        ⟨some 43, some (40, false), .faddr 3 (.r 7)⟩,
        ⟨some 44, some (40, false), .load false 1 (.r 43)⟩,
        ⟨some 45, some (40, false), .bin .neq .bool (.r 42) (.r 44)⟩,
        ⟨some 46, none, .pick (.r 40) (.c (.bool true)) (.r 45)⟩,
        ⟨some 47, none, .mv (.r 46)⟩,
        ⟨some 48, some (47, false), .faddr 2 (.r 6)⟩,
        ⟨some 49, some (47, false), .load false 1 (.r 48)⟩,
        ⟨some 50, some (47, false), .conv .strOfBytes (.r 49)⟩,
        ⟨some 51, some (47, false), .faddr 2 (.r 7)⟩,
        ⟨some 52, some (47, false), .load false 1 (.r 51)⟩,
        ⟨some 53, some (47, false), .conv .strOfBytes (.r 52)⟩,
        ⟨some 54, some (47, false), .bin .neq .no (.r 50) (.r 53)⟩,
        ⟨some 55, none, .pick (.r 47) (.c (.bool true)) (.r 54)⟩] [3, 23, 24, 25, 55])
      (.cond (.r 55) (.seq (.ops [⟨some 4, none, .asg (.c (.bool false))⟩] [4])
        .ret) .skip)))))
  (.ops [⟨some 56, none, .bin .add .no (.r 25) (.c (.int .i64 1))⟩,
  ⟨some 25, none, .mv (.r 56)⟩] [3, 23, 24, 25]))))
/-- tattler/tattlerref5.Same -/
def c_tattlerref5_Same : VFun := ⟨2,
  (.seq (.ops [⟨some 2, none, .box 9 (.r 0)⟩,
    ⟨some 3, none, .box 9 (.r 1)⟩,
    ⟨some 4, none, .asg (.c (.bool false))⟩] [2, 3])
  (.seq (.seq (.ops [⟨some 8, none, .faddr 0 (.r 2)⟩,
      ⟨some 9, none, .load true 8 (.r 8)⟩,
      ⟨some 10, none, .faddr 0 (.r 3)⟩,
      ⟨some 11, none, .load true 8 (.r 10)⟩,
      ⟨some 12, none, .bin .neq (.agg [.i, .i, .i, .i, .i, .i, .i, .i]) (.r 9) (.r 11)⟩,
      ⟨some 13, none, .mv (.r 12)⟩,
      ⟨some 14, some (13, false), .faddr 8 (.r 2)⟩,
      ⟨some 15, some (13, false), .load false 1 (.r 14)⟩,
      ⟨some 16, some (13, false), .len .sl (.r 15)⟩,
      ⟨some 17, some (13, false), .faddr 8 (.r 3)⟩,
      ⟨some 18, some (13, false), .load false 1 (.r 17)⟩,
      ⟨some 19, some (13, false), .len .sl (.r 18)⟩,
      ⟨some 20, some (13, false), .bin .neq .no (.r 16) (.r 19)⟩,
      ⟨some 21, none, .pick (.r 13) (.c (.bool true)) (.r 20)⟩] [2, 3, 21])
    (.cond (.r 21) (.seq (.ops [⟨some 4, none, .asg (.c (.bool false))⟩] [4])
      .ret) .skip))
  (.seq (.seq (.ops [⟨some 22, none, .faddr 8 (.r 2)⟩,
      ⟨some 23, none, .load false 1 (.r 22)⟩,
      ⟨some 24, none, .len .sl (.r 23)⟩,
      ⟨some 25, none, .mv (.c (.int .i64 0))⟩] [3, 23, 24, 25])
    (.block 0 (.loop [3, 23, 24, 25] [] c_tattlerref5_Same_l0)))
  (.seq (.ops [⟨some 4, none, .asg (.c (.bool true))⟩] [4])
  .ret)))),
  [.r 4], none⟩
/-- tattler/sibs.WriteEntry -/
def c_sibs_WriteEntry : VFun := ⟨2,
  (.seq (.ops [⟨some 3, none, .box 10 (.r 1)⟩] [0, 3])
  (.seq (.ops [⟨some 4, none, .mv (.r 0)⟩,
    ⟨some 5, none, .faddr 0 (.r 3)⟩,
    ⟨some 6, none, .load false 1 (.r 5)⟩,
    ⟨some 7, none, .bstr (.r 6)⟩,
    ⟨some 8, none, .call false F.wire_Writer_Text [(.r 4), (.r 7)]⟩] [0, 3])
  (.ops [⟨some 9, none, .mv (.r 0)⟩,
  ⟨some 10, none, .faddr 1 (.r 3)⟩,
  ⟨some 11, none, .load true 9 (.r 10)⟩,
  ⟨some 12, none, .call false F.sibs_Write [(.r 9), (.r 11)]⟩] []))),
  [], none⟩
def c_digest_dots_l0 : VCode := (.seq (.ops [⟨some 10, none, .bin .lss .no (.r 9) (.r 8)⟩] [3, 7, 8, 9, 10])
  (.seq (.cond (.r 10) .skip (.exit 0))
  (.seq (.block 1 (.seq (.ops [⟨some 11, none, .iaddr none 4 (.r 7) (.r 9)⟩,
        ⟨some 12, none, .load true 4 (.r 11)⟩,
        ⟨some 5, none, .alloc [(.int .i64 0), (.int .i64 0), (.sl []), (.bool false)] []⟩,
        ⟨none, none, .store 4 (.r 5) (.r 12) [] none⟩] [3, 5, 7, 8, 9])
      (.ops [⟨some 13, none, .mv (.r 3)⟩,
      ⟨some 14, none, .faddr 0 (.r 5)⟩,
      ⟨some 15, none, .load true 2 (.r 14)⟩,
      ⟨some 16, none, .bslice (.agg [(.int .i64 0), (.int .i64 0)]) 2 1 [(0, (.r 15))]⟩,
      ⟨some 17, none, .app (.reg 3) 2 16 (.r 13) (.r 16)⟩,
      ⟨some 3, none, .asg (.r 17)⟩] [3, 7, 8, 9])))
  (.ops [⟨some 18, none, .bin .add .no (.r 9) (.c (.int .i64 1))⟩,
  ⟨some 9, none, .mv (.r 18)⟩] [3, 7, 8, 9]))))
/-- tattler/digest.dots -/
def c_digest_dots : VFun := ⟨1,
  (.seq (.ops [⟨some 1, none, .box 9 (.r 0)⟩,
    ⟨some 2, none, .asg (.c (.sl []))⟩] [1])
  (.seq (.ops [⟨some 3, none, .asg (.c (.sl []))⟩] [1, 3])
  (.seq (.seq (.ops [⟨some 6, none, .faddr 8 (.r 1)⟩,
      ⟨some 7, none, .load false 1 (.r 6)⟩,
      ⟨some 8, none, .len .sl (.r 7)⟩,
      ⟨some 9, none, .mv (.c (.int .i64 0))⟩] [3, 7, 8, 9])
    (.block 0 (.loop [3, 7, 8, 9] [(2, 0, 0), (3, 0, 2)] c_digest_dots_l0)))
  (.seq (.ops [⟨some 19, none, .mv (.r 3)⟩,
    ⟨some 2, none, .asg (.r 19)⟩] [2])
  .ret)))),
  [.r 2], none⟩
/-- tattler/vector.Leq -/
def c_vector_Leq : VFun := ⟨2,
  (.seq (.ops [⟨some 2, none, .box 8 (.r 0)⟩,
    ⟨some 3, none, .box 8 (.r 1)⟩,
    ⟨some 4, none, .asg (.c (.bool false))⟩] [2, 3])
  (.seq (.dops 4 [⟨some 5, none, .load true 8 (.r 2)⟩,
    ⟨some 6, none, .load true 8 (.r 3)⟩,
    ⟨some 7, none, .call true F.vector_Join [(.r 5), (.r 6)]⟩,
    ⟨some 8, none, .load true 8 (.r 3)⟩,
    ⟨some 9, none, .bin .eql (.agg [.i, .i, .i, .i, .i, .i, .i, .i]) (.r 7) (.r 8)⟩,
    ⟨some 4, none, .asg (.r 9)⟩] [4])
  .ret)),
  [.r 4], none⟩
/-- slices.ContainsFunc[[]tattler/api.Dot,tattler/api.Dot] -/
def c_slices_ContainsFunc_api_Dot_api_Dot : VFun := ⟨2,
  (.seq (.ops [⟨some 4, none, .asg (.c (.bool false))⟩] [0, 1])
  (.seq (.ops [⟨some 5, none, .mv (.r 0)⟩,
    ⟨some 6, none, .mv (.r 1)⟩,
    ⟨some 7, none, .call false F.slices_IndexFunc_api_Dot_api_Dot [(.r 5), (.r 6)]⟩,
    ⟨some 8, none, .bin .geq .no (.r 7) (.c (.int .i64 0))⟩,
    ⟨some 4, none, .asg (.r 8)⟩] [4])
  .ret)),
  [.r 4], none⟩
/-- tattler/digest.Lacks$1 -/
def c_digest_Lacks_c1 : VFun := ⟨3,
  (.seq (.ops [⟨some 3, none, .box 2 (.r 0)⟩,
    ⟨some 4, none, .asg (.c (.bool false))⟩] [1, 2, 3])
  (.seq (.ops [⟨some 5, none, .faddr 1 (.r 1)⟩,
    ⟨some 6, none, .faddr 0 (.r 5)⟩,
    ⟨some 7, none, .load true 8 (.r 6)⟩,
    ⟨some 8, none, .load true 2 (.r 3)⟩,
    ⟨some 9, none, .call false F.vector_Covers [(.r 7), (.r 8)]⟩,
    ⟨some 10, none, .mv (.r 9)⟩,
    ⟨some 11, some (10, true), .load false 1 (.r 2)⟩,
    ⟨some 12, some (10, true), .load true 2 (.r 3)⟩,
    ⟨some 13, some (10, true), .call false F.slices_Contains_api_Dot_api_Dot [(.r 11), (.r 12)]⟩,
    ⟨some 14, some (10, true), .un .not (.r 13)⟩,
    ⟨some 15, none, .pick (.r 10) (.r 14) (.c (.bool false))⟩,
    ⟨some 4, none, .asg (.r 15)⟩] [4])
  .ret)),
  [.r 4], none⟩
/-- tattler/vector.Covers -/
def c_vector_Covers : VFun := ⟨2,
  (.seq (.ops [⟨some 2, none, .box 8 (.r 0)⟩,
    ⟨some 3, none, .box 2 (.r 1)⟩,
    ⟨some 4, none, .asg (.c (.bool false))⟩] [2, 3])
  (.seq (.dops 15 [⟨some 5, none, .faddr 0 (.r 3)⟩,
    ⟨some 6, none, .load false 1 (.r 5)⟩,
    ⟨some 7, none, .call true F.vector_is [(.r 6)]⟩,
    ⟨some 8, none, .mv (.r 7)⟩,
    ⟨some 9, some (8, true), .faddr 1 (.r 3)⟩,
    ⟨some 10, some (8, true), .load false 1 (.r 9)⟩,
    ⟨some 11, some (8, true), .bin .geq .no (.r 10) (.c (.int .i64 1))⟩,
    ⟨some 12, none, .pick (.r 8) (.r 11) (.c (.bool false))⟩,
    ⟨some 13, none, .mv (.r 12)⟩,
    ⟨some 14, some (13, true), .faddr 1 (.r 3)⟩,
    ⟨some 15, some (13, true), .load false 1 (.r 14)⟩,
    ⟨some 16, some (13, true), .faddr 0 (.r 3)⟩,
    ⟨some 17, some (13, true), .load false 1 (.r 16)⟩,
    ⟨some 18, some (13, true), .iaddr (some 8) 1 (.r 2) (.r 17)⟩,
    ⟨some 19, some (13, true), .load false 1 (.r 18)⟩,
    ⟨some 20, some (13, true), .bin .leq .no (.r 15) (.r 19)⟩,
    ⟨some 21, none, .pick (.r 13) (.r 20) (.c (.bool false))⟩,
    ⟨some 4, none, .asg (.r 21)⟩] [4])
  .ret)),
  [.r 4], none⟩
/-- slices.Contains[[]tattler/api.Dot,tattler/api.Dot] -/
def c_slices_Contains_api_Dot_api_Dot : VFun := ⟨2,
  (.seq (.ops [⟨some 3, none, .box 2 (.r 1)⟩,
    ⟨some 4, none, .asg (.c (.bool false))⟩] [0, 3])
  (.seq (.ops [⟨some 5, none, .mv (.r 0)⟩,
    ⟨some 6, none, .load true 2 (.r 3)⟩,
    ⟨some 7, none, .call false F.slices_Index_api_Dot_api_Dot [(.r 5), (.r 6)]⟩,
    ⟨some 8, none, .bin .geq .no (.r 7) (.c (.int .i64 0))⟩,
    ⟨some 4, none, .asg (.r 8)⟩] [4])
  .ret)),
  [.r 4], none⟩
/-- (*tattler/wire.Writer).Text -/
def c_wire_Writer_Text : VFun := ⟨2,
  (.ops [⟨some 4, none, .mv (.r 0)⟩,
  ⟨some 5, none, .mv (.r 1)⟩,
  ⟨some 6, none, .len .sl (.r 5)⟩,
  ⟨some 7, none, .conv (.toInt .u64) (.r 6)⟩,
  ⟨some 8, none, .call false F.wire_num [(.r 7)]⟩,
  ⟨some 9, none, .mv (.r 1)⟩,
  ⟨some 10, none, .app (.reg 8) 1 1 (.r 8) (.r 9)⟩,
  ⟨some 11, none, .call false F.wire_Writer_put [(.r 4), (.r 10)]⟩] []),
  [], none⟩
def c_vector_Write_l0 : VCode := (.seq (.ops [⟨some 8, none, .bin .lss .no (.r 7) (.c (.int .i64 8))⟩] [0, 6, 7, 8])
  (.seq (.cond (.r 8) .skip (.exit 0))
  (.seq (.block 1 (.seq (.ops [⟨some 9, none, .index false 8 1 false (.r 6) (.r 7)⟩,
        ⟨some 5, none, .asg (.r 9)⟩] [0, 5, 6, 7])
      (.ops [⟨some 10, none, .mv (.r 0)⟩,
      ⟨some 11, none, .mv (.r 5)⟩,
      ⟨some 12, none, .call false F.wire_Writer_Int [(.r 10), (.r 11)]⟩] [0, 6, 7])))
  (.ops [⟨some 13, none, .bin .add .no (.r 7) (.c (.int .i64 1))⟩,
  ⟨some 7, none, .mv (.r 13)⟩] [0, 6, 7]))))
/-- tattler/vector.Write -/
def c_vector_Write : VFun := ⟨2,
  (.seq (.ops [⟨some 3, none, .box 8 (.r 1)⟩] [0, 3])
  (.seq (.ops [⟨some 6, none, .load true 8 (.r 3)⟩,
    ⟨some 7, none, .mv (.c (.int .i64 0))⟩] [0, 6, 7])
  (.block 0 (.loop [0, 6, 7] [] c_vector_Write_l0)))),
  [], none⟩
/-- (*tattler/wire.Writer).Num -/
def c_wire_Writer_Num : VFun := ⟨2,
  (.ops [⟨some 4, none, .mv (.r 0)⟩,
  ⟨some 5, none, .mv (.r 1)⟩,
  ⟨some 6, none, .call false F.wire_num [(.r 5)]⟩,
  ⟨some 7, none, .call false F.wire_Writer_put [(.r 4), (.r 6)]⟩] []),
  [], none⟩
/-- (*tattler/wire.Writer).Int -/
def c_wire_Writer_Int : VFun := ⟨2,
  (.ops [⟨some 4, none, .mv (.r 0)⟩,
  ⟨some 5, none, .mv (.r 1)⟩,
  ⟨some 6, none, .conv (.toInt .u64) (.r 5)⟩,
  ⟨some 7, none, .bin .shl .no (.r 6) (.c (.int .u64 1))⟩,
  ⟨some 8, none, .mv (.r 1)⟩,
  ⟨some 9, none, .bin .shr .no (.r 8) (.c (.int .u64 63))⟩,
  ⟨some 10, none, .conv (.toInt .u64) (.r 9)⟩,
  ⟨some 11, none, .bin .xor .no (.r 7) (.r 10)⟩,
  ⟨some 12, none, .call false F.wire_num [(.r 11)]⟩,
  ⟨some 13, none, .call false F.wire_Writer_put [(.r 4), (.r 12)]⟩] []),
  [], none⟩
/-- slices.Clone[[]byte,byte] -/
def c_slices_Clone_byte_byte : VFun := ⟨1,
  (.seq (.ops [⟨some 2, none, .asg (.c (.sl []))⟩] [0])
  (.amb (.ops [⟨some 3, none, .mv (.r 0)⟩,
    ⟨some 4, none, .isnil (.r 3)⟩] [0, 4]) (.r 4) (.seq (.ops [⟨some 2, none, .asg (.c (.sl []))⟩] [2])
    .ret) .skip
  (.seq (.ops [⟨some 5, none, .bslice (.int .u8 0) 1 0 []⟩,
      ⟨some 6, none, .mv (.r 0)⟩,
      ⟨some 7, none, .app (.reg 5) 1 1 (.r 5) (.r 6)⟩,
      ⟨some 2, none, .asg (.r 7)⟩] [2])
    .ret))),
  [.r 2], none⟩
def c_vector_Join_l0 : VCode := (.seq (.ops [⟨some 9, none, .bin .lss .no (.r 8) (.c (.int .i64 8))⟩] [2, 4, 7, 8, 9])
  (.seq (.cond (.r 9) .skip (.exit 0))
  (.seq (.block 1 (.seq (.ops [⟨some 10, none, .mv (.r 8)⟩,
        ⟨some 11, none, .index false 8 1 false (.r 7) (.r 8)⟩,
        ⟨some 5, none, .asg (.r 10)⟩,
        ⟨some 6, none, .asg (.r 11)⟩] [2, 4, 5, 6, 7, 8])
      (.ops [⟨some 12, none, .mv (.r 5)⟩,
      ⟨some 13, none, .mv (.r 5)⟩,
      ⟨some 14, none, .iaddr (some 8) 1 (.r 2) (.r 13)⟩,
      ⟨some 15, none, .load false 1 (.r 14)⟩,
      ⟨some 16, none, .mv (.r 6)⟩,
      ⟨some 17, none, .mx [(.r 15), (.r 16)]⟩,
      ⟨some 18, none, .iaddr (some 8) 1 (.r 2) (.r 12)⟩,
      ⟨none, none, .store 1 (.r 18) (.r 17) [] none⟩] [2, 4, 7, 8])))
  (.ops [⟨some 19, none, .bin .add .no (.r 8) (.c (.int .i64 1))⟩,
  ⟨some 8, none, .mv (.r 19)⟩] [2, 4, 7, 8]))))
/-- tattler/vector.Join -/
def c_vector_Join : VFun := ⟨2,
  (.seq (.ops [⟨some 2, none, .box 8 (.r 0)⟩,
    ⟨some 3, none, .box 8 (.r 1)⟩,
    ⟨some 4, none, .alloc [(.int .i64 0), (.int .i64 0), (.int .i64 0), (.int .i64 0), (.int .i64 0), (.int .i64 0), (.int .i64 0), (.int .i64 0)] []⟩] [2, 3, 4])
  (.seq (.seq (.ops [⟨some 7, none, .load true 8 (.r 3)⟩,
      ⟨some 8, none, .mv (.c (.int .i64 0))⟩] [2, 4, 7, 8])
    (.block 0 (.loop [2, 4, 7, 8] [] c_vector_Join_l0)))
  (.seq (.ops [⟨some 20, none, .load true 8 (.r 2)⟩,
    ⟨none, none, .store 8 (.r 4) (.r 20) [] none⟩] [4])
  .ret))),
  [.cell 4 true 8], none⟩
def c_slices_IndexFunc_api_Digest_api_Digest_l0 : VCode := (.seq (.ops [⟨some 9, none, .bin .lss .no (.r 8) (.r 7)⟩] [0, 1, 7, 8, 9])
  (.seq (.cond (.r 9) .skip (.exit 0))
  (.seq (.block 1 (.seq (.ops [⟨some 10, none, .mv (.r 8)⟩,
        ⟨some 5, none, .asg (.r 10)⟩] [0, 1, 5, 7, 8])
      (.seq (.ops [⟨some 11, none, .mv (.r 1)⟩,
        ⟨some 12, none, .mv (.r 0)⟩,
        ⟨some 13, none, .mv (.r 5)⟩,
        ⟨some 14, none, .iaddr none 10 (.r 12) (.r 13)⟩,
        ⟨some 15, none, .load true 10 (.r 14)⟩,
        ⟨some 16, none, .callv false (.r 11) [(.r 15)]⟩] [0, 1, 5, 7, 8, 16])
      (.cond (.r 16) (.seq (.ops [⟨some 17, none, .mv (.r 5)⟩,
          ⟨some 4, none, .asg (.r 17)⟩] [4])
        .ret) .skip))))
  (.ops [⟨some 18, none, .bin .add .no (.r 8) (.c (.int .i64 1))⟩,
  ⟨some 8, none, .mv (.r 18)⟩] [0, 1, 7, 8]))))
/-- slices.IndexFunc[[]tattler/api.Digest,tattler/api.Digest] -/
def c_slices_IndexFunc_api_Digest_api_Digest : VFun := ⟨2,
  (.seq (.ops [⟨some 4, none, .asg (.c (.int .i64 0))⟩] [0, 1])
  (.seq (.seq (.ops [⟨some 6, none, .mv (.r 0)⟩,
      ⟨some 7, none, .len .sl (.r 6)⟩,
      ⟨some 8, none, .mv (.c (.int .i64 0))⟩] [0, 1, 7, 8])
    (.block 0 (.loop [0, 1, 7, 8] [] c_slices_IndexFunc_api_Digest_api_Digest_l0)))
  (.seq (.ops [⟨some 4, none, .asg (.c (.int .i64 (-1)))⟩] [4])
  .ret))),
  [.r 4], none⟩
/-- tattler/digest.lacked$1 -/
def c_digest_lacked_c1 : VFun := ⟨2,
  (.seq (.ops [⟨some 2, none, .box 10 (.r 0)⟩,
    ⟨some 3, none, .asg (.c (.bool false))⟩] [1, 2])
  (.seq (.ops [⟨some 4, none, .faddr 0 (.r 2)⟩,
    ⟨some 5, none, .load false 1 (.r 4)⟩,
    ⟨some 6, none, .faddr 0 (.r 1)⟩,
    ⟨some 7, none, .load false 1 (.r 6)⟩,
    ⟨some 8, none, .bin .eql .no (.r 5) (.r 7)⟩,
    ⟨some 3, none, .asg (.r 8)⟩] [3])
  .ret)),
  [.r 3], none⟩
def c_sibs_Write_l0 : VCode := (.seq (.ops [⟨some 20, none, .bin .lss .no (.r 19) (.r 18)⟩] [0, 17, 18, 19, 20])
  (.seq (.cond (.r 20) .skip (.exit 0))
  (.seq (.block 1 (.seq (.ops [⟨some 21, none, .iaddr none 4 (.r 17) (.r 19)⟩,
        ⟨some 22, none, .load true 4 (.r 21)⟩,
        ⟨some 5, none, .alloc [(.int .i64 0), (.int .i64 0), (.sl []), (.bool false)] []⟩,
        ⟨none, none, .store 4 (.r 5) (.r 22) [] none⟩] [0, 5, 17, 18, 19])
      (.seq (.ops [⟨some 23, none, .mv (.r 0)⟩,
        ⟨some 24, none, .faddr 0 (.r 5)⟩,
        ⟨some 25, none, .faddr 0 (.r 24)⟩,
        ⟨some 26, none, .load false 1 (.r 25)⟩,
        ⟨some 27, none, .conv (.toInt .u64) (.r 26)⟩,
        ⟨some 28, none, .call false F.wire_Writer_Num [(.r 23), (.r 27)]⟩] [0, 5, 17, 18, 19])
      (.seq (.ops [⟨some 29, none, .mv (.r 0)⟩,
        ⟨some 30, none, .faddr 0 (.r 5)⟩,
        ⟨some 31, none, .faddr 1 (.r 30)⟩,
        ⟨some 32, none, .load false 1 (.r 31)⟩,
        ⟨some 33, none, .call false F.wire_Writer_Int [(.r 29), (.r 32)]⟩] [0, 5, 17, 18, 19])
      (.seq (.ops [⟨some 34, none, .mv (.r 0)⟩,
        ⟨some 35, none, .faddr 3 (.r 5)⟩,
        ⟨some 36, none, .load false 1 (.r 35)⟩,
        ⟨some 37, none, .call false F.wire_Writer_Flag [(.r 34), (.r 36)]⟩] [0, 5, 17, 18, 19])
      (.ops [⟨some 38, none, .mv (.r 0)⟩,
      ⟨some 39, none, .faddr 2 (.r 5)⟩,
      ⟨some 40, none, .load false 1 (.r 39)⟩,
      ⟨some 41, none, .call false F.wire_Writer_Text [(.r 38), (.r 40)]⟩] [0, 17, 18, 19]))))))
  (.ops [⟨some 42, none, .bin .add .no (.r 19) (.c (.int .i64 1))⟩,
  ⟨some 19, none, .mv (.r 42)⟩] [0, 17, 18, 19]))))
/-- tattler/sibs.Write -/
def c_sibs_Write : VFun := ⟨2,
  (.seq (.ops [⟨some 3, none, .box 9 (.r 1)⟩] [0, 3])
  (.seq (.ops [⟨some 6, none, .mv (.r 0)⟩,
    ⟨some 7, none, .faddr 0 (.r 3)⟩,
    ⟨some 8, none, .load true 8 (.r 7)⟩,
    ⟨some 9, none, .call false F.vector_Write [(.r 6), (.r 8)]⟩] [0, 3])
  (.seq (.ops [⟨some 10, none, .mv (.r 0)⟩,
    ⟨some 11, none, .faddr 8 (.r 3)⟩,
    ⟨some 12, none, .load false 1 (.r 11)⟩,
    ⟨some 13, none, .len .sl (.r 12)⟩,
    ⟨some 14, none, .conv (.toInt .u64) (.r 13)⟩,
    ⟨some 15, none, .call false F.wire_Writer_Num [(.r 10), (.r 14)]⟩] [0, 3])
  (.seq (.ops [⟨some 16, none, .faddr 8 (.r 3)⟩,
    ⟨some 17, none, .load false 1 (.r 16)⟩,
    ⟨some 18, none, .len .sl (.r 17)⟩,
    ⟨some 19, none, .mv (.c (.int .i64 0))⟩] [0, 17, 18, 19])
  (.block 0 (.loop [0, 17, 18, 19] [] c_sibs_Write_l0)))))),
  [], none⟩
def c_slices_IndexFunc_api_Dot_api_Dot_l0 : VCode := (.seq (.ops [⟨some 9, none, .bin .lss .no (.r 8) (.r 7)⟩] [0, 1, 7, 8, 9])
  (.seq (.cond (.r 9) .skip (.exit 0))
  (.seq (.block 1 (.seq (.ops [⟨some 10, none, .mv (.r 8)⟩,
        ⟨some 5, none, .asg (.r 10)⟩] [0, 1, 5, 7, 8])
      (.seq (.ops [⟨some 11, none, .mv (.r 1)⟩,
        ⟨some 12, none, .mv (.r 0)⟩,
        ⟨some 13, none, .mv (.r 5)⟩,
        ⟨some 14, none, .iaddr none 2 (.r 12) (.r 13)⟩,
        ⟨some 15, none, .load true 2 (.r 14)⟩,
        ⟨some 16, none, .callv false (.r 11) [(.r 15)]⟩] [0, 1, 5, 7, 8, 16])
      (.cond (.r 16) (.seq (.ops [⟨some 17, none, .mv (.r 5)⟩,
          ⟨some 4, none, .asg (.r 17)⟩] [4])
        .ret) .skip))))
  (.ops [⟨some 18, none, .bin .add .no (.r 8) (.c (.int .i64 1))⟩,
  ⟨some 8, none, .mv (.r 18)⟩] [0, 1, 7, 8]))))
/-- slices.IndexFunc[[]tattler/api.Dot,tattler/api.Dot] -/
def c_slices_IndexFunc_api_Dot_api_Dot : VFun := ⟨2,
  (.seq (.ops [⟨some 4, none, .asg (.c (.int .i64 0))⟩] [0, 1])
  (.seq (.seq (.ops [⟨some 6, none, .mv (.r 0)⟩,
      ⟨some 7, none, .len .sl (.r 6)⟩,
      ⟨some 8, none, .mv (.c (.int .i64 0))⟩] [0, 1, 7, 8])
    (.block 0 (.loop [0, 1, 7, 8] [] c_slices_IndexFunc_api_Dot_api_Dot_l0)))
  (.seq (.ops [⟨some 4, none, .asg (.c (.int .i64 (-1)))⟩] [4])
  .ret))),
  [.r 4], none⟩
/-- tattler/vector.is -/
def c_vector_is : VFun := ⟨1,
  (.seq (.ops [⟨some 2, none, .asg (.c (.bool false))⟩] [0])
  (.seq (.ops [⟨some 3, none, .mv (.r 0)⟩,
    ⟨some 4, none, .bin .geq .no (.r 3) (.c (.int .i64 0))⟩,
    ⟨some 5, none, .mv (.r 4)⟩,
    ⟨some 6, some (5, true), .mv (.r 0)⟩,
    ⟨some 7, some (5, true), .bin .lss .no (.r 6) (.c (.int .i64 8))⟩,
    ⟨some 8, none, .pick (.r 5) (.r 7) (.c (.bool false))⟩,
    ⟨some 2, none, .asg (.r 8)⟩] [2])
  .ret)),
  [.r 2], none⟩
def c_slices_Index_api_Dot_api_Dot_l0 : VCode := (.seq (.ops [⟨some 9, none, .bin .lss .no (.r 8) (.r 7)⟩] [0, 3, 7, 8, 9])
  (.seq (.cond (.r 9) .skip (.exit 0))
  (.seq (.block 1 (.seq (.ops [⟨some 10, none, .mv (.r 8)⟩,
        ⟨some 5, none, .asg (.r 10)⟩] [0, 3, 5, 7, 8])
      (.seq (.dops 5 [⟨some 11, none, .load true 2 (.r 3)⟩,
        ⟨some 12, none, .mv (.r 0)⟩,
        ⟨some 13, none, .mv (.r 5)⟩,
        ⟨some 14, none, .iaddr none 2 (.r 12) (.r 13)⟩,
        ⟨some 15, none, .load true 2 (.r 14)⟩,
        ⟨some 16, none, .bin .eql (.agg [.i, .i]) (.r 11) (.r 15)⟩] [0, 3, 5, 7, 8, 16])
      (.cond (.r 16) (.seq (.ops [⟨some 17, none, .mv (.r 5)⟩,
          ⟨some 4, none, .asg (.r 17)⟩] [4])
        .ret) .skip))))
  (.ops [⟨some 18, none, .bin .add .no (.r 8) (.c (.int .i64 1))⟩,
  ⟨some 8, none, .mv (.r 18)⟩] [0, 3, 7, 8]))))
/-- slices.Index[[]tattler/api.Dot,tattler/api.Dot] -/
def c_slices_Index_api_Dot_api_Dot : VFun := ⟨2,
  (.seq (.ops [⟨some 3, none, .box 2 (.r 1)⟩,
    ⟨some 4, none, .asg (.c (.int .i64 0))⟩] [0, 3])
  (.seq (.seq (.ops [⟨some 6, none, .mv (.r 0)⟩,
      ⟨some 7, none, .len .sl (.r 6)⟩,
      ⟨some 8, none, .mv (.c (.int .i64 0))⟩] [0, 3, 7, 8])
    (.block 0 (.loop [0, 3, 7, 8] [] c_slices_Index_api_Dot_api_Dot_l0)))
  (.seq (.ops [⟨some 4, none, .asg (.c (.int .i64 (-1)))⟩] [4])
  .ret))),
  [.r 4], none⟩
/-- (*tattler/wire.Writer).put -/
def c_wire_Writer_put : VFun := ⟨2,
  (.seq (.seq (.dops 21 [⟨some 4, none, .mv (.r 0)⟩,
      ⟨some 5, none, .bin .eql .ptr (.r 4) (.c (.ptr none))⟩,
      ⟨some 6, none, .mv (.r 5)⟩,
      ⟨some 7, some (6, false), .mv (.r 0)⟩,
      ⟨some 8, some (6, false), .nilck (.r 7)⟩,
      ⟨some 9, some (6, false), .faddr 2 (.r 8)⟩,
      ⟨some 10, some (6, false), .load false 1 (.r 9)⟩,
      ⟨some 11, none, .pick (.r 6) (.c (.bool true)) (.r 10)⟩,
      ⟨some 12, none, .mv (.r 11)⟩,
      ⟨some 13, some (12, false), .mv (.r 1)⟩,
      ⟨some 14, some (12, false), .len .sl (.r 13)⟩,
      ⟨some 15, some (12, false), .mv (.r 0)⟩,
      ⟨some 16, some (12, false), .nilck (.r 15)⟩,
      ⟨some 17, some (12, false), .faddr 1 (.r 16)⟩,
      ⟨some 18, some (12, false), .load false 1 (.r 17)⟩,
      ⟨some 19, some (12, false), .mv (.r 0)⟩,
      ⟨some 20, some (12, false), .nilck (.r 19)⟩,
      ⟨some 21, some (12, false), .faddr 0 (.r 20)⟩,
      ⟨some 22, some (12, false), .load false 1 (.r 21)⟩,
      ⟨some 23, some (12, false), .len .sl (.r 22)⟩,
      ⟨some 24, some (12, false), .bin .sub .no (.r 18) (.r 23)⟩,
      ⟨some 25, some (12, false), .bin .gtr .no (.r 14) (.r 24)⟩,
      ⟨some 26, none, .pick (.r 12) (.c (.bool true)) (.r 25)⟩] [0, 1, 26])
    (.cond (.r 26) (.seq (.seq (.ops [⟨some 27, none, .mv (.r 0)⟩,
          ⟨some 28, none, .bin .neq .ptr (.r 27) (.c (.ptr none))⟩] [0, 28])
        (.cond (.r 28) (.ops [⟨some 29, none, .mv (.r 0)⟩,
          ⟨some 30, none, .nilck (.r 29)⟩,
          ⟨some 31, none, .faddr 2 (.r 30)⟩,
          ⟨none, none, .store 1 (.r 31) (.c (.bool true)) [] none⟩] []) .skip))
      .ret) .skip))
  (.ops [⟨some 32, none, .mv (.r 0)⟩,
  ⟨some 33, none, .mv (.r 0)⟩,
  ⟨some 34, none, .nilck (.r 33)⟩,
  ⟨some 35, none, .faddr 0 (.r 34)⟩,
  ⟨some 36, none, .load false 1 (.r 35)⟩,
  ⟨some 37, none, .mv (.r 1)⟩,
  ⟨some 38, none, .appc 35 1 1 (.r 36) (.r 37)⟩,
  ⟨some 39, none, .nilck (.r 32)⟩,
  ⟨some 40, none, .faddr 0 (.r 39)⟩,
  ⟨none, none, .store 1 (.r 40) (.r 38) [(0, 1)] (some 35)⟩] [])),
  [], none⟩
def c_wire_num_l0 : VCode := (.seq (.seq (.ops [⟨some 4, none, .mv (.r 0)⟩,
      ⟨some 5, none, .bin .geq .no (.r 4) (.c (.int .u64 128))⟩] [0, 3, 5])
    (.cond (.r 5) .skip (.exit 0)))
  (.block 1 (.seq (.ops [⟨some 6, none, .mv (.r 3)⟩,
      ⟨some 7, none, .mv (.r 0)⟩,
      ⟨some 8, none, .conv (.toInt .u8) (.r 7)⟩,
      ⟨some 9, none, .bin .or .no (.r 8) (.c (.int .u8 128))⟩,
      ⟨some 10, none, .bslice (.int .u8 0) 1 1 [(0, (.r 9))]⟩,
      ⟨some 11, none, .app (.reg 3) 1 1 (.r 6) (.r 10)⟩,
      ⟨some 3, none, .asg (.r 11)⟩] [0, 3])
    (.ops [⟨some 12, none, .mv (.r 0)⟩,
    ⟨some 13, none, .bin .shr .no (.r 12) (.c (.int .u64 7))⟩,
    ⟨some 0, none, .asg (.r 13)⟩] [0, 3]))))
/-- tattler/wire.num -/
def c_wire_num : VFun := ⟨1,
  (.seq (.ops [⟨some 2, none, .asg (.c (.sl []))⟩] [0])
  (.seq (.ops [⟨some 3, none, .asg (.c (.sl []))⟩] [0, 3])
  (.seq (.block 0 (.loop [0, 3] [(2, 0, 0), (3, 0, 1)] c_wire_num_l0))
  (.seq (.ops [⟨some 14, none, .mv (.r 3)⟩,
    ⟨some 15, none, .mv (.r 0)⟩,
    ⟨some 16, none, .conv (.toInt .u8) (.r 15)⟩,
    ⟨some 17, none, .bslice (.int .u8 0) 1 1 [(0, (.r 16))]⟩,
    ⟨some 18, none, .app (.reg 3) 1 1 (.r 14) (.r 17)⟩,
    ⟨some 2, none, .asg (.r 18)⟩] [2])
  .ret)))),
  [.r 2], none⟩
/-- (*tattler/wire.Writer).Flag -/
def c_wire_Writer_Flag : VFun := ⟨2,
  (.seq (.ops [⟨some 4, none, .mv (.r 1)⟩] [0, 4])
  (.cond (.r 4) (.ops [⟨some 5, none, .mv (.r 0)⟩,
    ⟨some 6, none, .bslice (.int .u8 0) 1 1 [(0, (.c (.int .u8 1)))]⟩,
    ⟨some 7, none, .call false F.wire_Writer_put [(.r 5), (.r 6)]⟩] []) (.ops [⟨some 8, none, .mv (.r 0)⟩,
    ⟨some 9, none, .bslice (.int .u8 0) 1 1 [(0, (.c (.int .u8 0)))]⟩,
    ⟨some 10, none, .call false F.wire_Writer_put [(.r 8), (.r 9)]⟩] []))),
  [], none⟩
def R : Nat → Option Nat := fun f => cnd (decide (f = F.wire_num)) (some 1) (none)
theorem ok_tattlerlaw13_DigestPart : FunOk Try.prog R F.tattlerlaw13_DigestPart c_tattlerlaw13_DigestPart := funOk_of Try.func7 rfl (by kernel_rfl) (by kernel_rfl) (by kernel_rfl) (by kernel_rfl) (linC_of (by kernel_rfl)) (by kernel_rfl) (of_decide_eq_true (by kernel_rfl)) (by kernel_rfl)
theorem ok_tattlerlaw13_light : FunOk Try.prog R F.tattlerlaw13_light c_tattlerlaw13_light := funOk_of Try.func20 rfl (by kernel_rfl) (by kernel_rfl) (by kernel_rfl) (by kernel_rfl) (linC_of (by kernel_rfl)) (by kernel_rfl) (of_decide_eq_true (by kernel_rfl)) (by kernel_rfl)
theorem ok_tattlerlaw13_thin : FunOk Try.prog R F.tattlerlaw13_thin c_tattlerlaw13_thin := funOk_of Try.func21 rfl (by kernel_rfl) (by kernel_rfl) (by kernel_rfl) (by kernel_rfl) (linC_of (by kernel_rfl)) (by kernel_rfl) (of_decide_eq_true (by kernel_rfl)) (by kernel_rfl)
theorem ok_tattlerlaw13_awake : FunOk Try.prog R F.tattlerlaw13_awake c_tattlerlaw13_awake := funOk_of Try.func22 rfl (by kernel_rfl) (by kernel_rfl) (by kernel_rfl) (by kernel_rfl) (linC_of (by kernel_rfl)) (by kernel_rfl) (of_decide_eq_true (by kernel_rfl)) (by kernel_rfl)
theorem ok_digest_Send : FunOk Try.prog R F.digest_Send c_digest_Send := funOk_of Try.func23 rfl (by kernel_rfl) (by kernel_rfl) (by kernel_rfl) (by kernel_rfl) (linC_of (by kernel_rfl)) (by kernel_rfl) (of_decide_eq_true (by kernel_rfl)) (by kernel_rfl)
theorem ok_tattlerref5_SameEntries : FunOk Try.prog R F.tattlerref5_SameEntries c_tattlerref5_SameEntries := funOk_of Try.func24 rfl (by kernel_rfl) (by kernel_rfl) (by kernel_rfl) (by kernel_rfl) (linC_of (by kernel_rfl)) (by kernel_rfl) (of_decide_eq_true (by kernel_rfl)) (by kernel_rfl)
theorem ok_digest_Size : FunOk Try.prog R F.digest_Size c_digest_Size := funOk_of Try.func25 rfl (by kernel_rfl) (by kernel_rfl) (by kernel_rfl) (by kernel_rfl) (linC_of (by kernel_rfl)) (by kernel_rfl) (of_decide_eq_true (by kernel_rfl)) (by kernel_rfl)
theorem ok_digest_Lacks : FunOk Try.prog R F.digest_Lacks c_digest_Lacks := funOk_of Try.func32 rfl (by kernel_rfl) (by kernel_rfl) (by kernel_rfl) (by kernel_rfl) (linC_of (by kernel_rfl)) (by kernel_rfl) (of_decide_eq_true (by kernel_rfl)) (by kernel_rfl)
theorem ok_wire_NewWriter : FunOk Try.prog R F.wire_NewWriter c_wire_NewWriter := funOk_of Try.func33 rfl (by kernel_rfl) (by kernel_rfl) (by kernel_rfl) (by kernel_rfl) (linC_of (by kernel_rfl)) (by kernel_rfl) (of_decide_eq_true (by kernel_rfl)) (by kernel_rfl)
theorem ok_wire_Writer_Done : FunOk Try.prog R F.wire_Writer_Done c_wire_Writer_Done := funOk_of Try.func35 rfl (by kernel_rfl) (by kernel_rfl) (by kernel_rfl) (by kernel_rfl) (linC_of (by kernel_rfl)) (by kernel_rfl) (of_decide_eq_true (by kernel_rfl)) (by kernel_rfl)
theorem ok_digest_lacked : FunOk Try.prog R F.digest_lacked c_digest_lacked := funOk_of Try.func43 rfl (by kernel_rfl) (by kernel_rfl) (by kernel_rfl) (by kernel_rfl) (linC_of (by kernel_rfl)) (by kernel_rfl) (of_decide_eq_true (by kernel_rfl)) (by kernel_rfl)
theorem ok_digest_copied : FunOk Try.prog R F.digest_copied c_digest_copied := funOk_of Try.func44 rfl (by kernel_rfl) (by kernel_rfl) (by kernel_rfl) (by kernel_rfl) (linC_of (by kernel_rfl)) (by kernel_rfl) (of_decide_eq_true (by kernel_rfl)) (by kernel_rfl)
theorem ok_tattlerref5_Same : FunOk Try.prog R F.tattlerref5_Same c_tattlerref5_Same := funOk_of Try.func45 rfl (by kernel_rfl) (by kernel_rfl) (by kernel_rfl) (by kernel_rfl) (linC_of (by kernel_rfl)) (by kernel_rfl) (of_decide_eq_true (by kernel_rfl)) (by kernel_rfl)
theorem ok_sibs_WriteEntry : FunOk Try.prog R F.sibs_WriteEntry c_sibs_WriteEntry := funOk_of Try.func46 rfl (by kernel_rfl) (by kernel_rfl) (by kernel_rfl) (by kernel_rfl) (linC_of (by kernel_rfl)) (by kernel_rfl) (of_decide_eq_true (by kernel_rfl)) (by kernel_rfl)
theorem ok_digest_dots : FunOk Try.prog R F.digest_dots c_digest_dots := funOk_of Try.func49 rfl (by kernel_rfl) (by kernel_rfl) (by kernel_rfl) (by kernel_rfl) (linC_of (by kernel_rfl)) (by kernel_rfl) (of_decide_eq_true (by kernel_rfl)) (by kernel_rfl)
theorem ok_vector_Leq : FunOk Try.prog R F.vector_Leq c_vector_Leq := funOk_of Try.func53 rfl (by kernel_rfl) (by kernel_rfl) (by kernel_rfl) (by kernel_rfl) (linC_of (by kernel_rfl)) (by kernel_rfl) (of_decide_eq_true (by kernel_rfl)) (by kernel_rfl)
theorem ok_slices_ContainsFunc_api_Dot_api_Dot : FunOk Try.prog R F.slices_ContainsFunc_api_Dot_api_Dot c_slices_ContainsFunc_api_Dot_api_Dot := funOk_of Try.func54 rfl (by kernel_rfl) (by kernel_rfl) (by kernel_rfl) (by kernel_rfl) (linC_of (by kernel_rfl)) (by kernel_rfl) (of_decide_eq_true (by kernel_rfl)) (by kernel_rfl)
theorem ok_digest_Lacks_c1 : FunOk Try.prog R F.digest_Lacks_c1 c_digest_Lacks_c1 := funOk_of Try.func55 rfl (by kernel_rfl) (by kernel_rfl) (by kernel_rfl) (by kernel_rfl) (linC_of (by kernel_rfl)) (by kernel_rfl) (of_decide_eq_true (by kernel_rfl)) (by kernel_rfl)
theorem ok_vector_Covers : FunOk Try.prog R F.vector_Covers c_vector_Covers := funOk_of Try.func56 rfl (by kernel_rfl) (by kernel_rfl) (by kernel_rfl) (by kernel_rfl) (linC_of (by kernel_rfl)) (by kernel_rfl) (of_decide_eq_true (by kernel_rfl)) (by kernel_rfl)
theorem ok_slices_Contains_api_Dot_api_Dot : FunOk Try.prog R F.slices_Contains_api_Dot_api_Dot c_slices_Contains_api_Dot_api_Dot := funOk_of Try.func57 rfl (by kernel_rfl) (by kernel_rfl) (by kernel_rfl) (by kernel_rfl) (linC_of (by kernel_rfl)) (by kernel_rfl) (of_decide_eq_true (by kernel_rfl)) (by kernel_rfl)
theorem ok_wire_Writer_Text : FunOk Try.prog R F.wire_Writer_Text c_wire_Writer_Text := funOk_of Try.func58 rfl (by kernel_rfl) (by kernel_rfl) (by kernel_rfl) (by kernel_rfl) (linC_of (by kernel_rfl)) (by kernel_rfl) (of_decide_eq_true (by kernel_rfl)) (by kernel_rfl)
theorem ok_vector_Write : FunOk Try.prog R F.vector_Write c_vector_Write := funOk_of Try.func59 rfl (by kernel_rfl) (by kernel_rfl) (by kernel_rfl) (by kernel_rfl) (linC_of (by kernel_rfl)) (by kernel_rfl) (of_decide_eq_true (by kernel_rfl)) (by kernel_rfl)
theorem ok_wire_Writer_Num : FunOk Try.prog R F.wire_Writer_Num c_wire_Writer_Num := funOk_of Try.func60 rfl (by kernel_rfl) (by kernel_rfl) (by kernel_rfl) (by kernel_rfl) (linC_of (by kernel_rfl)) (by kernel_rfl) (of_decide_eq_true (by kernel_rfl)) (by kernel_rfl)
theorem ok_wire_Writer_Int : FunOk Try.prog R F.wire_Writer_Int c_wire_Writer_Int := funOk_of Try.func61 rfl (by kernel_rfl) (by kernel_rfl) (by kernel_rfl) (by kernel_rfl) (linC_of (by kernel_rfl)) (by kernel_rfl) (of_decide_eq_true (by kernel_rfl)) (by kernel_rfl)
theorem ok_slices_Clone_byte_byte : FunOk Try.prog R F.slices_Clone_byte_byte c_slices_Clone_byte_byte := funOk_of Try.func62 rfl (by kernel_rfl) (by kernel_rfl) (by kernel_rfl) (by kernel_rfl) (linC_of (by kernel_rfl)) (by kernel_rfl) (of_decide_eq_true (by kernel_rfl)) (by kernel_rfl)
theorem ok_vector_Join : FunOk Try.prog R F.vector_Join c_vector_Join := funOk_of Try.func80 rfl (by kernel_rfl) (by kernel_rfl) (by kernel_rfl) (by kernel_rfl) (linC_of (by kernel_rfl)) (by kernel_rfl) (of_decide_eq_true (by kernel_rfl)) (by kernel_rfl)
theorem ok_slices_IndexFunc_api_Digest_api_Digest : FunOk Try.prog R F.slices_IndexFunc_api_Digest_api_Digest c_slices_IndexFunc_api_Digest_api_Digest := funOk_of Try.func81 rfl (by kernel_rfl) (by kernel_rfl) (by kernel_rfl) (by kernel_rfl) (linC_of (by kernel_rfl)) (by kernel_rfl) (of_decide_eq_true (by kernel_rfl)) (by kernel_rfl)
theorem ok_digest_lacked_c1 : FunOk Try.prog R F.digest_lacked_c1 c_digest_lacked_c1 := funOk_of Try.func82 rfl (by kernel_rfl) (by kernel_rfl) (by kernel_rfl) (by kernel_rfl) (linC_of (by kernel_rfl)) (by kernel_rfl) (of_decide_eq_true (by kernel_rfl)) (by kernel_rfl)
theorem ok_sibs_Write : FunOk Try.prog R F.sibs_Write c_sibs_Write := funOk_of Try.func83 rfl (by kernel_rfl) (by kernel_rfl) (by kernel_rfl) (by kernel_rfl) (linC_of (by kernel_rfl)) (by kernel_rfl) (of_decide_eq_true (by kernel_rfl)) (by kernel_rfl)
theorem ok_slices_IndexFunc_api_Dot_api_Dot : FunOk Try.prog R F.slices_IndexFunc_api_Dot_api_Dot c_slices_IndexFunc_api_Dot_api_Dot := funOk_of Try.func90 rfl (by kernel_rfl) (by kernel_rfl) (by kernel_rfl) (by kernel_rfl) (linC_of (by kernel_rfl)) (by kernel_rfl) (of_decide_eq_true (by kernel_rfl)) (by kernel_rfl)
theorem ok_vector_is : FunOk Try.prog R F.vector_is c_vector_is := funOk_of Try.func91 rfl (by kernel_rfl) (by kernel_rfl) (by kernel_rfl) (by kernel_rfl) (linC_of (by kernel_rfl)) (by kernel_rfl) (of_decide_eq_true (by kernel_rfl)) (by kernel_rfl)
theorem ok_slices_Index_api_Dot_api_Dot : FunOk Try.prog R F.slices_Index_api_Dot_api_Dot c_slices_Index_api_Dot_api_Dot := funOk_of Try.func92 rfl (by kernel_rfl) (by kernel_rfl) (by kernel_rfl) (by kernel_rfl) (linC_of (by kernel_rfl)) (by kernel_rfl) (of_decide_eq_true (by kernel_rfl)) (by kernel_rfl)
theorem ok_wire_Writer_put : FunOk Try.prog R F.wire_Writer_put c_wire_Writer_put := funOk_of Try.func93 rfl (by kernel_rfl) (by kernel_rfl) (by kernel_rfl) (by kernel_rfl) (linC_of (by kernel_rfl)) (by kernel_rfl) (of_decide_eq_true (by kernel_rfl)) (by kernel_rfl)
theorem ok_wire_num : FunOk Try.prog R F.wire_num c_wire_num := funOk_of Try.func94 rfl (by kernel_rfl) (by kernel_rfl) (by kernel_rfl) (by kernel_rfl) (linC_of (by kernel_rfl)) (by kernel_rfl) (of_decide_eq_true (by kernel_rfl)) (by kernel_rfl)
theorem ok_wire_Writer_Flag : FunOk Try.prog R F.wire_Writer_Flag c_wire_Writer_Flag := funOk_of Try.func108 rfl (by kernel_rfl) (by kernel_rfl) (by kernel_rfl) (by kernel_rfl) (linC_of (by kernel_rfl)) (by kernel_rfl) (of_decide_eq_true (by kernel_rfl)) (by kernel_rfl)
def tab : List (Nat × VFun) := [(F.tattlerlaw13_DigestPart, c_tattlerlaw13_DigestPart), (F.tattlerlaw13_light, c_tattlerlaw13_light), (F.tattlerlaw13_thin, c_tattlerlaw13_thin), (F.tattlerlaw13_awake, c_tattlerlaw13_awake), (F.digest_Send, c_digest_Send), (F.tattlerref5_SameEntries, c_tattlerref5_SameEntries), (F.digest_Size, c_digest_Size), (F.digest_Lacks, c_digest_Lacks), (F.wire_NewWriter, c_wire_NewWriter), (F.wire_Writer_Done, c_wire_Writer_Done), (F.digest_lacked, c_digest_lacked), (F.digest_copied, c_digest_copied), (F.tattlerref5_Same, c_tattlerref5_Same), (F.sibs_WriteEntry, c_sibs_WriteEntry), (F.digest_dots, c_digest_dots), (F.vector_Leq, c_vector_Leq), (F.slices_ContainsFunc_api_Dot_api_Dot, c_slices_ContainsFunc_api_Dot_api_Dot), (F.digest_Lacks_c1, c_digest_Lacks_c1), (F.vector_Covers, c_vector_Covers), (F.slices_Contains_api_Dot_api_Dot, c_slices_Contains_api_Dot_api_Dot), (F.wire_Writer_Text, c_wire_Writer_Text), (F.vector_Write, c_vector_Write), (F.wire_Writer_Num, c_wire_Writer_Num), (F.wire_Writer_Int, c_wire_Writer_Int), (F.slices_Clone_byte_byte, c_slices_Clone_byte_byte), (F.vector_Join, c_vector_Join), (F.slices_IndexFunc_api_Digest_api_Digest, c_slices_IndexFunc_api_Digest_api_Digest), (F.digest_lacked_c1, c_digest_lacked_c1), (F.sibs_Write, c_sibs_Write), (F.slices_IndexFunc_api_Dot_api_Dot, c_slices_IndexFunc_api_Dot_api_Dot), (F.vector_is, c_vector_is), (F.slices_Index_api_Dot_api_Dot, c_slices_Index_api_Dot_api_Dot), (F.wire_Writer_put, c_wire_Writer_put), (F.wire_num, c_wire_num), (F.wire_Writer_Flag, c_wire_Writer_Flag)]
abbrev E : Env := ⟨tabFn tab, fun _ => none⟩
theorem envOk : EnvOk Try.prog R E := env_tab Try.checked.mixed ⟨ok_tattlerlaw13_DigestPart, ok_tattlerlaw13_light, ok_tattlerlaw13_thin, ok_tattlerlaw13_awake, ok_digest_Send, ok_tattlerref5_SameEntries, ok_digest_Size, ok_digest_Lacks, ok_wire_NewWriter, ok_wire_Writer_Done, ok_digest_lacked, ok_digest_copied, ok_tattlerref5_Same, ok_sibs_WriteEntry, ok_digest_dots, ok_vector_Leq, ok_slices_ContainsFunc_api_Dot_api_Dot, ok_digest_Lacks_c1, ok_vector_Covers, ok_slices_Contains_api_Dot_api_Dot, ok_wire_Writer_Text, ok_vector_Write, ok_wire_Writer_Num, ok_wire_Writer_Int, ok_slices_Clone_byte_byte, ok_vector_Join, ok_slices_IndexFunc_api_Digest_api_Digest, ok_digest_lacked_c1, ok_sibs_Write, ok_slices_IndexFunc_api_Dot_api_Dot, ok_vector_is, ok_slices_Index_api_Dot_api_Dot, ok_wire_Writer_put, ok_wire_num, ok_wire_Writer_Flag, trivial⟩
theorem fn_tattlerlaw13_DigestPart : E.fn F.tattlerlaw13_DigestPart = some c_tattlerlaw13_DigestPart := rfl
theorem fn_tattlerlaw13_light : E.fn F.tattlerlaw13_light = some c_tattlerlaw13_light := rfl
theorem fn_tattlerlaw13_thin : E.fn F.tattlerlaw13_thin = some c_tattlerlaw13_thin := rfl
theorem fn_tattlerlaw13_awake : E.fn F.tattlerlaw13_awake = some c_tattlerlaw13_awake := rfl
theorem fn_digest_Send : E.fn F.digest_Send = some c_digest_Send := rfl
theorem fn_tattlerref5_SameEntries : E.fn F.tattlerref5_SameEntries = some c_tattlerref5_SameEntries := rfl
theorem fn_digest_Size : E.fn F.digest_Size = some c_digest_Size := rfl
theorem fn_digest_Lacks : E.fn F.digest_Lacks = some c_digest_Lacks := rfl
theorem fn_wire_NewWriter : E.fn F.wire_NewWriter = some c_wire_NewWriter := rfl
theorem fn_wire_Writer_Done : E.fn F.wire_Writer_Done = some c_wire_Writer_Done := rfl
theorem fn_digest_lacked : E.fn F.digest_lacked = some c_digest_lacked := rfl
theorem fn_digest_copied : E.fn F.digest_copied = some c_digest_copied := rfl
theorem fn_tattlerref5_Same : E.fn F.tattlerref5_Same = some c_tattlerref5_Same := rfl
theorem fn_sibs_WriteEntry : E.fn F.sibs_WriteEntry = some c_sibs_WriteEntry := rfl
theorem fn_digest_dots : E.fn F.digest_dots = some c_digest_dots := rfl
theorem fn_vector_Leq : E.fn F.vector_Leq = some c_vector_Leq := rfl
theorem fn_slices_ContainsFunc_api_Dot_api_Dot : E.fn F.slices_ContainsFunc_api_Dot_api_Dot = some c_slices_ContainsFunc_api_Dot_api_Dot := rfl
theorem fn_digest_Lacks_c1 : E.fn F.digest_Lacks_c1 = some c_digest_Lacks_c1 := rfl
theorem fn_vector_Covers : E.fn F.vector_Covers = some c_vector_Covers := rfl
theorem fn_slices_Contains_api_Dot_api_Dot : E.fn F.slices_Contains_api_Dot_api_Dot = some c_slices_Contains_api_Dot_api_Dot := rfl
theorem fn_wire_Writer_Text : E.fn F.wire_Writer_Text = some c_wire_Writer_Text := rfl
theorem fn_vector_Write : E.fn F.vector_Write = some c_vector_Write := rfl
theorem fn_wire_Writer_Num : E.fn F.wire_Writer_Num = some c_wire_Writer_Num := rfl
theorem fn_wire_Writer_Int : E.fn F.wire_Writer_Int = some c_wire_Writer_Int := rfl
theorem fn_slices_Clone_byte_byte : E.fn F.slices_Clone_byte_byte = some c_slices_Clone_byte_byte := rfl
theorem fn_vector_Join : E.fn F.vector_Join = some c_vector_Join := rfl
theorem fn_slices_IndexFunc_api_Digest_api_Digest : E.fn F.slices_IndexFunc_api_Digest_api_Digest = some c_slices_IndexFunc_api_Digest_api_Digest := rfl
theorem fn_digest_lacked_c1 : E.fn F.digest_lacked_c1 = some c_digest_lacked_c1 := rfl
theorem fn_sibs_Write : E.fn F.sibs_Write = some c_sibs_Write := rfl
theorem fn_slices_IndexFunc_api_Dot_api_Dot : E.fn F.slices_IndexFunc_api_Dot_api_Dot = some c_slices_IndexFunc_api_Dot_api_Dot := rfl
theorem fn_vector_is : E.fn F.vector_is = some c_vector_is := rfl
theorem fn_slices_Index_api_Dot_api_Dot : E.fn F.slices_Index_api_Dot_api_Dot = some c_slices_Index_api_Dot_api_Dot := rfl
theorem fn_wire_Writer_put : E.fn F.wire_Writer_put = some c_wire_Writer_put := rfl
theorem fn_wire_num : E.fn F.wire_num = some c_wire_num := rfl
theorem fn_wire_Writer_Flag : E.fn F.wire_Writer_Flag = some c_wire_Writer_Flag := rfl
end Go.Proofs.Ytphlgefkcghopaa.V

