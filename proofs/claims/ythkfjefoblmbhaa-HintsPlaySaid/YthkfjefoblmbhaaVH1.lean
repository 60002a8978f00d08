/- A table of functions over another one: its functions' code, and what the other tells. -/
import Derived.Test.YthkfjefoblmbhaaVT
import Derived.KernelRfl
namespace Go.Proofs.Ythkfjefoblmbhaa.W1
open Go.Vm Go.Proofs.Ythkfjefoblmbhaa.V
set_option maxRecDepth 100000
set_option linter.unusedVariables false
set_option linter.unusedSimpArgs false
def c_hints_Set_All_l0 : VCode := (.seq (.ops [⟨some 14, none, .bin .lss .no (.r 13) (.r 12)⟩] [3, 11, 12, 13, 14])
  (.seq (.cond (.r 14) .skip (.exit 0))
  (.seq (.block 1 (.seq (.ops [⟨some 15, none, .iaddr none 11 (.r 11) (.r 13)⟩,
        ⟨some 16, none, .load true 11 (.r 15)⟩,
        ⟨some 5, none, .alloc [(.int .i64 0), (.str []), (.int .i64 0), (.int .i64 0), (.int .i64 0), (.int .i64 0), (.int .i64 0), (.int .i64 0), (.int .i64 0), (.int .i64 0), (.sl [])] []⟩,
        ⟨none, none, .store 11 (.r 5) (.r 16) [] none⟩] [3, 5, 11, 12, 13])
      (.ops [⟨some 17, none, .mv (.r 3)⟩,
      ⟨some 18, none, .load true 11 (.r 5)⟩,
      ⟨some 19, none, .call false F.hints_copied [(.r 18)]⟩,
      ⟨some 20, none, .bslice (.agg [(.int .i64 0), (.str []), (.int .i64 0), (.int .i64 0), (.int .i64 0), (.int .i64 0), (.int .i64 0), (.int .i64 0), (.int .i64 0), (.int .i64 0), (.sl [])]) 11 1 [(0, (.r 19))]⟩,
      ⟨some 21, none, .app (.reg 3) 11 112 (.r 17) (.r 20)⟩,
      ⟨some 3, none, .asg (.r 21)⟩] [3, 11, 12, 13])))
  (.ops [⟨some 22, none, .bin .add .no (.r 13) (.c (.int .i64 1))⟩,
  ⟨some 13, none, .mv (.r 22)⟩] [3, 11, 12, 13]))))
def c_hints_Set_All : VFun := ⟨1,
  (.seq (.ops [⟨some 2, none, .asg (.c (.sl []))⟩] [0])
  (.seq (.seq (.ops [⟨some 6, none, .mv (.r 0)⟩,
      ⟨some 7, none, .bin .eql .ptr (.r 6) (.c (.ptr none))⟩] [0, 7])
    (.cond (.r 7) (.seq (.ops [⟨some 2, none, .asg (.c (.sl []))⟩] [2])
      .ret) .skip))
  (.seq (.ops [⟨some 3, none, .asg (.c (.sl []))⟩] [0, 3])
  (.seq (.seq (.ops [⟨some 8, none, .mv (.r 0)⟩,
      ⟨some 9, none, .nilck (.r 8)⟩,
      ⟨some 10, none, .faddr 0 (.r 9)⟩,
      ⟨some 11, none, .load false 1 (.r 10)⟩,
      ⟨some 12, none, .len .sl (.r 11)⟩,
      ⟨some 13, none, .mv (.c (.int .i64 0))⟩] [3, 11, 12, 13])
    (.block 0 (.loop [3, 11, 12, 13] [(2, 0, 0), (3, 0, 11)] c_hints_Set_All_l0)))
  (.seq (.ops [⟨some 23, none, .mv (.r 3)⟩,
    ⟨some 2, none, .asg (.r 23)⟩] [2])
  .ret))))),
  [.r 2], none⟩
def c_hints_Set_For_l0 : VCode := (.seq (.ops [⟨some 12, none, .bin .lss .no (.r 11) (.r 10)⟩] [1, 5, 9, 10, 11, 12])
  (.seq (.cond (.r 12) .skip (.exit 0))
  (.seq (.block 1 (.seq (.ops [⟨some 13, none, .iaddr none 11 (.r 9) (.r 11)⟩,
        ⟨some 14, none, .load true 11 (.r 13)⟩,
        ⟨some 7, none, .alloc [(.int .i64 0), (.str []), (.int .i64 0), (.int .i64 0), (.int .i64 0), (.int .i64 0), (.int .i64 0), (.int .i64 0), (.int .i64 0), (.int .i64 0), (.sl [])] []⟩,
        ⟨none, none, .store 11 (.r 7) (.r 14) [] none⟩] [1, 5, 7, 9, 10, 11])
      (.seq (.ops [⟨some 15, none, .faddr 0 (.r 7)⟩,
        ⟨some 16, none, .load false 1 (.r 15)⟩,
        ⟨some 17, none, .mv (.r 1)⟩,
        ⟨some 18, none, .bin .eql .no (.r 16) (.r 17)⟩] [1, 5, 7, 9, 10, 11, 18])
      (.cond (.r 18) (.ops [⟨some 19, none, .mv (.r 5)⟩,
        ⟨some 20, none, .faddr 1 (.r 7)⟩,
        ⟨some 21, none, .load true 10 (.r 20)⟩,
        ⟨some 22, none, .bslice (.agg [(.str []), (.int .i64 0), (.int .i64 0), (.int .i64 0), (.int .i64 0), (.int .i64 0), (.int .i64 0), (.int .i64 0), (.int .i64 0), (.sl [])]) 10 1 [(0, (.r 21))]⟩,
        ⟨some 23, none, .app (.reg 5) 10 104 (.r 19) (.r 22)⟩,
        ⟨some 5, none, .asg (.r 23)⟩] [1, 5, 9, 10, 11]) .skip))))
  (.ops [⟨some 24, none, .bin .add .no (.r 11) (.c (.int .i64 1))⟩,
  ⟨some 11, none, .mv (.r 24)⟩] [1, 5, 9, 10, 11]))))
def c_hints_Set_For : VFun := ⟨2,
  (.seq (.ops [⟨some 4, none, .asg (.c (.sl []))⟩] [0, 1])
  (.seq (.ops [⟨some 5, none, .asg (.c (.sl []))⟩] [0, 1, 5])
  (.seq (.seq (.ops [⟨some 8, none, .mv (.r 0)⟩,
      ⟨some 9, none, .call false F.hints_Set_All [(.r 8)]⟩,
      ⟨some 10, none, .len .sl (.r 9)⟩,
      ⟨some 11, none, .mv (.c (.int .i64 0))⟩] [1, 5, 9, 10, 11])
    (.block 0 (.loop [1, 5, 9, 10, 11] [(4, 0, 0), (5, 0, 10)] c_hints_Set_For_l0)))
  (.seq (.ops [⟨some 25, none, .mv (.r 5)⟩,
    ⟨some 4, none, .asg (.r 25)⟩] [4])
  .ret)))),
  [.r 4], none⟩
def c_hints_Set_First : VFun := ⟨1,
  (.seq (.ops [⟨some 2, none, .alloc [(.int .i64 0), (.str []), (.int .i64 0), (.int .i64 0), (.int .i64 0), (.int .i64 0), (.int .i64 0), (.int .i64 0), (.int .i64 0), (.int .i64 0), (.sl [])] []⟩,
    ⟨some 3, none, .asg (.c (.bool false))⟩] [0, 2])
  (.seq (.ops [⟨some 5, none, .mv (.r 0)⟩,
    ⟨some 6, none, .call false F.hints_Set_All [(.r 5)]⟩,
    ⟨some 4, none, .asg (.r 6)⟩] [2, 4])
  (.seq (.seq (.ops [⟨some 7, none, .mv (.r 4)⟩,
      ⟨some 8, none, .len .sl (.r 7)⟩,
      ⟨some 9, none, .bin .eql .no (.r 8) (.c (.int .i64 0))⟩] [2, 4, 9])
    (.cond (.r 9) (.seq (.ops [⟨some 10, none, .build [(.int .i64 0), (.str []), (.int .i64 0), (.int .i64 0), (.int .i64 0), (.int .i64 0), (.int .i64 0), (.int .i64 0), (.int .i64 0), (.int .i64 0), (.sl [])] []⟩,
        ⟨none, none, .store 11 (.r 2) (.r 10) [] none⟩,
        ⟨some 3, none, .asg (.c (.bool false))⟩] [2, 3])
      .ret) .skip))
  (.seq (.ops [⟨some 11, none, .mv (.r 4)⟩,
    ⟨some 12, none, .iaddr none 11 (.r 11) (.c (.int .i64 0))⟩,
    ⟨some 13, none, .load true 11 (.r 12)⟩,
    ⟨none, none, .store 11 (.r 2) (.r 13) [] none⟩,
    ⟨some 3, none, .asg (.c (.bool true))⟩] [2, 3])
  .ret)))),
  [.cell 2 true 11, .r 3], none⟩
def c_hints_Set_Len : VFun := ⟨1,
  (.seq (.ops [⟨some 2, none, .asg (.c (.int .i64 0))⟩] [0])
  (.seq (.ops [⟨some 3, none, .mv (.r 0)⟩,
    ⟨some 4, none, .call false F.hints_Set_All [(.r 3)]⟩,
    ⟨some 5, none, .len .sl (.r 4)⟩,
    ⟨some 2, none, .asg (.r 5)⟩] [2])
  .ret)),
  [.r 2], none⟩
def c_tattlerlaw11_HintsPlay_l0 : VCode := (.seq (.ops [⟨some 30, none, .bin .lss .no (.r 29) (.r 28)⟩] [1, 5, 6, 27, 28, 29, 30])
  (.seq (.cond (.r 30) .skip (.exit 0))
  (.seq (.block 1 (.seq (.ops [⟨some 31, none, .iaddr none 21 (.r 27) (.r 29)⟩,
        ⟨some 32, none, .load true 21 (.r 31)⟩,
        ⟨some 8, none, .alloc [(.int .i64 0), (.int .i64 0), (.str []), (.int .i64 0), (.int .i64 0), (.int .i64 0), (.int .i64 0), (.int .i64 0), (.int .i64 0), (.int .i64 0), (.int .i64 0), (.sl []), (.int .i64 0), (.int .i64 0), (.int .i64 0), (.int .i64 0), (.int .i64 0), (.int .i64 0), (.int .i64 0), (.int .i64 0), (.sl [])] []⟩,
        ⟨none, none, .store 21 (.r 8) (.r 32) [] none⟩] [1, 5, 6, 8, 27, 28, 29])
      (.seq (.ops [⟨some 33, none, .faddr 0 (.r 8)⟩,
        ⟨some 34, none, .load false 1 (.r 33)⟩,
        ⟨some 35, none, .bin .eql .no (.r 34) (.c (.int .i64 0))⟩] [1, 5, 6, 8, 27, 28, 29, 35])
      (.cond (.r 35) (.seq (.ops [⟨some 37, none, .mv (.r 5)⟩,
          ⟨some 38, none, .faddr 1 (.r 8)⟩,
          ⟨some 39, none, .load true 11 (.r 38)⟩,
          ⟨some 40, none, .call false F.hints_Set_Put [(.r 37), (.r 39)]⟩,
          ⟨some 36, none, .mv (.r 40)⟩,
          ⟨some 41, none, .extract 0 (.r 36)⟩,
          ⟨some 42, none, .extract 1 (.r 36)⟩,
          ⟨some 9, none, .asg (.r 41)⟩,
          ⟨some 10, none, .asg (.r 42)⟩] [1, 5, 6, 8, 9, 10, 27, 28, 29])
        (.seq (.ops [⟨some 44, none, .mv (.r 6)⟩,
          ⟨some 45, none, .faddr 1 (.r 8)⟩,
          ⟨some 46, none, .load true 11 (.r 45)⟩,
          ⟨some 47, none, .call false F.tattlerref5_Hints_Put [(.r 44), (.r 46)]⟩,
          ⟨some 43, none, .mv (.r 47)⟩,
          ⟨some 48, none, .extract 0 (.r 43)⟩,
          ⟨some 49, none, .extract 1 (.r 43)⟩,
          ⟨some 11, none, .asg (.r 48)⟩,
          ⟨some 12, none, .asg (.r 49)⟩] [1, 5, 6, 9, 10, 11, 12, 27, 28, 29])
        (.seq (.ops [⟨some 50, none, .mv (.r 9)⟩,
          ⟨some 51, none, .mv (.r 11)⟩,
          ⟨some 52, none, .bin .neq .bool (.r 50) (.r 51)⟩,
          ⟨some 53, none, .mv (.r 52)⟩,
          ⟨some 54, some (53, false), .mv (.r 10)⟩,
          ⟨some 55, some (53, false), .mv (.r 12)⟩,
          ⟨some 56, some (53, false), .bin .neq .no (.r 54) (.r 55)⟩,
          ⟨some 57, none, .pick (.r 53) (.c (.bool true)) (.r 56)⟩] [1, 5, 6, 27, 28, 29, 57])
        (.cond (.r 57) (.seq (.ops [⟨some 4, none, .asg (.c (.bool false))⟩] [4])
          .ret) .skip)))) (.seq (.xops 21 10 [14, 18, 20] [⟨some 58, none, .mv (.r 5)⟩,
          ⟨some 59, none, .faddr 1 (.r 8)⟩,
          ⟨some 60, none, .faddr 0 (.r 59)⟩,
          ⟨some 61, none, .load false 1 (.r 60)⟩,
          ⟨some 62, none, .faddr 1 (.r 8)⟩,
          ⟨some 63, none, .faddr 1 (.r 62)⟩,
          ⟨some 64, none, .faddr 0 (.r 63)⟩,
          ⟨some 65, none, .load false 1 (.r 64)⟩,
          ⟨some 66, none, .faddr 12 (.r 8)⟩,
          ⟨some 67, none, .load true 9 (.r 66)⟩,
          ⟨some 68, none, .call false F.hints_Set_Drop [(.r 58), (.r 61), (.r 65), (.r 67)]⟩,
          ⟨some 69, none, .mv (.r 6)⟩,
          ⟨some 70, none, .faddr 1 (.r 8)⟩,
          ⟨some 71, none, .faddr 0 (.r 70)⟩,
          ⟨some 72, none, .load false 1 (.r 71)⟩,
          ⟨some 73, none, .faddr 1 (.r 8)⟩,
          ⟨some 74, none, .faddr 1 (.r 73)⟩,
          ⟨some 75, none, .faddr 0 (.r 74)⟩,
          ⟨some 76, none, .load false 1 (.r 75)⟩,
          ⟨some 77, none, .faddr 12 (.r 8)⟩,
          ⟨some 78, none, .load true 9 (.r 77)⟩,
          ⟨some 79, none, .call false F.tattlerref5_Hints_Drop [(.r 69), (.r 72), (.r 76), (.r 78)]⟩,
          ⟨some 80, none, .bin .neq .bool (.r 68) (.r 79)⟩] [1, 5, 6, 27, 28, 29, 80])
        (.cond (.r 80) (.seq (.ops [⟨some 4, none, .asg (.c (.bool false))⟩] [4])
          .ret) .skip))))))
  (.ops [⟨some 81, none, .bin .add .no (.r 29) (.c (.int .i64 1))⟩,
  ⟨some 29, none, .mv (.r 81)⟩] [1, 5, 6, 27, 28, 29]))))
def c_tattlerlaw11_HintsPlay_l1 : VCode := (.seq (.ops [⟨some 88, none, .bin .lss .no (.r 87) (.r 86)⟩] [1, 5, 6, 13, 85, 86, 87, 88])
  (.seq (.cond (.r 88) .skip (.exit 2))
  (.seq (.block 3 (.seq (.ops [⟨some 89, none, .iaddr none 11 (.r 85) (.r 87)⟩,
        ⟨some 90, none, .load true 11 (.r 89)⟩,
        ⟨some 15, none, .alloc [(.int .i64 0), (.str []), (.int .i64 0), (.int .i64 0), (.int .i64 0), (.int .i64 0), (.int .i64 0), (.int .i64 0), (.int .i64 0), (.int .i64 0), (.sl [])] []⟩,
        ⟨none, none, .store 11 (.r 15) (.r 90) [] none⟩] [1, 5, 6, 13, 15, 85, 86, 87])
      (.seq (.ops [⟨some 91, none, .faddr 0 (.r 15)⟩,
        ⟨some 92, none, .load false 1 (.r 91)⟩,
        ⟨some 93, none, .mv (.r 1)⟩,
        ⟨some 94, none, .bin .eql .no (.r 92) (.r 93)⟩] [1, 5, 6, 13, 15, 85, 86, 87, 94])
      (.cond (.r 94) (.ops [⟨some 95, none, .mv (.r 13)⟩,
        ⟨some 96, none, .faddr 1 (.r 15)⟩,
        ⟨some 97, none, .load true 10 (.r 96)⟩,
        ⟨some 98, none, .bslice (.agg [(.str []), (.int .i64 0), (.int .i64 0), (.int .i64 0), (.int .i64 0), (.int .i64 0), (.int .i64 0), (.int .i64 0), (.int .i64 0), (.sl [])]) 10 1 [(0, (.r 97))]⟩,
        ⟨some 99, none, .app (.reg 13) 10 104 (.r 95) (.r 98)⟩,
        ⟨some 13, none, .asg (.r 99)⟩] [1, 5, 6, 13, 85, 86, 87]) .skip))))
  (.ops [⟨some 100, none, .bin .add .no (.r 87) (.c (.int .i64 1))⟩,
  ⟨some 87, none, .mv (.r 100)⟩] [1, 5, 6, 13, 85, 86, 87]))))
def c_tattlerlaw11_HintsPlay : VFun := ⟨2,
  (.seq (.ops [⟨some 4, none, .asg (.c (.bool false))⟩] [0, 1])
  (.seq (.seq (.ops [⟨some 18, none, .mv (.r 0)⟩,
      ⟨some 19, none, .call false F.tattlerlaw11_light [(.r 18)]⟩,
      ⟨some 20, none, .un .not (.r 19)⟩] [0, 1, 20])
    (.cond (.r 20) (.seq (.ops [⟨some 21, none, .call false F.tattlerlaw11_awake []⟩,
        ⟨some 4, none, .asg (.r 21)⟩] [4])
      .ret) .skip))
  (.seq (.ops [⟨some 22, none, .call false F.hints_New []⟩,
    ⟨some 23, none, .build [(.sl [])] []⟩,
    ⟨some 24, none, .box 1 (.r 23)⟩,
    ⟨some 5, none, .asg (.r 22)⟩,
    ⟨some 6, none, .asg (.r 24)⟩] [0, 1, 5, 6])
  (.seq (.seq (.ops [⟨some 25, none, .mv (.r 5)⟩,
      ⟨some 26, none, .bin .eql .ptr (.r 25) (.c (.ptr none))⟩] [0, 1, 5, 6, 26])
    (.cond (.r 26) (.seq (.ops [⟨some 4, none, .asg (.c (.bool false))⟩] [4])
      .ret) .skip))
  (.seq (.seq (.ops [⟨some 27, none, .mv (.r 0)⟩,
      ⟨some 28, none, .len .sl (.r 27)⟩,
      ⟨some 29, none, .mv (.c (.int .i64 0))⟩] [1, 5, 6, 27, 28, 29])
    (.block 0 (.loop [1, 5, 6, 27, 28, 29] [] c_tattlerlaw11_HintsPlay_l0)))
  (.seq (.ops [⟨some 13, none, .asg (.c (.sl []))⟩] [1, 5, 6, 13])
  (.seq (.seq (.ops [⟨some 82, none, .mv (.r 6)⟩,
      ⟨some 83, none, .nilck (.r 82)⟩,
      ⟨some 84, none, .faddr 0 (.r 83)⟩,
      ⟨some 85, none, .load false 1 (.r 84)⟩,
      ⟨some 86, none, .len .sl (.r 85)⟩,
      ⟨some 87, none, .mv (.c (.int .i64 0))⟩] [1, 5, 6, 13, 85, 86, 87])
    (.block 2 (.loop [1, 5, 6, 13, 85, 86, 87] [(13, 0, 10)] c_tattlerlaw11_HintsPlay_l1)))
  (.seq (.ops [⟨none, none, .thwc 5 0 11⟩,
    ⟨none, none, .frzc 5 0 11 true⟩,
    ⟨some 102, none, .mv (.r 5)⟩,
    ⟨some 103, none, .call false F.hints_Set_First [(.r 102)]⟩,
    ⟨some 101, none, .mv (.r 103)⟩,
    ⟨some 104, none, .extract 0 (.r 101)⟩,
    ⟨some 105, none, .extract 1 (.r 101)⟩,
    ⟨some 16, none, .alloc [(.int .i64 0), (.str []), (.int .i64 0), (.int .i64 0), (.int .i64 0), (.int .i64 0), (.int .i64 0), (.int .i64 0), (.int .i64 0), (.int .i64 0), (.sl [])] []⟩,
    ⟨none, none, .store 11 (.r 16) (.r 104) [] none⟩,
    ⟨some 17, none, .asg (.r 105)⟩] [1, 5, 6, 13, 16, 17])
  (.seq (.seq (.dops 18 [⟨some 106, none, .mv (.r 17)⟩,
      ⟨some 107, none, .mv (.r 6)⟩,
      ⟨some 108, none, .nilck (.r 107)⟩,
      ⟨some 109, none, .faddr 0 (.r 108)⟩,
      ⟨some 110, none, .load false 1 (.r 109)⟩,
      ⟨some 111, none, .len .sl (.r 110)⟩,
      ⟨some 112, none, .bin .gtr .no (.r 111) (.c (.int .i64 0))⟩,
      ⟨some 113, none, .bin .neq .bool (.r 106) (.r 112)⟩,
      ⟨some 114, none, .mv (.r 113)⟩,
      ⟨some 115, some (114, false), .mv (.r 17)⟩,
      ⟨some 116, some (114, false), .mv (.r 115)⟩,
      ⟨some 117, some (116, true), .load true 11 (.r 16)⟩,
      ⟨some 118, some (116, true), .bslice (.agg [(.int .i64 0), (.str []), (.int .i64 0), (.int .i64 0), (.int .i64 0), (.int .i64 0), (.int .i64 0), (.int .i64 0), (.int .i64 0), (.int .i64 0), (.sl [])]) 11 1 [(0, (.r 117))]⟩,
      ⟨some 119, some (116, true), .mv (.r 6)⟩,
      ⟨some 120, some (116, true), .nilck (.r 119)⟩,
      ⟨some 121, some (116, true), .faddr 0 (.r 120)⟩,
      ⟨some 122, some (116, true), .load false 1 (.r 121)⟩,
      ⟨some 123, some (116, true), .slice false 11 (.r 122) none (some (.c (.int .i64 1))) none⟩,
      ⟨some 124, some (116, true), .call false F.tattlerref5_SameHints [(.r 118), (.r 123)]⟩,
      ⟨some 125, some (116, true), .un .not (.r 124)⟩,
      ⟨some 126, some (114, false), .pick (.r 116) (.r 125) (.c (.bool false))⟩,
      ⟨some 127, none, .pick (.r 114) (.c (.bool true)) (.r 126)⟩] [1, 5, 6, 13, 127])
    (.cond (.r 127) (.seq (.ops [⟨some 4, none, .asg (.c (.bool false))⟩] [4])
      .ret) .skip))
  (.seq (.dops 22 [⟨some 128, none, .mv (.r 5)⟩,
    ⟨some 129, none, .call true F.hints_Set_All [(.r 128)]⟩,
    ⟨some 130, none, .mv (.r 6)⟩,
    ⟨some 131, none, .nilck (.r 130)⟩,
    ⟨some 132, none, .faddr 0 (.r 131)⟩,
    ⟨some 133, none, .load false 1 (.r 132)⟩,
    ⟨some 134, none, .call true F.tattlerref5_SameHints [(.r 129), (.r 133)]⟩,
    ⟨some 135, none, .mv (.r 134)⟩,
    ⟨some 136, some (135, true), .mv (.r 5)⟩,
    ⟨some 137, some (135, true), .call true F.hints_Set_Len [(.r 136)]⟩,
    ⟨some 138, some (135, true), .mv (.r 6)⟩,
    ⟨some 139, some (135, true), .nilck (.r 138)⟩,
    ⟨some 140, some (135, true), .faddr 0 (.r 139)⟩,
    ⟨some 141, some (135, true), .load false 1 (.r 140)⟩,
    ⟨some 142, some (135, true), .len .sl (.r 141)⟩,
    ⟨some 143, some (135, true), .bin .eql .no (.r 137) (.r 142)⟩,
    ⟨some 144, none, .pick (.r 135) (.r 143) (.c (.bool false))⟩,
    ⟨some 145, none, .mv (.r 144)⟩,
    ⟨some 146, some (145, true), .mv (.r 5)⟩,
    ⟨some 147, some (145, true), .mv (.r 1)⟩,
    ⟨some 148, some (145, true), .call true F.hints_Set_For [(.r 146), (.r 147)]⟩,
    ⟨some 149, some (145, true), .mv (.r 13)⟩,
    ⟨some 150, some (145, true), .call false F.tattlerref5_SameEntries [(.r 148), (.r 149)]⟩,
    ⟨some 151, none, .pick (.r 145) (.r 150) (.c (.bool false))⟩,
    ⟨some 152, none, .mv (.r 151)⟩,
    ⟨some 153, some (152, true), .call false F.tattlerlaw11_awake []⟩,
    ⟨some 154, none, .pick (.r 152) (.r 153) (.c (.bool false))⟩,
    ⟨some 4, none, .asg (.r 154)⟩] [4])
  .ret)))))))))),
  [.r 4], none⟩
theorem ok_hints_Set_All : FunOk Try.prog V.R F.hints_Set_All c_hints_Set_All := funOk_of Try.func14 rfl (by kernel_rfl) (by kernel_rfl) (by kernel_rfl) (by kernel_rfl) (linC_of (by kernel_rfl)) (by kernel_rfl) (of_decide_eq_true (by kernel_rfl)) (by kernel_rfl)
theorem ok_hints_Set_For : FunOk Try.prog V.R F.hints_Set_For c_hints_Set_For := funOk_of Try.func20 rfl (by kernel_rfl) (by kernel_rfl) (by kernel_rfl) (by kernel_rfl) (linC_of (by kernel_rfl)) (by kernel_rfl) (of_decide_eq_true (by kernel_rfl)) (by kernel_rfl)
theorem ok_hints_Set_First : FunOk Try.prog V.R F.hints_Set_First c_hints_Set_First := funOk_of Try.func23 rfl (by kernel_rfl) (by kernel_rfl) (by kernel_rfl) (by kernel_rfl) (linC_of (by kernel_rfl)) (by kernel_rfl) (of_decide_eq_true (by kernel_rfl)) (by kernel_rfl)
theorem ok_hints_Set_Len : FunOk Try.prog V.R F.hints_Set_Len c_hints_Set_Len := funOk_of Try.func11 rfl (by kernel_rfl) (by kernel_rfl) (by kernel_rfl) (by kernel_rfl) (linC_of (by kernel_rfl)) (by kernel_rfl) (of_decide_eq_true (by kernel_rfl)) (by kernel_rfl)
theorem ok_tattlerlaw11_HintsPlay : FunOk Try.prog V.R F.tattlerlaw11_HintsPlay c_tattlerlaw11_HintsPlay := funOk_of Try.func7 rfl (by kernel_rfl) (by kernel_rfl) (by kernel_rfl) (by kernel_rfl) (linC_of (by kernel_rfl)) (by kernel_rfl) (of_decide_eq_true (by kernel_rfl)) (by kernel_rfl)
def tab : List (Nat × VFun) := [(F.hints_Set_All, c_hints_Set_All), (F.hints_Set_For, c_hints_Set_For), (F.hints_Set_First, c_hints_Set_First), (F.hints_Set_Len, c_hints_Set_Len), (F.tattlerlaw11_HintsPlay, c_tattlerlaw11_HintsPlay)]
noncomputable def prims : List (Nat × Prim) := [(F.hints_New, callL V.E F.hints_New), (F.hints_Set_Put, callL V.E F.hints_Set_Put), (F.hints_Set_Drop, callL V.E F.hints_Set_Drop), (F.tattlerref5_Hints_Put, callL V.E F.tattlerref5_Hints_Put), (F.tattlerref5_Hints_Drop, callL V.E F.tattlerref5_Hints_Drop), (F.tattlerlaw11_light, callL V.E F.tattlerlaw11_light), (F.tattlerlaw11_awake, callL V.E F.tattlerlaw11_awake), (F.tattlerref5_SameHints, callL V.E F.tattlerref5_SameHints), (F.tattlerref5_SameEntries, callL V.E F.tattlerref5_SameEntries), (F.hints_copied, callL V.E F.hints_copied)]
noncomputable abbrev E : Env := ⟨tabFn tab, primFn prims⟩
theorem envOk : EnvOk Try.prog V.R E := env_prims Try.checked.mixed ⟨prim_env V.envOk id rfl, prim_env V.envOk id rfl, prim_env V.envOk id rfl, prim_env V.envOk id rfl, prim_env V.envOk id rfl, prim_env V.envOk id rfl, prim_env V.envOk id rfl, prim_env V.envOk id rfl, prim_env V.envOk id rfl, prim_env V.envOk id rfl, trivial⟩ ⟨ok_hints_Set_All, ok_hints_Set_For, ok_hints_Set_First, ok_hints_Set_Len, ok_tattlerlaw11_HintsPlay, trivial⟩
theorem fn_hints_Set_All : E.fn F.hints_Set_All = some c_hints_Set_All := rfl
theorem fn_hints_Set_For : E.fn F.hints_Set_For = some c_hints_Set_For := rfl
theorem fn_hints_Set_First : E.fn F.hints_Set_First = some c_hints_Set_First := rfl
theorem fn_hints_Set_Len : E.fn F.hints_Set_Len = some c_hints_Set_Len := rfl
theorem fn_tattlerlaw11_HintsPlay : E.fn F.tattlerlaw11_HintsPlay = some c_tattlerlaw11_HintsPlay := rfl
theorem up_hints_New {a : List V} {h : Heap} {r} (g : callL V.E F.hints_New a h = some r) : callL E F.hints_New a h = some r := callL_prim rfl g
theorem up_hints_Set_Put {a : List V} {h : Heap} {r} (g : callL V.E F.hints_Set_Put a h = some r) : callL E F.hints_Set_Put a h = some r := callL_prim rfl g
theorem up_hints_Set_Drop {a : List V} {h : Heap} {r} (g : callL V.E F.hints_Set_Drop a h = some r) : callL E F.hints_Set_Drop a h = some r := callL_prim rfl g
theorem up_tattlerref5_Hints_Put {a : List V} {h : Heap} {r} (g : callL V.E F.tattlerref5_Hints_Put a h = some r) : callL E F.tattlerref5_Hints_Put a h = some r := callL_prim rfl g
theorem up_tattlerref5_Hints_Drop {a : List V} {h : Heap} {r} (g : callL V.E F.tattlerref5_Hints_Drop a h = some r) : callL E F.tattlerref5_Hints_Drop a h = some r := callL_prim rfl g
theorem up_tattlerlaw11_light {a : List V} {h : Heap} {r} (g : callL V.E F.tattlerlaw11_light a h = some r) : callL E F.tattlerlaw11_light a h = some r := callL_prim rfl g
theorem up_tattlerlaw11_awake {a : List V} {h : Heap} {r} (g : callL V.E F.tattlerlaw11_awake a h = some r) : callL E F.tattlerlaw11_awake a h = some r := callL_prim rfl g
theorem up_tattlerref5_SameHints {a : List V} {h : Heap} {r} (g : callL V.E F.tattlerref5_SameHints a h = some r) : callL E F.tattlerref5_SameHints a h = some r := callL_prim rfl g
theorem up_tattlerref5_SameEntries {a : List V} {h : Heap} {r} (g : callL V.E F.tattlerref5_SameEntries a h = some r) : callL E F.tattlerref5_SameEntries a h = some r := callL_prim rfl g
theorem up_hints_copied {a : List V} {h : Heap} {r} (g : callL V.E F.hints_copied a h = some r) : callL E F.hints_copied a h = some r := callL_prim rfl g
end Go.Proofs.Ythkfjefoblmbhaa.W1
