/- The functions' code as the V-machine has it; the kernel sees that it is theirs. -/
import Derived.Test.YtphlgefkcghopaaVmS2
import Derived.Test.YtphlgefkcghopaaChecked
import Derived.KernelRfl
namespace Go.Proofs.Ytphlgefkcghopaa.V
open Go.Vm
set_option maxRecDepth 100000
set_option linter.unusedVariables false
set_option linter.unusedSimpArgs false
def F.quorum_Count_Add : Nat := 14
def F.quorum_Count_Done : Nat := 16
def F.quorum_Count_Has : Nat := 17
def F.quorum_Count_Len : Nat := 15
def F.quorum_Meet : Nat := 19
def F.quorum_New : Nat := 13
def F.tattlerlaw21_QuorumMeets : Nat := 5
def F.tattlerlaw21_QuorumNil : Nat := 4
def F.tattlerlaw21_QuorumOrder : Nat := 6
def F.tattlerlaw21_QuorumPlays : Nat := 3
def F.tattlerlaw21_awake : Nat := 18
def c_tattlerlaw21_QuorumPlays_l0 : VCode := (.seq (.ops [⟨some 19, none, .bin .lss .no (.r 18) (.r 17)⟩] [0, 5, 6, 7, 8, 16, 17, 18, 19])
  (.seq (.cond (.r 19) .skip (.exit 0))
  (.seq (.block 1 (.seq (.ops [⟨some 20, none, .mv (.r 18)⟩,
        ⟨some 21, none, .iaddr none 1 (.r 16) (.r 18)⟩,
        ⟨some 22, none, .load false 1 (.r 21)⟩,
        ⟨some 9, none, .asg (.r 20)⟩,
        ⟨some 10, none, .asg (.r 22)⟩] [0, 5, 6, 7, 8, 9, 10, 16, 17, 18])
      (.seq (.seq (.ops [⟨some 23, none, .mv (.r 9)⟩,
          ⟨some 24, none, .bin .geq .no (.r 23) (.c (.int .i64 60))⟩] [0, 5, 6, 7, 8, 10, 16, 17, 18, 24])
        (.cond (.r 24) (.exit 0) .skip))
      (.seq (.ops [⟨some 25, none, .mv (.r 10)⟩,
        ⟨some 26, none, .bin .geq .no (.r 25) (.c (.int .i64 0))⟩,
        ⟨some 27, none, .mv (.r 26)⟩,
        ⟨some 28, some (27, true), .mv (.r 10)⟩,
        ⟨some 29, some (27, true), .bin .lss .no (.r 28) (.c (.int .i64 8))⟩,
        ⟨some 30, none, .pick (.r 27) (.r 29) (.c (.bool false))⟩,
        ⟨some 31, none, .mv (.r 30)⟩,
        ⟨some 32, some (31, true), .mv (.r 10)⟩,
        ⟨some 33, some (31, true), .iaddr (some 8) 1 (.r 6) (.r 32)⟩,
        ⟨some 34, some (31, true), .load false 1 (.r 33)⟩,
        ⟨some 35, some (31, true), .un .not (.r 34)⟩,
        ⟨some 36, none, .pick (.r 31) (.r 35) (.c (.bool false))⟩,
        ⟨some 11, none, .asg (.r 36)⟩] [0, 5, 6, 7, 8, 10, 11, 16, 17, 18])
      (.seq (.seq (.ops [⟨some 37, none, .mv (.r 11)⟩] [0, 5, 6, 7, 8, 10, 11, 16, 17, 18, 37])
        (.cond (.r 37) (.seq (.ops [⟨some 38, none, .mv (.r 10)⟩,
            ⟨some 39, none, .iaddr (some 8) 1 (.r 6) (.r 38)⟩,
            ⟨none, none, .store 1 (.r 39) (.c (.bool true)) [] none⟩] [0, 5, 6, 7, 8, 10, 11, 16, 17, 18])
          (.ops [⟨some 40, none, .mv (.r 7)⟩,
          ⟨some 41, none, .bin .add .no (.r 40) (.c (.int .i64 1))⟩,
          ⟨some 7, none, .asg (.r 41)⟩] [0, 5, 6, 7, 8, 10, 11, 16, 17, 18])) .skip))
      (.seq (.ops [⟨some 42, none, .mv (.r 5)⟩,
        ⟨some 43, none, .mv (.r 10)⟩,
        ⟨some 44, none, .call false F.quorum_Count_Add [(.r 42), (.r 43)]⟩,
        ⟨some 12, none, .asg (.r 44)⟩] [0, 5, 6, 7, 8, 10, 11, 12, 16, 17, 18])
      (.seq (.seq (.ops [⟨some 45, none, .mv (.r 12)⟩,
          ⟨some 46, none, .mv (.r 11)⟩,
          ⟨some 47, none, .mv (.r 46)⟩,
          ⟨some 48, some (47, true), .mv (.r 7)⟩,
          ⟨some 49, some (47, true), .mv (.r 0)⟩,
          ⟨some 50, some (47, true), .bin .eql .no (.r 48) (.r 49)⟩,
          ⟨some 51, none, .pick (.r 47) (.r 50) (.c (.bool false))⟩,
          ⟨some 52, none, .bin .neq .bool (.r 45) (.r 51)⟩,
          ⟨some 53, none, .mv (.r 52)⟩,
          ⟨some 54, some (53, false), .mv (.r 5)⟩,
          ⟨some 55, some (53, false), .call false F.quorum_Count_Len [(.r 54)]⟩,
          ⟨some 56, some (53, false), .mv (.r 7)⟩,
          ⟨some 57, some (53, false), .bin .neq .no (.r 55) (.r 56)⟩,
          ⟨some 58, none, .pick (.r 53) (.c (.bool true)) (.r 57)⟩,
          ⟨some 59, none, .mv (.r 58)⟩,
          ⟨some 60, some (59, false), .mv (.r 5)⟩,
          ⟨some 61, some (59, false), .call false F.quorum_Count_Done [(.r 60)]⟩,
          ⟨some 62, some (59, false), .mv (.r 7)⟩,
          ⟨some 63, some (59, false), .mv (.r 0)⟩,
          ⟨some 64, some (59, false), .bin .geq .no (.r 62) (.r 63)⟩,
          ⟨some 65, some (59, false), .bin .neq .bool (.r 61) (.r 64)⟩,
          ⟨some 66, none, .pick (.r 59) (.c (.bool true)) (.r 65)⟩,
          ⟨some 67, none, .mv (.r 66)⟩,
          ⟨some 68, some (67, false), .mv (.r 5)⟩,
          ⟨some 69, some (67, false), .mv (.r 10)⟩,
          ⟨some 70, some (67, false), .call false F.quorum_Count_Has [(.r 68), (.r 69)]⟩,
          ⟨some 71, some (67, false), .mv (.r 10)⟩,
          ⟨some 72, some (67, false), .bin .geq .no (.r 71) (.c (.int .i64 0))⟩,
          ⟨some 73, some (67, false), .mv (.r 72)⟩,
          ⟨some 74, some (73, true), .mv (.r 10)⟩,
          ⟨some 75, some (73, true), .bin .lss .no (.r 74) (.c (.int .i64 8))⟩,
          ⟨some 76, some (67, false), .pick (.r 73) (.r 75) (.c (.bool false))⟩,
          ⟨some 77, some (67, false), .bin .neq .bool (.r 70) (.r 76)⟩,
          ⟨some 78, none, .pick (.r 67) (.c (.bool true)) (.r 77)⟩] [0, 5, 6, 7, 8, 12, 16, 17, 18, 78])
        (.cond (.r 78) (.seq (.ops [⟨some 4, none, .asg (.c (.bool false))⟩] [4])
          .ret) .skip))
      (.seq (.ops [⟨some 79, none, .mv (.r 12)⟩] [0, 5, 6, 7, 8, 16, 17, 18, 79])
      (.cond (.r 79) (.ops [⟨some 80, none, .mv (.r 8)⟩,
        ⟨some 81, none, .bin .add .no (.r 80) (.c (.int .i64 1))⟩,
        ⟨some 8, none, .asg (.r 81)⟩] [0, 5, 6, 7, 8, 16, 17, 18]) .skip)))))))))
  (.ops [⟨some 82, none, .bin .add .no (.r 18) (.c (.int .i64 1))⟩,
  ⟨some 18, none, .mv (.r 82)⟩] [0, 5, 6, 7, 8, 16, 17, 18]))))
def c_tattlerlaw21_QuorumPlays_l1 : VCode := (.seq (.ops [⟨some 84, none, .bin .lss .no (.r 83) (.c (.int .i64 8))⟩] [5, 6, 8, 83, 84])
  (.seq (.cond (.r 84) .skip (.exit 2))
  (.seq (.block 3 (.seq (.ops [⟨some 85, none, .mv (.r 83)⟩,
        ⟨some 13, none, .asg (.r 85)⟩] [5, 6, 8, 13, 83])
      (.seq (.dops 6 [⟨some 86, none, .mv (.r 5)⟩,
        ⟨some 87, none, .mv (.r 13)⟩,
        ⟨some 88, none, .call true F.quorum_Count_Has [(.r 86), (.r 87)]⟩,
        ⟨some 89, none, .mv (.r 13)⟩,
        ⟨some 90, none, .iaddr (some 8) 1 (.r 6) (.r 89)⟩,
        ⟨some 91, none, .load false 1 (.r 90)⟩,
        ⟨some 92, none, .bin .neq .bool (.r 88) (.r 91)⟩] [5, 6, 8, 83, 92])
      (.cond (.r 92) (.seq (.ops [⟨some 4, none, .asg (.c (.bool false))⟩] [4])
        .ret) .skip))))
  (.ops [⟨some 93, none, .bin .add .no (.r 83) (.c (.int .i64 1))⟩,
  ⟨some 83, none, .mv (.r 93)⟩] [5, 6, 8, 83]))))
/-- tattler/tattlerlaw21.QuorumPlays -/
def c_tattlerlaw21_QuorumPlays : VFun := ⟨2,
  (.seq (.ops [⟨some 4, none, .asg (.c (.bool false))⟩] [0, 1])
  (.seq (.ops [⟨some 14, none, .mv (.r 0)⟩,
    ⟨some 15, none, .call false F.quorum_New [(.r 14)]⟩,
    ⟨some 5, none, .asg (.r 15)⟩] [0, 1, 5])
  (.seq (.ops [⟨some 6, none, .alloc [(.bool false), (.bool false), (.bool false), (.bool false), (.bool false), (.bool false), (.bool false), (.bool false)] []⟩] [0, 1, 5, 6])
  (.seq (.ops [⟨some 7, none, .asg (.c (.int .i64 0))⟩,
    ⟨some 8, none, .asg (.c (.int .i64 0))⟩] [0, 1, 5, 6, 7, 8])
  (.seq (.seq (.ops [⟨some 16, none, .mv (.r 1)⟩,
      ⟨some 17, none, .len .sl (.r 16)⟩,
      ⟨some 18, none, .mv (.c (.int .i64 0))⟩] [0, 5, 6, 7, 8, 16, 17, 18])
    (.block 0 (.loop [0, 5, 6, 7, 8, 16, 17, 18] [] c_tattlerlaw21_QuorumPlays_l0)))
  (.seq (.seq (.ops [⟨some 83, none, .mv (.c (.int .i64 0))⟩] [5, 6, 8, 83])
    (.block 2 (.loop [5, 6, 8, 83] [] c_tattlerlaw21_QuorumPlays_l1)))
  (.seq (.ops [⟨some 94, none, .mv (.r 8)⟩,
    ⟨some 95, none, .bin .leq .no (.r 94) (.c (.int .i64 1))⟩,
    ⟨some 96, none, .mv (.r 95)⟩,
    ⟨some 97, some (96, true), .mv (.r 5)⟩,
    ⟨some 98, some (96, true), .call false F.quorum_Count_Has [(.r 97), (.c (.int .i64 (-1)))]⟩,
    ⟨some 99, some (96, true), .un .not (.r 98)⟩,
    ⟨some 100, none, .pick (.r 96) (.r 99) (.c (.bool false))⟩,
    ⟨some 101, none, .mv (.r 100)⟩,
    ⟨some 102, some (101, true), .mv (.r 5)⟩,
    ⟨some 103, some (101, true), .call false F.quorum_Count_Has [(.r 102), (.c (.int .i64 8))]⟩,
    ⟨some 104, some (101, true), .un .not (.r 103)⟩,
    ⟨some 105, none, .pick (.r 101) (.r 104) (.c (.bool false))⟩,
    ⟨some 106, none, .mv (.r 105)⟩,
    ⟨some 107, some (106, true), .call false F.tattlerlaw21_awake []⟩,
    ⟨some 108, none, .pick (.r 106) (.r 107) (.c (.bool false))⟩,
    ⟨some 4, none, .asg (.r 108)⟩] [4])
  .ret))))))),
  [.r 4], none⟩
/-- tattler/tattlerlaw21.QuorumNil -/
def c_tattlerlaw21_QuorumNil : VFun := ⟨1,
  (.seq (.ops [⟨some 2, none, .asg (.c (.bool false))⟩] [0])
  (.seq (.ops [⟨some 3, none, .asg (.c (.ptr none))⟩] [0, 3])
  (.seq (.ops [⟨some 4, none, .mv (.r 3)⟩,
    ⟨some 5, none, .mv (.r 0)⟩,
    ⟨some 6, none, .call false F.quorum_Count_Add [(.r 4), (.r 5)]⟩,
    ⟨some 7, none, .un .not (.r 6)⟩,
    ⟨some 8, none, .mv (.r 7)⟩,
    ⟨some 9, some (8, true), .mv (.r 3)⟩,
    ⟨some 10, some (8, true), .mv (.r 0)⟩,
    ⟨some 11, some (8, true), .call false F.quorum_Count_Has [(.r 9), (.r 10)]⟩,
    ⟨some 12, some (8, true), .un .not (.r 11)⟩,
    ⟨some 13, none, .pick (.r 8) (.r 12) (.c (.bool false))⟩,
    ⟨some 14, none, .mv (.r 13)⟩,
    ⟨some 15, some (14, true), .mv (.r 3)⟩,
    ⟨some 16, some (14, true), .call false F.quorum_Count_Len [(.r 15)]⟩,
    ⟨some 17, some (14, true), .bin .eql .no (.r 16) (.c (.int .i64 0))⟩,
    ⟨some 18, none, .pick (.r 14) (.r 17) (.c (.bool false))⟩,
    ⟨some 19, none, .mv (.r 18)⟩,
    ⟨some 20, some (19, true), .mv (.r 3)⟩,
    ⟨some 21, some (19, true), .call false F.quorum_Count_Done [(.r 20)]⟩,
    ⟨some 22, some (19, true), .un .not (.r 21)⟩,
    ⟨some 23, none, .pick (.r 19) (.r 22) (.c (.bool false))⟩,
    ⟨some 24, none, .mv (.r 23)⟩,
    ⟨some 25, some (24, true), .call false F.tattlerlaw21_awake []⟩,
    ⟨some 26, none, .pick (.r 24) (.r 25) (.c (.bool false))⟩,
    ⟨some 2, none, .asg (.r 26)⟩] [2])
  .ret))),
  [.r 2], none⟩
def c_tattlerlaw21_QuorumMeets_l0 : VCode := (.seq (.ops [⟨some 53, none, .bin .lss .no (.r 52) (.r 51)⟩] [0, 3, 4, 11, 12, 51, 52, 53])
  (.seq (.cond (.r 53) .skip (.exit 0))
  (.seq (.block 1 (.seq (.ops [⟨some 54, none, .mv (.r 52)⟩,
        ⟨some 13, none, .asg (.r 54)⟩] [0, 3, 4, 11, 12, 13, 51, 52])
      (.seq (.seq (.ops [⟨some 55, none, .mv (.r 3)⟩,
          ⟨some 56, none, .mv (.r 13)⟩,
          ⟨some 57, none, .conv (.toInt .u64) (.r 56)⟩,
          ⟨some 58, none, .bin .shr .no (.r 55) (.r 57)⟩,
          ⟨some 59, none, .bin .and .no (.r 58) (.c (.int .u64 1))⟩,
          ⟨some 60, none, .bin .eql .no (.r 59) (.c (.int .u64 1))⟩] [0, 3, 4, 11, 12, 13, 51, 52, 60])
        (.cond (.r 60) (.ops [⟨some 61, none, .mv (.r 11)⟩,
          ⟨some 62, none, .mv (.r 13)⟩,
          ⟨some 63, none, .bslice (.int .i64 0) 1 1 [(0, (.r 62))]⟩,
          ⟨some 64, none, .app (.reg 11) 1 8 (.r 61) (.r 63)⟩,
          ⟨some 11, none, .asg (.r 64)⟩] [0, 3, 4, 11, 12, 13, 51, 52]) .skip))
      (.seq (.ops [⟨some 65, none, .mv (.r 4)⟩,
        ⟨some 66, none, .mv (.r 13)⟩,
        ⟨some 67, none, .conv (.toInt .u64) (.r 66)⟩,
        ⟨some 68, none, .bin .shr .no (.r 65) (.r 67)⟩,
        ⟨some 69, none, .bin .and .no (.r 68) (.c (.int .u64 1))⟩,
        ⟨some 70, none, .bin .eql .no (.r 69) (.c (.int .u64 1))⟩] [0, 3, 4, 11, 12, 13, 51, 52, 70])
      (.cond (.r 70) (.ops [⟨some 71, none, .mv (.r 12)⟩,
        ⟨some 72, none, .mv (.r 13)⟩,
        ⟨some 73, none, .bslice (.int .i64 0) 1 1 [(0, (.r 72))]⟩,
        ⟨some 74, none, .app (.reg 12) 1 8 (.r 71) (.r 73)⟩,
        ⟨some 12, none, .asg (.r 74)⟩] [0, 3, 4, 11, 12, 51, 52]) .skip)))))
  (.ops [⟨some 75, none, .bin .add .no (.r 52) (.c (.int .i64 1))⟩,
  ⟨some 52, none, .mv (.r 75)⟩] [0, 3, 4, 11, 12, 51, 52]))))
def c_tattlerlaw21_QuorumMeets_l1 : VCode := (.seq (.ops [⟨some 93, none, .bin .lss .no (.r 92) (.r 91)⟩] [12, 15, 84, 85, 86, 90, 91, 92, 93])
  (.seq (.cond (.r 93) .skip (.exit 4))
  (.seq (.block 5 (.seq (.ops [⟨some 94, none, .iaddr none 1 (.r 90) (.r 92)⟩,
        ⟨some 95, none, .load false 1 (.r 94)⟩,
        ⟨some 17, none, .asg (.r 95)⟩] [12, 15, 17, 84, 85, 86, 90, 91, 92])
      (.seq (.ops [⟨some 96, none, .mv (.r 15)⟩,
        ⟨some 97, none, .mv (.r 17)⟩,
        ⟨some 98, none, .bin .eql .no (.r 96) (.r 97)⟩] [12, 15, 84, 85, 86, 90, 91, 92, 98])
      (.cond (.r 98) (.seq (.ops [⟨some 99, none, .call false F.tattlerlaw21_awake []⟩,
          ⟨some 10, none, .asg (.r 99)⟩] [10])
        .ret) .skip))))
  (.ops [⟨some 100, none, .bin .add .no (.r 92) (.c (.int .i64 1))⟩,
  ⟨some 92, none, .mv (.r 100)⟩] [12, 15, 84, 85, 86, 90, 91, 92]))))
def c_tattlerlaw21_QuorumMeets_l2 : VCode := (.seq (.ops [⟨some 87, none, .bin .lss .no (.r 86) (.r 85)⟩] [12, 84, 85, 86, 87])
  (.seq (.cond (.r 87) .skip (.exit 2))
  (.seq (.block 3 (.seq (.ops [⟨some 88, none, .iaddr none 1 (.r 84) (.r 86)⟩,
        ⟨some 89, none, .load false 1 (.r 88)⟩,
        ⟨some 15, none, .asg (.r 89)⟩] [12, 15, 84, 85, 86])
      (.seq (.ops [⟨some 90, none, .mv (.r 12)⟩,
        ⟨some 91, none, .len .sl (.r 90)⟩,
        ⟨some 92, none, .mv (.c (.int .i64 0))⟩] [12, 15, 84, 85, 86, 90, 91, 92])
      (.block 4 (.loop [12, 15, 84, 85, 86, 90, 91, 92] [(11, 0, 1), (12, 0, 1)] c_tattlerlaw21_QuorumMeets_l1)))))
  (.ops [⟨some 101, none, .bin .add .no (.r 86) (.c (.int .i64 1))⟩,
  ⟨some 86, none, .mv (.r 101)⟩] [12, 84, 85, 86]))))
/-- tattler/tattlerlaw21.QuorumMeets -/
def c_tattlerlaw21_QuorumMeets : VFun := ⟨5,
  (.seq (.ops [⟨some 10, none, .asg (.c (.bool false))⟩] [0, 1, 2, 3, 4])
  (.seq (.seq (.ops [⟨some 18, none, .mv (.r 0)⟩,
      ⟨some 19, none, .mv (.r 1)⟩,
      ⟨some 20, none, .mv (.r 2)⟩,
      ⟨some 21, none, .call false F.quorum_Meet [(.r 18), (.r 19), (.r 20)]⟩,
      ⟨some 22, none, .mv (.r 1)⟩,
      ⟨some 23, none, .bin .geq .no (.r 22) (.c (.int .i64 1))⟩,
      ⟨some 24, none, .mv (.r 23)⟩,
      ⟨some 25, some (24, true), .mv (.r 2)⟩,
      ⟨some 26, some (24, true), .bin .geq .no (.r 25) (.c (.int .i64 1))⟩,
      ⟨some 27, none, .pick (.r 24) (.r 26) (.c (.bool false))⟩,
      ⟨some 28, none, .mv (.r 27)⟩,
      ⟨some 29, some (28, true), .mv (.r 1)⟩,
      ⟨some 30, some (28, true), .mv (.r 0)⟩,
      ⟨some 31, some (28, true), .bin .leq .no (.r 29) (.r 30)⟩,
      ⟨some 32, none, .pick (.r 28) (.r 31) (.c (.bool false))⟩,
      ⟨some 33, none, .mv (.r 32)⟩,
      ⟨some 34, some (33, true), .mv (.r 2)⟩,
      ⟨some 35, some (33, true), .mv (.r 0)⟩,
      ⟨some 36, some (33, true), .bin .leq .no (.r 34) (.r 35)⟩,
      ⟨some 37, none, .pick (.r 33) (.r 36) (.c (.bool false))⟩,
      ⟨some 38, none, .mv (.r 37)⟩,
      ⟨some 39, some (38, true), .mv (.r 1)⟩,
      ⟨some 40, some (38, true), .mv (.r 0)⟩,
      ⟨some 41, some (38, true), .mv (.r 2)⟩,
      ⟨some 42, some (38, true), .bin .sub .no (.r 40) (.r 41)⟩,
      ⟨some 43, some (38, true), .bin .gtr .no (.r 39) (.r 42)⟩,
      ⟨some 44, none, .pick (.r 38) (.r 43) (.c (.bool false))⟩,
      ⟨some 45, none, .bin .neq .bool (.r 21) (.r 44)⟩] [0, 3, 4, 45])
    (.cond (.r 45) (.seq (.ops [⟨some 10, none, .asg (.c (.bool false))⟩] [10])
      .ret) .skip))
  (.seq (.ops [⟨some 46, none, .mv (.r 0)⟩,
    ⟨some 47, none, .conv (.toInt .u64) (.r 46)⟩,
    ⟨some 48, none, .bin .rem .no (.r 47) (.c (.int .u64 8))⟩,
    ⟨some 49, none, .conv (.toInt .i64) (.r 48)⟩,
    ⟨some 50, none, .bin .add .no (.r 49) (.c (.int .i64 1))⟩,
    ⟨some 0, none, .asg (.r 50)⟩] [0, 3, 4])
  (.seq (.ops [⟨some 11, none, .asg (.c (.sl []))⟩,
    ⟨some 12, none, .asg (.c (.sl []))⟩] [0, 3, 4, 11, 12])
  (.seq (.seq (.ops [⟨some 51, none, .mv (.r 0)⟩,
      ⟨some 52, none, .mv (.c (.int .i64 0))⟩] [0, 3, 4, 11, 12, 51, 52])
    (.block 0 (.loop [0, 3, 4, 11, 12, 51, 52] [(11, 0, 1), (12, 0, 1)] c_tattlerlaw21_QuorumMeets_l0)))
  (.seq (.seq (.ops [⟨some 76, none, .mv (.r 0)⟩,
      ⟨some 77, none, .mv (.r 12)⟩,
      ⟨some 78, none, .len .sl (.r 77)⟩,
      ⟨some 79, none, .mv (.r 11)⟩,
      ⟨some 80, none, .len .sl (.r 79)⟩,
      ⟨some 81, none, .call false F.quorum_Meet [(.r 76), (.r 78), (.r 80)]⟩,
      ⟨some 82, none, .un .not (.r 81)⟩] [11, 12, 82])
    (.cond (.r 82) (.seq (.ops [⟨some 83, none, .call false F.tattlerlaw21_awake []⟩,
        ⟨some 10, none, .asg (.r 83)⟩] [10])
      .ret) .skip))
  (.seq (.seq (.ops [⟨some 84, none, .mv (.r 11)⟩,
      ⟨some 85, none, .len .sl (.r 84)⟩,
      ⟨some 86, none, .mv (.c (.int .i64 0))⟩] [12, 84, 85, 86])
    (.block 2 (.loop [12, 84, 85, 86] [(11, 0, 1), (12, 0, 1)] c_tattlerlaw21_QuorumMeets_l2)))
  (.seq (.ops [⟨some 10, none, .asg (.c (.bool false))⟩] [10])
  .ret)))))))),
  [.r 10], none⟩
def c_tattlerlaw21_QuorumOrder_l0 : VCode := (.seq (.ops [⟨some 36, none, .bin .lss .no (.r 35) (.r 34)⟩] [1, 2, 7, 8, 9, 10, 34, 35, 36])
  (.seq (.cond (.r 36) .skip (.exit 0))
  (.seq (.block 1 (.seq (.ops [⟨some 37, none, .mv (.r 35)⟩,
        ⟨some 11, none, .asg (.r 37)⟩] [1, 2, 7, 8, 9, 10, 11, 34, 35])
      (.seq (.seq (.ops [⟨some 38, none, .mv (.r 7)⟩,
          ⟨some 39, none, .mv (.r 1)⟩,
          ⟨some 40, none, .mv (.r 11)⟩,
          ⟨some 41, none, .iaddr none 1 (.r 39) (.r 40)⟩,
          ⟨some 42, none, .load false 1 (.r 41)⟩,
          ⟨some 43, none, .call false F.quorum_Count_Add [(.r 38), (.r 42)]⟩] [1, 2, 7, 8, 9, 10, 11, 34, 35, 43])
        (.cond (.r 43) (.ops [⟨some 44, none, .mv (.r 9)⟩,
          ⟨some 45, none, .bin .add .no (.r 44) (.c (.int .i64 1))⟩,
          ⟨some 9, none, .asg (.r 45)⟩] [1, 2, 7, 8, 9, 10, 11, 34, 35]) .skip))
      (.seq (.ops [⟨some 46, none, .mv (.r 8)⟩,
        ⟨some 47, none, .mv (.r 1)⟩,
        ⟨some 48, none, .mv (.r 11)⟩,
        ⟨some 49, none, .mv (.r 2)⟩,
        ⟨some 50, none, .bin .add .no (.r 48) (.r 49)⟩,
        ⟨some 51, none, .mv (.r 1)⟩,
        ⟨some 52, none, .len .sl (.r 51)⟩,
        ⟨some 53, none, .bin .rem .no (.r 50) (.r 52)⟩,
        ⟨some 54, none, .iaddr none 1 (.r 47) (.r 53)⟩,
        ⟨some 55, none, .load false 1 (.r 54)⟩,
        ⟨some 56, none, .call false F.quorum_Count_Add [(.r 46), (.r 55)]⟩] [1, 2, 7, 8, 9, 10, 34, 35, 56])
      (.cond (.r 56) (.ops [⟨some 57, none, .mv (.r 10)⟩,
        ⟨some 58, none, .bin .add .no (.r 57) (.c (.int .i64 1))⟩,
        ⟨some 10, none, .asg (.r 58)⟩] [1, 2, 7, 8, 9, 10, 34, 35]) .skip)))))
  (.ops [⟨some 59, none, .bin .add .no (.r 35) (.c (.int .i64 1))⟩,
  ⟨some 35, none, .mv (.r 59)⟩] [1, 2, 7, 8, 9, 10, 34, 35]))))
def c_tattlerlaw21_QuorumOrder_l1 : VCode := (.seq (.ops [⟨some 61, none, .bin .lss .no (.r 60) (.c (.int .i64 8))⟩] [7, 8, 9, 10, 60, 61])
  (.seq (.cond (.r 61) .skip (.exit 2))
  (.seq (.block 3 (.seq (.ops [⟨some 62, none, .mv (.r 60)⟩,
        ⟨some 12, none, .asg (.r 62)⟩] [7, 8, 9, 10, 12, 60])
      (.seq (.ops [⟨some 63, none, .mv (.r 7)⟩,
        ⟨some 64, none, .mv (.r 12)⟩,
        ⟨some 65, none, .call false F.quorum_Count_Has [(.r 63), (.r 64)]⟩,
        ⟨some 66, none, .mv (.r 8)⟩,
        ⟨some 67, none, .mv (.r 12)⟩,
        ⟨some 68, none, .call false F.quorum_Count_Has [(.r 66), (.r 67)]⟩,
        ⟨some 69, none, .bin .neq .bool (.r 65) (.r 68)⟩] [7, 8, 9, 10, 60, 69])
      (.cond (.r 69) (.seq (.ops [⟨some 6, none, .asg (.c (.bool false))⟩] [6])
        .ret) .skip))))
  (.ops [⟨some 70, none, .bin .add .no (.r 60) (.c (.int .i64 1))⟩,
  ⟨some 60, none, .mv (.r 70)⟩] [7, 8, 9, 10, 60]))))
/-- tattler/tattlerlaw21.QuorumOrder -/
def c_tattlerlaw21_QuorumOrder : VFun := ⟨3,
  (.seq (.ops [⟨some 6, none, .asg (.c (.bool false))⟩] [0, 1, 2])
  (.seq (.seq (.ops [⟨some 13, none, .mv (.r 1)⟩,
      ⟨some 14, none, .len .sl (.r 13)⟩,
      ⟨some 15, none, .bin .eql .no (.r 14) (.c (.int .i64 0))⟩,
      ⟨some 16, none, .mv (.r 15)⟩,
      ⟨some 17, some (16, false), .mv (.r 1)⟩,
      ⟨some 18, some (16, false), .len .sl (.r 17)⟩,
      ⟨some 19, some (16, false), .bin .gtr .no (.r 18) (.c (.int .i64 60))⟩,
      ⟨some 20, none, .pick (.r 16) (.c (.bool true)) (.r 19)⟩] [0, 1, 2, 20])
    (.cond (.r 20) (.seq (.ops [⟨some 21, none, .call false F.tattlerlaw21_awake []⟩,
        ⟨some 6, none, .asg (.r 21)⟩] [6])
      .ret) .skip))
  (.seq (.ops [⟨some 22, none, .mv (.r 2)⟩,
    ⟨some 23, none, .conv (.toInt .u64) (.r 22)⟩,
    ⟨some 24, none, .mv (.r 1)⟩,
    ⟨some 25, none, .len .sl (.r 24)⟩,
    ⟨some 26, none, .conv (.toInt .u64) (.r 25)⟩,
    ⟨some 27, none, .bin .rem .no (.r 23) (.r 26)⟩,
    ⟨some 28, none, .conv (.toInt .i64) (.r 27)⟩,
    ⟨some 2, none, .asg (.r 28)⟩] [0, 1, 2])
  (.seq (.ops [⟨some 29, none, .mv (.r 0)⟩,
    ⟨some 30, none, .call false F.quorum_New [(.r 29)]⟩,
    ⟨some 31, none, .mv (.r 0)⟩,
    ⟨some 32, none, .call false F.quorum_New [(.r 31)]⟩,
    ⟨some 7, none, .asg (.r 30)⟩,
    ⟨some 8, none, .asg (.r 32)⟩] [1, 2, 7, 8])
  (.seq (.ops [⟨some 9, none, .asg (.c (.int .i64 0))⟩,
    ⟨some 10, none, .asg (.c (.int .i64 0))⟩] [1, 2, 7, 8, 9, 10])
  (.seq (.seq (.ops [⟨some 33, none, .mv (.r 1)⟩,
      ⟨some 34, none, .len .sl (.r 33)⟩,
      ⟨some 35, none, .mv (.c (.int .i64 0))⟩] [1, 2, 7, 8, 9, 10, 34, 35])
    (.block 0 (.loop [1, 2, 7, 8, 9, 10, 34, 35] [] c_tattlerlaw21_QuorumOrder_l0)))
  (.seq (.seq (.ops [⟨some 60, none, .mv (.c (.int .i64 0))⟩] [7, 8, 9, 10, 60])
    (.block 2 (.loop [7, 8, 9, 10, 60] [] c_tattlerlaw21_QuorumOrder_l1)))
  (.seq (.ops [⟨some 71, none, .mv (.r 7)⟩,
    ⟨some 72, none, .call false F.quorum_Count_Len [(.r 71)]⟩,
    ⟨some 73, none, .mv (.r 8)⟩,
    ⟨some 74, none, .call false F.quorum_Count_Len [(.r 73)]⟩,
    ⟨some 75, none, .bin .eql .no (.r 72) (.r 74)⟩,
    ⟨some 76, none, .mv (.r 75)⟩,
    ⟨some 77, some (76, true), .mv (.r 7)⟩,
    ⟨some 78, some (76, true), .call false F.quorum_Count_Done [(.r 77)]⟩,
    ⟨some 79, some (76, true), .mv (.r 8)⟩,
    ⟨some 80, some (76, true), .call false F.quorum_Count_Done [(.r 79)]⟩,
    ⟨some 81, some (76, true), .bin .eql .bool (.r 78) (.r 80)⟩,
    ⟨some 82, none, .pick (.r 76) (.r 81) (.c (.bool false))⟩,
    ⟨some 83, none, .mv (.r 82)⟩,
    ⟨some 84, some (83, true), .mv (.r 9)⟩,
    ⟨some 85, some (83, true), .mv (.r 10)⟩,
    ⟨some 86, some (83, true), .bin .eql .no (.r 84) (.r 85)⟩,
    ⟨some 87, none, .pick (.r 83) (.r 86) (.c (.bool false))⟩,
    ⟨some 88, none, .mv (.r 87)⟩,
    ⟨some 89, some (88, true), .call false F.tattlerlaw21_awake []⟩,
    ⟨some 90, none, .pick (.r 88) (.r 89) (.c (.bool false))⟩,
    ⟨some 6, none, .asg (.r 90)⟩] [6])
  .ret)))))))),
  [.r 6], none⟩
/-- tattler/quorum.New -/
def c_quorum_New : VFun := ⟨1,
  (.seq (.ops [⟨some 2, none, .asg (.c (.ptr none))⟩] [0])
  (.seq (.ops [⟨some 3, none, .mv (.r 0)⟩,
    ⟨some 4, none, .build [(.int .i64 0), (.bool false), (.bool false), (.bool false), (.bool false), (.bool false), (.bool false), (.bool false), (.bool false)] [(0, 1, (.r 3))]⟩,
    ⟨some 5, none, .box 9 (.r 4)⟩,
    ⟨some 2, none, .asg (.r 5)⟩] [2])
  .ret)),
  [.r 2], none⟩
/-- (*tattler/quorum.Count).Add -/
def c_quorum_Count_Add : VFun := ⟨2,
  (.seq (.ops [⟨some 4, none, .asg (.c (.bool false))⟩] [0, 1])
  (.seq (.seq (.ops [⟨some 5, none, .mv (.r 0)⟩,
      ⟨some 6, none, .bin .eql .ptr (.r 5) (.c (.ptr none))⟩,
      ⟨some 7, none, .mv (.r 6)⟩,
      ⟨some 8, some (7, false), .mv (.r 1)⟩,
      ⟨some 9, some (7, false), .bin .lss .no (.r 8) (.c (.int .i64 0))⟩,
      ⟨some 10, none, .pick (.r 7) (.c (.bool true)) (.r 9)⟩,
      ⟨some 11, none, .mv (.r 10)⟩,
      ⟨some 12, some (11, false), .mv (.r 1)⟩,
      ⟨some 13, some (11, false), .bin .geq .no (.r 12) (.c (.int .i64 8))⟩,
      ⟨some 14, none, .pick (.r 11) (.c (.bool true)) (.r 13)⟩,
      ⟨some 15, none, .mv (.r 14)⟩,
      ⟨some 16, some (15, false), .mv (.r 0)⟩,
      ⟨some 17, some (15, false), .mv (.r 1)⟩,
      ⟨some 18, some (15, false), .nilck (.r 16)⟩,
      ⟨some 19, some (15, false), .faddr 1 (.r 18)⟩,
      ⟨some 20, some (15, false), .iaddr (some 8) 1 (.r 19) (.r 17)⟩,
      ⟨some 21, some (15, false), .load false 1 (.r 20)⟩,
      ⟨some 22, none, .pick (.r 15) (.c (.bool true)) (.r 21)⟩] [0, 1, 22])
    (.cond (.r 22) (.seq (.ops [⟨some 4, none, .asg (.c (.bool false))⟩] [4])
      .ret) .skip))
  (.seq (.ops [⟨some 23, none, .mv (.r 0)⟩,
    ⟨some 24, none, .mv (.r 1)⟩,
    ⟨some 25, none, .nilck (.r 23)⟩,
    ⟨some 26, none, .faddr 1 (.r 25)⟩,
    ⟨some 27, none, .iaddr (some 8) 1 (.r 26) (.r 24)⟩,
    ⟨none, none, .store 1 (.r 27) (.c (.bool true)) [] none⟩] [0])
  (.seq (.dops 6 [⟨some 28, none, .mv (.r 0)⟩,
    ⟨some 29, none, .call true F.quorum_Count_Len [(.r 28)]⟩,
    ⟨some 30, none, .mv (.r 0)⟩,
    ⟨some 31, none, .nilck (.r 30)⟩,
    ⟨some 32, none, .faddr 0 (.r 31)⟩,
    ⟨some 33, none, .load false 1 (.r 32)⟩,
    ⟨some 34, none, .bin .eql .no (.r 29) (.r 33)⟩,
    ⟨some 4, none, .asg (.r 34)⟩] [4])
  .ret)))),
  [.r 4], none⟩
def c_quorum_Count_Len_l0 : VCode := (.seq (.ops [⟨some 13, none, .bin .lss .no (.r 12) (.c (.int .i64 8))⟩] [3, 11, 12, 13])
  (.seq (.cond (.r 13) .skip (.exit 0))
  (.seq (.block 1 (.seq (.ops [⟨some 14, none, .index false 8 1 false (.r 11) (.r 12)⟩,
        ⟨some 5, none, .asg (.r 14)⟩] [3, 5, 11, 12])
      (.seq (.ops [⟨some 15, none, .mv (.r 5)⟩] [3, 11, 12, 15])
      (.cond (.r 15) (.ops [⟨some 16, none, .mv (.r 3)⟩,
        ⟨some 17, none, .bin .add .no (.r 16) (.c (.int .i64 1))⟩,
        ⟨some 3, none, .asg (.r 17)⟩] [3, 11, 12]) .skip))))
  (.ops [⟨some 18, none, .bin .add .no (.r 12) (.c (.int .i64 1))⟩,
  ⟨some 12, none, .mv (.r 18)⟩] [3, 11, 12]))))
/-- (*tattler/quorum.Count).Len -/
def c_quorum_Count_Len : VFun := ⟨1,
  (.seq (.ops [⟨some 2, none, .asg (.c (.int .i64 0))⟩] [0])
  (.seq (.seq (.ops [⟨some 6, none, .mv (.r 0)⟩,
      ⟨some 7, none, .bin .eql .ptr (.r 6) (.c (.ptr none))⟩] [0, 7])
    (.cond (.r 7) (.seq (.ops [⟨some 2, none, .asg (.c (.int .i64 0))⟩] [2])
      .ret) .skip))
  (.seq (.ops [⟨some 3, none, .asg (.c (.int .i64 0))⟩] [0, 3])
  (.seq (.seq (.ops [⟨some 8, none, .mv (.r 0)⟩,
      ⟨some 9, none, .nilck (.r 8)⟩,
      ⟨some 10, none, .faddr 1 (.r 9)⟩,
      ⟨some 11, none, .load true 8 (.r 10)⟩,
      ⟨some 12, none, .mv (.c (.int .i64 0))⟩] [3, 11, 12])
    (.block 0 (.loop [3, 11, 12] [] c_quorum_Count_Len_l0)))
  (.seq (.ops [⟨some 19, none, .mv (.r 3)⟩,
    ⟨some 2, none, .asg (.r 19)⟩] [2])
  .ret))))),
  [.r 2], none⟩
/-- (*tattler/quorum.Count).Done -/
def c_quorum_Count_Done : VFun := ⟨1,
  (.seq (.ops [⟨some 2, none, .asg (.c (.bool false))⟩] [0])
  (.seq (.dops 9 [⟨some 3, none, .mv (.r 0)⟩,
    ⟨some 4, none, .bin .neq .ptr (.r 3) (.c (.ptr none))⟩,
    ⟨some 5, none, .mv (.r 4)⟩,
    ⟨some 6, some (5, true), .mv (.r 0)⟩,
    ⟨some 7, some (5, true), .call true F.quorum_Count_Len [(.r 6)]⟩,
    ⟨some 8, some (5, true), .mv (.r 0)⟩,
    ⟨some 9, some (5, true), .nilck (.r 8)⟩,
    ⟨some 10, some (5, true), .faddr 0 (.r 9)⟩,
    ⟨some 11, some (5, true), .load false 1 (.r 10)⟩,
    ⟨some 12, some (5, true), .bin .geq .no (.r 7) (.r 11)⟩,
    ⟨some 13, none, .pick (.r 5) (.r 12) (.c (.bool false))⟩,
    ⟨some 2, none, .asg (.r 13)⟩] [2])
  .ret)),
  [.r 2], none⟩
/-- (*tattler/quorum.Count).Has -/
def c_quorum_Count_Has : VFun := ⟨2,
  (.seq (.ops [⟨some 4, none, .asg (.c (.bool false))⟩] [0, 1])
  (.seq (.ops [⟨some 5, none, .mv (.r 0)⟩,
    ⟨some 6, none, .bin .neq .ptr (.r 5) (.c (.ptr none))⟩,
    ⟨some 7, none, .mv (.r 6)⟩,
    ⟨some 8, some (7, true), .mv (.r 1)⟩,
    ⟨some 9, some (7, true), .bin .geq .no (.r 8) (.c (.int .i64 0))⟩,
    ⟨some 10, none, .pick (.r 7) (.r 9) (.c (.bool false))⟩,
    ⟨some 11, none, .mv (.r 10)⟩,
    ⟨some 12, some (11, true), .mv (.r 1)⟩,
    ⟨some 13, some (11, true), .bin .lss .no (.r 12) (.c (.int .i64 8))⟩,
    ⟨some 14, none, .pick (.r 11) (.r 13) (.c (.bool false))⟩,
    ⟨some 15, none, .mv (.r 14)⟩,
    ⟨some 16, some (15, true), .mv (.r 0)⟩,
    ⟨some 17, some (15, true), .mv (.r 1)⟩,
    ⟨some 18, some (15, true), .nilck (.r 16)⟩,
    ⟨some 19, some (15, true), .faddr 1 (.r 18)⟩,
    ⟨some 20, some (15, true), .iaddr (some 8) 1 (.r 19) (.r 17)⟩,
    ⟨some 21, some (15, true), .load false 1 (.r 20)⟩,
    ⟨some 22, none, .pick (.r 15) (.r 21) (.c (.bool false))⟩,
    ⟨some 4, none, .asg (.r 22)⟩] [4])
  .ret)),
  [.r 4], none⟩
/-- tattler/tattlerlaw21.awake -/
def c_tattlerlaw21_awake : VFun := ⟨0,
  (.seq (.ops [⟨some 0, none, .asg (.c (.bool false))⟩] [])
  (.seq (.ops [⟨some 6, none, .call false F.quorum_New [(.c (.int .i64 2))]⟩,
    ⟨some 1, none, .asg (.r 6)⟩] [1])
  (.seq (.ops [⟨some 7, none, .mv (.r 1)⟩,
    ⟨some 8, none, .call false F.quorum_Count_Add [(.r 7), (.c (.int .i64 1))]⟩,
    ⟨some 9, none, .mv (.r 1)⟩,
    ⟨some 10, none, .call false F.quorum_Count_Add [(.r 9), (.c (.int .i64 1))]⟩,
    ⟨some 11, none, .mv (.r 1)⟩,
    ⟨some 12, none, .call false F.quorum_Count_Add [(.r 11), (.c (.int .i64 0))]⟩,
    ⟨some 13, none, .mv (.r 1)⟩,
    ⟨some 14, none, .call false F.quorum_Count_Add [(.r 13), (.c (.int .i64 2))]⟩,
    ⟨some 2, none, .asg (.r 8)⟩,
    ⟨some 3, none, .asg (.r 10)⟩,
    ⟨some 4, none, .asg (.r 12)⟩,
    ⟨some 5, none, .asg (.r 14)⟩] [1, 2, 3, 4, 5])
  (.seq (.ops [⟨some 15, none, .mv (.r 2)⟩,
    ⟨some 16, none, .un .not (.r 15)⟩,
    ⟨some 17, none, .mv (.r 16)⟩,
    ⟨some 18, some (17, true), .mv (.r 3)⟩,
    ⟨some 19, some (17, true), .un .not (.r 18)⟩,
    ⟨some 20, none, .pick (.r 17) (.r 19) (.c (.bool false))⟩,
    ⟨some 21, none, .mv (.r 20)⟩,
    ⟨some 22, some (21, true), .mv (.r 4)⟩,
    ⟨some 23, none, .pick (.r 21) (.r 22) (.c (.bool false))⟩,
    ⟨some 24, none, .mv (.r 23)⟩,
    ⟨some 25, some (24, true), .mv (.r 5)⟩,
    ⟨some 26, some (24, true), .un .not (.r 25)⟩,
    ⟨some 27, none, .pick (.r 24) (.r 26) (.c (.bool false))⟩,
    ⟨some 28, none, .mv (.r 27)⟩,
    ⟨some 29, some (28, true), .mv (.r 1)⟩,
    ⟨some 30, some (28, true), .call false F.quorum_Count_Len [(.r 29)]⟩,
    ⟨some 31, some (28, true), .bin .eql .no (.r 30) (.c (.int .i64 3))⟩,
    ⟨some 32, none, .pick (.r 28) (.r 31) (.c (.bool false))⟩,
    ⟨some 33, none, .mv (.r 32)⟩,
    ⟨some 34, some (33, true), .mv (.r 1)⟩,
    ⟨some 35, some (33, true), .call false F.quorum_Count_Done [(.r 34)]⟩,
    ⟨some 36, none, .pick (.r 33) (.r 35) (.c (.bool false))⟩,
    ⟨some 0, none, .asg (.r 36)⟩] [0])
  .ret)))),
  [.r 0], none⟩
/-- tattler/quorum.Meet -/
def c_quorum_Meet : VFun := ⟨3,
  (.seq (.ops [⟨some 6, none, .asg (.c (.bool false))⟩] [0, 1, 2])
  (.seq (.ops [⟨some 7, none, .mv (.r 1)⟩,
    ⟨some 8, none, .bin .geq .no (.r 7) (.c (.int .i64 1))⟩,
    ⟨some 9, none, .mv (.r 8)⟩,
    ⟨some 10, some (9, true), .mv (.r 1)⟩,
    ⟨some 11, some (9, true), .mv (.r 0)⟩,
    ⟨some 12, some (9, true), .bin .leq .no (.r 10) (.r 11)⟩,
    ⟨some 13, none, .pick (.r 9) (.r 12) (.c (.bool false))⟩,
    ⟨some 14, none, .mv (.r 13)⟩,
    ⟨some 15, some (14, true), .mv (.r 2)⟩,
    ⟨some 16, some (14, true), .bin .geq .no (.r 15) (.c (.int .i64 1))⟩,
    ⟨some 17, none, .pick (.r 14) (.r 16) (.c (.bool false))⟩,
    ⟨some 18, none, .mv (.r 17)⟩,
    ⟨some 19, some (18, true), .mv (.r 2)⟩,
    ⟨some 20, some (18, true), .mv (.r 0)⟩,
    ⟨some 21, some (18, true), .bin .leq .no (.r 19) (.r 20)⟩,
    ⟨some 22, none, .pick (.r 18) (.r 21) (.c (.bool false))⟩,
    ⟨some 23, none, .mv (.r 22)⟩,
    ⟨some 24, some (23, true), .mv (.r 1)⟩,
    ⟨some 25, some (23, true), .mv (.r 0)⟩,
    ⟨some 26, some (23, true), .mv (.r 2)⟩,
    ⟨some 27, some (23, true), .bin .sub .no (.r 25) (.r 26)⟩,
    ⟨some 28, some (23, true), .bin .gtr .no (.r 24) (.r 27)⟩,
    ⟨some 29, none, .pick (.r 23) (.r 28) (.c (.bool false))⟩,
    ⟨some 6, none, .asg (.r 29)⟩] [6])
  .ret)),
  [.r 6], none⟩
def R : Nat → Option Nat := fun _ => none
theorem ok_tattlerlaw21_QuorumPlays : FunOk Try.prog R F.tattlerlaw21_QuorumPlays c_tattlerlaw21_QuorumPlays := funOk_of Try.func3 rfl (by kernel_rfl) (by kernel_rfl) (by kernel_rfl) (by kernel_rfl) (by kernel_rfl) (of_decide_eq_true (by kernel_rfl)) (by kernel_rfl)
theorem ok_tattlerlaw21_QuorumNil : FunOk Try.prog R F.tattlerlaw21_QuorumNil c_tattlerlaw21_QuorumNil := funOk_of Try.func4 rfl (by kernel_rfl) (by kernel_rfl) (by kernel_rfl) (by kernel_rfl) (by kernel_rfl) (of_decide_eq_true (by kernel_rfl)) (by kernel_rfl)
theorem ok_tattlerlaw21_QuorumMeets : FunOk Try.prog R F.tattlerlaw21_QuorumMeets c_tattlerlaw21_QuorumMeets := funOk_of Try.func5 rfl (by kernel_rfl) (by kernel_rfl) (by kernel_rfl) (by kernel_rfl) (by kernel_rfl) (of_decide_eq_true (by kernel_rfl)) (by kernel_rfl)
theorem ok_tattlerlaw21_QuorumOrder : FunOk Try.prog R F.tattlerlaw21_QuorumOrder c_tattlerlaw21_QuorumOrder := funOk_of Try.func6 rfl (by kernel_rfl) (by kernel_rfl) (by kernel_rfl) (by kernel_rfl) (by kernel_rfl) (of_decide_eq_true (by kernel_rfl)) (by kernel_rfl)
theorem ok_quorum_New : FunOk Try.prog R F.quorum_New c_quorum_New := funOk_of Try.func13 rfl (by kernel_rfl) (by kernel_rfl) (by kernel_rfl) (by kernel_rfl) (by kernel_rfl) (of_decide_eq_true (by kernel_rfl)) (by kernel_rfl)
theorem ok_quorum_Count_Add : FunOk Try.prog R F.quorum_Count_Add c_quorum_Count_Add := funOk_of Try.func14 rfl (by kernel_rfl) (by kernel_rfl) (by kernel_rfl) (by kernel_rfl) (by kernel_rfl) (of_decide_eq_true (by kernel_rfl)) (by kernel_rfl)
theorem ok_quorum_Count_Len : FunOk Try.prog R F.quorum_Count_Len c_quorum_Count_Len := funOk_of Try.func15 rfl (by kernel_rfl) (by kernel_rfl) (by kernel_rfl) (by kernel_rfl) (by kernel_rfl) (of_decide_eq_true (by kernel_rfl)) (by kernel_rfl)
theorem ok_quorum_Count_Done : FunOk Try.prog R F.quorum_Count_Done c_quorum_Count_Done := funOk_of Try.func16 rfl (by kernel_rfl) (by kernel_rfl) (by kernel_rfl) (by kernel_rfl) (by kernel_rfl) (of_decide_eq_true (by kernel_rfl)) (by kernel_rfl)
theorem ok_quorum_Count_Has : FunOk Try.prog R F.quorum_Count_Has c_quorum_Count_Has := funOk_of Try.func17 rfl (by kernel_rfl) (by kernel_rfl) (by kernel_rfl) (by kernel_rfl) (by kernel_rfl) (of_decide_eq_true (by kernel_rfl)) (by kernel_rfl)
theorem ok_tattlerlaw21_awake : FunOk Try.prog R F.tattlerlaw21_awake c_tattlerlaw21_awake := funOk_of Try.func18 rfl (by kernel_rfl) (by kernel_rfl) (by kernel_rfl) (by kernel_rfl) (by kernel_rfl) (of_decide_eq_true (by kernel_rfl)) (by kernel_rfl)
theorem ok_quorum_Meet : FunOk Try.prog R F.quorum_Meet c_quorum_Meet := funOk_of Try.func19 rfl (by kernel_rfl) (by kernel_rfl) (by kernel_rfl) (by kernel_rfl) (by kernel_rfl) (of_decide_eq_true (by kernel_rfl)) (by kernel_rfl)
def tab : List (Nat × VFun) := [(F.tattlerlaw21_QuorumPlays, c_tattlerlaw21_QuorumPlays), (F.tattlerlaw21_QuorumNil, c_tattlerlaw21_QuorumNil), (F.tattlerlaw21_QuorumMeets, c_tattlerlaw21_QuorumMeets), (F.tattlerlaw21_QuorumOrder, c_tattlerlaw21_QuorumOrder), (F.quorum_New, c_quorum_New), (F.quorum_Count_Add, c_quorum_Count_Add), (F.quorum_Count_Len, c_quorum_Count_Len), (F.quorum_Count_Done, c_quorum_Count_Done), (F.quorum_Count_Has, c_quorum_Count_Has), (F.tattlerlaw21_awake, c_tattlerlaw21_awake), (F.quorum_Meet, c_quorum_Meet)]
abbrev E : Env := ⟨tabFn tab, fun _ => none⟩
theorem envOk : EnvOk Try.prog R E := env_tab Try.checked.mixed ⟨ok_tattlerlaw21_QuorumPlays, ok_tattlerlaw21_QuorumNil, ok_tattlerlaw21_QuorumMeets, ok_tattlerlaw21_QuorumOrder, ok_quorum_New, ok_quorum_Count_Add, ok_quorum_Count_Len, ok_quorum_Count_Done, ok_quorum_Count_Has, ok_tattlerlaw21_awake, ok_quorum_Meet, trivial⟩
theorem fn_tattlerlaw21_QuorumPlays : E.fn F.tattlerlaw21_QuorumPlays = some c_tattlerlaw21_QuorumPlays := rfl
theorem fn_tattlerlaw21_QuorumNil : E.fn F.tattlerlaw21_QuorumNil = some c_tattlerlaw21_QuorumNil := rfl
theorem fn_tattlerlaw21_QuorumMeets : E.fn F.tattlerlaw21_QuorumMeets = some c_tattlerlaw21_QuorumMeets := rfl
theorem fn_tattlerlaw21_QuorumOrder : E.fn F.tattlerlaw21_QuorumOrder = some c_tattlerlaw21_QuorumOrder := rfl
theorem fn_quorum_New : E.fn F.quorum_New = some c_quorum_New := rfl
theorem fn_quorum_Count_Add : E.fn F.quorum_Count_Add = some c_quorum_Count_Add := rfl
theorem fn_quorum_Count_Len : E.fn F.quorum_Count_Len = some c_quorum_Count_Len := rfl
theorem fn_quorum_Count_Done : E.fn F.quorum_Count_Done = some c_quorum_Count_Done := rfl
theorem fn_quorum_Count_Has : E.fn F.quorum_Count_Has = some c_quorum_Count_Has := rfl
theorem fn_tattlerlaw21_awake : E.fn F.tattlerlaw21_awake = some c_tattlerlaw21_awake := rfl
theorem fn_quorum_Meet : E.fn F.quorum_Meet = some c_quorum_Meet := rfl
end Go.Proofs.Ytphlgefkcghopaa.V

