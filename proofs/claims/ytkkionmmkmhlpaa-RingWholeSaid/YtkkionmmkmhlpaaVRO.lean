/- A table of functions over another one: its functions' code, and what the other tells. -/
import Derived.Test.YtkkionmmkmhlpaaVT
import Derived.Test.YtkkionmmkmhlpaaVRF
import Derived.KernelRfl
namespace Go.Proofs.Ytkkionmmkmhlpaa.W2
open Go.Vm Go.Proofs.Ytkkionmmkmhlpaa Go.Proofs.Ytkkionmmkmhlpaa.V
set_option maxRecDepth 100000
set_option linter.unusedVariables false
set_option linter.unusedSimpArgs false
def F.ring_Ring_Order : Nat := 8
def F.ring_Ring_Owners : Nat := 13
def F.ring_Ring_Owns : Nat := 18
def F.ring_Ring_fill : Nat := 22
def F.sync_Once_Do : Nat := 21
def F.sync_Once_doSlow : Nat := 27
def F.tattlerlaw14_RingNil : Nat := 6
def F.tattlerlaw14_RingOrders : Nat := 5
def F.tattlerlaw14_RingPlaces : Nat := 3
def F.tattlerlaw14_RingWhole : Nat := 4
def F.tattlerlaw14_awake : Nat := 12
def F.tattlerref14_Order : Nat := 17
def F.tattlerref14_Owners : Nat := 15
def c_sync_Once_Do : VFun := ⟨2,
  (.seq (.ops [⟨some 4, none, .mv (.r 0)⟩,
    ⟨some 5, none, .nilck (.r 4)⟩,
    ⟨some 6, none, .faddr 0 (.r 5)⟩,
    ⟨some 7, none, .call false F.sync_atomic_Bool_Load [(.r 6)]⟩,
    ⟨some 8, none, .un .not (.r 7)⟩] [0, 1, 8])
  (.cond (.r 8) (.ops [⟨some 9, none, .mv (.r 0)⟩,
    ⟨some 10, none, .mv (.r 1)⟩,
    ⟨some 11, none, .call false F.sync_Once_doSlow [(.r 9), (.r 10)]⟩] []) .skip)),
  [], none⟩
def c_ring_Ring_Order_l0 : VCode := (.seq (.ops [⟨some 33, none, .bin .lss .no (.r 32) (.r 31)⟩] [0, 5, 6, 8, 21, 22, 23, 30, 31, 32, 33])
  (.seq (.cond (.r 33) .skip (.exit 2))
  (.seq (.block 3 (.seq (.ops [⟨some 34, none, .iaddr none 3 (.r 30) (.r 32)⟩,
        ⟨some 35, none, .load true 3 (.r 34)⟩,
        ⟨some 10, none, .alloc [(.int .u32 0), (.int .i64 0), (.int .i64 0)] []⟩,
        ⟨none, none, .store 3 (.r 10) (.r 35) [] none⟩] [0, 5, 6, 8, 10, 21, 22, 23, 30, 31, 32])
      (.seq (.ops [⟨some 36, none, .faddr 0 (.r 10)⟩,
        ⟨some 37, none, .load false 1 (.r 36)⟩,
        ⟨some 38, none, .mv (.r 5)⟩,
        ⟨some 39, none, .bin .geq .no (.r 37) (.r 38)⟩,
        ⟨some 40, none, .mv (.r 8)⟩,
        ⟨some 41, none, .bin .eql .bool (.r 39) (.r 40)⟩,
        ⟨some 42, none, .mv (.r 41)⟩,
        ⟨some 43, some (42, true), .mv (.r 6)⟩,
        ⟨some 44, some (42, true), .faddr 1 (.r 10)⟩,
        ⟨some 45, some (42, true), .load false 1 (.r 44)⟩,
        ⟨some 46, some (42, true), .call false F.slices_Contains_int_int [(.r 43), (.r 45)]⟩,
        ⟨some 47, some (42, true), .un .not (.r 46)⟩,
        ⟨some 48, none, .pick (.r 42) (.r 47) (.c (.bool false))⟩] [0, 5, 6, 8, 10, 21, 22, 23, 30, 31, 32, 48])
      (.cond (.r 48) (.ops [⟨some 49, none, .mv (.r 6)⟩,
        ⟨some 50, none, .faddr 1 (.r 10)⟩,
        ⟨some 51, none, .load false 1 (.r 50)⟩,
        ⟨some 52, none, .bslice (.int .i64 0) 1 1 [(0, (.r 51))]⟩,
        ⟨some 53, none, .app (.reg 6) 1 8 (.r 49) (.r 52)⟩,
        ⟨some 6, none, .asg (.r 53)⟩] [0, 5, 6, 8, 21, 22, 23, 30, 31, 32]) .skip))))
  (.ops [⟨some 54, none, .bin .add .no (.r 32) (.c (.int .i64 1))⟩,
  ⟨some 32, none, .mv (.r 54)⟩] [0, 5, 6, 8, 21, 22, 23, 30, 31, 32]))))
def c_ring_Ring_Order_l1 : VCode := (.seq (.ops [⟨some 24, none, .bin .lss .no (.r 23) (.r 22)⟩] [0, 5, 6, 21, 22, 23, 24])
  (.seq (.cond (.r 24) .skip (.exit 0))
  (.seq (.block 1 (.seq (.ops [⟨some 25, none, .iaddr none 1 (.r 21) (.r 23)⟩,
        ⟨some 26, none, .load false 1 (.r 25)⟩,
        ⟨some 8, none, .asg (.r 26)⟩] [0, 5, 6, 8, 21, 22, 23])
      (.seq (.ops [⟨some 27, none, .mv (.r 0)⟩,
        ⟨some 28, none, .nilck (.r 27)⟩,
        ⟨some 29, none, .faddr 5 (.r 28)⟩,
        ⟨some 30, none, .load false 1 (.r 29)⟩,
        ⟨some 31, none, .len .sl (.r 30)⟩,
        ⟨some 32, none, .mv (.c (.int .i64 0))⟩] [0, 5, 6, 8, 21, 22, 23, 30, 31, 32])
      (.block 2 (.loop [0, 5, 6, 8, 21, 22, 23, 30, 31, 32] [(4, 0, 0), (6, 0, 1), (21, 0, 0)] c_ring_Ring_Order_l0)))))
  (.ops [⟨some 55, none, .bin .add .no (.r 23) (.c (.int .i64 1))⟩,
  ⟨some 23, none, .mv (.r 55)⟩] [0, 5, 6, 21, 22, 23]))))
def c_ring_Ring_Order : VFun := ⟨2,
  (.seq (.ops [⟨some 4, none, .asg (.c (.sl []))⟩] [0, 1])
  (.seq (.seq (.ops [⟨some 11, none, .mv (.r 0)⟩,
      ⟨some 12, none, .bin .eql .ptr (.r 11) (.c (.ptr none))⟩] [0, 1, 12])
    (.cond (.r 12) (.seq (.ops [⟨some 4, none, .asg (.c (.sl []))⟩] [4])
      .ret) .skip))
  (.seq (.ops [⟨some 13, none, .mv (.r 0)⟩,
    ⟨some 14, none, .nilck (.r 13)⟩,
    ⟨some 15, none, .faddr 1 (.r 14)⟩,
    ⟨some 16, none, .mv (.r 0)⟩,
    ⟨some 17, none, .mkfn F.ring_Ring_fill [(.r 16)] []⟩,
    ⟨some 18, none, .call false F.sync_Once_Do [(.r 15), (.r 17)]⟩] [0, 1])
  (.seq (.ops [⟨some 19, none, .mv (.r 1)⟩,
    ⟨some 20, none, .call false F.keys_Place [(.r 19)]⟩,
    ⟨some 5, none, .asg (.r 20)⟩] [0, 5])
  (.seq (.ops [⟨some 6, none, .asg (.c (.sl []))⟩] [0, 5, 6])
  (.seq (.seq (.ops [⟨some 21, none, .bslice (.bool false) 1 2 [(0, (.c (.bool true))), (1, (.c (.bool false)))]⟩,
      ⟨some 22, none, .len .sl (.r 21)⟩,
      ⟨some 23, none, .mv (.c (.int .i64 0))⟩] [0, 5, 6, 21, 22, 23])
    (.block 0 (.loop [0, 5, 6, 21, 22, 23] [(4, 0, 0), (6, 0, 1), (21, 0, 0)] c_ring_Ring_Order_l1)))
  (.seq (.ops [⟨some 56, none, .mv (.r 6)⟩,
    ⟨some 4, none, .asg (.r 56)⟩] [4])
  .ret))))))),
  [.r 4], none⟩
def c_ring_Ring_Owners : VFun := ⟨3,
  (.seq (.ops [⟨some 6, none, .asg (.c (.sl []))⟩] [0, 1, 2])
  (.seq (.ops [⟨some 8, none, .mv (.r 0)⟩,
    ⟨some 9, none, .mv (.r 1)⟩,
    ⟨some 10, none, .call false F.ring_Ring_Order [(.r 8), (.r 9)]⟩,
    ⟨some 7, none, .asg (.r 10)⟩] [2, 7])
  (.seq (.ops [⟨some 11, none, .mv (.r 7)⟩,
    ⟨some 12, none, .mv (.r 2)⟩,
    ⟨some 13, none, .mv (.r 7)⟩,
    ⟨some 14, none, .len .sl (.r 13)⟩,
    ⟨some 15, none, .mn [(.r 12), (.r 14)]⟩,
    ⟨some 16, none, .mx [(.c (.int .i64 0)), (.r 15)]⟩,
    ⟨some 17, none, .slice false 1 (.r 11) none (some (.r 16)) none⟩,
    ⟨some 6, none, .asg (.r 17)⟩] [6])
  .ret))),
  [.r 6], none⟩
def c_ring_Ring_Owns : VFun := ⟨4,
  (.seq (.ops [⟨some 8, none, .asg (.c (.bool false))⟩] [0, 1, 2, 3])
  (.seq (.ops [⟨some 9, none, .mv (.r 0)⟩,
    ⟨some 10, none, .mv (.r 2)⟩,
    ⟨some 11, none, .mv (.r 3)⟩,
    ⟨some 12, none, .call false F.ring_Ring_Owners [(.r 9), (.r 10), (.r 11)]⟩,
    ⟨some 13, none, .mv (.r 1)⟩,
    ⟨some 14, none, .call false F.slices_Contains_int_int [(.r 12), (.r 13)]⟩,
    ⟨some 8, none, .asg (.r 14)⟩] [8])
  .ret)),
  [.r 8], none⟩
def c_tattlerlaw14_awake : VFun := ⟨0,
  (.seq (.ops [⟨some 0, none, .asg (.c (.bool false))⟩] [])
  (.seq (.ops [⟨some 2, none, .call false F.ring_New [(.c (.int .i64 1))]⟩,
    ⟨some 3, none, .call false F.ring_Ring_Order [(.r 2), (.c (.str [107]))]⟩,
    ⟨some 1, none, .asg (.r 3)⟩] [1])
  (.seq (.ops [⟨some 4, none, .mv (.r 1)⟩,
    ⟨some 5, none, .len .sl (.r 4)⟩,
    ⟨some 6, none, .bin .eql .no (.r 5) (.c (.int .i64 1))⟩,
    ⟨some 7, none, .mv (.r 6)⟩,
    ⟨some 8, some (7, true), .mv (.r 1)⟩,
    ⟨some 9, some (7, true), .iaddr none 1 (.r 8) (.c (.int .i64 0))⟩,
    ⟨some 10, some (7, true), .load false 1 (.r 9)⟩,
    ⟨some 11, some (7, true), .bin .eql .no (.r 10) (.c (.int .i64 0))⟩,
    ⟨some 12, none, .pick (.r 7) (.r 11) (.c (.bool false))⟩,
    ⟨some 13, none, .mv (.r 12)⟩,
    ⟨some 14, some (13, true), .call false F.ring_New [(.c (.int .i64 5))]⟩,
    ⟨some 15, some (13, true), .call false F.ring_Ring_Order [(.r 14), (.c (.str [107]))]⟩,
    ⟨some 16, some (13, true), .len .sl (.r 15)⟩,
    ⟨some 17, some (13, true), .bin .eql .no (.r 16) (.c (.int .i64 5))⟩,
    ⟨some 18, none, .pick (.r 13) (.r 17) (.c (.bool false))⟩,
    ⟨some 0, none, .asg (.r 18)⟩] [0])
  .ret))),
  [.r 0], none⟩
def c_tattlerlaw14_RingPlaces_l0 : VCode := (.seq (.seq (.ops [⟨some 26, none, .mv (.r 8)⟩,
      ⟨some 27, none, .mv (.r 0)⟩,
      ⟨some 28, none, .bin .lss .no (.r 26) (.r 27)⟩] [0, 5, 7, 8, 28])
    (.cond (.r 28) .skip (.exit 0)))
  (.seq (.block 1 (.seq (.dops 12 [⟨some 31, none, .mv (.r 7)⟩,
        ⟨some 32, none, .mv (.r 5)⟩,
        ⟨some 33, none, .mv (.r 8)⟩,
        ⟨some 34, none, .bin .sub .no (.r 33) (.c (.int .i64 1))⟩,
        ⟨some 35, none, .iaddr none 1 (.r 32) (.r 34)⟩,
        ⟨some 36, none, .load false 1 (.r 35)⟩,
        ⟨some 37, none, .callv true (.r 31) [(.r 36)]⟩,
        ⟨some 38, none, .mv (.r 7)⟩,
        ⟨some 39, none, .mv (.r 5)⟩,
        ⟨some 40, none, .mv (.r 8)⟩,
        ⟨some 41, none, .iaddr none 1 (.r 39) (.r 40)⟩,
        ⟨some 42, none, .load false 1 (.r 41)⟩,
        ⟨some 43, none, .callv false (.r 38) [(.r 42)]⟩,
        ⟨some 44, none, .bin .gtr .no (.r 37) (.r 43)⟩] [0, 5, 7, 8, 44])
      (.cond (.r 44) (.seq (.ops [⟨some 4, none, .asg (.c (.bool false))⟩] [4])
        .ret) .skip)))
  (.ops [⟨some 29, none, .mv (.r 8)⟩,
  ⟨some 30, none, .bin .add .no (.r 29) (.c (.int .i64 1))⟩,
  ⟨some 8, none, .asg (.r 30)⟩] [0, 5, 7, 8])))
def c_tattlerlaw14_RingPlaces : VFun := ⟨2,
  (.seq (.ops [⟨some 4, none, .asg (.c (.bool false))⟩] [0, 1])
  (.seq (.ops [⟨some 9, none, .mv (.r 0)⟩,
    ⟨some 10, none, .conv (.toInt .u64) (.r 9)⟩,
    ⟨some 11, none, .bin .rem .no (.r 10) (.c (.int .u64 8))⟩,
    ⟨some 12, none, .conv (.toInt .i64) (.r 11)⟩,
    ⟨some 13, none, .bin .add .no (.r 12) (.c (.int .i64 1))⟩,
    ⟨some 0, none, .asg (.r 13)⟩] [0, 1])
  (.seq (.ops [⟨some 14, none, .mv (.r 0)⟩,
    ⟨some 15, none, .call false F.ring_New [(.r 14)]⟩,
    ⟨some 16, none, .mv (.r 1)⟩,
    ⟨some 17, none, .call false F.ring_Ring_Order [(.r 15), (.r 16)]⟩,
    ⟨some 5, none, .asg (.r 17)⟩] [0, 1, 5])
  (.seq (.seq (.ops [⟨some 18, none, .mv (.r 5)⟩,
      ⟨some 19, none, .len .sl (.r 18)⟩,
      ⟨some 20, none, .mv (.r 0)⟩,
      ⟨some 21, none, .bin .neq .no (.r 19) (.r 20)⟩] [0, 1, 5, 21])
    (.cond (.r 21) (.seq (.ops [⟨some 4, none, .asg (.c (.bool false))⟩] [4])
      .ret) .skip))
  (.seq (.ops [⟨some 22, none, .mv (.r 1)⟩,
    ⟨some 23, none, .bstr (.r 22)⟩,
    ⟨some 24, none, .call false F.tattlerref1_Mix [(.r 23)]⟩,
    ⟨some 6, none, .alloc [(.int .u32 0)] []⟩,
    ⟨none, none, .store 1 (.r 6) (.r 24) [] none⟩] [0, 5, 6])
  (.seq (.ops [⟨some 25, none, .mkfn F.tattlerlaw14_RingPlaces_c1 [] [(.r 6)]⟩,
    ⟨some 7, none, .asg (.r 25)⟩] [0, 5, 7])
  (.seq (.seq (.ops [⟨some 8, none, .asg (.c (.int .i64 1))⟩] [0, 5, 7, 8])
    (.block 0 (.loop [0, 5, 7, 8] [] c_tattlerlaw14_RingPlaces_l0)))
  (.seq (.ops [⟨some 45, none, .call false F.tattlerlaw14_awake []⟩,
    ⟨some 4, none, .asg (.r 45)⟩] [4])
  .ret)))))))),
  [.r 4], none⟩
def c_tattlerlaw14_RingWhole_l0 : VCode := (.seq (.ops [⟨some 42, none, .bin .lss .no (.r 41) (.r 40)⟩] [0, 1, 2, 3, 9, 10, 11, 12, 39, 40, 41, 42])
  (.seq (.cond (.r 42) .skip (.exit 0))
  (.seq (.block 1 (.seq (.ops [⟨some 43, none, .iaddr none 1 (.r 39) (.r 41)⟩,
        ⟨some 44, none, .load false 1 (.r 43)⟩,
        ⟨some 14, none, .asg (.r 44)⟩] [0, 1, 2, 3, 9, 10, 11, 12, 14, 39, 40, 41])
      (.seq (.seq (.ops [⟨some 45, none, .mv (.r 14)⟩,
          ⟨some 46, none, .bin .lss .no (.r 45) (.c (.int .i64 0))⟩,
          ⟨some 47, none, .mv (.r 46)⟩,
          ⟨some 48, some (47, false), .mv (.r 14)⟩,
          ⟨some 49, some (47, false), .mv (.r 0)⟩,
          ⟨some 50, some (47, false), .bin .geq .no (.r 48) (.r 49)⟩,
          ⟨some 51, none, .pick (.r 47) (.c (.bool true)) (.r 50)⟩,
          ⟨some 52, none, .mv (.r 51)⟩,
          ⟨some 53, some (52, false), .mv (.r 12)⟩,
          ⟨some 54, some (52, false), .mv (.r 14)⟩,
          ⟨some 55, some (52, false), .iaddr none 1 (.r 53) (.r 54)⟩,
          ⟨some 56, some (52, false), .load false 1 (.r 55)⟩,
          ⟨some 57, none, .pick (.r 52) (.c (.bool true)) (.r 56)⟩] [0, 1, 2, 3, 9, 10, 11, 12, 14, 39, 40, 41, 57])
        (.cond (.r 57) (.seq (.ops [⟨some 8, none, .asg (.c (.bool false))⟩] [8])
          .ret) .skip))
      (.ops [⟨some 58, none, .mv (.r 12)⟩,
      ⟨some 59, none, .mv (.r 14)⟩,
      ⟨some 60, none, .iaddr none 1 (.r 58) (.r 59)⟩,
      ⟨none, none, .store 1 (.r 60) (.c (.bool true)) [] none⟩] [0, 1, 2, 3, 9, 10, 11, 12, 39, 40, 41]))))
  (.ops [⟨some 61, none, .bin .add .no (.r 41) (.c (.int .i64 1))⟩,
  ⟨some 41, none, .mv (.r 61)⟩] [0, 1, 2, 3, 9, 10, 11, 12, 39, 40, 41]))))
def c_tattlerlaw14_RingWhole_l1 : VCode := (.seq (.ops [⟨some 111, none, .bin .lss .no (.r 110) (.r 109)⟩] [0, 11, 17, 108, 109, 110, 111])
  (.seq (.cond (.r 111) .skip (.exit 2))
  (.seq (.block 3 (.seq (.ops [⟨some 112, none, .iaddr none 1 (.r 108) (.r 110)⟩,
        ⟨some 113, none, .load false 1 (.r 112)⟩,
        ⟨some 19, none, .asg (.r 113)⟩] [0, 11, 17, 19, 108, 109, 110])
      (.seq (.ops [⟨some 114, none, .mv (.r 19)⟩,
        ⟨some 115, none, .mv (.r 0)⟩,
        ⟨some 116, none, .bin .neq .no (.r 114) (.r 115)⟩] [0, 11, 17, 19, 108, 109, 110, 116])
      (.cond (.r 116) (.ops [⟨some 117, none, .mv (.r 17)⟩,
        ⟨some 118, none, .mv (.r 19)⟩,
        ⟨some 119, none, .bslice (.int .i64 0) 1 1 [(0, (.r 118))]⟩,
        ⟨some 120, none, .app (.reg 17) 1 8 (.r 117) (.r 119)⟩,
        ⟨some 17, none, .asg (.r 120)⟩] [0, 11, 17, 108, 109, 110]) .skip))))
  (.ops [⟨some 121, none, .bin .add .no (.r 110) (.c (.int .i64 1))⟩,
  ⟨some 110, none, .mv (.r 121)⟩] [0, 11, 17, 108, 109, 110]))))
def c_tattlerlaw14_RingWhole : VFun := ⟨4,
  (.seq (.ops [⟨some 8, none, .asg (.c (.bool false))⟩] [0, 1, 2, 3])
  (.seq (.ops [⟨some 20, none, .mv (.r 0)⟩,
    ⟨some 21, none, .conv (.toInt .u64) (.r 20)⟩,
    ⟨some 22, none, .bin .rem .no (.r 21) (.c (.int .u64 7))⟩,
    ⟨some 23, none, .conv (.toInt .i64) (.r 22)⟩,
    ⟨some 24, none, .bin .add .no (.r 23) (.c (.int .i64 1))⟩,
    ⟨some 0, none, .asg (.r 24)⟩] [0, 1, 2, 3])
  (.seq (.ops [⟨some 25, none, .mv (.r 0)⟩,
    ⟨some 26, none, .call false F.ring_New [(.r 25)]⟩,
    ⟨some 27, none, .mv (.r 0)⟩,
    ⟨some 28, none, .bin .add .no (.r 27) (.c (.int .i64 1))⟩,
    ⟨some 29, none, .call false F.ring_New [(.r 28)]⟩,
    ⟨some 9, none, .asg (.r 26)⟩,
    ⟨some 10, none, .asg (.r 29)⟩] [0, 1, 2, 3, 9, 10])
  (.seq (.ops [⟨some 30, none, .mv (.r 9)⟩,
    ⟨some 31, none, .mv (.r 1)⟩,
    ⟨some 32, none, .call false F.ring_Ring_Order [(.r 30), (.r 31)]⟩,
    ⟨some 11, none, .asg (.r 32)⟩] [0, 1, 2, 3, 9, 10, 11])
  (.seq (.seq (.ops [⟨some 33, none, .mv (.r 11)⟩,
      ⟨some 34, none, .len .sl (.r 33)⟩,
      ⟨some 35, none, .mv (.r 0)⟩,
      ⟨some 36, none, .bin .neq .no (.r 34) (.r 35)⟩] [0, 1, 2, 3, 9, 10, 11, 36])
    (.cond (.r 36) (.seq (.ops [⟨some 8, none, .asg (.c (.bool false))⟩] [8])
      .ret) .skip))
  (.seq (.ops [⟨some 37, none, .mv (.r 0)⟩,
    ⟨some 38, none, .mkm 1 [(.bool false)] (.r 37)⟩,
    ⟨some 12, none, .asg (.r 38)⟩] [0, 1, 2, 3, 9, 10, 11, 12])
  (.seq (.seq (.ops [⟨some 39, none, .mv (.r 11)⟩,
      ⟨some 40, none, .len .sl (.r 39)⟩,
      ⟨some 41, none, .mv (.c (.int .i64 0))⟩] [0, 1, 2, 3, 9, 10, 11, 12, 39, 40, 41])
    (.block 0 (.loop [0, 1, 2, 3, 9, 10, 11, 12, 39, 40, 41] [] c_tattlerlaw14_RingWhole_l0)))
  (.seq (.ops [⟨some 62, none, .mv (.r 2)⟩,
    ⟨some 63, none, .conv (.toInt .u64) (.r 62)⟩,
    ⟨some 64, none, .bin .rem .no (.r 63) (.c (.int .u64 9))⟩,
    ⟨some 65, none, .conv (.toInt .i64) (.r 64)⟩,
    ⟨some 66, none, .mv (.r 3)⟩,
    ⟨some 67, none, .conv (.toInt .u64) (.r 66)⟩,
    ⟨some 68, none, .bin .rem .no (.r 67) (.c (.int .u64 9))⟩,
    ⟨some 69, none, .conv (.toInt .i64) (.r 68)⟩,
    ⟨some 2, none, .asg (.r 65)⟩,
    ⟨some 3, none, .asg (.r 69)⟩] [0, 1, 2, 3, 9, 10, 11])
  (.seq (.seq (.ops [⟨some 70, none, .mv (.r 2)⟩,
      ⟨some 71, none, .mv (.r 3)⟩,
      ⟨some 72, none, .bin .gtr .no (.r 70) (.r 71)⟩] [0, 1, 2, 3, 9, 10, 11, 72])
    (.cond (.r 72) (.ops [⟨some 73, none, .mv (.r 3)⟩,
      ⟨some 74, none, .mv (.r 2)⟩,
      ⟨some 2, none, .asg (.r 73)⟩,
      ⟨some 3, none, .asg (.r 74)⟩] [0, 1, 2, 3, 9, 10, 11]) .skip))
  (.seq (.ops [⟨some 75, none, .mv (.r 9)⟩,
    ⟨some 76, none, .mv (.r 1)⟩,
    ⟨some 77, none, .mv (.r 2)⟩,
    ⟨some 78, none, .call false F.ring_Ring_Owners [(.r 75), (.r 76), (.r 77)]⟩,
    ⟨some 79, none, .mv (.r 9)⟩,
    ⟨some 80, none, .mv (.r 1)⟩,
    ⟨some 81, none, .mv (.r 3)⟩,
    ⟨some 82, none, .call false F.ring_Ring_Owners [(.r 79), (.r 80), (.r 81)]⟩,
    ⟨some 15, none, .asg (.r 78)⟩,
    ⟨some 16, none, .asg (.r 82)⟩] [0, 1, 2, 3, 10, 11, 15, 16])
  (.seq (.seq (.ops [⟨some 83, none, .mv (.r 15)⟩,
      ⟨some 84, none, .len .sl (.r 83)⟩,
      ⟨some 85, none, .mv (.r 2)⟩,
      ⟨some 86, none, .mv (.r 0)⟩,
      ⟨some 87, none, .mn [(.r 85), (.r 86)]⟩,
      ⟨some 88, none, .bin .neq .no (.r 84) (.r 87)⟩,
      ⟨some 89, none, .mv (.r 88)⟩,
      ⟨some 90, some (89, false), .mv (.r 16)⟩,
      ⟨some 91, some (89, false), .len .sl (.r 90)⟩,
      ⟨some 92, some (89, false), .mv (.r 3)⟩,
      ⟨some 93, some (89, false), .mv (.r 0)⟩,
      ⟨some 94, some (89, false), .mn [(.r 92), (.r 93)]⟩,
      ⟨some 95, some (89, false), .bin .neq .no (.r 91) (.r 94)⟩,
      ⟨some 96, none, .pick (.r 89) (.c (.bool true)) (.r 95)⟩,
      ⟨some 97, none, .mv (.r 96)⟩,
      ⟨some 98, some (97, false), .mv (.r 15)⟩,
      ⟨some 99, some (97, false), .mv (.r 16)⟩,
      ⟨some 100, some (97, false), .mv (.r 15)⟩,
      ⟨some 101, some (97, false), .len .sl (.r 100)⟩,
      ⟨some 102, some (97, false), .slice false 1 (.r 99) none (some (.r 101)) none⟩,
      ⟨some 103, some (97, false), .call false F.tattlerref5_SameInts [(.r 98), (.r 102)]⟩,
      ⟨some 104, some (97, false), .un .not (.r 103)⟩,
      ⟨some 105, none, .pick (.r 97) (.c (.bool true)) (.r 104)⟩] [0, 1, 10, 11, 105])
    (.cond (.r 105) (.seq (.ops [⟨some 8, none, .asg (.c (.bool false))⟩] [8])
      .ret) .skip))
  (.seq (.ops [⟨some 17, none, .asg (.c (.sl []))⟩] [0, 1, 10, 11, 17])
  (.seq (.seq (.ops [⟨some 106, none, .mv (.r 10)⟩,
      ⟨some 107, none, .mv (.r 1)⟩,
      ⟨some 108, none, .call false F.ring_Ring_Order [(.r 106), (.r 107)]⟩,
      ⟨some 109, none, .len .sl (.r 108)⟩,
      ⟨some 110, none, .mv (.c (.int .i64 0))⟩] [0, 11, 17, 108, 109, 110])
    (.block 2 (.loop [0, 11, 17, 108, 109, 110] [(17, 0, 1)] c_tattlerlaw14_RingWhole_l1)))
  (.seq (.ops [⟨some 122, none, .mv (.r 17)⟩,
    ⟨some 123, none, .mv (.r 11)⟩,
    ⟨some 124, none, .call false F.tattlerref5_SameInts [(.r 122), (.r 123)]⟩,
    ⟨some 125, none, .mv (.r 124)⟩,
    ⟨some 126, some (125, true), .call false F.tattlerlaw14_awake []⟩,
    ⟨some 127, none, .pick (.r 125) (.r 126) (.c (.bool false))⟩,
    ⟨some 8, none, .asg (.r 127)⟩] [8])
  .ret)))))))))))))),
  [.r 8], none⟩
def c_tattlerlaw14_RingOrders : VFun := ⟨4,
  (.seq (.ops [⟨some 8, none, .asg (.c (.bool false))⟩] [0, 1, 2, 3])
  (.seq (.ops [⟨some 11, none, .mv (.r 0)⟩,
    ⟨some 12, none, .call false F.ring_New [(.r 11)]⟩,
    ⟨some 9, none, .asg (.r 12)⟩] [0, 1, 2, 3, 9])
  (.seq (.ops [⟨some 13, none, .mv (.r 0)⟩,
    ⟨some 14, none, .mv (.r 1)⟩,
    ⟨some 15, none, .mv (.r 2)⟩,
    ⟨some 16, none, .call false F.tattlerref14_Owners [(.r 13), (.r 14), (.r 15)]⟩,
    ⟨some 10, none, .asg (.r 16)⟩] [0, 1, 2, 3, 9, 10])
  (.seq (.ops [⟨some 17, none, .mv (.r 9)⟩,
    ⟨some 18, none, .call false F.ring_Ring_Nodes [(.r 17)]⟩,
    ⟨some 19, none, .mv (.r 0)⟩,
    ⟨some 20, none, .mn [(.r 19), (.c (.int .i64 8))]⟩,
    ⟨some 21, none, .mx [(.c (.int .i64 0)), (.r 20)]⟩,
    ⟨some 22, none, .bin .eql .no (.r 18) (.r 21)⟩,
    ⟨some 23, none, .mv (.r 22)⟩,
    ⟨some 24, some (23, true), .mv (.r 9)⟩,
    ⟨some 25, some (23, true), .mv (.r 1)⟩,
    ⟨some 26, some (23, true), .call false F.ring_Ring_Order [(.r 24), (.r 25)]⟩,
    ⟨some 27, some (23, true), .mv (.r 0)⟩,
    ⟨some 28, some (23, true), .mv (.r 1)⟩,
    ⟨some 29, some (23, true), .call false F.tattlerref14_Order [(.r 27), (.r 28)]⟩,
    ⟨some 30, some (23, true), .call false F.tattlerref5_SameInts [(.r 26), (.r 29)]⟩,
    ⟨some 31, none, .pick (.r 23) (.r 30) (.c (.bool false))⟩,
    ⟨some 32, none, .mv (.r 31)⟩,
    ⟨some 33, some (32, true), .mv (.r 9)⟩,
    ⟨some 34, some (32, true), .mv (.r 1)⟩,
    ⟨some 35, some (32, true), .mv (.r 2)⟩,
    ⟨some 36, some (32, true), .call false F.ring_Ring_Owners [(.r 33), (.r 34), (.r 35)]⟩,
    ⟨some 37, some (32, true), .mv (.r 10)⟩,
    ⟨some 38, some (32, true), .call false F.tattlerref5_SameInts [(.r 36), (.r 37)]⟩,
    ⟨some 39, none, .pick (.r 32) (.r 38) (.c (.bool false))⟩,
    ⟨some 40, none, .mv (.r 39)⟩,
    ⟨some 41, some (40, true), .mv (.r 9)⟩,
    ⟨some 42, some (40, true), .mv (.r 3)⟩,
    ⟨some 43, some (40, true), .mv (.r 1)⟩,
    ⟨some 44, some (40, true), .mv (.r 2)⟩,
    ⟨some 45, some (40, true), .call false F.ring_Ring_Owns [(.r 41), (.r 42), (.r 43), (.r 44)]⟩,
    ⟨some 46, some (40, true), .mv (.r 10)⟩,
    ⟨some 47, some (40, true), .mv (.r 3)⟩,
    ⟨some 48, some (40, true), .call false F.tattlerref14_In [(.r 46), (.r 47)]⟩,
    ⟨some 49, some (40, true), .bin .eql .bool (.r 45) (.r 48)⟩,
    ⟨some 50, none, .pick (.r 40) (.r 49) (.c (.bool false))⟩,
    ⟨some 51, none, .mv (.r 50)⟩,
    ⟨some 52, some (51, true), .call false F.tattlerlaw14_awake []⟩,
    ⟨some 53, none, .pick (.r 51) (.r 52) (.c (.bool false))⟩,
    ⟨some 8, none, .asg (.r 53)⟩] [8])
  .ret)))),
  [.r 8], none⟩
def c_tattlerlaw14_RingNil : VFun := ⟨2,
  (.seq (.ops [⟨some 4, none, .asg (.c (.bool false))⟩] [0, 1])
  (.seq (.ops [⟨some 5, none, .asg (.c (.ptr none))⟩] [0, 1, 5])
  (.seq (.ops [⟨some 6, none, .mv (.r 5)⟩,
    ⟨some 7, none, .call false F.ring_Ring_Nodes [(.r 6)]⟩,
    ⟨some 8, none, .bin .eql .no (.r 7) (.c (.int .i64 0))⟩,
    ⟨some 9, none, .mv (.r 8)⟩,
    ⟨some 10, some (9, true), .mv (.r 5)⟩,
    ⟨some 11, some (9, true), .mv (.r 0)⟩,
    ⟨some 12, some (9, true), .call false F.ring_Ring_Order [(.r 10), (.r 11)]⟩,
    ⟨some 13, some (9, true), .len .sl (.r 12)⟩,
    ⟨some 14, some (9, true), .bin .eql .no (.r 13) (.c (.int .i64 0))⟩,
    ⟨some 15, none, .pick (.r 9) (.r 14) (.c (.bool false))⟩,
    ⟨some 16, none, .mv (.r 15)⟩,
    ⟨some 17, some (16, true), .mv (.r 5)⟩,
    ⟨some 18, some (16, true), .mv (.r 0)⟩,
    ⟨some 19, some (16, true), .mv (.r 1)⟩,
    ⟨some 20, some (16, true), .call false F.ring_Ring_Owners [(.r 17), (.r 18), (.r 19)]⟩,
    ⟨some 21, some (16, true), .len .sl (.r 20)⟩,
    ⟨some 22, some (16, true), .bin .eql .no (.r 21) (.c (.int .i64 0))⟩,
    ⟨some 23, none, .pick (.r 16) (.r 22) (.c (.bool false))⟩,
    ⟨some 24, none, .mv (.r 23)⟩,
    ⟨some 25, some (24, true), .mv (.r 5)⟩,
    ⟨some 26, some (24, true), .mv (.r 1)⟩,
    ⟨some 27, some (24, true), .mv (.r 0)⟩,
    ⟨some 28, some (24, true), .mv (.r 1)⟩,
    ⟨some 29, some (24, true), .call false F.ring_Ring_Owns [(.r 25), (.r 26), (.r 27), (.r 28)]⟩,
    ⟨some 30, some (24, true), .un .not (.r 29)⟩,
    ⟨some 31, none, .pick (.r 24) (.r 30) (.c (.bool false))⟩,
    ⟨some 32, none, .mv (.r 31)⟩,
    ⟨some 33, some (32, true), .mv (.r 5)⟩,
    ⟨some 34, some (32, true), .call false F.ring_Ring_Made [(.r 33)]⟩,
    ⟨some 35, some (32, true), .bin .eql .no (.r 34) (.c (.int .i64 0))⟩,
    ⟨some 36, none, .pick (.r 32) (.r 35) (.c (.bool false))⟩,
    ⟨some 37, none, .mv (.r 36)⟩,
    ⟨some 38, some (37, true), .call false F.tattlerlaw14_awake []⟩,
    ⟨some 39, none, .pick (.r 37) (.r 38) (.c (.bool false))⟩,
    ⟨some 4, none, .asg (.r 39)⟩] [4])
  .ret))),
  [.r 4], none⟩
theorem ok_sync_Once_Do : FunOk Try.prog V.R F.sync_Once_Do c_sync_Once_Do := funOk_of Try.func21 rfl (by kernel_rfl) (by kernel_rfl) (by kernel_rfl) (by kernel_rfl) (linC_of (by kernel_rfl)) (by kernel_rfl) (of_decide_eq_true (by kernel_rfl)) (by kernel_rfl)
theorem ok_ring_Ring_Order : FunOk Try.prog V.R F.ring_Ring_Order c_ring_Ring_Order := funOk_of Try.func8 rfl (by kernel_rfl) (by kernel_rfl) (by kernel_rfl) (by kernel_rfl) (linC_of (by kernel_rfl)) (by kernel_rfl) (of_decide_eq_true (by kernel_rfl)) (by kernel_rfl)
theorem ok_ring_Ring_Owners : FunOk Try.prog V.R F.ring_Ring_Owners c_ring_Ring_Owners := funOk_of Try.func13 rfl (by kernel_rfl) (by kernel_rfl) (by kernel_rfl) (by kernel_rfl) (linC_of (by kernel_rfl)) (by kernel_rfl) (of_decide_eq_true (by kernel_rfl)) (by kernel_rfl)
theorem ok_ring_Ring_Owns : FunOk Try.prog V.R F.ring_Ring_Owns c_ring_Ring_Owns := funOk_of Try.func18 rfl (by kernel_rfl) (by kernel_rfl) (by kernel_rfl) (by kernel_rfl) (linC_of (by kernel_rfl)) (by kernel_rfl) (of_decide_eq_true (by kernel_rfl)) (by kernel_rfl)
theorem ok_tattlerlaw14_awake : FunOk Try.prog V.R F.tattlerlaw14_awake c_tattlerlaw14_awake := funOk_of Try.func12 rfl (by kernel_rfl) (by kernel_rfl) (by kernel_rfl) (by kernel_rfl) (linC_of (by kernel_rfl)) (by kernel_rfl) (of_decide_eq_true (by kernel_rfl)) (by kernel_rfl)
theorem ok_tattlerlaw14_RingPlaces : FunOk Try.prog V.R F.tattlerlaw14_RingPlaces c_tattlerlaw14_RingPlaces := funOk_of Try.func3 rfl (by kernel_rfl) (by kernel_rfl) (by kernel_rfl) (by kernel_rfl) (linC_of (by kernel_rfl)) (by kernel_rfl) (of_decide_eq_true (by kernel_rfl)) (by kernel_rfl)
theorem ok_tattlerlaw14_RingWhole : FunOk Try.prog V.R F.tattlerlaw14_RingWhole c_tattlerlaw14_RingWhole := funOk_of Try.func4 rfl (by kernel_rfl) (by kernel_rfl) (by kernel_rfl) (by kernel_rfl) (linC_of (by kernel_rfl)) (by kernel_rfl) (of_decide_eq_true (by kernel_rfl)) (by kernel_rfl)
theorem ok_tattlerlaw14_RingOrders : FunOk Try.prog V.R F.tattlerlaw14_RingOrders c_tattlerlaw14_RingOrders := funOk_of Try.func5 rfl (by kernel_rfl) (by kernel_rfl) (by kernel_rfl) (by kernel_rfl) (linC_of (by kernel_rfl)) (by kernel_rfl) (of_decide_eq_true (by kernel_rfl)) (by kernel_rfl)
theorem ok_tattlerlaw14_RingNil : FunOk Try.prog V.R F.tattlerlaw14_RingNil c_tattlerlaw14_RingNil := funOk_of Try.func6 rfl (by kernel_rfl) (by kernel_rfl) (by kernel_rfl) (by kernel_rfl) (linC_of (by kernel_rfl)) (by kernel_rfl) (of_decide_eq_true (by kernel_rfl)) (by kernel_rfl)
def tab : List (Nat × VFun) := [(F.sync_Once_Do, c_sync_Once_Do), (F.ring_Ring_Order, c_ring_Ring_Order), (F.ring_Ring_Owners, c_ring_Ring_Owners), (F.ring_Ring_Owns, c_ring_Ring_Owns), (F.tattlerlaw14_awake, c_tattlerlaw14_awake), (F.tattlerlaw14_RingPlaces, c_tattlerlaw14_RingPlaces), (F.tattlerlaw14_RingWhole, c_tattlerlaw14_RingWhole), (F.tattlerlaw14_RingOrders, c_tattlerlaw14_RingOrders), (F.tattlerlaw14_RingNil, c_tattlerlaw14_RingNil)]
noncomputable def prims : List (Nat × Prim) := [(F.ring_New, callL V.E F.ring_New), (F.ring_Ring_Nodes, callL V.E F.ring_Ring_Nodes), (F.ring_Ring_Made, callL V.E F.ring_Ring_Made), (F.keys_Place, callL V.E F.keys_Place), (F.slices_Contains_int_int, callL V.E F.slices_Contains_int_int), (F.sync_atomic_Bool_Load, callL V.E F.sync_atomic_Bool_Load), (F.tattlerref14_Order, callL V.E F.tattlerref14_Order), (F.tattlerref14_Owners, callL V.E F.tattlerref14_Owners), (F.tattlerref14_In, callL V.E F.tattlerref14_In), (F.tattlerref5_SameInts, callL V.E F.tattlerref5_SameInts), (F.tattlerref1_Mix, callL V.E F.tattlerref1_Mix), (F.tattlerlaw14_RingPlaces_c1, callL V.E F.tattlerlaw14_RingPlaces_c1), (F.sync_Once_doSlow, slowP W1.E)]
noncomputable abbrev E : Env := ⟨tabFn tab, primFn prims⟩
theorem envOk : EnvOk Try.prog V.R E := env_prims Try.checked.mixed ⟨prim_env V.envOk id rfl, prim_env V.envOk id rfl, prim_env V.envOk id rfl, prim_env V.envOk id rfl, prim_env V.envOk id rfl, prim_env V.envOk id rfl, prim_env V.envOk id rfl, prim_env V.envOk id rfl, prim_env V.envOk id rfl, prim_env V.envOk id rfl, prim_env V.envOk id rfl, prim_env V.envOk id rfl, slow_ok W1.envOk V0.slowAt rfl, trivial⟩ ⟨ok_sync_Once_Do, ok_ring_Ring_Order, ok_ring_Ring_Owners, ok_ring_Ring_Owns, ok_tattlerlaw14_awake, ok_tattlerlaw14_RingPlaces, ok_tattlerlaw14_RingWhole, ok_tattlerlaw14_RingOrders, ok_tattlerlaw14_RingNil, trivial⟩
theorem fn_sync_Once_Do : E.fn F.sync_Once_Do = some c_sync_Once_Do := rfl
theorem fn_ring_Ring_Order : E.fn F.ring_Ring_Order = some c_ring_Ring_Order := rfl
theorem fn_ring_Ring_Owners : E.fn F.ring_Ring_Owners = some c_ring_Ring_Owners := rfl
theorem fn_tattlerlaw14_awake : E.fn F.tattlerlaw14_awake = some c_tattlerlaw14_awake := rfl
theorem fn_tattlerlaw14_RingWhole : E.fn F.tattlerlaw14_RingWhole = some c_tattlerlaw14_RingWhole := rfl
theorem up_ring_New {a : List V} {h : Heap} {r} (g : callL V.E F.ring_New a h = some r) : callL E F.ring_New a h = some r := callL_prim rfl g
theorem up_keys_Place {a : List V} {h : Heap} {r} (g : callL V.E F.keys_Place a h = some r) : callL E F.keys_Place a h = some r := callL_prim rfl g
theorem up_slices_Contains_int_int {a : List V} {h : Heap} {r} (g : callL V.E F.slices_Contains_int_int a h = some r) : callL E F.slices_Contains_int_int a h = some r := callL_prim rfl g
theorem up_sync_atomic_Bool_Load {a : List V} {h : Heap} {r} (g : callL V.E F.sync_atomic_Bool_Load a h = some r) : callL E F.sync_atomic_Bool_Load a h = some r := callL_prim rfl g
theorem up_tattlerref5_SameInts {a : List V} {h : Heap} {r} (g : callL V.E F.tattlerref5_SameInts a h = some r) : callL E F.tattlerref5_SameInts a h = some r := callL_prim rfl g
end Go.Proofs.Ytkkionmmkmhlpaa.W2
