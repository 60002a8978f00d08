/- A table of functions over another one: its functions' code, and what the other tells. -/
import Derived.Test.YtionebfmjjpnbaaGreatVB1
import Derived.KernelRfl
namespace Go.Proofs.YtionebfmjjpnbaaGreat.W3
open Go.Vm Go.Proofs.YtionebfmjjpnbaaGreat.V
set_option maxRecDepth 100000
set_option linter.unusedVariables false
set_option linter.unusedSimpArgs false
def F.table_New : Nat := 6
def F.table_Table_All : Nat := 12
def F.table_Table_Bucket : Nat := 14
def F.table_Table_Get : Nat := 16
def F.table_Table_Join : Nat := 7
def F.table_Table_Len : Nat := 13
def F.table_Table_Reap : Nat := 25
def F.tattlerlaw10_TableJoins : Nat := 3
def F.tattlerlaw10_awake : Nat := 5
def F.tattlerlaw10_light : Nat := 4
def F.tattlerlaw10_reap : Nat := 10
def F.tattlerref5_Same : Nat := 9
def F.tattlerref5_SameEntries : Nat := 11
def F.tattlerref5_Table_Bucket : Nat := 15
def F.tattlerref5_Table_Get : Nat := 17
def F.tattlerref5_Table_Join : Nat := 8
def F.tattlerref5_Table_Reap : Nat := 26
def c_tattlerlaw10_TableJoins_l0 : VCode := (.seq (.ops [⟨some 34, none, .bin .lss .no (.r 33) (.r 32)⟩] [1, 2, 7, 8, 31, 32, 33, 34])
  (.seq (.cond (.r 34) .skip (.exit 0))
  (.seq (.block 1 (.seq (.ops [⟨some 35, none, .iaddr none 10 (.r 31) (.r 33)⟩,
        ⟨some 36, none, .load true 10 (.r 35)⟩,
        ⟨some 10, none, .alloc [(.str []), (.int .i64 0), (.int .i64 0), (.int .i64 0), (.int .i64 0), (.int .i64 0), (.int .i64 0), (.int .i64 0), (.int .i64 0), (.sl [])] []⟩,
        ⟨none, none, .store 10 (.r 10) (.r 36) [] none⟩] [1, 2, 7, 8, 10, 31, 32, 33])
      (.seq (.ops [⟨some 38, none, .mv (.r 7)⟩,
        ⟨some 39, none, .load true 10 (.r 10)⟩,
        ⟨some 40, none, .call false F.table_Table_Join [(.r 38), (.r 39)]⟩,
        ⟨some 37, none, .mv (.r 40)⟩,
        ⟨some 41, none, .extract 0 (.r 37)⟩,
        ⟨some 42, none, .extract 1 (.r 37)⟩,
        ⟨some 43, none, .extract 2 (.r 37)⟩,
        ⟨some 11, none, .alloc [(.int .i64 0), (.int .i64 0), (.int .i64 0), (.int .i64 0), (.int .i64 0), (.int .i64 0), (.int .i64 0), (.int .i64 0), (.sl [])] []⟩,
        ⟨none, none, .store 9 (.r 11) (.r 41) [] none⟩,
        ⟨some 12, none, .asg (.r 42)⟩,
        ⟨some 13, none, .asg (.r 43)⟩] [1, 2, 7, 8, 10, 11, 12, 13, 31, 32, 33])
      (.seq (.ops [⟨some 45, none, .mv (.r 8)⟩,
        ⟨some 46, none, .load true 10 (.r 10)⟩,
        ⟨some 47, none, .call false F.tattlerref5_Table_Join [(.r 45), (.r 46)]⟩,
        ⟨some 44, none, .mv (.r 47)⟩,
        ⟨some 48, none, .extract 0 (.r 44)⟩,
        ⟨some 49, none, .extract 1 (.r 44)⟩,
        ⟨some 50, none, .extract 2 (.r 44)⟩,
        ⟨some 14, none, .alloc [(.int .i64 0), (.int .i64 0), (.int .i64 0), (.int .i64 0), (.int .i64 0), (.int .i64 0), (.int .i64 0), (.int .i64 0), (.sl [])] []⟩,
        ⟨none, none, .store 9 (.r 14) (.r 48) [] none⟩,
        ⟨some 15, none, .asg (.r 49)⟩,
        ⟨some 16, none, .asg (.r 50)⟩] [1, 2, 7, 8, 11, 12, 13, 14, 15, 16, 31, 32, 33])
      (.seq (.ops [⟨some 51, none, .load true 9 (.r 11)⟩,
        ⟨some 52, none, .load true 9 (.r 14)⟩,
        ⟨some 53, none, .call false F.tattlerref5_Same [(.r 51), (.r 52)]⟩,
        ⟨some 54, none, .un .not (.r 53)⟩,
        ⟨some 55, none, .mv (.r 54)⟩,
        ⟨some 56, some (55, false), .mv (.r 12)⟩,
        ⟨some 57, some (55, false), .mv (.r 15)⟩,
        ⟨some 58, some (55, false), .bin .neq .bool (.r 56) (.r 57)⟩,
        ⟨some 59, none, .pick (.r 55) (.c (.bool true)) (.r 58)⟩,
        ⟨some 60, none, .mv (.r 59)⟩,
        ⟨some 61, some (60, false), .mv (.r 13)⟩,
        ⟨some 62, some (60, false), .mv (.r 16)⟩,
        ⟨some 63, some (60, false), .bin .neq .no (.r 61) (.r 62)⟩,
        ⟨some 64, none, .pick (.r 60) (.c (.bool true)) (.r 63)⟩] [1, 2, 7, 8, 31, 32, 33, 64])
      (.cond (.r 64) (.seq (.ops [⟨some 6, none, .asg (.c (.bool false))⟩] [6])
        .ret) .skip))))))
  (.ops [⟨some 65, none, .bin .add .no (.r 33) (.c (.int .i64 1))⟩,
  ⟨some 33, none, .mv (.r 65)⟩] [1, 2, 7, 8, 31, 32, 33]))))
def c_tattlerlaw10_TableJoins_l1 : VCode := (.seq (.seq (.ops [⟨some 91, none, .mv (.r 17)⟩,
      ⟨some 92, none, .bin .leq .no (.r 91) (.c (.int .i64 4))⟩] [2, 7, 8, 17, 92])
    (.cond (.r 92) .skip (.exit 2)))
  (.seq (.block 3 (.seq (.ops [⟨some 95, none, .mv (.r 7)⟩,
        ⟨some 96, none, .mv (.r 17)⟩,
        ⟨some 97, none, .call false F.table_Table_Bucket [(.r 95), (.r 96)]⟩,
        ⟨some 98, none, .mv (.r 8)⟩,
        ⟨some 99, none, .mv (.r 17)⟩,
        ⟨some 100, none, .call false F.tattlerref5_Table_Bucket [(.r 98), (.r 99)]⟩,
        ⟨some 101, none, .call false F.tattlerref5_SameEntries [(.r 97), (.r 100)]⟩,
        ⟨some 102, none, .un .not (.r 101)⟩] [2, 7, 8, 17, 102])
      (.cond (.r 102) (.seq (.ops [⟨some 6, none, .asg (.c (.bool false))⟩] [6])
        .ret) .skip)))
  (.ops [⟨some 93, none, .mv (.r 17)⟩,
  ⟨some 94, none, .bin .add .no (.r 93) (.c (.int .i64 1))⟩,
  ⟨some 17, none, .asg (.r 94)⟩] [2, 7, 8, 17])))
/-- tattler/tattlerlaw10.TableJoins -/
def c_tattlerlaw10_TableJoins : VFun := ⟨3,
  (.seq (.ops [⟨some 6, none, .asg (.c (.bool false))⟩] [0, 1, 2])
  (.seq (.seq (.ops [⟨some 22, none, .mv (.r 0)⟩,
      ⟨some 23, none, .call false F.tattlerlaw10_light [(.r 22)]⟩,
      ⟨some 24, none, .un .not (.r 23)⟩] [0, 1, 2, 24])
    (.cond (.r 24) (.seq (.ops [⟨some 25, none, .call false F.tattlerlaw10_awake []⟩,
        ⟨some 6, none, .asg (.r 25)⟩] [6])
      .ret) .skip))
  (.seq (.ops [⟨some 26, none, .call false F.table_New []⟩,
    ⟨some 27, none, .build [(.sl [])] []⟩,
    ⟨some 28, none, .box 1 (.r 27)⟩,
    ⟨some 7, none, .asg (.r 26)⟩,
    ⟨some 8, none, .asg (.r 28)⟩] [0, 1, 2, 7, 8])
  (.seq (.seq (.ops [⟨some 29, none, .mv (.r 7)⟩,
      ⟨some 30, none, .bin .eql .ptr (.r 29) (.c (.ptr none))⟩] [0, 1, 2, 7, 8, 30])
    (.cond (.r 30) (.seq (.ops [⟨some 6, none, .asg (.c (.bool false))⟩] [6])
      .ret) .skip))
  (.seq (.seq (.ops [⟨some 31, none, .mv (.r 0)⟩,
      ⟨some 32, none, .len .sl (.r 31)⟩,
      ⟨some 33, none, .mv (.c (.int .i64 0))⟩] [1, 2, 7, 8, 31, 32, 33])
    (.block 0 (.loop [1, 2, 7, 8, 31, 32, 33] [] c_tattlerlaw10_TableJoins_l0)))
  (.seq (.seq (.xops 23 3 [] [⟨some 66, none, .mv (.r 7)⟩,
      ⟨some 67, none, .mv (.r 8)⟩,
      ⟨some 68, none, .mv (.r 1)⟩,
      ⟨some 69, none, .call false F.tattlerlaw10_reap [(.r 66), (.r 67), (.r 68)]⟩,
      ⟨some 70, none, .un .not (.r 69)⟩,
      ⟨some 71, none, .mv (.r 70)⟩,
      ⟨some 72, some (71, false), .mv (.r 7)⟩,
      ⟨some 73, some (71, false), .call true F.table_Table_All [(.r 72)]⟩,
      ⟨some 74, some (71, false), .mv (.r 8)⟩,
      ⟨some 75, some (71, false), .nilck (.r 74)⟩,
      ⟨some 76, some (71, false), .faddr 0 (.r 75)⟩,
      ⟨some 77, some (71, false), .load false 1 (.r 76)⟩,
      ⟨some 78, some (71, false), .call true F.tattlerref5_SameEntries [(.r 73), (.r 77)]⟩,
      ⟨some 79, some (71, false), .un .not (.r 78)⟩,
      ⟨some 80, none, .pick (.r 71) (.c (.bool true)) (.r 79)⟩,
      ⟨some 81, none, .mv (.r 80)⟩,
      ⟨some 82, some (81, false), .mv (.r 7)⟩,
      ⟨some 83, some (81, false), .call true F.table_Table_Len [(.r 82)]⟩,
      ⟨some 84, some (81, false), .mv (.r 8)⟩,
      ⟨some 85, some (81, false), .nilck (.r 84)⟩,
      ⟨some 86, some (81, false), .faddr 0 (.r 85)⟩,
      ⟨some 87, some (81, false), .load false 1 (.r 86)⟩,
      ⟨some 88, some (81, false), .len .sl (.r 87)⟩,
      ⟨some 89, some (81, false), .bin .neq .no (.r 83) (.r 88)⟩,
      ⟨some 90, none, .pick (.r 81) (.c (.bool true)) (.r 89)⟩] [2, 7, 8, 90])
    (.cond (.r 90) (.seq (.ops [⟨some 6, none, .asg (.c (.bool false))⟩] [6])
      .ret) .skip))
  (.seq (.seq (.ops [⟨some 17, none, .asg (.c (.int .i64 (-1)))⟩] [2, 7, 8, 17])
    (.block 2 (.loop [2, 7, 8, 17] [] c_tattlerlaw10_TableJoins_l1)))
  (.seq (.ops [⟨some 104, none, .mv (.r 7)⟩,
    ⟨some 105, none, .mv (.r 2)⟩,
    ⟨some 106, none, .call false F.table_Table_Get [(.r 104), (.r 105)]⟩,
    ⟨some 103, none, .mv (.r 106)⟩,
    ⟨some 107, none, .extract 0 (.r 103)⟩,
    ⟨some 108, none, .extract 1 (.r 103)⟩,
    ⟨some 18, none, .alloc [(.int .i64 0), (.int .i64 0), (.int .i64 0), (.int .i64 0), (.int .i64 0), (.int .i64 0), (.int .i64 0), (.int .i64 0), (.sl [])] []⟩,
    ⟨none, none, .store 9 (.r 18) (.r 107) [] none⟩,
    ⟨some 19, none, .asg (.r 108)⟩] [2, 8, 18, 19])
  (.seq (.ops [⟨some 110, none, .mv (.r 8)⟩,
    ⟨some 111, none, .mv (.r 2)⟩,
    ⟨some 112, none, .call false F.tattlerref5_Table_Get [(.r 110), (.r 111)]⟩,
    ⟨some 109, none, .mv (.r 112)⟩,
    ⟨some 113, none, .extract 0 (.r 109)⟩,
    ⟨some 114, none, .extract 1 (.r 109)⟩,
    ⟨some 20, none, .alloc [(.int .i64 0), (.int .i64 0), (.int .i64 0), (.int .i64 0), (.int .i64 0), (.int .i64 0), (.int .i64 0), (.int .i64 0), (.sl [])] []⟩,
    ⟨none, none, .store 9 (.r 20) (.r 113) [] none⟩,
    ⟨some 21, none, .asg (.r 114)⟩] [18, 19, 20, 21])
  (.seq (.ops [⟨some 115, none, .load true 9 (.r 18)⟩,
    ⟨some 116, none, .load true 9 (.r 20)⟩,
    ⟨some 117, none, .call false F.tattlerref5_Same [(.r 115), (.r 116)]⟩,
    ⟨some 118, none, .mv (.r 117)⟩,
    ⟨some 119, some (118, true), .mv (.r 19)⟩,
    ⟨some 120, some (118, true), .mv (.r 21)⟩,
    ⟨some 121, some (118, true), .bin .eql .bool (.r 119) (.r 120)⟩,
    ⟨some 122, none, .pick (.r 118) (.r 121) (.c (.bool false))⟩,
    ⟨some 123, none, .mv (.r 122)⟩,
    ⟨some 124, some (123, true), .call false F.tattlerlaw10_awake []⟩,
    ⟨some 125, none, .pick (.r 123) (.r 124) (.c (.bool false))⟩,
    ⟨some 6, none, .asg (.r 125)⟩] [6])
  .ret)))))))))),
  [.r 6], none⟩
def c_tattlerlaw10_reap_l0 : VCode := (.seq (.ops [⟨some 12, none, .bin .lss .no (.r 11) (.r 10)⟩] [0, 1, 9, 10, 11, 12])
  (.seq (.cond (.r 12) .skip (.exit 0))
  (.seq (.block 1 (.seq (.ops [⟨some 13, none, .mv (.r 11)⟩,
        ⟨some 14, none, .iaddr none 1 (.r 9) (.r 11)⟩,
        ⟨some 15, none, .load false 1 (.r 14)⟩,
        ⟨some 7, none, .asg (.r 13)⟩,
        ⟨some 8, none, .asg (.r 15)⟩] [0, 1, 7, 8, 9, 10, 11])
      (.seq (.ops [⟨some 16, none, .mv (.r 7)⟩,
        ⟨some 17, none, .bin .lss .no (.r 16) (.c (.int .i64 20))⟩,
        ⟨some 18, none, .mv (.r 17)⟩,
        ⟨some 19, some (18, true), .mv (.r 0)⟩,
        ⟨some 20, some (18, true), .mv (.r 8)⟩,
        ⟨some 21, some (18, true), .call false F.table_Table_Reap [(.r 19), (.r 20)]⟩,
        ⟨some 22, some (18, true), .mv (.r 1)⟩,
        ⟨some 23, some (18, true), .mv (.r 8)⟩,
        ⟨some 24, some (18, true), .call false F.tattlerref5_Table_Reap [(.r 22), (.r 23)]⟩,
        ⟨some 25, some (18, true), .bin .neq .bool (.r 21) (.r 24)⟩,
        ⟨some 26, none, .pick (.r 18) (.r 25) (.c (.bool false))⟩] [0, 1, 9, 10, 11, 26])
      (.cond (.r 26) (.seq (.ops [⟨some 6, none, .asg (.c (.bool false))⟩] [6])
        .ret) .skip))))
  (.ops [⟨some 27, none, .bin .add .no (.r 11) (.c (.int .i64 1))⟩,
  ⟨some 11, none, .mv (.r 27)⟩] [0, 1, 9, 10, 11]))))
/-- tattler/tattlerlaw10.reap -/
def c_tattlerlaw10_reap : VFun := ⟨3,
  (.seq (.ops [⟨some 6, none, .asg (.c (.bool false))⟩] [0, 1, 2])
  (.seq (.seq (.ops [⟨some 9, none, .mv (.r 2)⟩,
      ⟨some 10, none, .len .sl (.r 9)⟩,
      ⟨some 11, none, .mv (.c (.int .i64 0))⟩] [0, 1, 9, 10, 11])
    (.block 0 (.loop [0, 1, 9, 10, 11] [] c_tattlerlaw10_reap_l0)))
  (.seq (.ops [⟨some 6, none, .asg (.c (.bool true))⟩] [6])
  .ret))),
  [.r 6], none⟩
theorem ok_tattlerlaw10_TableJoins : FunOk Tryz.prog V.R F.tattlerlaw10_TableJoins c_tattlerlaw10_TableJoins := funOk_of Tryz.func3 rfl (by kernel_rfl) (by kernel_rfl) (by kernel_rfl) (by kernel_rfl) (linC_of (by kernel_rfl)) (by kernel_rfl) (of_decide_eq_true (by kernel_rfl)) (by kernel_rfl)
theorem ok_tattlerlaw10_reap : FunOk Tryz.prog V.R F.tattlerlaw10_reap c_tattlerlaw10_reap := funOk_of Tryz.func10 rfl (by kernel_rfl) (by kernel_rfl) (by kernel_rfl) (by kernel_rfl) (linC_of (by kernel_rfl)) (by kernel_rfl) (of_decide_eq_true (by kernel_rfl)) (by kernel_rfl)
def tab : List (Nat × VFun) := [(F.tattlerlaw10_TableJoins, c_tattlerlaw10_TableJoins), (F.tattlerlaw10_reap, c_tattlerlaw10_reap)]
noncomputable def prims : List (Nat × Prim) := [(F.table_Table_Bucket, callL W1.E F.table_Table_Bucket), (F.table_Table_Join, callL V.E F.table_Table_Join), (F.table_Table_Reap, callL V.E F.table_Table_Reap), (F.table_Table_All, callL V.E F.table_Table_All), (F.table_Table_Len, callL V.E F.table_Table_Len), (F.table_Table_Get, callL V.E F.table_Table_Get), (F.table_New, callL V.E F.table_New), (F.tattlerlaw10_light, callL V.E F.tattlerlaw10_light), (F.tattlerlaw10_awake, callL V.E F.tattlerlaw10_awake), (F.tattlerref5_Table_Join, callL V.E F.tattlerref5_Table_Join), (F.tattlerref5_Table_Reap, callL V.E F.tattlerref5_Table_Reap), (F.tattlerref5_Table_Bucket, callL V.E F.tattlerref5_Table_Bucket), (F.tattlerref5_Table_Get, callL V.E F.tattlerref5_Table_Get), (F.tattlerref5_Same, callL V.E F.tattlerref5_Same), (F.tattlerref5_SameEntries, callL V.E F.tattlerref5_SameEntries)]
noncomputable abbrev E : Env := ⟨tabFn tab, primFn prims⟩
theorem envOk : EnvOk Tryz.prog V.R E := env_prims Tryz.checked.mixed ⟨prim_env W1.envOk id rfl, prim_env V.envOk id rfl, prim_env V.envOk id rfl, prim_env V.envOk id rfl, prim_env V.envOk id rfl, prim_env V.envOk id rfl, prim_env V.envOk id rfl, prim_env V.envOk id rfl, prim_env V.envOk id rfl, prim_env V.envOk id rfl, prim_env V.envOk id rfl, prim_env V.envOk id rfl, prim_env V.envOk id rfl, prim_env V.envOk id rfl, prim_env V.envOk id rfl, trivial⟩ ⟨ok_tattlerlaw10_TableJoins, ok_tattlerlaw10_reap, trivial⟩
theorem fn_tattlerlaw10_TableJoins : E.fn F.tattlerlaw10_TableJoins = some c_tattlerlaw10_TableJoins := rfl
theorem fn_tattlerlaw10_reap : E.fn F.tattlerlaw10_reap = some c_tattlerlaw10_reap := rfl
theorem up_table_Table_Bucket {a : List V} {h : Heap} {r} (g : callL W1.E F.table_Table_Bucket a h = some r) : callL E F.table_Table_Bucket a h = some r := callL_prim rfl g
theorem up_table_Table_Join {a : List V} {h : Heap} {r} (g : callL V.E F.table_Table_Join a h = some r) : callL E F.table_Table_Join a h = some r := callL_prim rfl g
theorem up_table_Table_Reap {a : List V} {h : Heap} {r} (g : callL V.E F.table_Table_Reap a h = some r) : callL E F.table_Table_Reap a h = some r := callL_prim rfl g
theorem up_table_Table_All {a : List V} {h : Heap} {r} (g : callL V.E F.table_Table_All a h = some r) : callL E F.table_Table_All a h = some r := callL_prim rfl g
theorem up_table_Table_Len {a : List V} {h : Heap} {r} (g : callL V.E F.table_Table_Len a h = some r) : callL E F.table_Table_Len a h = some r := callL_prim rfl g
theorem up_table_Table_Get {a : List V} {h : Heap} {r} (g : callL V.E F.table_Table_Get a h = some r) : callL E F.table_Table_Get a h = some r := callL_prim rfl g
theorem up_table_New {a : List V} {h : Heap} {r} (g : callL V.E F.table_New a h = some r) : callL E F.table_New a h = some r := callL_prim rfl g
theorem up_tattlerlaw10_light {a : List V} {h : Heap} {r} (g : callL V.E F.tattlerlaw10_light a h = some r) : callL E F.tattlerlaw10_light a h = some r := callL_prim rfl g
theorem up_tattlerlaw10_awake {a : List V} {h : Heap} {r} (g : callL V.E F.tattlerlaw10_awake a h = some r) : callL E F.tattlerlaw10_awake a h = some r := callL_prim rfl g
theorem up_tattlerref5_Table_Join {a : List V} {h : Heap} {r} (g : callL V.E F.tattlerref5_Table_Join a h = some r) : callL E F.tattlerref5_Table_Join a h = some r := callL_prim rfl g
theorem up_tattlerref5_Table_Reap {a : List V} {h : Heap} {r} (g : callL V.E F.tattlerref5_Table_Reap a h = some r) : callL E F.tattlerref5_Table_Reap a h = some r := callL_prim rfl g
theorem up_tattlerref5_Table_Bucket {a : List V} {h : Heap} {r} (g : callL V.E F.tattlerref5_Table_Bucket a h = some r) : callL E F.tattlerref5_Table_Bucket a h = some r := callL_prim rfl g
theorem up_tattlerref5_Table_Get {a : List V} {h : Heap} {r} (g : callL V.E F.tattlerref5_Table_Get a h = some r) : callL E F.tattlerref5_Table_Get a h = some r := callL_prim rfl g
theorem up_tattlerref5_Same {a : List V} {h : Heap} {r} (g : callL V.E F.tattlerref5_Same a h = some r) : callL E F.tattlerref5_Same a h = some r := callL_prim rfl g
theorem up_tattlerref5_SameEntries {a : List V} {h : Heap} {r} (g : callL V.E F.tattlerref5_SameEntries a h = some r) : callL E F.tattlerref5_SameEntries a h = some r := callL_prim rfl g
end Go.Proofs.YtionebfmjjpnbaaGreat.W3
