/- A table of functions over another one: its functions' code, and what the other tells. -/
import Derived.Test.YtionebfmjjpnbaaVB1
import Derived.KernelRfl
namespace Go.Proofs.Ytionebfmjjpnbaa.W2
open Go.Vm Go.Proofs.Ytionebfmjjpnbaa.V
set_option maxRecDepth 100000
set_option linter.unusedVariables false
set_option linter.unusedSimpArgs false
def F.table_New : Nat := 10
def F.table_Table_Bucket : Nat := 24
def F.table_Table_Join : Nat := 11
def F.table_Table_Len : Nat := 12
def F.tattlerlaw10_TableBuckets : Nat := 7
def F.tattlerlaw10_awake : Nat := 13
def F.tattlerlaw10_light : Nat := 14
def F.tattlerref5_Bucket : Nat := 25
def c_tattlerlaw10_TableBuckets_l0 : VCode := (.seq (.ops [⟨some 18, none, .bin .lss .no (.r 17) (.r 16)⟩] [3, 15, 16, 17, 18])
  (.seq (.cond (.r 18) .skip (.exit 0))
  (.seq (.block 1 (.seq (.ops [⟨some 19, none, .iaddr none 10 (.r 15) (.r 17)⟩,
        ⟨some 20, none, .load true 10 (.r 19)⟩,
        ⟨some 5, none, .alloc [(.str []), (.int .i64 0), (.int .i64 0), (.int .i64 0), (.int .i64 0), (.int .i64 0), (.int .i64 0), (.int .i64 0), (.int .i64 0), (.sl [])] []⟩,
        ⟨none, none, .store 10 (.r 5) (.r 20) [] none⟩] [3, 5, 15, 16, 17])
      (.ops [⟨some 21, none, .mv (.r 3)⟩,
      ⟨some 22, none, .load true 10 (.r 5)⟩,
      ⟨some 23, none, .call false F.table_Table_Join [(.r 21), (.r 22)]⟩] [3, 15, 16, 17])))
  (.ops [⟨some 24, none, .bin .add .no (.r 17) (.c (.int .i64 1))⟩,
  ⟨some 17, none, .mv (.r 24)⟩] [3, 15, 16, 17]))))
def c_tattlerlaw10_TableBuckets_l1 : VCode := (.seq (.ops [⟨some 33, none, .bin .lss .no (.r 32) (.r 31)⟩] [3, 6, 7, 25, 30, 31, 32, 33])
  (.seq (.cond (.r 33) .skip (.exit 4))
  (.seq (.block 5 (.seq (.ops [⟨some 34, none, .mv (.r 32)⟩,
        ⟨some 35, none, .iaddr none 10 (.r 30) (.r 32)⟩,
        ⟨some 36, none, .load true 10 (.r 35)⟩,
        ⟨some 9, none, .alloc [(.str []), (.int .i64 0), (.int .i64 0), (.int .i64 0), (.int .i64 0), (.int .i64 0), (.int .i64 0), (.int .i64 0), (.int .i64 0), (.sl [])] []⟩,
        ⟨some 8, none, .asg (.r 34)⟩,
        ⟨none, none, .store 10 (.r 9) (.r 36) [] none⟩] [3, 6, 7, 8, 9, 25, 30, 31, 32])
      (.seq (.seq (.dops 19 [⟨some 37, none, .faddr 0 (.r 9)⟩,
          ⟨some 38, none, .load false 1 (.r 37)⟩,
          ⟨some 39, none, .call true F.tattlerref5_Bucket [(.r 38)]⟩,
          ⟨some 40, none, .mv (.r 7)⟩,
          ⟨some 41, none, .bin .neq .no (.r 39) (.r 40)⟩,
          ⟨some 42, none, .mv (.r 41)⟩,
          ⟨some 43, some (42, false), .mv (.r 8)⟩,
          ⟨some 44, some (42, false), .bin .gtr .no (.r 43) (.c (.int .i64 0))⟩,
          ⟨some 45, some (42, false), .mv (.r 44)⟩,
          ⟨some 46, some (45, true), .mv (.r 3)⟩,
          ⟨some 47, some (45, true), .mv (.r 7)⟩,
          ⟨some 48, some (45, true), .call true F.table_Table_Bucket [(.r 46), (.r 47)]⟩,
          ⟨some 49, some (45, true), .mv (.r 8)⟩,
          ⟨some 50, some (45, true), .bin .sub .no (.r 49) (.c (.int .i64 1))⟩,
          ⟨some 51, some (45, true), .iaddr none 10 (.r 48) (.r 50)⟩,
          ⟨some 52, some (45, true), .faddr 0 (.r 51)⟩,
          ⟨some 53, some (45, true), .load false 1 (.r 52)⟩,
          ⟨some 54, some (45, true), .faddr 0 (.r 9)⟩,
          ⟨some 55, some (45, true), .load false 1 (.r 54)⟩,
          ⟨some 56, some (45, true), .bin .geq .no (.r 53) (.r 55)⟩,
          ⟨some 57, some (42, false), .pick (.r 45) (.r 56) (.c (.bool false))⟩,
          ⟨some 58, none, .pick (.r 42) (.c (.bool true)) (.r 57)⟩] [3, 6, 7, 25, 30, 31, 32, 58])
        (.cond (.r 58) (.seq (.ops [⟨some 2, none, .asg (.c (.bool false))⟩] [2])
          .ret) .skip))
      (.ops [⟨some 59, none, .mv (.r 6)⟩,
      ⟨some 60, none, .bin .add .no (.r 59) (.c (.int .i64 1))⟩,
      ⟨some 6, none, .asg (.r 60)⟩] [3, 6, 7, 25, 30, 31, 32]))))
  (.ops [⟨some 61, none, .bin .add .no (.r 32) (.c (.int .i64 1))⟩,
  ⟨some 32, none, .mv (.r 61)⟩] [3, 6, 7, 25, 30, 31, 32]))))
def c_tattlerlaw10_TableBuckets_l2 : VCode := (.seq (.ops [⟨some 26, none, .bin .lss .no (.r 25) (.c (.int .i64 4))⟩] [3, 6, 25, 26])
  (.seq (.cond (.r 26) .skip (.exit 2))
  (.seq (.block 3 (.seq (.ops [⟨some 27, none, .mv (.r 25)⟩,
        ⟨some 7, none, .asg (.r 27)⟩] [3, 6, 7, 25])
      (.seq (.ops [⟨some 28, none, .mv (.r 3)⟩,
        ⟨some 29, none, .mv (.r 7)⟩,
        ⟨some 30, none, .call false F.table_Table_Bucket [(.r 28), (.r 29)]⟩,
        ⟨some 31, none, .len .sl (.r 30)⟩,
        ⟨some 32, none, .mv (.c (.int .i64 0))⟩] [3, 6, 7, 25, 30, 31, 32])
      (.block 4 (.loop [3, 6, 7, 25, 30, 31, 32] [] c_tattlerlaw10_TableBuckets_l1)))))
  (.ops [⟨some 62, none, .bin .add .no (.r 25) (.c (.int .i64 1))⟩,
  ⟨some 25, none, .mv (.r 62)⟩] [3, 6, 25]))))
/-- tattler/tattlerlaw10.TableBuckets -/
def c_tattlerlaw10_TableBuckets : VFun := ⟨1,
  (.seq (.ops [⟨some 2, none, .asg (.c (.bool false))⟩] [0])
  (.seq (.seq (.ops [⟨some 10, none, .mv (.r 0)⟩,
      ⟨some 11, none, .call false F.tattlerlaw10_light [(.r 10)]⟩,
      ⟨some 12, none, .un .not (.r 11)⟩] [0, 12])
    (.cond (.r 12) (.seq (.ops [⟨some 13, none, .call false F.tattlerlaw10_awake []⟩,
        ⟨some 2, none, .asg (.r 13)⟩] [2])
      .ret) .skip))
  (.seq (.ops [⟨some 14, none, .call false F.table_New []⟩,
    ⟨some 3, none, .asg (.r 14)⟩] [0, 3])
  (.seq (.seq (.ops [⟨some 15, none, .mv (.r 0)⟩,
      ⟨some 16, none, .len .sl (.r 15)⟩,
      ⟨some 17, none, .mv (.c (.int .i64 0))⟩] [3, 15, 16, 17])
    (.block 0 (.loop [3, 15, 16, 17] [] c_tattlerlaw10_TableBuckets_l0)))
  (.seq (.ops [⟨some 6, none, .asg (.c (.int .i64 0))⟩] [3, 6])
  (.seq (.seq (.ops [⟨some 25, none, .mv (.c (.int .i64 0))⟩] [3, 6, 25])
    (.block 2 (.loop [3, 6, 25] [] c_tattlerlaw10_TableBuckets_l2)))
  (.seq (.ops [⟨some 63, none, .mv (.r 6)⟩,
    ⟨some 64, none, .mv (.r 3)⟩,
    ⟨some 65, none, .call false F.table_Table_Len [(.r 64)]⟩,
    ⟨some 66, none, .bin .eql .no (.r 63) (.r 65)⟩,
    ⟨some 67, none, .mv (.r 66)⟩,
    ⟨some 68, some (67, true), .call false F.tattlerlaw10_awake []⟩,
    ⟨some 69, none, .pick (.r 67) (.r 68) (.c (.bool false))⟩,
    ⟨some 2, none, .asg (.r 69)⟩] [2])
  .ret))))))),
  [.r 2], none⟩
theorem ok_tattlerlaw10_TableBuckets : FunOk Try.prog V.R F.tattlerlaw10_TableBuckets c_tattlerlaw10_TableBuckets := funOk_of Try.func7 rfl (by kernel_rfl) (by kernel_rfl) (by kernel_rfl) (by kernel_rfl) (linC_of (by kernel_rfl)) (by kernel_rfl) (of_decide_eq_true (by kernel_rfl)) (by kernel_rfl)
def tab : List (Nat × VFun) := [(F.tattlerlaw10_TableBuckets, c_tattlerlaw10_TableBuckets)]
noncomputable def prims : List (Nat × Prim) := [(F.table_Table_Bucket, callL W1.E F.table_Table_Bucket), (F.table_Table_Join, callL V.E F.table_Table_Join), (F.table_Table_Len, callL V.E F.table_Table_Len), (F.table_New, callL V.E F.table_New), (F.tattlerlaw10_light, callL V.E F.tattlerlaw10_light), (F.tattlerlaw10_awake, callL V.E F.tattlerlaw10_awake), (F.tattlerref5_Bucket, callL V.E F.tattlerref5_Bucket)]
noncomputable abbrev E : Env := ⟨tabFn tab, primFn prims⟩
theorem envOk : EnvOk Try.prog V.R E := env_prims Try.checked.mixed ⟨prim_env W1.envOk id rfl, prim_env V.envOk id rfl, prim_env V.envOk id rfl, prim_env V.envOk id rfl, prim_env V.envOk id rfl, prim_env V.envOk id rfl, prim_env V.envOk id rfl, trivial⟩ ⟨ok_tattlerlaw10_TableBuckets, trivial⟩
theorem fn_tattlerlaw10_TableBuckets : E.fn F.tattlerlaw10_TableBuckets = some c_tattlerlaw10_TableBuckets := rfl
theorem up_table_Table_Bucket {a : List V} {h : Heap} {r} (g : callL W1.E F.table_Table_Bucket a h = some r) : callL E F.table_Table_Bucket a h = some r := callL_prim rfl g
theorem up_table_Table_Join {a : List V} {h : Heap} {r} (g : callL V.E F.table_Table_Join a h = some r) : callL E F.table_Table_Join a h = some r := callL_prim rfl g
theorem up_table_Table_Len {a : List V} {h : Heap} {r} (g : callL V.E F.table_Table_Len a h = some r) : callL E F.table_Table_Len a h = some r := callL_prim rfl g
theorem up_table_New {a : List V} {h : Heap} {r} (g : callL V.E F.table_New a h = some r) : callL E F.table_New a h = some r := callL_prim rfl g
theorem up_tattlerlaw10_light {a : List V} {h : Heap} {r} (g : callL V.E F.tattlerlaw10_light a h = some r) : callL E F.tattlerlaw10_light a h = some r := callL_prim rfl g
theorem up_tattlerlaw10_awake {a : List V} {h : Heap} {r} (g : callL V.E F.tattlerlaw10_awake a h = some r) : callL E F.tattlerlaw10_awake a h = some r := callL_prim rfl g
theorem up_tattlerref5_Bucket {a : List V} {h : Heap} {r} (g : callL V.E F.tattlerref5_Bucket a h = some r) : callL E F.tattlerref5_Bucket a h = some r := callL_prim rfl g
end Go.Proofs.Ytionebfmjjpnbaa.W2
