/- A table of functions over another one: its functions' code, and what the other tells. -/
import Derived.Test.YtionebfmjjpnbaaGreatVT
import Derived.KernelRfl
namespace Go.Proofs.YtionebfmjjpnbaaGreat.W1
open Go.Vm Go.Proofs.YtionebfmjjpnbaaGreat.V
set_option maxRecDepth 100000
set_option linter.unusedVariables false
set_option linter.unusedSimpArgs false
def c_table_Table_All_l0 : VCode := (.seq (.ops [⟨some 16, none, .bin .lss .no (.r 15) (.r 14)⟩] [0, 3, 13, 14, 15, 16])
  (.seq (.cond (.r 16) .skip (.exit 0))
  (.seq (.block 1 (.seq (.ops [⟨some 17, none, .iaddr none 1 (.r 13) (.r 15)⟩,
        ⟨some 18, none, .load false 1 (.r 17)⟩,
        ⟨some 5, none, .asg (.r 18)⟩] [0, 3, 5, 13, 14, 15])
      (.ops [⟨some 19, none, .mv (.r 3)⟩,
      ⟨some 20, none, .mv (.r 5)⟩,
      ⟨some 21, none, .mv (.r 0)⟩,
      ⟨some 22, none, .nilck (.r 21)⟩,
      ⟨some 23, none, .faddr 0 (.r 22)⟩,
      ⟨some 24, none, .load false 1 (.r 23)⟩,
      ⟨some 25, none, .mv (.r 5)⟩,
      ⟨some 26, none, .lookup .s (.agg [(.int .i64 0), (.int .i64 0), (.int .i64 0), (.int .i64 0), (.int .i64 0), (.int .i64 0), (.int .i64 0), (.int .i64 0), (.sl [])]) false (.r 24) (.r 25)⟩,
      ⟨some 27, none, .call false F.table_copied [(.r 26)]⟩,
      ⟨some 28, none, .build [(.str []), (.int .i64 0), (.int .i64 0), (.int .i64 0), (.int .i64 0), (.int .i64 0), (.int .i64 0), (.int .i64 0), (.int .i64 0), (.sl [])] [(0, 1, (.r 20)), (1, 9, (.r 27))]⟩,
      ⟨some 29, none, .bslice (.agg [(.str []), (.int .i64 0), (.int .i64 0), (.int .i64 0), (.int .i64 0), (.int .i64 0), (.int .i64 0), (.int .i64 0), (.int .i64 0), (.sl [])]) 10 1 [(0, (.r 28))]⟩,
      ⟨some 30, none, .appl 3 10 104 (.r 19) (.r 29)⟩,
      ⟨some 3, none, .asg (.r 30)⟩] [0, 3, 13, 14, 15])))
  (.ops [⟨some 31, none, .bin .add .no (.r 15) (.c (.int .i64 1))⟩,
  ⟨some 15, none, .mv (.r 31)⟩] [0, 3, 13, 14, 15]))))
/-- (*tattler/table.Table).All -/
def c_table_Table_All : VFun := ⟨1,
  (.seq (.ops [⟨some 2, none, .asg (.c (.sl []))⟩] [0])
  (.seq (.seq (.ops [⟨some 6, none, .mv (.r 0)⟩,
      ⟨some 7, none, .bin .eql .ptr (.r 6) (.c (.ptr none))⟩] [0, 7])
    (.cond (.r 7) (.seq (.ops [⟨some 2, none, .asg (.c (.sl []))⟩] [2])
      .ret) .skip))
  (.seq (.ops [⟨some 3, none, .newl 10⟩] [0, 3])
  (.seq (.seq (.ops [⟨some 8, none, .mv (.r 0)⟩,
      ⟨some 9, none, .nilck (.r 8)⟩,
      ⟨some 10, none, .faddr 0 (.r 9)⟩,
      ⟨some 11, none, .load false 1 (.r 10)⟩,
      ⟨some 12, none, .call false F.maps_Keys_map_string_api_Sibs_string_api_Sibs [(.r 11)]⟩,
      ⟨some 13, none, .call false F.slices_Sorted_string [(.r 12)]⟩,
      ⟨some 14, none, .len .sl (.r 13)⟩,
      ⟨some 15, none, .mv (.c (.int .i64 0))⟩] [0, 3, 13, 14, 15])
    (.block 0 (.loop [0, 3, 13, 14, 15] [(2, 0, 0), (3, 0, 1000010)] c_table_Table_All_l0)))
  (.seq (.ops [⟨some 3, none, .thwr 3 10⟩,
    ⟨some 32, none, .mv (.r 3)⟩,
    ⟨some 2, none, .asg (.r 32)⟩] [2])
  .ret))))),
  [.r 2], none⟩
/-- (*tattler/table.Table).Bucket -/
def c_table_Table_Bucket : VFun := ⟨2,
  (.seq (.ops [⟨some 3, none, .box 1 (.r 1)⟩,
    ⟨some 4, none, .asg (.c (.sl []))⟩] [0, 3])
  (.seq (.ops [⟨some 5, none, .mv (.r 0)⟩,
    ⟨some 6, none, .call false F.table_Table_All [(.r 5)]⟩,
    ⟨some 7, none, .mkfn F.table_Table_Bucket_c1 [] [(.r 3)]⟩,
    ⟨some 8, none, .call false F.slices_DeleteFunc_api_Entry_api_Entry [(.r 6), (.r 7)]⟩,
    ⟨some 4, none, .asg (.r 8)⟩,
    ⟨some 4, none, .frzr 4 10 true⟩] [4])
  .ret)),
  [.r 4], none⟩
/-- (*tattler/table.Table).Bucket$1 -/
def c_table_Table_Bucket_c1 : VFun := ⟨2,
  (.seq (.ops [⟨some 2, none, .box 10 (.r 0)⟩,
    ⟨some 3, none, .asg (.c (.bool false))⟩] [1, 2])
  (.seq (.dops 4 [⟨some 4, none, .faddr 0 (.r 2)⟩,
    ⟨some 5, none, .load false 1 (.r 4)⟩,
    ⟨some 6, none, .call true F.keys_Bucket [(.r 5)]⟩,
    ⟨some 7, none, .load false 1 (.r 1)⟩,
    ⟨some 8, none, .bin .neq .no (.r 6) (.r 7)⟩,
    ⟨some 3, none, .asg (.r 8)⟩] [3])
  .ret)),
  [.r 3], none⟩
def c_slices_DeleteFunc_api_Entry_api_Entry_l0 : VCode := (.seq (.seq (.ops [⟨some 16, none, .mv (.r 6)⟩,
      ⟨some 17, none, .mv (.r 0)⟩,
      ⟨some 18, none, .len .sl (.r 17)⟩,
      ⟨some 19, none, .bin .lss .no (.r 16) (.r 18)⟩] [0, 1, 5, 6, 19])
    (.cond (.r 19) .skip (.exit 0)))
  (.seq (.block 1 (.seq (.ops [⟨some 22, none, .mv (.r 0)⟩,
        ⟨some 23, none, .mv (.r 6)⟩,
        ⟨some 24, none, .iaddr none 10 (.r 22) (.r 23)⟩,
        ⟨some 25, none, .load true 10 (.r 24)⟩,
        ⟨some 7, none, .alloc [(.str []), (.int .i64 0), (.int .i64 0), (.int .i64 0), (.int .i64 0), (.int .i64 0), (.int .i64 0), (.int .i64 0), (.int .i64 0), (.sl [])] []⟩,
        ⟨none, none, .store 10 (.r 7) (.r 25) [] none⟩] [0, 1, 5, 6, 7])
      (.seq (.ops [⟨some 26, none, .mv (.r 1)⟩,
        ⟨some 27, none, .load true 10 (.r 7)⟩,
        ⟨some 28, none, .callv false (.r 26) [(.r 27)]⟩,
        ⟨some 29, none, .un .not (.r 28)⟩] [0, 1, 5, 6, 7, 29])
      (.cond (.r 29) (.seq (.ops [⟨some 30, none, .mv (.r 0)⟩,
          ⟨some 31, none, .mv (.r 5)⟩,
          ⟨some 32, none, .load true 10 (.r 7)⟩,
          ⟨some 33, none, .iaddr none 10 (.r 30) (.r 31)⟩,
          ⟨none, none, .store 10 (.r 33) (.r 32) [] none⟩] [0, 1, 5, 6])
        (.ops [⟨some 34, none, .mv (.r 5)⟩,
        ⟨some 35, none, .bin .add .no (.r 34) (.c (.int .i64 1))⟩,
        ⟨some 5, none, .asg (.r 35)⟩] [0, 1, 5, 6])) .skip))))
  (.ops [⟨some 20, none, .mv (.r 6)⟩,
  ⟨some 21, none, .bin .add .no (.r 20) (.c (.int .i64 1))⟩,
  ⟨some 6, none, .asg (.r 21)⟩] [0, 1, 5, 6])))
/-- slices.DeleteFunc[[]tattler/api.Entry,tattler/api.Entry] -/
def c_slices_DeleteFunc_api_Entry_api_Entry : VFun := ⟨2,
  (.seq (.ops [⟨some 4, none, .asg (.c (.sl []))⟩] [0, 1])
  (.seq (.ops [⟨some 8, none, .mv (.r 0)⟩,
    ⟨some 9, none, .mv (.r 1)⟩,
    ⟨some 10, none, .call false F.slices_IndexFunc_api_Entry_api_Entry [(.r 8), (.r 9)]⟩,
    ⟨some 5, none, .asg (.r 10)⟩] [0, 1, 5])
  (.seq (.seq (.ops [⟨some 11, none, .mv (.r 5)⟩,
      ⟨some 12, none, .bin .eql .no (.r 11) (.c (.int .i64 (-1)))⟩] [0, 1, 5, 12])
    (.cond (.r 12) (.seq (.ops [⟨some 13, none, .mv (.r 0)⟩,
        ⟨some 4, none, .asg (.r 13)⟩] [4])
      .ret) .skip))
  (.seq (.seq (.ops [⟨some 14, none, .mv (.r 5)⟩,
      ⟨some 15, none, .bin .add .no (.r 14) (.c (.int .i64 1))⟩,
      ⟨some 6, none, .asg (.r 15)⟩] [0, 1, 5, 6])
    (.block 0 (.loop [0, 1, 5, 6] [(4, 0, 0)] c_slices_DeleteFunc_api_Entry_api_Entry_l0)))
  (.seq (.ops [⟨some 36, none, .mv (.r 0)⟩,
    ⟨some 37, none, .mv (.r 5)⟩,
    ⟨some 38, none, .slice false 10 (.r 36) (some (.r 37)) none none⟩,
    ⟨none, none, .clr [(.str []), (.int .i64 0), (.int .i64 0), (.int .i64 0), (.int .i64 0), (.int .i64 0), (.int .i64 0), (.int .i64 0), (.int .i64 0), (.sl [])] (.r 38)⟩] [0, 5])
  (.seq (.ops [⟨some 39, none, .mv (.r 0)⟩,
    ⟨some 40, none, .mv (.r 5)⟩,
    ⟨some 41, none, .slice false 10 (.r 39) none (some (.r 40)) none⟩,
    ⟨some 4, none, .asg (.r 41)⟩] [4])
  .ret)))))),
  [.r 4], none⟩
def c_slices_IndexFunc_api_Entry_api_Entry_l0 : VCode := (.seq (.ops [⟨some 9, none, .bin .lss .no (.r 8) (.r 7)⟩] [0, 1, 7, 8, 9])
  (.seq (.cond (.r 9) .skip (.exit 0))
  (.seq (.block 1 (.seq (.ops [⟨some 10, none, .mv (.r 8)⟩,
        ⟨some 5, none, .asg (.r 10)⟩] [0, 1, 5, 7, 8])
      (.seq (.ops [⟨some 11, none, .mv (.r 1)⟩,
        ⟨some 12, none, .mv (.r 0)⟩,
        ⟨some 13, none, .mv (.r 5)⟩,
        ⟨some 14, none, .iaddr none 10 (.r 12) (.r 13)⟩,
        ⟨some 15, none, .load true 10 (.r 14)⟩,
        ⟨some 16, none, .callv false (.r 11) [(.r 15)]⟩] [0, 1, 5, 7, 8, 16])
      (.cond (.r 16) (.seq (.ops [⟨some 17, none, .mv (.r 5)⟩,
          ⟨some 4, none, .asg (.r 17)⟩] [4])
        .ret) .skip))))
  (.ops [⟨some 18, none, .bin .add .no (.r 8) (.c (.int .i64 1))⟩,
  ⟨some 8, none, .mv (.r 18)⟩] [0, 1, 7, 8]))))
/-- slices.IndexFunc[[]tattler/api.Entry,tattler/api.Entry] -/
def c_slices_IndexFunc_api_Entry_api_Entry : VFun := ⟨2,
  (.seq (.ops [⟨some 4, none, .asg (.c (.int .i64 0))⟩] [0, 1])
  (.seq (.seq (.ops [⟨some 6, none, .mv (.r 0)⟩,
      ⟨some 7, none, .len .sl (.r 6)⟩,
      ⟨some 8, none, .mv (.c (.int .i64 0))⟩] [0, 1, 7, 8])
    (.block 0 (.loop [0, 1, 7, 8] [] c_slices_IndexFunc_api_Entry_api_Entry_l0)))
  (.seq (.ops [⟨some 4, none, .asg (.c (.int .i64 (-1)))⟩] [4])
  .ret))),
  [.r 4], none⟩
theorem ok_table_Table_All : FunOk Tryz.prog V.R F.table_Table_All c_table_Table_All := funOk_of Tryz.func12 rfl (by kernel_rfl) (by kernel_rfl) (by kernel_rfl) (by kernel_rfl) (linC_of (by kernel_rfl)) (by kernel_rfl) (of_decide_eq_true (by kernel_rfl)) (by kernel_rfl)
theorem ok_table_Table_Bucket : FunOk Tryz.prog V.R F.table_Table_Bucket c_table_Table_Bucket := funOk_of Tryz.func14 rfl (by kernel_rfl) (by kernel_rfl) (by kernel_rfl) (by kernel_rfl) (linC_of (by kernel_rfl)) (by kernel_rfl) (of_decide_eq_true (by kernel_rfl)) (by kernel_rfl)
theorem ok_table_Table_Bucket_c1 : FunOk Tryz.prog V.R F.table_Table_Bucket_c1 c_table_Table_Bucket_c1 := funOk_of Tryz.func30 rfl (by kernel_rfl) (by kernel_rfl) (by kernel_rfl) (by kernel_rfl) (linC_of (by kernel_rfl)) (by kernel_rfl) (of_decide_eq_true (by kernel_rfl)) (by kernel_rfl)
theorem ok_slices_DeleteFunc_api_Entry_api_Entry : FunOk Tryz.prog V.R F.slices_DeleteFunc_api_Entry_api_Entry c_slices_DeleteFunc_api_Entry_api_Entry := funOk_of Tryz.func29 rfl (by kernel_rfl) (by kernel_rfl) (by kernel_rfl) (by kernel_rfl) (linC_of (by kernel_rfl)) (by kernel_rfl) (of_decide_eq_true (by kernel_rfl)) (by kernel_rfl)
theorem ok_slices_IndexFunc_api_Entry_api_Entry : FunOk Tryz.prog V.R F.slices_IndexFunc_api_Entry_api_Entry c_slices_IndexFunc_api_Entry_api_Entry := funOk_of Tryz.func56 rfl (by kernel_rfl) (by kernel_rfl) (by kernel_rfl) (by kernel_rfl) (linC_of (by kernel_rfl)) (by kernel_rfl) (of_decide_eq_true (by kernel_rfl)) (by kernel_rfl)
def tab : List (Nat × VFun) := [(F.table_Table_All, c_table_Table_All), (F.table_Table_Bucket, c_table_Table_Bucket), (F.table_Table_Bucket_c1, c_table_Table_Bucket_c1), (F.slices_DeleteFunc_api_Entry_api_Entry, c_slices_DeleteFunc_api_Entry_api_Entry), (F.slices_IndexFunc_api_Entry_api_Entry, c_slices_IndexFunc_api_Entry_api_Entry)]
noncomputable def prims : List (Nat × Prim) := [(F.table_copied, callL V.E F.table_copied), (F.slices_Sorted_string, callL V.E F.slices_Sorted_string), (F.maps_Keys_map_string_api_Sibs_string_api_Sibs, callL V.E F.maps_Keys_map_string_api_Sibs_string_api_Sibs), (F.keys_Bucket, callL V.E F.keys_Bucket)]
noncomputable abbrev E : Env := ⟨tabFn tab, primFn prims⟩
theorem envOk : EnvOk Tryz.prog V.R E := env_prims Tryz.checked.mixed ⟨prim_env V.envOk id rfl, prim_env V.envOk id rfl, prim_env V.envOk id rfl, prim_env V.envOk id rfl, trivial⟩ ⟨ok_table_Table_All, ok_table_Table_Bucket, ok_table_Table_Bucket_c1, ok_slices_DeleteFunc_api_Entry_api_Entry, ok_slices_IndexFunc_api_Entry_api_Entry, trivial⟩
theorem fn_table_Table_All : E.fn F.table_Table_All = some c_table_Table_All := rfl
theorem fn_table_Table_Bucket : E.fn F.table_Table_Bucket = some c_table_Table_Bucket := rfl
theorem fn_table_Table_Bucket_c1 : E.fn F.table_Table_Bucket_c1 = some c_table_Table_Bucket_c1 := rfl
theorem fn_slices_DeleteFunc_api_Entry_api_Entry : E.fn F.slices_DeleteFunc_api_Entry_api_Entry = some c_slices_DeleteFunc_api_Entry_api_Entry := rfl
theorem fn_slices_IndexFunc_api_Entry_api_Entry : E.fn F.slices_IndexFunc_api_Entry_api_Entry = some c_slices_IndexFunc_api_Entry_api_Entry := rfl
theorem up_table_copied {a : List V} {h : Heap} {r} (g : callL V.E F.table_copied a h = some r) : callL E F.table_copied a h = some r := callL_prim rfl g
theorem up_slices_Sorted_string {a : List V} {h : Heap} {r} (g : callL V.E F.slices_Sorted_string a h = some r) : callL E F.slices_Sorted_string a h = some r := callL_prim rfl g
theorem up_maps_Keys_map_string_api_Sibs_string_api_Sibs {a : List V} {h : Heap} {r} (g : callL V.E F.maps_Keys_map_string_api_Sibs_string_api_Sibs a h = some r) : callL E F.maps_Keys_map_string_api_Sibs_string_api_Sibs a h = some r := callL_prim rfl g
theorem up_keys_Bucket {a : List V} {h : Heap} {r} (g : callL V.E F.keys_Bucket a h = some r) : callL E F.keys_Bucket a h = some r := callL_prim rfl g
end Go.Proofs.YtionebfmjjpnbaaGreat.W1
