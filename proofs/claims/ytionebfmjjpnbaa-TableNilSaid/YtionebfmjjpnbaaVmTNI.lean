/- TableNil. -/
import Derived.Test.YtionebfmjjpnbaaVmTV
import Derived.Test.YtionebfmjjpnbaaVmTL
set_option linter.unusedVariables false
set_option linter.unusedSimpArgs false
namespace Go.Proofs.Ytionebfmjjpnbaa.V
open Go.Vm

theorem tabJoin_nil (e : Ent) (h : Heap) : callL E F.table_Table_Join [.ptr none, .agg e.c] h = some (.tup [zeroSib.v, .bool false, .int .i64 1], h, .no) := by
  refine callL_of rfl fn_table_Table_Join ?_
  simp [-getElem?_pos, c_table_Table_Join, zeroSib_v]
  done
theorem tabGet_nil (k : List UInt8) (h : Heap) : callL E F.table_Table_Get [.ptr none, .str k] h = some (.tup [zeroSib.v, .bool false], h, .no) := by
  refine callL_of rfl fn_table_Table_Get ?_
  simp [-getElem?_pos, c_table_Table_Get, zeroSib_v]
  done
theorem tabLen_nil (h : Heap) : callL E F.table_Table_Len [.ptr none] h = some (.int .i64 0, h, .no) := by
  refine callL_of rfl fn_table_Table_Len ?_
  simp [-getElem?_pos, c_table_Table_Len]
  done
theorem tabReap_nil (k : List UInt8) (h : Heap) : callL E F.table_Table_Reap [.ptr none, .str k] h = some (.bool false, h, .no) := by
  refine callL_of rfl fn_table_Table_Reap ?_
  have g := tabGet_nil k h
  rw [zeroSib_v] at g
  simp [-getElem?_pos, c_table_Table_Reap, g]
  done
theorem index_nil (x : V) (h : Heap) : callL E F.slices_IndexFunc_api_Entry_api_Entry [.sl [], x] h = some (.int .i64 (-1), h, .no) := by
  refine callL_of rfl fn_slices_IndexFunc_api_Entry_api_Entry ?_
  have lp : loopRun (callL E) loopL h.length [0, 1, 7, 8] c_slices_IndexFunc_api_Entry_api_Entry_l0 ⟨[(0, .sl []), (1, x), (7, .int .i64 0), (8, .int .i64 0)], h, .no⟩ = some (.exit 0, ⟨[(0, .sl []), (1, x), (7, .int .i64 0), (8, .int .i64 0), (9, .bool false)], h, .no⟩) := by
    refine loop_exit ?_
    rw [s_round]
    simp [c_slices_IndexFunc_api_Entry_api_Entry_l0]
  simp [-getElem?_pos, c_slices_IndexFunc_api_Entry_api_Entry, lp]
  done
theorem delete_nil (x : V) (h : Heap) : callL E F.slices_DeleteFunc_api_Entry_api_Entry [.sl [], x] h = some (.sl [], h, .no) := by
  refine callL_of rfl fn_slices_DeleteFunc_api_Entry_api_Entry ?_
  have g := index_nil x h
  simp [-getElem?_pos, c_slices_DeleteFunc_api_Entry_api_Entry, g]
  done
theorem bucket_nil (b : Int) (h : Heap) : callL E F.table_Table_Bucket [.ptr none, .int .i64 b] h = some (.sl [], h, .no) := by
  refine callL_of rfl fn_table_Table_Bucket ?_
  have g1 := fun y => tabAll_nil (h ++ y)
  have g2 := fun x y => delete_nil x (h ++ y)
  simp [-getElem?_pos, c_table_Table_Bucket, g1, g2]
  done
set_option maxRecDepth 4000 in
theorem TableNil_eq (e : Ent) (b : Int) (h : Heap) : callL E F.tattlerlaw10_TableNil [.agg e.c, .int .i64 b] h = some (.bool true, h, .no) := by
  refine callL_of rfl fn_tattlerlaw10_TableNil ?_
  have g1 := fun y => tabJoin_nil e (h ++ y)
  have g2 := fun y => tabGet_nil e.key (h ++ y)
  have g3 := fun y => tabLen_nil (h ++ y)
  have g4 := fun y => tabAll_nil (h ++ y)
  have g5 := fun y => bucket_nil b (h ++ y)
  have g6 := fun y => tabReap_nil e.key (h ++ y)
  have g7 := fun y => tabCopy_nil (h ++ y)
  have g8 := fun y => awake10_eq (h ++ y)
  have hk : e.c[0]? = some (.str e.key) := rfl
  simp only [zeroSib_v] at g1 g2
  simp [-getElem?_pos, c_tattlerlaw10_TableNil, g1, g2, g3, g4, g5, g6, g7, g8, hk]
  done
theorem tattlerlaw10_TableNil_top {c0 c1 : List V} (h0 : Ty.Has entT c0) (h1 : Ty.Has (.int .i64) c1) : ∃ h fl, callL E F.tattlerlaw10_TableNil [Ty.el entT c0, Ty.el (.int .i64) c1] [] = some (.bool true, h, fl) := by
  obtain ⟨e, we, rfl⟩ := Ent.dec h0
  obtain ⟨n, wn, rfl⟩ := i64_dec h1
  exact ⟨_, _, TableNil_eq e n []⟩
end Go.Proofs.Ytionebfmjjpnbaa.V
