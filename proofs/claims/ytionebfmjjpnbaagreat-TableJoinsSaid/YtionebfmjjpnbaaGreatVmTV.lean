/- What 'table.All' and 'table.Copy' compute. -/
import Derived.Test.YtionebfmjjpnbaaGreatVmTA
import Derived.Test.YtionebfmjjpnbaaGreatVmG5
import Derived.Test.YtionebfmjjpnbaaGreatVmG6
set_option linter.unusedVariables false
set_option linter.unusedSimpArgs false
namespace Go.Proofs.YtionebfmjjpnbaaGreat.V
open Go.Vm

/-- The keys, in order. -/
def keysT (l : List Ent) : List (List UInt8) := (l.map Ent.key).mergeSort leK
/-- All of a table, rising by key. -/
def allT (l : List Ent) : List Ent := (keysT l).map fun k => ⟨k, (findT l k).getD zeroSib⟩
theorem keysT_len (l : List Ent) : (keysT l).length = l.length := by simp [keysT]
theorem strKeys_map : ∀ l : List Ent, strKeysV (mapE l) = some (l.map Ent.key)
  | [] => rfl
  | e :: l => by
    have ih := strKeys_map l
    unfold mapE at ih
    show bnd (strKeysV (l.map fun e => (V.str e.key, e.sib.v))) _ = _
    rw [ih]
    rfl
def KeysSmall (l : List Ent) : Prop := ∀ e ∈ l, e.key.length ≤ 1000000
theorem sorted_call {h : Heap} {k : Nat} {l : List Ent} (hk : hget h k = some (.map (mapE l))) (hl : l.length ≤ 1000000) (hs : KeysSmall l) :
    callL E F.slices_Sorted_string [.fn F.maps_Keys_map_string_api_Sibs_string_api_Sibs_c1 [] [.ptr (some (h.length, 0))]] (h ++ [.cells [.map (some k)] []]) = some (.sl ((keysT l).map V.str), h ++ [.cells [.map (some k)] []], .no) := by
  refine callL_prim (p := sortedP F.maps_Keys_map_string_api_Sibs_string_api_Sibs_c1) rfl ?_
  have h1 : mapAt (h ++ [.cells [.map (some k)] []]) k = some (mapE l) := by
    unfold mapAt
    rw [hget_app (hget_lt hk), hk]
  have h2 : cellsAt (h ++ [.cells [.map (some k)] []]) h.length = some ([.map (some k)], []) := by simp
  have h3 : (decide ((l.map Ent.key).length ≤ 1000000) && (l.map Ent.key).all fun k => decide (k.length ≤ 1000000)) = true := by
    simp only [List.length_map, Bool.and_eq_true, decide_eq_true_eq, List.all_eq_true, List.mem_map]
    exact ⟨hl, fun x ⟨e, he, hx⟩ => hx ▸ hs e he⟩
  simp only [sortedP, decide_true, cnd_true, h2, bnd_some, sortedC, Vm.mapOf, h1, strKeys_map, h3]
  rfl
theorem all_loop {h : Heap} {i k : Nat} {l : List Ent} (t : TabAt h i k l) (hm : AllMay l) (hl : l.length ≤ 1000000) (x : Heap) :
    loopRun (callL E) loopL h.length [0, 3, 13, 14, 15] c_table_Table_All_l0 ⟨[(0, .ptr (some (i, 0))), (3, .sl []), (13, .sl ((keysT l).map V.str)), (14, .int .i64 l.length), (15, .int .i64 0)], h ++ x, .no⟩ =
      some (.exit 0, ⟨[(0, .ptr (some (i, 0))), (3, .sl ((allT l).map Ent.v)), (13, .sl ((keysT l).map V.str)), (14, .int .i64 l.length), (15, .int .i64 l.length), (16, .bool false)], h ++ x, .no⟩) := by
  have key := loop_to (C := callL E) (fb := h.length) (live := [0, 3, 13, 14, 15]) (c := c_table_Table_All_l0)
    (fun j => ⟨[(0, .ptr (some (i, 0))), (3, .sl (((allT l).take j).map Ent.v)), (13, .sl ((keysT l).map V.str)), (14, .int .i64 l.length), (15, .int .i64 j)], h ++ x, .no⟩) l.length
    (r := (.exit 0, ⟨[(0, .ptr (some (i, 0))), (3, .sl ((allT l).map Ent.v)), (13, .sl ((keysT l).map V.str)), (14, .int .i64 l.length), (15, .int .i64 l.length), (16, .bool false)], h ++ x, .no⟩)) (fun j hj => ?_) ?_ rfl
  · rw [show ((0 : Nat) : Int) = 0 from rfl, List.take_zero] at key
    exact key
  · obtain ⟨q, hx, _, _⟩ := get_of_lt (l := keysT l) (i := j) (by rw [keysT_len]; exact hj)
    have hlt : (j : Int) < (l.length : Int) := by omega
    have h1 := i64_add1 (n := j) (by omega)
    have ht := (t.app x).tab
    have hil := hget_lt t.tab
    have hil2 : i < List.length h + List.length x := by omega
    have hmo := (t.app x).mapOf
    have h3 := findV_map q l
    have g1 := fun y => copied_eq ((findT l q).getD zeroSib) (h ++ (x ++ y))
    rw [join_self (getT_may hm q)] at g1
    have hal : (allT l).length = l.length := by simp [allT, keysT_len]
    have h5 : (((allT l).take j).map Ent.v).length = j := by simp; omega
    have ha : (allT l)[j]? = some ⟨q, (findT l q).getD zeroSib⟩ := by
      unfold allT
      rw [List.getElem?_map, hx]
      rfl
    have h4 : ((allT l).take (j + 1)).map Ent.v = ((allT l).take j).map Ent.v ++ [.agg (.str q :: ((findT l q).getD zeroSib).c)] := by
      rw [List.take_add_one, ha]
      simp
      rfl
    have h6 : (j + 1) * 104 ≤ 140737488355328 := by omega
    have hsz : sizeOk 10 (((allT l).take j).map Ent.v) = true := sizeOk_ents _
    rw [h4]
    generalize ((allT l).take j).map Ent.v = Q at h5 hsz ⊢
    have hg := g1 []
    rw [List.append_nil] at hg
    rw [s_round]
    cases hf : findT l q with
    | none =>
      rw [hf] at h3 hg
      simp only [Option.map_none, Option.getD_none, zeroSib_v, zeroSib_c] at h3 hg
      simp [-getElem?_pos, c_table_Table_All_l0, hlt, hx, h1, ht, hmo, h3, h5, h6, hsz, hg, hil2, isKey, found, zeroSib_c]
      done
    | some s =>
      rw [hf] at h3 hg
      simp only [Option.map_some, Option.getD_some, Sib.v] at h3 hg
      simp [-getElem?_pos, c_table_Table_All_l0, hlt, hx, h1, ht, hmo, h3, h5, h6, hsz, hg, hil2, isKey, found]
      done
  · rw [s_round, List.take_of_length_le (by simp [allT, keysT_len])]
    simp [c_table_Table_All_l0]
theorem tabAll_eq {h : Heap} {i k : Nat} {l : List Ent} (t : TabAt h i k l) (hm : AllMay l) (hl : l.length ≤ 1000000) (hs : KeysSmall l) :
    callL E F.table_Table_All [.ptr (some (i, 0))] h = some (.sl ((allT l).map Ent.v), h, .no) := by
  refine callL_of rfl fn_table_Table_All ?_
  have h1 := t.tab
  have g1 : callL E F.maps_Keys_map_string_api_Sibs_string_api_Sibs [.map (some k)] h = some (.fn F.maps_Keys_map_string_api_Sibs_string_api_Sibs_c1 [] [.ptr (some (h.length, 0))], h ++ [.cells [.map (some k)] []], .no) := by
    refine callL_of rfl fn_maps_Keys_map_string_api_Sibs_string_api_Sibs ?_
    simp [-getElem?_pos, c_maps_Keys_map_string_api_Sibs_string_api_Sibs]
    done
  have g2 := sorted_call t.map hl hs
  have lp := all_loop t hm hl [.cells [.map (some k)] []]
  have hkl := keysT_len l
  generalize keysT l = K at *
  generalize (allT l).map Ent.v = A at *
  simp [-getElem?_pos, c_table_Table_All, h1, g1, g2, lp, hkl]
  done
end Go.Proofs.YtionebfmjjpnbaaGreat.V
