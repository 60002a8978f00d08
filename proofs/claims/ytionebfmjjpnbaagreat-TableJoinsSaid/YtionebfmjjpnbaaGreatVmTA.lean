/- What 'table.New', 'Len', 'Get', 'Join' and 'Reap' compute. -/
import Derived.Test.YtionebfmjjpnbaaGreatVmSD
import Derived.Test.YtionebfmjjpnbaaGreatVmSM
import Derived.Test.YtionebfmjjpnbaaGreatVmLS
import Derived.Test.YtionebfmjjpnbaaGreatVmTM
import Derived.Test.YtionebfmjjpnbaaGreatVmKS
set_option linter.unusedVariables false
set_option linter.unusedSimpArgs false
namespace Go.Proofs.YtionebfmjjpnbaaGreat.V
open Go.Vm

/-! ### a map of entries -/
def mapE (l : List Ent) : List (V × V) := l.map fun e => (V.str e.key, e.sib.v)
def findT (l : List Ent) (k : List UInt8) : Option Sib := (l.find? fun e => decide (e.key = k)).map Ent.sib
def putT : List Ent → List UInt8 → Sib → List Ent
  | [], k, s => [⟨k, s⟩]
  | e :: l, k, s => if e.key = k then ⟨k, s⟩ :: l else e :: putT l k s
theorem findV_map (k : List UInt8) : ∀ l : List Ent, Vm.findV .s (.str k) (mapE l) = some ((findT l k).map Sib.v)
  | [] => rfl
  | e :: l => by
    show bnd (cellEq .s (.str k) (.str e.key)) _ = _
    simp only [cellEq, bnd_some]
    by_cases h : e.key = k
    · have : (k == e.key) = true := by simp [h]
      rw [this, cnd_true]
      simp [findT, h]
    · have : (k == e.key) = false := by simpa using fun e' => h e'.symm
      rw [this, cnd_false]
      have ih := findV_map k l
      unfold mapE at ih
      rw [ih]
      simp [findT, h]
theorem putV_map (k : List UInt8) (s : Sib) : ∀ l : List Ent, putV .s (.str k) s.v (mapE l) = some (mapE (putT l k s))
  | [] => rfl
  | e :: l => by
    show bnd (cellEq .s (.str k) (.str e.key)) _ = _
    simp only [cellEq, bnd_some]
    by_cases h : e.key = k
    · have : (k == e.key) = true := by simp [h]
      rw [this, cnd_true]
      simp [putT, h, mapE]
    · have : (k == e.key) = false := by simpa using fun e' => h e'.symm
      rw [this, cnd_false]
      have ih := putV_map k s l
      unfold mapE at ih
      rw [ih]
      simp [putT, h, mapE]
/-- A table: where it is, where its map. -/
structure TabAt (h : Heap) (i k : Nat) (l : List Ent) : Prop where
  tab : hget h i = some (.cells [.map (some k)] [])
  map : hget h k = some (.map (mapE l))
theorem TabAt.mapOf {h : Heap} {i k : Nat} {l : List Ent} (t : TabAt h i k l) : Vm.mapOf h (.map (some k)) = some (mapE l) := by
  show mapAt h k = _
  unfold mapAt
  rw [t.map]
theorem TabAt.app {h : Heap} {i k : Nat} {l : List Ent} (t : TabAt h i k l) (x : Heap) : TabAt (h ++ x) i k l :=
  ⟨by rw [hget_app (hget_lt t.tab)]; exact t.tab, by rw [hget_app (hget_lt t.map)]; exact t.map⟩
theorem tabNew_eq (h : Heap) : callL E F.table_New [] h = some (.ptr (some (h.length + 1, 0)), h ++ [.map [], .cells [.map (some h.length)] []], .no) := by
  refine callL_of rfl fn_table_New ?_
  simp [-getElem?_pos, c_table_New]
  done
theorem tabLen_eq {h : Heap} {i k : Nat} {l : List Ent} (t : TabAt h i k l) : callL E F.table_Table_Len [.ptr (some (i, 0))] h = some (.int .i64 l.length, h, .no) := by
  refine callL_of rfl fn_table_Table_Len ?_
  have h1 := t.tab
  have h2 := t.mapOf
  have h3 : (mapE l).length = l.length := by simp [mapE]
  simp [-getElem?_pos, c_table_Table_Len, h1, h2, h3]
  done
theorem copied_eq (s : Sib) (h : Heap) : callL E F.table_copied [s.v] h = some ((s.join s).v, h, .no) := by
  refine callL_of rfl fn_table_copied ?_
  have g1 := fun l => sibsJoin_eq s s (h ++ l)
  simp only [Sib.v] at g1
  simp [-getElem?_pos, c_table_copied, g1]
  done
/-- All in it may be. -/
def AllMay (l : List Ent) : Prop := ∀ e ∈ l, e.sib.may = true
theorem findT_may {l : List Ent} (h : AllMay l) {k : List UInt8} {s : Sib} (hs : findT l k = some s) : s.may = true := by
  unfold findT at hs
  cases hf : l.find? (fun e => decide (e.key = k)) with
  | none => rw [hf] at hs; cases hs
  | some e =>
    rw [hf] at hs
    cases hs
    exact h e (List.mem_of_find?_eq_some hf)
theorem getT_may {l : List Ent} (h : AllMay l) (k : List UInt8) : ((findT l k).getD zeroSib).may = true := by
  cases hf : findT l k with
  | none => exact zeroSib_may
  | some s => exact findT_may h hf
theorem zeroSib_v : zeroSib.v = .agg [.int .i64 0, .int .i64 0, .int .i64 0, .int .i64 0, .int .i64 0, .int .i64 0, .int .i64 0, .int .i64 0, .sl []] := rfl
theorem tblGet_eq {h : Heap} {i k : Nat} {l : List Ent} (t : TabAt h i k l) (hm : AllMay l) (key : List UInt8) :
    callL E F.table_Table_Get [.ptr (some (i, 0)), .str key] h = some (.tup [((findT l key).getD zeroSib).v, .bool (findT l key).isSome], h, .no) := by
  refine callL_of rfl fn_table_Table_Get ?_
  have h1 := fun x => (t.app x).tab
  have h2 := fun x => (t.app x).mapOf
  have h3 := findV_map key l
  have g1 := fun x => copied_eq ((findT l key).getD zeroSib) (h ++ x)
  rw [join_self (getT_may hm key)] at g1
  cases hf : findT l key with
  | none =>
    rw [hf] at h3 g1
    simp only [Option.map_none, Option.getD_none, zeroSib_v] at h3 g1
    simp [-getElem?_pos, c_table_Table_Get, h1, h2, h3, g1, isKey, found, zeroSib_v]
    done
  | some s =>
    rw [hf] at h3 g1
    simp only [Option.map_some, Option.getD_some, Sib.v] at h3 g1
    simp [-getElem?_pos, c_table_Table_Get, h1, h2, h3, g1, isKey, found]
    done
theorem findT_put (l : List Ent) (k : List UInt8) (s : Sib) : findT (putT l k s) k = some s := by
  induction l with
  | nil => simp [putT, findT]
  | cons e l ih =>
    unfold putT
    by_cases h : e.key = k
    · rw [if_pos h]; simp [findT]
    · rw [if_neg h]
      unfold findT at ih ⊢
      rw [List.find?_cons_of_neg (by simpa using h)]
      exact ih
theorem TabAt.ne {h : Heap} {i k : Nat} {l : List Ent} (t : TabAt h i k l) : i ≠ k := by
  intro e
  subst e
  have h1 := t.tab
  rw [t.map] at h1
  cases h1
theorem TabAt.put {h : Heap} {i k : Nat} {l : List Ent} (t : TabAt h i k l) (l' : List Ent) : TabAt (hset h k (.map (mapE l'))) i k l' := by
  have hk := hget_lt t.map
  refine ⟨?_, ?_⟩
  · have := t.tab
    unfold hget hset at *
    rw [List.getElem?_set_ne (Ne.symm t.ne)]
    exact this
  · simp [hget, hset, hk]
theorem tabReap_no {h : Heap} {i k : Nat} {l : List Ent} (t : TabAt h i k l) (hm : AllMay l) {key : List UInt8} (hf : findT l key = none) :
    callL E F.table_Table_Reap [.ptr (some (i, 0)), .str key] h = some (.bool false, h, .no) := by
  refine callL_of rfl fn_table_Table_Reap ?_
  have g0 := tblGet_eq t hm key
  rw [hf] at g0
  simp only [Option.getD_none, Option.isSome_none, zeroSib_v] at g0
  simp [-getElem?_pos, c_table_Table_Reap, g0]
  done
theorem tabReap_eq {h : Heap} {i k : Nat} {l : List Ent} (t : TabAt h i k l) (hm : AllMay l) {key : List UInt8} {s : Sib} (hf : findT l key = some s) :
    callL E F.table_Table_Reap [.ptr (some (i, 0)), .str key] h = some (.bool (!decide (s = reapS s)), hset h k (.map (mapE (putT l key (reapS s)))), .w [k]) := by
  refine callL_of rfl fn_table_Table_Reap ?_
  have g0 := tblGet_eq t hm key
  rw [hf] at g0
  have hsm := findT_may hm hf
  have hl16 := may_len hsm
  have hkl := hget_lt t.map
  have h1 := fun x => (t.app x).tab
  have h2 := fun x => (t.app x).mapOf
  have r1 := fun x => reap_eq s (h ++ x)
  have h3 := putV_map key (reapS s) l
  have h4 := fun x => ((t.put (putT l key (reapS s))).app x).tab
  have h5 := fun x => ((t.put (putT l key (reapS s))).app x).mapOf
  have h6 := findV_map key (putT l key (reapS s))
  rw [findT_put] at h6
  have s1 := fun x => sibsSame_eq s (reapS s) (by omega) (hset h k (.map (mapE (putT l key (reapS s)))) ++ x)
  have ha : ∀ x o, hset (h ++ x) k o = hset h k o ++ x := fun x o => hset_app hkl
  have hma := fun x => (t.app x).map
  have htk : ∀ o x, List.take h.length (hset h k o ++ x) = hset h k o := fun o x => List.take_left' (hset_len _ _ _)
  simp only [Option.getD_some, Option.isSome_some, Option.map_some, Sib.v] at g0 r1 h3 h6 s1
  have hKl : (hset h k (.map (mapE (putT l key (reapS s))))).length = h.length := hset_len _ _ _
  simp [-getElem?_pos, c_table_Table_Reap, g0, h1, h2, h3, h4, h5, h6, r1, s1, ha, hma, htk, hkl, hKl, isKey, found, mapupdV]
  done
/-- What is known of a key when an entry is joined. -/
noncomputable def nowT (l : List Ent) (e : Ent) : Sib := ((findT l e.key).getD zeroSib).join e.sib
theorem nowT_may {l : List Ent} (hm : AllMay l) {e : Ent} (he : e.may = true) : (nowT l e).may = true := by
  unfold Ent.may at he
  simp only [Bool.and_eq_true] at he
  exact join_may (getT_may hm e.key) he.2
theorem tabJoin_no {h : Heap} {i : Nat} (e : Ent) (he : e.may = false) (p : Option (Nat × Nat)) : callL E F.table_Table_Join [.ptr p, e.v] h = some (.tup [zeroSib.v, .bool false, .int .i64 1], h, .no) := by
  refine callL_of rfl fn_table_Table_Join ?_
  have g1 := fun x => sibsMayEntry_eq e (h ++ x)
  rw [he] at g1
  simp only [Ent.v] at g1
  cases p with
  | none =>
    simp [-getElem?_pos, c_table_Table_Join, g1, zeroSib_v]
    done
  | some q =>
    obtain ⟨a, b⟩ := q
    simp [-getElem?_pos, c_table_Table_Join, g1, zeroSib_v]
    done
theorem tblJoin_eq {h : Heap} {i k : Nat} {l : List Ent} (t : TabAt h i k l) (hm : AllMay l) {e : Ent} (he : e.may = true) (hf : (findT l e.key).isSome = true ∨ l.length ≠ 256) (hl : l.length ≤ 1000000) :
    callL E F.table_Table_Join [.ptr (some (i, 0)), e.v] h = some (.tup [(nowT l e).v, .bool ((findT l e.key).isSome && decide (((findT l e.key).getD zeroSib) = nowT l e)), .int .i64 0], hset h k (.map (mapE (putT l e.key (nowT l e)))), .w [k]) := by
  refine callL_of rfl fn_table_Table_Join ?_
  have g1 := fun x => sibsMayEntry_eq e (h ++ x)
  rw [he] at g1
  have h1 := fun x => (t.app x).tab
  have h2 := fun x => (t.app x).mapOf
  have hma := fun x => (t.app x).map
  have h3 := findV_map e.key l
  have hml : (mapE l).length = l.length := by simp [mapE]
  have hwm := getT_may hm e.key
  have hnm := nowT_may hm he
  have hl16 := may_len hwm
  have j1 := fun x => sibsJoin_eq ((findT l e.key).getD zeroSib) e.sib (h ++ x)
  rw [show ((findT l e.key).getD zeroSib).join e.sib = nowT l e from rfl] at j1
  have hkl := hget_lt t.map
  have hp := putV_map e.key (nowT l e) l
  have ha : ∀ x o, hset (h ++ x) k o = hset h k o ++ x := fun x o => hset_app hkl
  have htk : ∀ o x, List.take h.length (hset h k o ++ x) = hset h k o := fun o x => List.take_left' (hset_len _ _ _)
  have hKl : (hset h k (.map (mapE (putT l e.key (nowT l e))))).length = h.length := hset_len _ _ _
  have c1 := fun x => copied_eq (nowT l e) (hset h k (.map (mapE (putT l e.key (nowT l e)))) ++ x)
  rw [join_self hnm] at c1
  have s1 := fun x => sibsSame_eq ((findT l e.key).getD zeroSib) (nowT l e) (by omega) (hset h k (.map (mapE (putT l e.key (nowT l e)))) ++ x)
  have hec : e.c = .str e.key :: e.sib.c := rfl
  have ht9 : List.take 9 e.sib.c = e.sib.c := List.take_of_length_le (by simp)
  generalize nowT l e = now at *
  generalize putT l e.key now = l' at *
  simp only [Ent.v, Sib.v] at g1 j1 c1 s1 hp
  cases hff : findT l e.key with
  | none =>
    rw [hff] at h3 j1 s1 hf
    have hl' : (((l.length : Nat) : Int) == 256) = false := by
      rcases hf with hf | hf
      · cases hf
      · simp; omega
    simp only [Option.map_none, Option.getD_none, Option.isSome_none, Bool.false_and] at h3 j1 s1 ⊢
    have hz : zeroSib.c = [.int .i64 0, .int .i64 0, .int .i64 0, .int .i64 0, .int .i64 0, .int .i64 0, .int .i64 0, .int .i64 0, .sl []] := rfl
    rw [hz] at j1 s1
    simp [-getElem?_pos, c_table_Table_Join, g1, h1, h2, hma, h3, hml, hl', j1, c1, hp, ha, htk, hKl, hkl, isKey, found, mapupdV, ht9]
    done
  | some was =>
    rw [hff] at h3 j1 s1
    simp only [Option.map_some, Option.getD_some, Option.isSome_some, Bool.true_and, Sib.v] at h3 j1 s1 ⊢
    simp [-getElem?_pos, c_table_Table_Join, g1, h1, h2, hma, h3, hml, j1, c1, s1, hp, ha, htk, hKl, hkl, isKey, found, mapupdV, ht9]
    done
end Go.Proofs.YtionebfmjjpnbaaGreat.V
