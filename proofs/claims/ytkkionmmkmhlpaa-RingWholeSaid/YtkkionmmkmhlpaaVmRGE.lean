/- What a ring's smaller functions compute: Contains, SameInts, In, New, Nodes, Made. -/
import Derived.Test.YtkkionmmkmhlpaaVmRGD
set_option linter.unusedVariables false
set_option linter.unusedSimpArgs false
namespace Go.Proofs.Ytkkionmmkmhlpaa.V
open Go.Vm

abbrev iV (n : Int) : V := .int .i64 n
theorem index_eq (l : List Int) (hl : l.length ≤ 4611686018427387904) (x : Int) (h : Heap) :
    ∃ r : Int, callL E F.slices_Index_int_int [.sl (l.map iV), iV x] h = some (.int .i64 r, h, .no) ∧ decide (0 ≤ r) = l.contains x := by
  have key := loop_scan (C := callL E) (fb := h.length) (live := [0, 1, 7, 8]) (c := c_slices_Index_int_int_l0) (fun j => ⟨[(0, .sl (l.map iV)), (1, iV x), (7, .int .i64 l.length), (8, .int .i64 j)], h, .no⟩) l.length (getB l fun y => !(x == y))
    (.exit 0, ⟨[(0, .sl (l.map iV)), (1, iV x), (7, .int .i64 l.length), (8, .int .i64 l.length), (9, .bool false)], h, .no⟩)
    (fun j => (.ret, ⟨[(4, .int .i64 j)], h, .no⟩)) ?_ ?_ (fun _ => rfl) ?_ rfl
  · rw [show ((0 : Nat) : Int) = 0 from rfl] at key
    rcases key with ⟨h1, h2⟩ | ⟨j, h1, h2, h3, h4⟩
    · refine ⟨-1, ?_, ?_⟩
      · refine callL_of rfl fn_slices_Index_int_int ?_
        simp [c_slices_Index_int_int, h2]
      · have : l.contains x = false := by
          rw [← Bool.not_eq_true, List.contains_iff_mem]
          intro hx
          obtain ⟨j, hj, e⟩ := List.getElem_of_mem hx
          have := h1 j hj
          rw [getB_at (List.getElem?_eq_getElem hj), e] at this
          simp at this
        rw [this]; rfl
    · refine ⟨j, ?_, ?_⟩
      · refine callL_of rfl fn_slices_Index_int_int ?_
        simp [c_slices_Index_int_int, h4]
      · have : l.contains x = true := by
          rw [List.contains_iff_mem]
          rw [getB_at (List.getElem?_eq_getElem h1)] at h2
          have e : x = l[j] := by simpa using h2
          rw [e]
          exact List.getElem_mem h1
        rw [this]
        exact decide_eq_true (by omega)
  · intro j hj hp
    obtain ⟨y, hy, _⟩ := get_of_lt hj
    have h1 := rg_add1 (n := j) (by omega)
    have hlt : (j : Int) < (l.length : Int) := by omega
    rw [getB_at hy] at hp
    have e : (x == y) = false := by simpa using hp
    rw [s_round]
    simp [-getElem?_pos, c_slices_Index_int_int_l0, hlt, hj, hy, e, h1]
  · intro j hj hp
    obtain ⟨y, hy, _⟩ := get_of_lt hj
    have hlt : (j : Int) < (l.length : Int) := by omega
    rw [getB_at hy] at hp
    have e : (x == y) = true := by simpa using hp
    rw [s_round]
    simp [-getElem?_pos, c_slices_Index_int_int_l0, hlt, hj, hy, e]
  · rw [s_round]
    simp [c_slices_Index_int_int_l0]
theorem contains_eq (l : List Int) (hl : l.length ≤ 4611686018427387904) (x : Int) (h : Heap) : callL E F.slices_Contains_int_int [.sl (l.map iV), iV x] h = some (.bool (l.contains x), h, .no) := by
  refine callL_of rfl fn_slices_Contains_int_int ?_
  obtain ⟨r, g, e⟩ := index_eq l hl x h
  rw [← e]
  simp [c_slices_Contains_int_int, g]
theorem sameInts_self (l : List Int) (hl : l.length ≤ 4611686018427387904 - 1) (h : Heap) : callL E F.tattlerref5_SameInts [.sl (l.map iV), .sl (l.map iV)] h = some (.bool true, h, .no) := by
  refine callL_of rfl fn_tattlerref5_SameInts ?_
  have key : loopRun (callL E) loopL h.length [0, 1, 12, 13] c_tattlerref5_SameInts_l0 ⟨[(0, .sl (l.map iV)), (1, .sl (l.map iV)), (12, .int .i64 l.length), (13, .int .i64 0)], h, .no⟩ =
      some (.exit 0, ⟨[(0, .sl (l.map iV)), (1, .sl (l.map iV)), (12, .int .i64 l.length), (13, .int .i64 l.length), (14, .bool false)], h, .no⟩) := by
    have k2 := loop_to (C := callL E) (fb := h.length) (live := [0, 1, 12, 13]) (c := c_tattlerref5_SameInts_l0)
      (fun j => ⟨[(0, .sl (l.map iV)), (1, .sl (l.map iV)), (12, .int .i64 l.length), (13, .int .i64 j)], h, .no⟩) l.length
      (r := (.exit 0, ⟨[(0, .sl (l.map iV)), (1, .sl (l.map iV)), (12, .int .i64 l.length), (13, .int .i64 l.length), (14, .bool false)], h, .no⟩)) (fun j hj => ?_) ?_ rfl
    · exact k2
    · obtain ⟨y, hy, _⟩ := get_of_lt hj
      have h1 := rg_add1 (n := j) (by omega)
      have hlt : (j : Int) < (l.length : Int) := by omega
      rw [s_round]
      simp [-getElem?_pos, c_tattlerref5_SameInts_l0, hlt, hj, hy, h1]
    · rw [s_round]
      simp [c_tattlerref5_SameInts_l0]
  simp [-getElem?_pos, c_tattlerref5_SameInts, key]

abbrev rgC (n : Nat) (d m k : Int) (L : V) : List V := [.int .i64 n, .int .u32 d, .int .i32 m, .int .u32 0, .int .i32 k, L]
abbrev rgO (n : Nat) (d m k : Int) (L : V) : Vm.Obj := .cells (rgC n d m k L) []
def nodesOf (n : Int) : Nat := (max 0 (min n 8)).toNat
theorem new_eq (n : Int) (h : Heap) : callL E F.ring_New [.int .i64 n] h = some (.ptr (some (h.length, 0)), h ++ [rgO (nodesOf n) 0 0 0 .nsl], .no) := by
  refine callL_of rfl fn_ring_New ?_
  have e : ((nodesOf n : Nat) : Int) = max 0 (min n 8) := by unfold nodesOf; omega
  rw [show rgO (nodesOf n) 0 0 0 .nsl = .cells [.int .i64 ((nodesOf n : Nat) : Int), .int .u32 0, .int .i32 0, .int .u32 0, .int .i32 0, .nsl] [] from rfl, e]
  simp [c_ring_New]
  (repeat' split) <;> omega
theorem bload_eq {h : Heap} {i n : Nat} {d m k : Int} {L : V} (hi : hget h i = some (rgO n d m k L)) : callL E F.sync_atomic_Bool_Load [.ptr (some (i, 1))] h = some (.bool (!(d == 0)), h, .no) := by
  refine callL_of rfl fn_sync_atomic_Bool_Load ?_
  have g : callL E F.sync_atomic_LoadUint32 [.ptr (some (i, 1))] h = some (.int .u32 d, h, .no) := by
    refine callL_prim rfl ?_
    simp [aloadP, hi]
  simp [-getElem?_pos, c_sync_atomic_Bool_Load, g]
noncomputable def ptN (t : Nat) : Pt := ⟨point ((t / 4 : Nat) : Int) ((t % 4 : Nat) : Int), ((t / 4 : Nat) : Int), ((t % 4 : Nat) : Int)⟩
noncomputable def ptsN (t : Nat) : List Pt := (List.range t).map ptN
theorem ptsN_succ (t : Nat) : ptsN (t + 1) = ptsN t ++ [ptN t] := by simp [ptsN, List.range_succ]
theorem ptsN_len (t : Nat) : (ptsN t).length = t := by simp [ptsN]
def take1 (fr : Int) (turn : Bool) (out : List Int) (p : Pt) : List Int := cnd ((decide (fr ≤ p.at') == turn) && !out.contains p.node) (out ++ [p.node]) out
def pass (fr : Int) (turn : Bool) (out : List Int) (ps : List Pt) : List Int := ps.foldl (take1 fr turn) out
def orderL (ps : List Pt) (fr : Int) : List Int := pass fr false (pass fr true [] ps) ps
theorem pass_take {fr : Int} {turn : Bool} {out : List Int} {ps : List Pt} {j : Nat} {p : Pt} (h : ps[j]? = some p) : pass fr turn out (ps.take (j + 1)) = take1 fr turn (pass fr turn out (ps.take j)) p := by
  unfold pass
  rw [List.take_add_one, h, List.foldl_append]
  rfl
theorem take1_len (fr : Int) (turn : Bool) (out : List Int) (p : Pt) : (take1 fr turn out p).length ≤ out.length + 1 := by
  unfold take1
  cases ((decide (fr ≤ p.at') == turn) && !out.contains p.node) <;> simp
theorem pass_len (fr : Int) (turn : Bool) : ∀ (ps : List Pt) (out : List Int), (pass fr turn out ps).length ≤ out.length + ps.length
  | [], out => by simp [pass]
  | p :: ps, out => by
    have h1 := pass_len fr turn ps (take1 fr turn out p)
    have h2 := take1_len fr turn out p
    show (pass fr turn (take1 fr turn out p) ps).length ≤ _
    simp only [List.length_cons]
    omega
theorem sizeOk_iV : ∀ l : List Int, sizeOk 1 (l.map iV) = true
  | [] => rfl
  | x :: l => by simp [sizeOk]
theorem load_pt {H : Heap} {k j : Nat} {ps : List Pt} {p : Pt} (hk : hget H k = some (.cells (ps.flatMap Pt.c) [])) (hj : ps[j]? = some p) : ((ps.flatMap Pt.c).drop (j * 3)).take 3 = p.c := by
  clear hk
  induction ps generalizing j with
  | nil => simp at hj
  | cons q ps ih =>
    cases j with
    | zero =>
      simp at hj
      subst hj
      simp
    | succ j =>
      have := ih (j := j) (by simpa using hj)
      rw [List.flatMap_cons, show (j + 1) * 3 = 3 + j * 3 by omega, ← List.drop_drop]
      simpa using this
noncomputable def orderN (n : Nat) (s : List UInt8) : List Int := orderL (sort3 (ptsN (4 * n))) (place s)
theorem orderN_zero (s : List UInt8) : orderN 0 s = [] := rfl
def firstN (l : List Int) (n : Int) : List Int := l.take (max 0 (min n l.length)).toNat
theorem firstN_eq (l : List Int) (n : Int) : ∃ m : Nat, m ≤ l.length ∧ firstN l n = l.take m ∧ (if 0 < (if (l.length : Int) < n then (l.length : Int) else n) then (if (l.length : Int) < n then (l.length : Int) else n) else 0) = (m : Int) := by
  refine ⟨(max 0 (min n l.length)).toNat, by omega, rfl, ?_⟩
  (repeat' split) <;> omega
end Go.Proofs.Ytkkionmmkmhlpaa.V
