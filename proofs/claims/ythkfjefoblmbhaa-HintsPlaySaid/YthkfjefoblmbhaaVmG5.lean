/- The V-machine, part 5. -/
import Derived.Test.YthkfjefoblmbhaaVmG4
import Derived.Shelf.SlSortCmp.NoneTotal
import Derived.Lib.BytesEntry
import Derived.Laws.Externs
/- The V-machine's steps as equations for simp, one for each shape: nothing is tried that does not fit. -/
set_option linter.unusedVariables false
set_option linter.unusedSimpArgs false
namespace Go.Vm
@[simp] theorem cnd_nil_iff (p : Prop) [Decidable p] (i : Nat) : (cnd (decide p) [i] [] = []) ↔ ¬ p := by by_cases h : p <;> simp [h]
@[simp] theorem addE_eq_nil (a b : List Nat) : (addE a b = []) ↔ a = [] ∧ b = [] := by
  constructor
  · intro h
    have h1 : a = [] := by unfold addE at h; exact (List.append_eq_nil_iff.1 h).1
    subst h1
    simpa using h
  · rintro ⟨rfl, rfl⟩; rfl
@[simp] theorem nat_add_lt_self (n k : Nat) : (n + k < n) = False := by simp
section
variable (b c : Bool) (k k' : IntKind) (n m : Int) (s t : List UInt8) (a : Option (Nat × Nat)) (i o : Nat) (cs ds xs ys : List V) (f g : Nat) (ek : EK) (x y : V)
@[simp] theorem flat_bool : V.flat (.bool b) = [.bool b] := rfl
@[simp] theorem flat_int : V.flat (.int k n) = [.int k n] := rfl
@[simp] theorem flat_str : V.flat (.str s) = [.str s] := rfl
@[simp] theorem flat_ptr : V.flat (.ptr a) = [.ptr a] := rfl
@[simp] theorem flat_ro : V.flat (.ro cs) = [.ro cs] := rfl
@[simp] theorem flat_sl : V.flat (.sl cs) = [.sl cs] := rfl
@[simp] theorem flat_map (q : Option Nat) : V.flat (.map q) = [.map q] := rfl
@[simp] theorem flat_fn : V.flat (.fn f cs ds) = [.fn f cs ds] := rfl
@[simp] theorem flat_nofn : V.flat .nofn = [.nofn] := rfl
@[simp] theorem flat_aggs : V.flat (.agg cs) = cs := rfl
@[simp] theorem cell_bool : V.isCell (.bool b) = true := rfl
@[simp] theorem cell_int : V.isCell (.int k n) = true := rfl
@[simp] theorem cell_str : V.isCell (.str s) = true := rfl
@[simp] theorem cell_ptr : V.isCell (.ptr a) = true := rfl
@[simp] theorem cell_ro : V.isCell (.ro cs) = true := rfl
@[simp] theorem cell_sl : V.isCell (.sl cs) = true := rfl
@[simp] theorem cell_map (q : Option Nat) : V.isCell (.map q) = true := rfl
@[simp] theorem cell_fn : V.isCell (.fn f cs ds) = true := rfl
@[simp] theorem cell_nofn : V.isCell .nofn = true := rfl
@[simp] theorem pureCell_bool : V.pureCell (.bool b) = true := rfl
@[simp] theorem pureCell_int : V.pureCell (.int k n) = true := rfl
@[simp] theorem pureCell_str : V.pureCell (.str s) = true := rfl
@[simp] theorem pureCell_sl : V.pureCell (.sl cs) = true := rfl
@[simp] theorem pureCell_nil : V.pureCell (.ptr none) = true := rfl
@[simp] theorem pureCell_nomap : V.pureCell (.map none) = true := rfl
@[simp] theorem pureCell_nofn : V.pureCell .nofn = true := rfl
@[simp] theorem pure_bool : V.pure (.bool b) = true := rfl
@[simp] theorem pure_int : V.pure (.int k n) = true := rfl
@[simp] theorem pure_str : V.pure (.str s) = true := rfl
@[simp] theorem pure_sl : V.pure (.sl cs) = true := rfl
@[simp] theorem pure_agg : V.pure (.agg cs) = cs.all V.pureCell := rfl
@[simp] theorem lt_bool (q : Nat) : V.lt q (.bool b) = true := by simp [V.lt]
@[simp] theorem lt_int (q : Nat) : V.lt q (.int k n) = true := by simp [V.lt]
@[simp] theorem lt_str (q : Nat) : V.lt q (.str s) = true := by simp [V.lt]
@[simp] theorem lt_sl (q : Nat) : V.lt q (.sl cs) = true := by simp [V.lt]
@[simp] theorem lt_ro (q : Nat) : V.lt q (.ro cs) = true := by simp [V.lt]
@[simp] theorem lt_nil (q : Nat) : V.lt q (.ptr none) = true := by simp [V.lt]
@[simp] theorem lt_ptr (q : Nat) : V.lt q (.ptr (some (i, o))) = decide (i < q) := by simp [V.lt]
@[simp] theorem lt_nomap (q : Nat) : V.lt q (.map none) = true := by simp [V.lt]
@[simp] theorem lt_map (q : Nat) : V.lt q (.map (some i)) = decide (i < q) := by simp [V.lt]
@[simp] theorem lt_nofn (q : Nat) : V.lt q .nofn = true := by simp [V.lt]
@[simp] theorem lt_undef (q : Nat) : V.lt q .undef = true := by simp [V.lt]
@[simp] theorem flat_msl (i o n c : Nat) : V.flat (.msl i o n c) = [.msl i o n c] := rfl
@[simp] theorem flat_cel : V.flat .cel = [.cel] := rfl
@[simp] theorem cell_cel : V.isCell .cel = true := rfl
@[simp] theorem cell_msl (i o n c : Nat) : V.isCell (.msl i o n c) = true := rfl
@[simp] theorem lt_cel (q : Nat) : V.lt q .cel = true := by simp [V.lt]
@[simp] theorem lt_nsl (q : Nat) : V.lt q .nsl = true := by simp [V.lt]
@[simp] theorem lt_msl (q i o n c : Nat) : V.lt q (.msl i o n c) = decide (i < q) := by simp [V.lt]
@[simp] theorem iaddr_msl (size j i o n c : Nat) : iaddrV size j none (.msl i o n c) = cnd (decide (j < n)) (some (.ptr (some (i, o + j * size)))) none := rfl
@[simp] theorem len_msl (h : Heap) (i o n c : Nat) : lenV h .sl (.msl i o n c) = some (.int .i64 n) := rfl
@[simp] theorem len_nsl (h : Heap) : lenV h .sl .nsl = some (.int .i64 0) := rfl
@[simp] theorem flat_eml (i c : Nat) : V.flat (.eml i c) = [.eml i c] := rfl
@[simp] theorem flat_nsl : V.flat .nsl = [.nsl] := rfl
@[simp] theorem flat_own : V.flat (.own xs) = [.own xs] := rfl
@[simp] theorem cell_eml (i c : Nat) : V.isCell (.eml i c) = true := rfl
@[simp] theorem cell_nsl : V.isCell .nsl = true := rfl
@[simp] theorem cell_own : V.isCell (.own xs) = true := rfl
@[simp] theorem lt_eml (q i c : Nat) : V.lt q (.eml i c) = decide (i < q) := by simp [V.lt]
@[simp] theorem lt_own (q : Nat) : V.lt q (.own xs) = true := by simp [V.lt]
@[simp] theorem len_eml (h : Heap) (i c : Nat) : lenV h .sl (.eml i c) = some (.int .i64 0) := rfl
@[simp] theorem isnil_msl (i o n c : Nat) : isnilV (.msl i o n c) = some (.bool false) := rfl
@[simp] theorem isnil_nsl : isnilV .nsl = some (.bool true) := rfl
@[simp] theorem mcells_nsl (h : Heap) : mcells h .nsl = some ([], 0) := rfl
@[simp] theorem mcells_eml (h : Heap) (i c : Nat) : mcells h (.eml i c) = match hget h i with | some .emp => some ([], 0) | _ => none := rfl
@[simp] theorem mcells_msl (h : Heap) (i o n c : Nat) : mcells h (.msl i o n c) = match hget h i with | some (.cells cs []) => cnd (decide (o + n * c ≤ cs.length)) (some ((cs.drop o).take (n * c), n)) none | _ => none := rfl
@[simp] theorem mkill_nsl (h : Heap) : mkill h .nsl = h := rfl
@[simp] theorem mkill_eml (h : Heap) (i c : Nat) : mkill h (.eml i c) = hset h i .dead := rfl
@[simp] theorem mkill_msl (h : Heap) (i o n c : Nat) : mkill h (.msl i o n c) = hset h i .dead := rfl
@[simp] theorem mobj_nsl : mobj .nsl = 0 := rfl
@[simp] theorem mobj_eml (i c : Nat) : mobj (.eml i c) = i := rfl
@[simp] theorem mobj_msl (i o n c : Nat) : mobj (.msl i o n c) = i := rfl
@[simp] theorem misnil_nsl : misnil .nsl = true := rfl
@[simp] theorem misnil_eml (i c : Nat) : misnil (.eml i c) = false := rfl
@[simp] theorem misnil_msl (i o n c : Nat) : misnil (.msl i o n c) = false := rfl
@[simp] theorem mnot_nsl (j : Nat) : mnot j .nsl = true := rfl
@[simp] theorem mnot_eml (j i c : Nat) : mnot j (.eml i c) = decide (i ≠ j) := rfl
@[simp] theorem mnot_msl (j i o n c : Nat) : mnot j (.msl i o n c) = decide (i ≠ j) := rfl
@[simp] theorem msize_nsl (z : Nat) : msize z .nsl = true := rfl
@[simp] theorem msize_eml (z i c : Nat) : msize z (.eml i c) = decide (c = z) := rfl
@[simp] theorem msize_msl (z i o n c : Nat) : msize z (.msl i o n c) = (decide (o = 0) && decide (c = z)) := rfl
@[simp] theorem msizeA_nsl (z : Nat) : msizeA z .nsl = true := rfl
@[simp] theorem msizeA_eml (z i c : Nat) : msizeA z (.eml i c) = decide (c = z) := rfl
@[simp] theorem msizeA_msl (z i o n c : Nat) : msizeA z (.msl i o n c) = decide (c = z) := rfl
@[simp] theorem appX_sl (z : Nat) (h : Heap) : appX z h (.sl xs) = cnd (sizeOk z xs) (some (xs.flatMap V.flat, xs.length)) none := rfl
@[simp] theorem appX_nsl (z : Nat) (h : Heap) : appX z h .nsl = some ([], 0) := rfl
@[simp] theorem appX_eml (z : Nat) (h : Heap) (i c : Nat) : appX z h (.eml i c) = cnd (msizeA z (.eml i c)) (mcells h (.eml i c)) none := rfl
@[simp] theorem appX_msl (z : Nat) (h : Heap) (i o n c : Nat) : appX z h (.msl i o n c) = cnd (msizeA z (.msl i o n c)) (mcells h (.msl i o n c)) none := rfl
@[simp] theorem thwV_lst (h : Heap) (z : Nat) : thwV h z (.lst xs) = some (mnewV h z xs.length, h ++ [mnewO xs.length (xs.flatMap V.flat)], .no) := rfl
@[simp] theorem mnewV_eq (h : Heap) (z n : Nat) : mnewV h z n = cnd (decide (n = 0)) (.eml h.length z) (.msl h.length 0 n z) := rfl
@[simp] theorem mnewO_eq (n : Nat) : mnewO n cs = cnd (decide (n = 0)) .emp (.cells cs []) := rfl
@[simp] theorem ownV_own : ownV (some (.own xs)) = some xs := rfl
@[simp] theorem ownDel_nil (o : Nat) : ownDel o [] = [] := rfl
@[simp] theorem ownDel_cons (o p q : Nat) (l : List (Nat × Nat)) : ownDel o ((p, q) :: l) = cnd (decide (p ≠ o)) ((p, q) :: ownDel o l) (ownDel o l) := by
  unfold ownDel
  rw [List.filter_cons]
  cases decide (p ≠ o) <;> rfl
@[simp] theorem ownNot_nil (o : Nat) : ownNot o [] = true := rfl
@[simp] theorem ownNot_cons (o p q : Nat) (l : List (Nat × Nat)) : ownNot o ((p, q) :: l) = (decide (p ≠ o) && ownNot o l) := rfl
@[simp] theorem frzl_lst : frzlV (.lst xs) = some (.sl xs) := rfl
@[simp] theorem frzr_sl (z : Nat) (ag : Bool) (h : Heap) : frzrV z ag h (.sl xs) = some (.sl xs, h, .no) := rfl
@[simp] theorem frzr_nsl (z : Nat) (ag : Bool) (h : Heap) : frzrV z ag h .nsl = some (.sl [], h, .no) := rfl
@[simp] theorem frzr_eml (z : Nat) (ag : Bool) (h : Heap) (i c : Nat) : frzrV z ag h (.eml i c) = bnd (pureL z ag h (.eml i c)) fun xs => some (.sl xs, hset h i .dead, .no) := rfl
@[simp] theorem frzr_msl (z : Nat) (ag : Bool) (h : Heap) (i o n c : Nat) : frzrV z ag h (.msl i o n c) = bnd (pureL z ag h (.msl i o n c)) fun xs => some (.sl xs, hset h i .dead, .no) := rfl
@[simp] theorem pureL_eq (z : Nat) (ag : Bool) (h : Heap) : pureL z ag h x = bnd (mcells h x) fun c => cnd ((c.1.all V.pureCell && (ag || decide (z = 1))) && (msizeA z x && decide (0 < z))) (some (chunks ag z c.2 c.1)) none := rfl
@[simp] theorem linNil_nil : linNil cs [] = true := rfl
@[simp] theorem linNil_cons (j z : Nat) (l : List (Nat × Nat)) : linNil cs ((j, z) :: l) = ((!decide (1000000 ≤ z) || match cs[j]? with | some .nsl => true | _ => false) && linNil cs l) := rfl
@[simp] theorem ownCells_nil : ownCells cs [] = cs := rfl
@[simp] theorem ownCells_cons (j z : Nat) (l : List (Nat × Nat)) : ownCells cs ((j, z) :: l) = cnd (decide (1000000 ≤ z)) ((ownCells cs l).set j (.own [])) (ownCells cs l) := rfl
@[simp] theorem lt_bb (q : Nat) : V.lt q .bb = true := by simp [V.lt]
@[simp] theorem isnil_nil : isnilV (.sl []) = some .bb := rfl
@[simp] theorem isnil_cons : isnilV (.sl (x :: xs)) = some (.bool false) := rfl
@[simp] theorem lt_top (q : Nat) : V.lt q .top = true := by simp [V.lt]
@[simp] theorem lt_fn (q : Nat) : V.lt q (.fn f cs ds) = (V.ltL q cs && V.ltL q ds) := by simp [V.lt]
@[simp] theorem lt_agg (q : Nat) : V.lt q (.agg cs) = V.ltL q cs := by simp [V.lt]
@[simp] theorem lt_tup (q : Nat) : V.lt q (.tup cs) = V.ltL q cs := by simp [V.lt]
@[simp] theorem ltL_nil (q : Nat) : V.ltL q [] = true := by simp [V.ltL]
@[simp] theorem ltL_cons (q : Nat) : V.ltL q (x :: xs) = (V.lt q x && V.ltL q xs) := by simp [V.ltL]
@[simp] theorem cellEq_b : cellEq .b (.bool b) (.bool c) = some (b == c) := rfl
@[simp] theorem cellEq_i : cellEq .i (.int k n) (.int k m) = some (n == m) := by simp [cellEq]
@[simp] theorem cellEq_s : cellEq .s (.str s) (.str t) = some (s == t) := rfl
@[simp] theorem cellsEq_nil : cellsEq [] [] [] = some true := rfl
@[simp] theorem cellsEq_cons (q : SK) (qs : List SK) : cellsEq (q :: qs) (x :: xs) (y :: ys) = bnd (cellEq q x y) fun b => bnd (cellsEq qs xs ys) fun c => some (b && c) := rfl
@[simp] theorem bin_add : binV .add ek (.int k n) (.int k m) = some (.int k (k.wrap (n + m))) := by simp [binV, isShift, intV]
@[simp] theorem bin_sub : binV .sub ek (.int k n) (.int k m) = some (.int k (k.wrap (n - m))) := by simp [binV, isShift, intV]
@[simp] theorem bin_mul : binV .mul ek (.int k n) (.int k m) = some (.int k (k.wrap (n * m))) := by simp [binV, isShift, intV]
@[simp] theorem bin_quo : binV .quo ek (.int k n) (.int k m) = cnd (m == 0) none (some (.int k (k.wrap (n.tdiv m)))) := by simp [binV, isShift, intV]
@[simp] theorem bin_rem : binV .rem ek (.int k n) (.int k m) = cnd (m == 0) none (some (.int k (n.tmod m))) := by simp [binV, isShift, intV]
@[simp] theorem bin_and : binV .and ek (.int k n) (.int k m) = some (bitsV k (BitVec.ofInt k.bits n &&& BitVec.ofInt k.bits m)) := by simp [binV, isShift, intV]
@[simp] theorem bin_or : binV .or ek (.int k n) (.int k m) = some (bitsV k (BitVec.ofInt k.bits n ||| BitVec.ofInt k.bits m)) := by simp [binV, isShift, intV]
@[simp] theorem bin_xor : binV .xor ek (.int k n) (.int k m) = some (bitsV k (BitVec.ofInt k.bits n ^^^ BitVec.ofInt k.bits m)) := by simp [binV, isShift, intV]
@[simp] theorem bin_andNot : binV .andNot ek (.int k n) (.int k m) = some (bitsV k (BitVec.ofInt k.bits n &&& ~~~(BitVec.ofInt k.bits m))) := by simp [binV, isShift, intV]
@[simp] theorem bin_eql : binV .eql ek (.int k n) (.int k m) = some (.bool (n == m)) := by simp [binV, isShift, intV]
@[simp] theorem bin_neq : binV .neq ek (.int k n) (.int k m) = some (.bool (!(n == m))) := by simp [binV, isShift, intV]
@[simp] theorem bin_lss : binV .lss ek (.int k n) (.int k m) = some (.bool (decide (n < m))) := by simp [binV, isShift, intV]
@[simp] theorem bin_leq : binV .leq ek (.int k n) (.int k m) = some (.bool (decide (n ≤ m))) := by simp [binV, isShift, intV]
@[simp] theorem bin_gtr : binV .gtr ek (.int k n) (.int k m) = some (.bool (decide (m < n))) := by simp [binV, isShift, intV]
@[simp] theorem bin_geq : binV .geq ek (.int k n) (.int k m) = some (.bool (decide (m ≤ n))) := by simp [binV, isShift, intV]
@[simp] theorem bin_shl : binV .shl ek (.int k n) (.int k' m) = cnd (decide (m < 0)) none (some (.int k (k.wrap (n * 2 ^ (min m.toNat k.bits))))) := rfl
@[simp] theorem bin_shr : binV .shr ek (.int k n) (.int k' m) = cnd (decide (m < 0)) none (some (.int k (n.fdiv (2 ^ (min m.toNat k.bits))))) := rfl
@[simp] theorem bin_sadd : binV .add ek (.str s) (.str t) = cnd (decide (s.length + t.length ≤ 140737488351232)) (some (.str (s ++ t))) none := rfl
@[simp] theorem bin_seql : binV .eql ek (.str s) (.str t) = some (.bool (s == t)) := rfl
@[simp] theorem bin_sneq : binV .neq ek (.str s) (.str t) = some (.bool (!(s == t))) := rfl
@[simp] theorem bin_slss : binV .lss ek (.str s) (.str t) = some (.bool (bytesLess s t)) := rfl
@[simp] theorem bin_sleq : binV .leq ek (.str s) (.str t) = some (.bool (bytesLess s t || s == t)) := rfl
@[simp] theorem bin_sgtr : binV .gtr ek (.str s) (.str t) = some (.bool (!(bytesLess s t || s == t))) := rfl
@[simp] theorem bin_sgeq : binV .geq ek (.str s) (.str t) = some (.bool (!bytesLess s t)) := rfl
@[simp] theorem bin_beql : binV .eql .bool (.bool b) (.bool c) = some (.bool (b == c)) := rfl
@[simp] theorem bin_bneq : binV .neq .bool (.bool b) (.bool c) = some (.bool (!(b == c))) := rfl
@[simp] theorem bin_peql : binV .eql .ptr (.ptr a) (.ptr none) = some (.bool a.isNone) := rfl
@[simp] theorem bin_pneq : binV .neq .ptr (.ptr a) (.ptr none) = some (.bool (!a.isNone)) := rfl
@[simp] theorem bin_reql : binV .eql .ptr (.ro cs) (.ptr none) = some (.bool false) := rfl
@[simp] theorem bin_rneq : binV .neq .ptr (.ro cs) (.ptr none) = some (.bool true) := rfl
@[simp] theorem bin_npeql (q : Nat × Nat) : binV .eql .ptr (.ptr none) (.ptr (some q)) = some (.bool false) := rfl
@[simp] theorem bin_npneq (q : Nat × Nat) : binV .neq .ptr (.ptr none) (.ptr (some q)) = some (.bool true) := rfl
@[simp] theorem bin_meql (q : Option Nat) : binV .eql .map (.map q) (.map none) = some (.bool q.isNone) := rfl
@[simp] theorem bin_mneq (q : Option Nat) : binV .neq .map (.map q) (.map none) = some (.bool (!q.isNone)) := rfl
@[simp] theorem bin_feql : binV .eql .fn (.fn f cs ds) .nofn = some (.bool false) := rfl
@[simp] theorem bin_fneq : binV .neq .fn (.fn f cs ds) .nofn = some (.bool true) := rfl
@[simp] theorem bin_nfeql : binV .eql .fn .nofn .nofn = some (.bool true) := rfl
@[simp] theorem bin_nfneq : binV .neq .fn .nofn .nofn = some (.bool false) := rfl
@[simp] theorem bin_aeql (ks : List SK) : binV .eql (.agg ks) (.agg xs) (.agg ys) = bnd (cellsEq ks xs ys) fun b => some (.bool b) := rfl
@[simp] theorem bin_aneq (ks : List SK) : binV .neq (.agg ks) (.agg xs) (.agg ys) = bnd (cellsEq ks xs ys) fun b => some (.bool (!b)) := rfl
@[simp] theorem un_not : unV .not (.bool b) = some (.bool (!b)) := rfl
@[simp] theorem un_neg : unV .neg (.int k n) = some (.int k (k.wrap (0 - n))) := rfl
@[simp] theorem un_xor : unV .xor (.int k n) = some (bitsV k (BitVec.ofInt k.bits (if k.signed then -1 else k.max) ^^^ BitVec.ofInt k.bits n)) := rfl
@[simp] theorem conv_int : convV (.toInt k) (.int k' n) = some (.int k (k.wrap n)) := rfl
@[simp] theorem conv_str : convV .strOfBytes (.sl xs) = bnd (bytesOf xs) fun l => some (.str l) := rfl
@[simp] theorem conv_bytes : convV .bytesOfStr (.str s) = some (.sl (s.map byteV)) := rfl
@[simp] theorem conv_same : convV .same (.str s) = some (.str s) := rfl
@[simp] theorem min_int : minV (.int k n) (.int k m) = some (.int k (if m < n then m else n)) := by simp [minV]
@[simp] theorem max_int : maxV (.int k n) (.int k m) = some (.int k (if m > n then m else n)) := by simp [maxV]
@[simp] theorem foldV_nil (q : V → V → Option V) : foldV q x [] = some x := rfl
@[simp] theorem foldV_cons (q : V → V → Option V) : foldV q x (y :: ys) = bnd (q x y) fun z => foldV q z ys := rfl
@[simp] theorem foldV1_cons (q : V → V → Option V) : foldV1 q (x :: xs) = foldV q x xs := rfl
variable (rs : Regs) (h : Heap)
@[simp] theorem fillV_nil : fillV rs cs [] = some cs := rfl
@[simp] theorem fillV_cons (off size : Nat) (q : Arg) (r : List (Nat × Nat × Arg)) : fillV rs cs ((off, size, q) :: r) =
    cnd (decide (((q.val rs).flat.length = size ∧ off + size ≤ cs.length) ∧ (q.val rs).flat.all V.isCell = true)) (fillV rs (cs.take off ++ ((q.val rs).flat ++ cs.drop (off + size))) r) none := rfl
@[simp] theorem fillE_nil : fillE rs cs [] = some cs := rfl
@[simp] theorem fillE_cons (q : Arg) (r : List (Nat × Arg)) : fillE rs cs ((i, q) :: r) = cnd (decide (i < cs.length)) (fillE rs (cs.set i (q.val rs)) r) none := rfl
@[simp] theorem isKey_i : isKey .i (.int k n) = true := rfl
@[simp] theorem isKey_s : isKey .s (.str s) = true := rfl
@[simp] theorem natOf_int : natOf (.int k n) = cnd (decide (0 ≤ n)) (some n.toNat) none := rfl
@[simp] theorem natOr_none (d : Nat) : natOr rs d none = some d := rfl
@[simp] theorem natOr_some (d : Nat) (q : Arg) : natOr rs d (some q) = natOf (q.val rs) := rfl
@[simp] theorem cut_agg (size off : Nat) : cut true size off cs = cnd (decide (off + size ≤ cs.length)) (some (.agg ((cs.drop off).take size))) none := rfl
@[simp] theorem cut_one (off : Nat) : cut false 1 off cs = cs[off]? := by
  unfold cut
  by_cases hd : off + 1 ≤ cs.length
  · simp [hd]
  · rw [List.getElem?_eq_none (by omega)]; simp [hd]
@[simp] theorem cellsAt_eq : cellsAt h i = match hget h i with | some (.cells cs own) => some (cs, own) | _ => none := rfl
@[simp] theorem mapAt_eq : mapAt h i = match hget h i with | some (.map es) => some es | _ => none := rfl
@[simp] theorem mapOf_none : mapOf h (.map none) = some [] := rfl
@[simp] theorem mapOf_some : mapOf h (.map (some i)) = mapAt h i := rfl
@[simp] theorem load_ptr (q : Bool) (size : Nat) : loadV q size h (.ptr (some (i, o))) = bnd (cellsAt h i) fun c => cut q size o c.1 := rfl
@[simp] theorem load_ro (q : Bool) (size : Nat) : loadV q size h (.ro cs) = cut q size 0 cs := rfl
@[simp] theorem pick_bool : pickV (.bool b) x y = some (cnd b x y) := rfl
@[simp] theorem nilck_ptr (q : Nat × Nat) : nilckV (.ptr (some q)) = some (.ptr (some q)) := rfl
@[simp] theorem nilck_ro : nilckV (.ro cs) = some (.ro cs) := rfl
@[simp] theorem nilck_fn : nilckV (.fn f cs ds) = some (.fn f cs ds) := rfl
@[simp] theorem sizeOk_nil (size : Nat) : sizeOk size [] = true := rfl
@[simp] theorem sizeOk_cons (size : Nat) : sizeOk size (x :: xs) = (x.flat.length == size) := rfl
@[simp] theorem allSize_nil (size : Nat) : allSize size [] = true := rfl
@[simp] theorem allSize_cons (size : Nat) : allSize size (x :: xs) = (x.flat.length == size && allSize size xs) := rfl
@[simp] theorem slice_str (size : Nat) (lo hi mx : Option Arg) : sliceV size rs lo hi mx true (.str s) = bnd (natOr rs 0 lo) fun l => bnd (natOr rs s.length hi) fun u => cnd (decide (l ≤ u ∧ u ≤ s.length) && mx.isNone) (some (.str ((s.take u).drop l))) none := rfl
@[simp] theorem slice_sl (size : Nat) (lo hi mx : Option Arg) : sliceV size rs lo hi mx false (.sl xs) = bnd (natOr rs 0 lo) fun l => bnd (natOr rs xs.length hi) fun u => bnd (natOr rs u mx) fun m =>
      cnd (decide (l ≤ u ∧ u ≤ m ∧ m ≤ xs.length) && ((hi.isSome || mx.isNone) && sizeOk size xs)) (some (.sl ((xs.take u).drop l))) none := rfl
@[simp] theorem slice_msl (size : Nat) (lo hi mx : Option Arg) (i o n z : Nat) : sliceV size rs lo hi mx false (.msl i o n z) = bnd (natOr rs 0 lo) fun l => bnd (natOr rs n hi) fun u =>
      cnd (decide (l ≤ u ∧ u ≤ n ∧ z = size) && mx.isNone) (some (cnd (decide (l < u)) (.msl i (o + l * size) (u - l) z) (.sl []))) none := rfl
@[simp] theorem mrk_lst : mrkV (.lst (x :: xs)) = some (.sl (x :: xs)) := rfl
@[simp] theorem faddr_ptr (off : Nat) : faddrV off (.ptr (some (i, o))) = some (.ptr (some (i, o + off))) := rfl
@[simp] theorem faddr_ro (off : Nat) : faddrV off (.ro cs) = some (.ro (cs.drop off)) := rfl
@[simp] theorem field_agg (off size : Nat) (q : Bool) : fieldV off size q (.agg cs) = cut q size off cs := rfl
@[simp] theorem iaddr_sl (size j : Nat) : iaddrV size j none (.sl xs) = bnd (xs[j]?) fun v => cnd (v.flat.length == size) (some (.ro v.flat)) none := rfl
@[simp] theorem iaddr_ptr (size j z : Nat) : iaddrV size j (some z) (.ptr (some (i, o))) = cnd (decide (j < z)) (some (.ptr (some (i, o + j * size)))) none := rfl
@[simp] theorem iaddr_ro (size j z : Nat) : iaddrV size j (some z) (.ro cs) = cnd (decide (j < z)) (some (.ro (cs.drop (j * size)))) none := rfl
@[simp] theorem index_str (z size j : Nat) (q : Bool) : indexV z size q j true (.str s) = bnd (s[j]?) fun b => some (byteV b) := rfl
@[simp] theorem index_agg (z size j : Nat) (q : Bool) : indexV z size q j false (.agg cs) = cnd (decide (j < z)) (cut q size (j * size) cs) none := rfl
@[simp] theorem found_tt : found x true (some y) = .tup [y, .bool true] := rfl
@[simp] theorem found_tf : found x true none = .tup [x, .bool false] := rfl
@[simp] theorem found_ft : found x false (some y) = y := rfl
@[simp] theorem found_ff : found x false none = x := rfl
@[simp] theorem extract_tup : extractV i (.tup xs) = xs[i]? := rfl
@[simp] theorem allPure_nil : allPure [] = true := rfl
@[simp] theorem allPure_cons : allPure (x :: xs) = (x.pure && allPure xs) := rfl
@[simp] theorem app_sl (size bytes : Nat) : appV size bytes (.sl xs) (.sl ys) = cnd (decide ((xs.length + ys.length) * bytes ≤ 140737488355328) && (sizeOk size xs && sizeOk size ys)) (some (.sl (xs ++ ys))) none := rfl
@[simp] theorem len_arr : lenV h (.arr i) x = some (.int .i64 i) := rfl
@[simp] theorem len_str : lenV h .str (.str s) = some (.int .i64 s.length) := rfl
@[simp] theorem len_sl : lenV h .sl (.sl xs) = some (.int .i64 xs.length) := rfl
@[simp] theorem len_map (q : Option Nat) : lenV h .map (.map q) = bnd (mapOf h (.map q)) fun es => some (.int .i64 es.length) := rfl
@[simp] theorem ownHas_nil (j sz : Nat) : ownHas [] j sz = false := rfl
@[simp] theorem ownHas_cons (j sz p q : Nat) (l : List (Nat × Nat)) : ownHas ((p, q) :: l) j sz = ((decide (p = j) && decide (q = sz)) || ownHas l j sz) := rfl
@[simp] theorem ownOk_nil (size : Nat) (own : List (Nat × Nat)) : ownOk o size own [] = true := rfl
@[simp] theorem ownOk_cons (size j sz : Nat) (own js : List (Nat × Nat)) : ownOk o size own ((j, sz) :: js) = ((!(decide (o ≤ j) && decide (j < o + size)) || ownHas own (j - o) sz) && ownOk o size own js) := rfl
@[simp] theorem store_ptr (fb lb size : Nat) (own : List (Nat × Nat)) : storeV fb lb size own h x (.ptr (some (i, o))) = bnd (cellsAt h i) (storeC fb lb size own h i o x) := rfl
@[simp high] theorem storeC_one (fb lb : Nat) (own own' : List (Nat × Nat)) : storeC fb lb 1 own h i o x (cs, own') = cnd (decide (x.flat.length = 1 ∧ o < cs.length) && (ownOk o 1 own own' && x.flat.all V.isCell))
    (some (hset h i (.cells (cs.set o (x.flat.headD .top)) own'), ⟨cnd (decide (i < fb)) [i] [], cnd (x.lt 0) [] [i], false⟩)) none := by
  unfold storeC
  by_cases hx : x.flat.length = 1 ∧ o < cs.length
  · obtain ⟨h1, h2⟩ := hx
    obtain ⟨y, hy⟩ := List.length_eq_one_iff.1 h1
    have h3 : decide ([y].length = 1 ∧ o + 1 ≤ cs.length) = true := decide_eq_true ⟨rfl, h2⟩
    have h4 : decide ([y].length = 1 ∧ o < cs.length) = true := decide_eq_true ⟨rfl, h2⟩
    rw [hy, h3, h4, List.set_eq_take_append_cons_drop, if_pos h2]
    rfl
  · have h1 : decide (x.flat.length = 1 ∧ o + 1 ≤ cs.length) = false := decide_eq_false hx
    rw [h1, decide_eq_false hx]
    rfl
@[simp] theorem storeC_eq (fb lb size : Nat) (own own' : List (Nat × Nat)) : storeC fb lb size own h i o x (cs, own') = cnd (decide (x.flat.length = size ∧ o + size ≤ cs.length) && (ownOk o size own own' && x.flat.all V.isCell))
    (some (hset h i (.cells (cs.take o ++ (x.flat ++ cs.drop (o + size))) own'), ⟨cnd (decide (i < fb)) [i] [], cnd (x.lt 0) [] [i], false⟩)) none := rfl
@[simp] theorem samePtr_none : samePtr rs x none = true := rfl
@[simp] theorem samePtr_some (p : Nat) : samePtr rs (.ptr (some (i, o))) (some p) = match get rs p with | .ptr (some (j, u)) => decide (j = i) && decide (u = o) | _ => false := by
  unfold samePtr
  simp only
  cases get rs p <;> try rfl
  rename_i q
  cases q <;> rfl
@[simp] theorem appc_ptr (fb size : Nat) : appcV fb size h (.ptr (some (i, o))) = bnd (cellsAt h i) fun c => cnd (ownHas c.2 o size) (some (cnd (decide (i < fb)) [i] [])) none := rfl
@[simp] theorem boxable_eq (size : Nat) : boxable size x = (x.flat.length == size && x.flat.all V.isCell) := rfl
@[simp] theorem callV_fn (C : Callee) : callV C h xs (.fn f cs ds) = C f (cs ++ (xs ++ ds)) h := rfl
@[simp] theorem allLt_nil (q : Nat) : allLt q [] = true := rfl
@[simp] theorem allLt_cons (q r : Nat) : allLt q ((r, x) :: rs) = (x.lt q && allLt q rs) := rfl
variable (es : List Nat)
@[simp] theorem clean_eq (q : Nat) (st : St) : clean q es rs st = cnd (escOk q st.h st.fl.esc && allLt q rs) ⟨rs, st.h.take q, ⟨st.fl.wr, addE es (escLt q st.h st.fl.esc), st.fl.all⟩⟩ ⟨rs, st.h, ⟨st.fl.wr, addE es st.fl.esc, st.fl.all⟩⟩ := rfl
@[simp] theorem bodyEnd_eq (q : Nat) (live : List Nat) (r : Ex × St) : bodyEnd q live es r = cnd r.1.isNormal (some (.normal, clean q es (keep r.2.rs live) r.2)) (some (r.1, ⟨r.2.rs, r.2.h, ⟨r.2.fl.wr, addE es r.2.fl.esc, r.2.fl.all⟩⟩)) := rfl
@[simp] theorem escOk_nil (q : Nat) : escOk q h [] = true := rfl
@[simp] theorem escOk_cons (q : Nat) : escOk q h (i :: es) = ((decide (q ≤ i) || objLt q h i) && escOk q h es) := rfl
@[simp] theorem wrLt_nil (q : Nat) : wrLt q [] = [] := rfl
@[simp] theorem wrLt_cons (q : Nat) : wrLt q (i :: es) = cnd (decide (i < q)) (i :: wrLt q es) (wrLt q es) := rfl
@[simp] theorem escLt_nil (q : Nat) : escLt q h [] = [] := rfl
@[simp] theorem escLt_cons (q : Nat) : escLt q h (i :: es) = cnd (decide (i < q) && !objLt 0 h i) (i :: escLt q h es) (escLt q h es) := rfl
@[simp] theorem objLt_eq (q : Nat) : objLt q h i = match hget h i with | some o => o.lt q | none => true := rfl
@[simp] theorem olt_cells (q : Nat) (own : List (Nat × Nat)) : Obj.lt q (.cells cs own) = V.ltL q cs := rfl
@[simp] theorem olt_emp (q : Nat) : Obj.lt q .emp = true := rfl
@[simp] theorem olt_dead (q : Nat) : Obj.lt q .dead = true := rfl
def hasE (i : Nat) : List Nat → Bool
  | [] => false
  | j :: l => decide (i = j) || hasE i l
theorem hasE_contains (i : Nat) : ∀ l : List Nat, hasE i l = l.contains i
  | [] => rfl
  | j :: l => by
    simp only [hasE, hasE_contains i l, List.contains_cons]
    rfl
@[simp] theorem hasE_nil : hasE i [] = false := rfl
@[simp] theorem hasE_cons (j : Nat) : hasE i (j :: es) = (decide (i = j) || hasE i es) := rfl
@[simp] theorem addE_one : addE es [i] = cnd (hasE i es) es (es ++ [i]) := by
  rw [hasE_contains]
  unfold addE
  cases hc : es.contains i <;> simp_all
@[simp] theorem resV_nil : resV rs h [] = some [] := rfl
@[simp] theorem resV_r (r : Nat) (l : List Res) : resV rs h (.r r :: l) = bnd (resV rs h l) fun q => some (get rs r :: q) := rfl
@[simp] theorem resV_cell (r size : Nat) (q : Bool) (l : List Res) : resV rs h (.cell r q size :: l) = bnd (loadV q size h (get rs r)) fun v => bnd (resV rs h l) fun l => some (v :: l) := rfl
@[simp] theorem one_one : one [x] = x := rfl
@[simp] theorem one_nil : one [] = .tup [] := rfl
@[simp] theorem one_two : one (x :: y :: xs) = .tup (x :: y :: xs) := rfl
@[simp] theorem finishV_eq (q : Nat) (st : St) : finishV q st x = cnd (escOk q st.h st.fl.esc && x.lt q) (x, st.h.take q, ⟨st.fl.wr, escLt q st.h st.fl.esc, st.fl.all⟩) (x, st.h, st.fl) := rfl
@[simp] theorem initR_nil (q : Nat) : initR [] q = [] := rfl
@[simp] theorem initR_cons (q : Nat) : initR (x :: xs) q = (q, x) :: initR xs (q + 1) := rfl
@[simp] theorem hget_set (q : Obj) (hi : i < h.length) : hget (hset h i q) i = some q := by simp [hget, hset, hi]
@[simp] theorem hget_set_ne (j : Nat) (q : Obj) (hi : j ≠ i) : hget (hset h j q) i = hget h i := by simp [hget, hset, List.getElem?_set, hi]
@[simp] theorem hset_len (q : Obj) : (hset h i q).length = h.length := by simp [hset]
@[simp] theorem hset_take (q : Obj) : (hset h i q).take h.length = hset h i q := List.take_of_length_le (by simp [hset])
@[simp] theorem get_c0 {α : Type} (x : α) (xs : List α) : (x :: xs)[0]? = some x := rfl
@[simp] theorem get_cs {α : Type} (x : α) (xs : List α) (i : Nat) : (x :: xs)[i + 1]? = xs[i]? := rfl
@[simp] theorem hget_c0 (q : Obj) : hget (q :: h) 0 = some q := rfl
@[simp] theorem hget_cs (q : Obj) : hget (q :: h) (i + 1) = hget h i := by simp [hget]
@[simp] theorem hset_c0 (q r : Obj) : hset (q :: h) 0 r = r :: h := rfl
@[simp] theorem hset_cs (q r : Obj) : hset (q :: h) (i + 1) r = q :: hset h i r := by simp [hset]
attribute [simp] hset_hset
end
@[simp] theorem ltL_bools (q : Nat) (l : List Bool) : V.ltL q (l.map V.bool) = true := by induction l <;> simp_all
@[simp] theorem ltL_ints (q : Nat) (k : IntKind) (l : List Int) : V.ltL q (l.map (V.int k)) = true := by induction l <;> simp_all
@[simp] theorem ltL_strs (q : Nat) (l : List (List UInt8)) : V.ltL q (l.map V.str) = true := by induction l <;> simp_all
@[simp] theorem sizeOk_ints (k : IntKind) (l : List Int) : sizeOk 1 (l.map (V.int k)) = true := by cases l <;> simp
@[simp] theorem ltL_replicate (q n : Nat) (v : V) (hv : v.lt q = true) : V.ltL q (List.replicate n v) = true := by induction n <;> simp_all [List.replicate_succ]
@[simp] theorem take_local (h l : Heap) (k : Nat) : List.take (h.length + k) (h ++ l) = h ++ l.take k := by rw [List.take_append]; simp [Nat.add_sub_cancel_left, List.take_of_length_le]
@[simp] theorem hget_hset_l (h l : Heap) (t k : Nat) (o : Obj) : hget (hset h t o ++ l) (h.length + k) = l[k]? := by
  have := hget_local (hset h t o) l k
  rwa [hset_len] at this
@[simp] theorem hget_hset_l0 (h l : Heap) (t : Nat) (o : Obj) : hget (hset h t o ++ l) h.length = l[0]? := hget_hset_l h l t 0 o
@[simp] theorem hset_hset_l (h l : Heap) (t k : Nat) (o q : Obj) : hset (hset h t o ++ l) (h.length + k) q = hset h t o ++ l.set k q := by
  have := hset_local (hset h t o) l k q
  rwa [hset_len] at this
@[simp] theorem hset_hset_l0 (h l : Heap) (t : Nat) (o q : Obj) : hset (hset h t o ++ l) h.length q = hset h t o ++ l.set 0 q := hset_hset_l h l t 0 o q
@[simp] theorem take_hset_l (h l : Heap) (t : Nat) (o : Obj) : (hset h t o ++ l).take h.length = hset h t o := List.take_left' (hset_len t h o)
theorem hget_lt {h : Heap} {i : Nat} {q : Obj} (hh : hget h i = some q) : i < h.length := (List.getElem?_eq_some_iff.1 hh).1
end Go.Vm

/- The V-machine's run as a machine with named continuations: simp goes no further than what is known. -/
set_option linter.unusedVariables false
set_option linter.unusedSimpArgs false
namespace Go.Vm

noncomputable def opsK (C : Callee) (fb lb : Nat) (e : Option Nat) (is : List VI) (rs : Regs) (fl : Fl) : Option (V × Heap × Fl) → Option (Regs × Heap × Fl)
  | some (v, h, f) => evalOps C fb lb is (putR e v rs) h (fl.or f)
  | none => none
noncomputable def guardK (C : Callee) (fb lb : Nat) (e : Option Nat) (o : VOp) (is : List VI) (rs : Regs) (h : Heap) (fl : Fl) : Option Bool → Option (Regs × Heap × Fl)
  | some true => opsK C fb lb e is rs fl (evalOp C fb lb rs h o)
  | some false => evalOps C fb lb is (putR e .undef rs) h fl
  | none => none
def vK (h : Heap) : Option V → Option (V × Heap × Fl)
  | some v => some (v, h, .no)
  | none => none
def storeK : Option (Heap × Fl) → Option (V × Heap × Fl)
  | some (h, fl) => some (.undef, h, fl)
  | none => none
noncomputable def callK (fb : Nat) (q : Bool) (h : Heap) : Option (V × Heap × Fl) → Option (V × Heap × Fl)
  | some r => quiet fb q h r
  | none => none
def appcK (h : Heap) (v : Option V) : Option (List Nat) → Option (V × Heap × Fl)
  | some w => bnd v fun v => some (v, h, ⟨w, [], false⟩)
  | none => none
def codeK (live : List Nat) : Option (Regs × Heap × Fl) → Option (Ex × St)
  | some (rs, h, fl) => some (.normal, ⟨keep rs live, h, fl⟩)
  | none => none
noncomputable def seqK (C : Callee) (L : Looper) (fb lb : Nat) (y : VCode) : Option (Ex × St) → Option (Ex × St)
  | some (.normal, st) => evalCode C L fb y lb st
  | r => r
noncomputable def condK (C : Callee) (L : Looper) (fb lb : Nat) (x y : VCode) (st : St) : V → Option (Ex × St)
  | .bool true => evalCode C L fb x lb st
  | .bool false => evalCode C L fb y lb st
  | _ => none
def blockK (id : Nat) : Option (Ex × St) → Option (Ex × St)
  | some (.exit j, st) => some (cnd (decide (j = id)) .normal (.exit j), st)
  | r => r
noncomputable def roundV (C : Callee) (L : Looper) (fb : Nat) (live : List Nat) (b : VCode) (s : St) : Option (Ex × St) :=
  bnd (evalCode C L fb b s.h.length ⟨s.rs, s.h, ⟨s.fl.wr, [], s.fl.all⟩⟩) (bodyEnd s.h.length live s.fl.esc)
noncomputable def loopRun (C : Callee) (L : Looper) (fb : Nat) (live : List Nat) (b : VCode) (s : St) : Option (Ex × St) := L (roundV C L fb live b) s
def endK (n : Nat) (live : List Nat) (esc : List Nat) : Option (Ex × St) → Option (Ex × St)
  | some (.normal, st) => some (.normal, clean n esc (keep st.rs live) st)
  | some (e, st) => some (e, ⟨st.rs, st.h, ⟨st.fl.wr, addE esc st.fl.esc, st.fl.all⟩⟩)
  | none => none
open Classical in
noncomputable def bothK : Option (Ex × St) → Option (Ex × St) → Option (Ex × St)
  | some a, some b => if a = b then some a else none
  | _, _ => none
noncomputable def ambK2 (C : Callee) (L : Looper) (fb lb : Nat) (x y z : VCode) (st : St) : V → Option (Ex × St)
  | .bool true => evalCode C L fb (.seq x z) lb st
  | .bool false => evalCode C L fb (.seq y z) lb st
  | .bb => bothK (evalCode C L fb (.seq x z) lb st) (evalCode C L fb (.seq y z) lb st)
  | _ => none
noncomputable def ambK (C : Callee) (L : Looper) (fb lb : Nat) (c : Arg) (x y z : VCode) : Option (Ex × St) → Option (Ex × St)
  | some (.normal, st) => ambK2 C L fb lb x y z st (c.val st.rs)
  | r => r
def finK (n : Nat) (res : List Res) : Option (Ex × St) → Option (V × Heap × Fl)
  | some (.exit _, _) => none
  | some (_, st) => bnd (resV st.rs st.h res) fun vs => some (finishV n st (one vs))
  | none => none

section
variable (C : Callee) (L : Looper) (fb lb n : Nat) (rs : Regs) (h : Heap) (e : Option Nat) (b : Bool) (fl : Fl) (is : List VI) (o : VOp) (v : V) (f : Fl)
@[simp] theorem s_nil : evalOps C fb lb [] rs h fl = some (rs, h, fl) := rfl
@[simp] theorem s_cons : evalOps C fb lb (⟨e, none, o⟩ :: is) rs h fl = opsK C fb lb e is rs fl (evalOp C fb lb rs h o) := by
  rw [evalOps_cons]
  rcases evalOp C fb lb rs h o with _ | ⟨v, h', f⟩ <;> rfl
@[simp] theorem s_consg (g : Nat) : evalOps C fb lb (⟨e, some (g, b), o⟩ :: is) rs h fl = guardK C fb lb e o is rs h fl (wantedV b (get rs g)) := by
  rw [evalOps_consg]
  rcases wantedV b (get rs g) with _ | t
  · rfl
  · cases t
    · rfl
    · simp only [bnd_some, cnd_true, guardK]
      rcases evalOp C fb lb rs h o with _ | ⟨v, h', f⟩ <;> rfl
@[simp] theorem s_opsK : opsK C fb lb e is rs fl (some (v, h, f)) = evalOps C fb lb is (putR e v rs) h (fl.or f) := rfl
@[simp] theorem s_guard_t : guardK C fb lb e o is rs h fl (some true) = opsK C fb lb e is rs fl (evalOp C fb lb rs h o) := rfl
@[simp] theorem s_guard_f : guardK C fb lb e o is rs h fl (some false) = evalOps C fb lb is (putR e .undef rs) h fl := rfl
@[simp] theorem s_vK : vK h (some v) = some (v, h, .no) := rfl
@[simp] theorem s_storeK : storeK (some (h, fl)) = some (.undef, h, fl) := rfl
@[simp] theorem s_callK (r : V × Heap × Fl) : callK fb b h (some r) = quiet fb b h r := rfl
@[simp] theorem s_appcK (w : List Nat) : appcK h (some v) (some w) = some (v, h, ⟨w, [], false⟩) := rfl
variable (x y : Arg) (a : Arg)
@[simp] theorem s_mv : evalOp C fb lb rs h (.mv x) = some (x.val rs, h, .no) := rfl
@[simp] theorem s_asg : evalOp C fb lb rs h (.asg x) = some (x.val rs, h, .no) := rfl
theorem bnd_vK (z : Option V) : (bnd z fun v => some (v, h, Fl.no)) = vK h z := by cases z <;> rfl
@[simp] theorem s_pick (c : Arg) : evalOp C fb lb rs h (.pick c x y) = vK h (pickV (c.val rs) (x.val rs) (y.val rs)) := by rw [evalOp_pick, bnd_vK]
@[simp] theorem s_build (z : List V) (ps : List (Nat × Nat × Arg)) : evalOp C fb lb rs h (.build z ps) = vK h (bnd (fillV rs z ps) fun cs => some (.agg cs)) := by rw [evalOp_build, bnd_vK]
@[simp] theorem s_bslice (z : V) (k m : Nat) (ps : List (Nat × Arg)) : evalOp C fb lb rs h (.bslice z k m ps) = vK h (bnd (fillE rs (List.replicate m z) ps) fun xs => cnd (allPure xs && allSize k xs) (some (.sl xs)) none) := by rw [evalOp_bslice, bnd_vK]
@[simp] theorem s_load (k : Nat) : evalOp C fb lb rs h (.load b k a) = vK h (loadV b k h (a.val rs)) := by rw [evalOp_load, bnd_vK]
@[simp] theorem s_nilck : evalOp C fb lb rs h (.nilck x) = vK h (nilckV (x.val rs)) := by rw [evalOp_nilck, bnd_vK]
@[simp] theorem s_bin (op : BinOp) (k : EK) : evalOp C fb lb rs h (.bin op k x y) = vK h (binV op k (x.val rs) (y.val rs)) := by rw [evalOp_bin, bnd_vK]
@[simp] theorem s_un (op : UnOp) : evalOp C fb lb rs h (.un op x) = vK h (unV op (x.val rs)) := by rw [evalOp_un, bnd_vK]
@[simp] theorem s_conv (k : CK) : evalOp C fb lb rs h (.conv k x) = vK h (convV k (x.val rs)) := by rw [evalOp_conv, bnd_vK]
@[simp] theorem s_mkfn (g : Nat) (p q : List Arg) : evalOp C fb lb rs h (.mkfn g p q) = some (.fn g (vals rs p) (vals rs q), h, .no) := rfl
@[simp] theorem s_slice (k : Nat) (l u m : Option Arg) : evalOp C fb lb rs h (.slice b k x l u m) = vK h (sliceV k rs l u m b (x.val rs)) := by rw [evalOp_slice, bnd_vK]
@[simp] theorem s_faddr (k : Nat) : evalOp C fb lb rs h (.faddr k x) = vK h (faddrV k (x.val rs)) := by rw [evalOp_faddr, bnd_vK]
@[simp] theorem s_field (k m : Nat) : evalOp C fb lb rs h (.field k m b x) = vK h (fieldV k m b (x.val rs)) := by rw [evalOp_field, bnd_vK]
@[simp] theorem s_iaddr (r : Option Nat) (k : Nat) : evalOp C fb lb rs h (.iaddr r k x y) = vK h (bnd (natOf (y.val rs)) fun j => iaddrV k j r (x.val rs)) := by rw [evalOp_iaddr, bnd_vK]
@[simp] theorem s_index (t : Bool) (m z : Nat) : evalOp C fb lb rs h (.index t m z b x y) = vK h (bnd (natOf (y.val rs)) fun j => indexV m z b j t (x.val rs)) := by rw [evalOp_index, bnd_vK]
@[simp] theorem s_lookup (q : SK) (z : V) : evalOp C fb lb rs h (.lookup q z b x y) = vK h (bnd (mapOf h (x.val rs)) fun es => cnd (isKey q (y.val rs)) (bnd (findV q (y.val rs) es) fun r => some (found z b r)) none) := by rw [evalOp_lookup, bnd_vK]
@[simp] theorem s_extract (k : Nat) : evalOp C fb lb rs h (.extract k x) = vK h (extractV k (x.val rs)) := by rw [evalOp_extract, bnd_vK]
@[simp] theorem s_app (p : Place) (k m : Nat) : evalOp C fb lb rs h (.app p k m x y) = vK h (appV k m (x.val rs) (y.val rs)) := by rw [evalOp_app, bnd_vK]
@[simp] theorem s_len (r : LK) : evalOp C fb lb rs h (.len r x) = vK h (lenV h r (x.val rs)) := by rw [evalOp_len, bnd_vK]
@[simp] theorem s_mn (xs : List Arg) : evalOp C fb lb rs h (.mn xs) = vK h (foldV1 minV (vals rs xs)) := by rw [evalOp_mn, bnd_vK]
@[simp] theorem s_mx (xs : List Arg) : evalOp C fb lb rs h (.mx xs) = vK h (foldV1 maxV (vals rs xs)) := by rw [evalOp_mx, bnd_vK]
@[simp] theorem s_alloc (cs : List V) (w : List (Nat × Nat)) : evalOp C fb lb rs h (.alloc cs w) = some (.ptr (some (h.length, 0)), h ++ [.cells cs w], .no) := rfl
@[simp] theorem s_box (k : Nat) : evalOp C fb lb rs h (.box k x) = cnd (boxable k (x.val rs)) (some (.ptr (some (h.length, 0)), h ++ [.cells (x.val rs).flat []], .no)) none := rfl
@[simp] theorem s_mkmap : evalOp C fb lb rs h .mkmap = some (.map (some h.length), h ++ [.map []], .no) := rfl
@[simp] theorem s_store (z : Nat) (w : List (Nat × Nat)) (p : Option Nat) : evalOp C fb lb rs h (.store z a x w p) = cnd (samePtr rs (a.val rs) p) (storeK (storeV fb lb z w h (x.val rs) (a.val rs))) none := by
  rw [evalOp_store]
  congr 1
  rcases storeV fb lb z w h (x.val rs) (a.val rs) with _ | ⟨q, r⟩ <;> rfl
@[simp] theorem s_mapupd (q : SK) (m : Arg) : evalOp C fb lb rs h (.mapupd q m x y) = mapupdV fb lb h q (x.val rs) (y.val rs) (m.val rs) := rfl
@[simp] theorem s_delete (q : SK) : evalOp C fb lb rs h (.delete q x y) = deleteV fb h q (y.val rs) (x.val rs) := rfl
@[simp] theorem s_sliceArr (k z : Nat) : evalOp C fb lb rs h (.sliceArr k z x) = sliceArrV fb k z h (x.val rs) := rfl
@[simp] theorem s_call (g : Nat) (ars : List Arg) : evalOp C fb lb rs h (.call b g ars) = callK fb b h (C g (vals rs ars) h) := by
  rw [evalOp_call]; cases C g (vals rs ars) h <;> rfl
@[simp] theorem s_callv (ars : List Arg) : evalOp C fb lb rs h (.callv b x ars) = callK fb b h (callV C h (vals rs ars) (x.val rs)) := by
  rw [evalOp_callv]; cases callV C h (vals rs ars) (x.val rs) <;> rfl
@[simp] theorem s_appc (p k m : Nat) : evalOp C fb lb rs h (.appc p k m x y) = appcK h (appV k m (x.val rs) (y.val rs)) (appcV fb k h (get rs p)) := by
  rw [evalOp_appc]; cases appcV fb k h (get rs p) <;> rfl
@[simp] theorem s_newl (z : Nat) : evalOp C fb lb rs h (.newl z) = some (.lst [], h, .no) := rfl
@[simp] theorem s_appl (p k m : Nat) : evalOp C fb lb rs h (.appl p k m x y) = vK h (applV k m (get rs p) (y.val rs)) := by
  show (bnd (applV k m (get rs p) (y.val rs)) fun v => some (v, h, Fl.no)) = _
  rw [bnd_vK]
@[simp] theorem s_lenl (p : Nat) : evalOp C fb lb rs h (.lenl p x) = vK h (lenlV (get rs p)) := by
  show (bnd (lenlV (get rs p)) fun v => some (v, h, Fl.no)) = _
  rw [bnd_vK]
@[simp] theorem s_slf (p k : Nat) (l u : Option Arg) : evalOp C fb lb rs h (.slf p k x l u) = vK h (slfV k rs l u (get rs p)) := by
  show (bnd (slfV k rs l u (get rs p)) fun v => some (v, h, Fl.no)) = _
  rw [bnd_vK]
@[simp] theorem s_calll (g p k : Nat) (F : List V → List V → Option (List V)) (ars : List Arg) : evalOp C fb lb rs h (.calll g p k F x ars) = vK h (calllV F (vals rs ars) (get rs p)) := by
  show (bnd (calllV F (vals rs ars) (get rs p)) fun v => some (v, h, Fl.no)) = _
  rw [bnd_vK]
@[simp] theorem s_bld (z : List V) (ps : List (Nat × Nat × Arg)) (l : List Nat) : evalOp C fb lb rs h (.bld z ps l) = vK h (bnd (fillV rs z ps) fun cs => some (.agg cs)) := by
  show (bnd (bnd (fillV rs z ps) fun cs => some (V.agg cs)) fun v => some (v, h, Fl.no)) = _
  rw [bnd_vK]
@[simp] theorem s_boxo (k : Nat) (w : List (Nat × Nat)) : evalOp C fb lb rs h (.boxo k x w) = cnd (boxable k (x.val rs) && linNil (x.val rs).flat w) (some (.ptr (some (h.length, 0)), h ++ [.cells (ownCells (x.val rs).flat w) w], .no)) none := rfl
@[simp] theorem s_mvn : evalOp C fb lb rs h .mvn = some (.nsl, h, .no) := rfl
def bsllK (h : Heap) (size : Nat) : Option (List V) → Option (V × Heap × Fl)
  | some xs => cnd (allPure xs && allSize size xs) (some (.lst xs, h, .no)) none
  | none => none
@[simp] theorem s_bsllK (k : Nat) (xs : List V) : bsllK h k (some xs) = cnd (allPure xs && allSize k xs) (some (.lst xs, h, .no)) none := rfl
@[simp] theorem s_bsll (z : V) (k m : Nat) (ps : List (Nat × Arg)) : evalOp C fb lb rs h (.bsll z k m ps) = bsllK h k (fillE rs (List.replicate m z) ps) := by
  show bnd (fillE rs (List.replicate m z) ps) _ = _
  cases fillE rs (List.replicate m z) ps <;> rfl
def appmK (fb size bytes : Nat) (h : Heap) (s : V) (c : Option (List V × Nat)) : Option (List V × Nat) → Option (V × Heap × Fl)
  | some y => bnd c fun c => cnd (decide ((c.2 + y.2) * bytes ≤ 140737488355328)) (cnd (decide (y.2 = 0)) (some (s, h, .no))
      (some (.msl h.length 0 (c.2 + y.2) size, mkill h s ++ [.cells (c.1 ++ y.1) []], ⟨[], [], !misnil s && decide (mobj s < fb)⟩))) none
  | none => none
@[simp] theorem s_appmK (k m : Nat) (s : V) (c y : List V × Nat) : appmK fb k m h s (some c) (some y) = cnd (decide ((c.2 + y.2) * m ≤ 140737488355328)) (cnd (decide (y.2 = 0)) (some (s, h, .no))
      (some (.msl h.length 0 (c.2 + y.2) k, mkill h s ++ [.cells (c.1 ++ y.1) []], ⟨[], [], !misnil s && decide (mobj s < fb)⟩))) none := rfl
@[simp] theorem s_appm (k m : Nat) : evalOp C fb lb rs h (.appm k m x y) = appmK fb k m h (x.val rs) (cnd (msize k (x.val rs)) (mcells h (x.val rs)) none) (appX k h (y.val rs)) := by
  show appmV fb k m h (x.val rs) (y.val rs) = _
  unfold appmV appmK
  cases cnd (msize k (x.val rs)) (mcells h (x.val rs)) none with
  | none => cases appX k h (y.val rs) <;> rfl
  | some c => cases appX k h (y.val rs) <;> rfl
@[simp] theorem s_clr (zs : List V) : evalOp C fb lb rs h (.clr zs x) = clrV fb lb zs h (x.val rs) := rfl
@[simp] theorem clr_nil (zs : List V) : clrV fb lb zs h (.sl []) = some (.tup [], h, .no) := rfl
@[simp] theorem clr_nsl (zs : List V) : clrV fb lb zs h .nsl = some (.tup [], h, .no) := rfl
@[simp] theorem clr_msl (zs : List V) (k q n z : Nat) : clrV fb lb zs h (.msl k q n z) = bnd (cellsAt h k) fun c => cnd (decide ((0 < n ∧ zs.length = z) ∧ c.2 = []) && zs.all V.pureCell)
      (bnd (storeC fb lb (n * z) [] h k q (.agg (List.replicate n zs).flatten) c) fun r => some (.tup [], r.1, r.2)) none := rfl
@[simp] theorem s_thwr (p k : Nat) : evalOp C fb lb rs h (.thwr p k) = thwV h k (get rs p) := rfl
@[simp] theorem s_frzr (p k : Nat) (ag : Bool) : evalOp C fb lb rs h (.frzr p k ag) = frzrV k ag h (get rs p) := rfl
@[simp] theorem s_frzl (p k : Nat) : evalOp C fb lb rs h (.frzl p k) = vK h (frzlV (get rs p)) := by
  show (bnd (frzlV (get rs p)) fun v => some (v, h, Fl.no)) = _
  rw [bnd_vK]
@[simp] theorem s_mrk (p : Nat) : evalOp C fb lb rs h (.mrk p x) = vK h (mrkV (get rs p)) := by
  show (bnd (mrkV (get rs p)) fun v => some (v, h, Fl.no)) = _
  rw [bnd_vK]
@[simp] theorem s_thwc (p q k : Nat) : evalOp C fb lb rs h (.thwc p q k) = thwcV fb k h (offV q (get rs p)) := rfl
@[simp] theorem s_setc (p q k : Nat) (ag : Bool) : evalOp C fb lb rs h (.setc p q k ag) = setcV k ag h (offV q (get rs p)) := rfl
@[simp] theorem s_frzc (p q k : Nat) (ag : Bool) : evalOp C fb lb rs h (.frzc p q k ag) = frzcV k ag h (offV q (get rs p)) := rfl
@[simp] theorem offV_ptr (q i j : Nat) : offV q (.ptr (some (i, j))) = .ptr (some (i, j + q)) := rfl
@[simp] theorem thwc_ptr (z i j : Nat) : thwcV fb z h (.ptr (some (i, j))) = bnd (cellsAt h i) fun c => cnd (ownHas c.2 j (z + 1000000)) (bnd (ownV c.1[j]?) fun xs =>
    some (.undef, hset h i (.cells (c.1.set j (mnewV h z xs.length)) (ownDel j c.2)) ++ [mnewO xs.length (xs.flatMap V.flat)], ⟨[], [i], true⟩)) none := rfl
@[simp] theorem setc_ptr (z i j : Nat) (ag : Bool) : setcV z ag h (.ptr (some (i, j))) = bnd (cellsAt h i) fun c => bnd (c.1[j]?) fun s => bnd (pureL z ag h s) fun xs =>
    cnd (msize z s && (ownNot j c.2 && mnot i s)) (some (.undef, hset (mkill h s) i (.cells (c.1.set j (.own xs)) ((j, z + 1000000) :: c.2)), .no)) none := rfl
@[simp] theorem frzc_ptr (z i j : Nat) (ag : Bool) : frzcV z ag h (.ptr (some (i, j))) = bnd (cellsAt h i) fun c => bnd (c.1[j]?) fun s => bnd (pureL z ag h s) fun xs =>
    cnd (ownNot j c.2 && mnot i s) (some (.undef, hset (mkill h s) i (.cells (c.1.set j (.sl xs)) c.2), .no)) none := rfl
@[simp] theorem s_bstr : evalOp C fb lb rs h (.bstr x) = vK h (convV .bytesOfStr (x.val rs)) := by
  show (bnd (convV .bytesOfStr (x.val rs)) fun v => some (v, h, Fl.no)) = _
  rw [bnd_vK]
@[simp] theorem s_isnil : evalOp C fb lb rs h (.isnil x) = vK h (isnilV (x.val rs)) := by
  show (bnd (isnilV (x.val rs)) fun v => some (v, h, Fl.no)) = _
  rw [bnd_vK]
@[simp] theorem applV_eq (k m : Nat) (xs ys : List V) : applV k m (.lst xs) (.sl ys) = cnd (decide ((xs.length + ys.length) * m ≤ 140737488355328) && (sizeOk k xs && sizeOk k ys)) (some (.lst (xs ++ ys))) none := rfl
@[simp] theorem lenlV_eq (xs : List V) : lenlV (.lst xs) = some (.int .i64 xs.length) := rfl
@[simp] theorem slfV_eq (k : Nat) (l u : Option Arg) (xs : List V) : slfV k rs l u (.lst xs) = sliceV k rs l u none false (.sl xs) := rfl
@[simp] theorem calllV_eq (F : List V → List V → Option (List V)) (ars xs : List V) : calllV F ars (.lst xs) = bnd (F xs ars) fun ys => some (.lst ys) := rfl
@[simp] theorem lt_lst (q : Nat) (xs : List V) : V.lt q (.lst xs) = true := by simp [V.lt]
variable (st : St) (live : List Nat) (c d : VCode)
@[simp] theorem s_skip : evalCode C L fb .skip lb st = some (.normal, st) := rfl
@[simp] theorem s_ops : evalCode C L fb (.ops is live) lb st = codeK live (evalOps C fb lb is st.rs st.h st.fl) := by
  rw [code_ops]; rcases evalOps C fb lb is st.rs st.h st.fl with _ | ⟨p, q, r⟩ <;> rfl
@[simp] theorem s_dops (k : Nat) : evalCode C L fb (.dops k is live) lb st = codeK live (evalOps C fb lb is st.rs st.h st.fl) := by
  rw [code_dops]; rcases evalOps C fb lb is st.rs st.h st.fl with _ | ⟨p, q, r⟩ <;> rfl
theorem xops_of {k x : Nat} {chk : List Nat} (h : agree C fb lb x chk is st.rs st.h st.fl) : evalCode C L fb (.xops k x chk is live) lb st = codeK live (evalOps C fb lb is st.rs st.h st.fl) := by
  simp only [evalCode]
  rcases evalOps C fb lb is st.rs st.h st.fl with _ | ⟨p, q, r⟩
  · rfl
  · simp only [bnd_some]; rw [if_pos h]; rfl
@[simp] theorem s_xops (k x : Nat) : evalCode C L fb (.xops k x [] is live) lb st = codeK live (evalOps C fb lb is st.rs st.h st.fl) := xops_of C L fb lb is st live (fun j hj => by simp at hj)
open Classical in
noncomputable def agreeK (live : List Nat) (p : Prop) (r : Option (Regs × Heap × Fl)) : Option (Ex × St) := if p then codeK live r else none
@[simp] theorem s_xopsc (k x j : Nat) (chk : List Nat) : evalCode C L fb (.xops k x (j :: chk) is live) lb st = agreeK live (agree C fb lb x (j :: chk) is st.rs st.h st.fl) (evalOps C fb lb is st.rs st.h st.fl) := by
  simp only [evalCode, agreeK]
  rcases evalOps C fb lb is st.rs st.h st.fl with _ | ⟨p, q, r⟩
  · simp [codeK]
  · rfl
def agV : Option (V × Heap × Fl) → Option (V × Heap × Fl) → Option (V × Heap × Fl) → Prop
  | some q, some a, some b => a.1 = q.1 ∧ b.1 = q.1
  | none, _, _ => True
  | _, _, _ => False
def agK (C : Callee) (fb lb : Nat) (h : Heap) : Option VI → Option (Regs × Heap × Fl) → Option (Regs × Heap × Fl) → Prop
  | some i, some (rj, hj, _), some (_, h1, _) => wanted rj i.guard = some true → agV (evalOp C fb lb rj hj i.op) (evalOp C fb lb rj h i.op) (evalOp C fb lb rj h1 i.op)
  | _, _, _ => True
@[simp] theorem s_agV (v v' v'' : V) (a a' a'' : Heap × Fl) : agV (some (v, a)) (some (v', a')) (some (v'', a'')) = (v' = v ∧ v'' = v) := rfl
@[simp] theorem s_agK (i : VI) (rj r1 : Regs) (hj h1 : Heap) (f f' : Fl) : agK C fb lb h (some i) (some (rj, hj, f)) (some (r1, h1, f')) = (wanted rj i.guard = some true → agV (evalOp C fb lb rj hj i.op) (evalOp C fb lb rj h i.op) (evalOp C fb lb rj h1 i.op)) := rfl
@[simp] theorem wanted_none : wanted rs none = some true := rfl
@[simp] theorem wanted_some (g : Nat) : wanted rs (some (g, b)) = wantedV b (get rs g) := rfl
@[simp] theorem agree1_eq (x j : Nat) : agree1 C fb lb x is rs h fl j = agK C fb lb h is[j]? (evalOps C fb lb (is.take j) rs h fl) (evalOps C fb lb (is.take (x + 1)) rs h fl) := by
  refine propext ⟨fun ha => ?_, fun ha => ?_⟩
  · cases hi : is[j]? with
    | none => exact trivial
    | some i =>
      rcases e1 : evalOps C fb lb (is.take j) rs h fl with _ | ⟨rj, hj, fj⟩
      · exact trivial
      · rcases e2 : evalOps C fb lb (is.take (x + 1)) rs h fl with _ | ⟨r1, h1, f1⟩
        · exact trivial
        · intro hw
          have := ha i hi rj hj fj e1 hw r1 h1 f1 e2
          rcases q : evalOp C fb lb rj hj i.op with _ | q'
          · exact trivial
          · obtain ⟨⟨a, a1, a2⟩, b, b1, b2⟩ := this q' q
            rw [a1, b1]
            exact ⟨a2, b2⟩
  · intro i hi rj hj fj e1 hw r1 h1 f1 e2 q hq
    rw [hi, e1, e2] at ha
    have := ha hw
    rw [hq] at this
    rcases a : evalOp C fb lb rj h i.op with _ | a' <;> rcases b : evalOp C fb lb rj h1 i.op with _ | b' <;> rw [a, b] at this
    · exact this.elim
    · exact this.elim
    · exact this.elim
    · exact ⟨⟨a', rfl, this.1⟩, b', rfl, this.2⟩
@[simp] theorem agree_nil (x : Nat) : agree C fb lb x [] is rs h fl = True := by simp [agree]
@[simp] theorem agree_cons (x j : Nat) (chk : List Nat) : agree C fb lb x (j :: chk) is rs h fl = (agree1 C fb lb x is rs h fl j ∧ agree C fb lb x chk is rs h fl) := by simp only [agree, List.mem_cons, forall_eq_or_imp]
@[simp] theorem agreeK_true (r : Option (Regs × Heap × Fl)) : agreeK live True r = codeK live r := by unfold agreeK; rw [if_pos trivial]
theorem agreeK_of {p : Prop} (h : p) (r : Option (Regs × Heap × Fl)) : agreeK live p r = codeK live r := by unfold agreeK; rw [if_pos h]
@[simp] theorem s_codeK : codeK live (some (rs, h, fl)) = some (.normal, ⟨keep rs live, h, fl⟩) := rfl
@[simp] theorem s_seq : evalCode C L fb (.seq c d) lb st = seqK C L fb lb d (evalCode C L fb c lb st) := by
  rw [code_seq]
  rcases evalCode C L fb c lb st with _ | ⟨x, st'⟩
  · rfl
  · cases x <;> rfl
@[simp] theorem s_seqK_n : seqK C L fb lb d (some (.normal, st)) = evalCode C L fb d lb st := rfl
@[simp] theorem s_seqK_e (j : Nat) : seqK C L fb lb d (some (.exit j, st)) = some (.exit j, st) := rfl
@[simp] theorem s_seqK_r : seqK C L fb lb d (some (.ret, st)) = some (.ret, st) := rfl
@[simp] theorem s_cond : evalCode C L fb (.cond a c d) lb st = condK C L fb lb c d st (a.val st.rs) := by
  rw [code_cond]
  cases a.val st.rs <;> try rfl
  rename_i t
  cases t <;> rfl
@[simp] theorem s_amb (z : VCode) (o : VCode) : evalCode C L fb (.amb o a c d z) lb st = ambK C L fb lb a c d z (evalCode C L fb o lb st) := by
  simp only [evalCode]
  rcases evalCode C L fb o lb st with _ | ⟨e, st'⟩
  · rfl
  · cases e
    · simp only [bnd_some, isNormal_normal, cnd_true, ambK]
      cases a.val st'.rs <;> try rfl
      · rename_i b
        cases b <;> rfl
      · show ambV .bb _ _ = bothK (evalCode C L fb (.seq c z) lb st') (evalCode C L fb (.seq d z) lb st')
        simp only [evalCode]
        generalize (bnd (evalCode C L fb c lb st') fun q => cnd q.1.isNormal (evalCode C L fb z lb q.2) (some q)) = p
        generalize (bnd (evalCode C L fb d lb st') fun q => cnd q.1.isNormal (evalCode C L fb z lb q.2) (some q)) = q
        cases p <;> cases q <;> simp [ambV, bothK]
    · rfl
    · rfl
@[simp] theorem s_ambK_n (z : VCode) : ambK C L fb lb a c d z (some (.normal, st)) = ambK2 C L fb lb c d z st (a.val st.rs) := rfl
@[simp] theorem s_ambK_e (z : VCode) (j : Nat) : ambK C L fb lb a c d z (some (.exit j, st)) = some (.exit j, st) := rfl
@[simp] theorem s_ambK_r (z : VCode) : ambK C L fb lb a c d z (some (.ret, st)) = some (.ret, st) := rfl
@[simp] theorem s_ambK2_t (z : VCode) : ambK2 C L fb lb c d z st (.bool true) = evalCode C L fb (.seq c z) lb st := rfl
@[simp] theorem s_ambK2_f (z : VCode) : ambK2 C L fb lb c d z st (.bool false) = evalCode C L fb (.seq d z) lb st := rfl
@[simp] theorem s_ambK2_b (z : VCode) : ambK2 C L fb lb c d z st .bb = bothK (evalCode C L fb (.seq c z) lb st) (evalCode C L fb (.seq d z) lb st) := rfl
@[simp] theorem s_bothK (r : Ex × St) : bothK (some r) (some r) = some r := by simp [bothK]
@[simp] theorem s_condK_t : condK C L fb lb c d st (.bool true) = evalCode C L fb c lb st := rfl
@[simp] theorem s_condK_f : condK C L fb lb c d st (.bool false) = evalCode C L fb d lb st := rfl
@[simp] theorem s_block (id : Nat) : evalCode C L fb (.block id c) lb st = blockK id (evalCode C L fb c lb st) := by
  rw [code_block]
  rcases evalCode C L fb c lb st with _ | ⟨x, st'⟩
  · rfl
  · cases x <;> try rfl
    rename_i j
    simp only [bnd_some, isExit_exit, blockK]
    cases decide (j = id) <;> rfl
@[simp] theorem s_blockK_n (id : Nat) : blockK id (some (.normal, st)) = some (.normal, st) := rfl
@[simp] theorem s_blockK_r (id : Nat) : blockK id (some (.ret, st)) = some (.ret, st) := rfl
@[simp] theorem s_blockK_e (id j : Nat) : blockK id (some (.exit j, st)) = some (cnd (decide (j = id)) .normal (.exit j), st) := rfl
noncomputable def gopK (C : Callee) (L : Looper) (fb lb : Nat) (y : VCode) : Option (Regs × Heap × Fl) → Option (Ex × St)
  | some (rs, h, fl) => evalCode C L fb y lb ⟨rs, h, fl⟩
  | none => none
@[simp] theorem s_gopK : gopK C L fb lb c (some (rs, h, fl)) = evalCode C L fb c lb ⟨rs, h, fl⟩ := rfl
@[simp] theorem s_gop : evalCode C L fb (.gop is c) lb st = gopK C L fb lb c (evalOps C fb lb is st.rs st.h st.fl) := by
  show bnd (evalOps C fb lb is st.rs st.h st.fl) _ = _
  cases evalOps C fb lb is st.rs st.h st.fl <;> rfl
@[simp] theorem s_exit (id : Nat) : evalCode C L fb (.exit id) lb st = some (.exit id, st) := rfl
@[simp] theorem s_ret : evalCode C L fb .ret lb st = some (.ret, st) := rfl
@[simp] theorem s_loop (own : List (Nat × Nat × Nat)) : evalCode C L fb (.loop live own c) lb st = loopRun C L fb live c st := rfl
theorem s_round : roundV C L fb live c st = endK st.h.length live st.fl.esc (evalCode C L fb c st.h.length ⟨st.rs, st.h, ⟨st.fl.wr, [], st.fl.all⟩⟩) := by
  unfold roundV
  rcases evalCode C L fb c st.h.length ⟨st.rs, st.h, ⟨st.fl.wr, [], st.fl.all⟩⟩ with _ | ⟨x, st'⟩
  · rfl
  · cases x <;> rfl
@[simp] theorem s_endK_n (es : List Nat) : endK n live es (some (.normal, st)) = some (.normal, clean n es (keep st.rs live) st) := rfl
@[simp] theorem s_endK_e (es : List Nat) (j : Nat) : endK n live es (some (.exit j, st)) = some (.exit j, ⟨st.rs, st.h, ⟨st.fl.wr, addE es st.fl.esc, st.fl.all⟩⟩) := rfl
@[simp] theorem s_endK_r (es : List Nat) : endK n live es (some (.ret, st)) = some (.ret, ⟨st.rs, st.h, ⟨st.fl.wr, addE es st.fl.esc, st.fl.all⟩⟩) := rfl
@[simp] theorem s_finK_n (res : List Res) : finK n res (some (.normal, st)) = bnd (resV st.rs st.h res) fun vs => some (finishV n st (one vs)) := rfl
@[simp] theorem s_finK_r (res : List Res) : finK n res (some (.ret, st)) = bnd (resV st.rs st.h res) fun vs => some (finishV n st (one vs)) := rfl
@[simp] theorem s_run (p : Nat) (res : List Res) (own : Option Nat) (xs : List V) : runV C L ⟨p, c, res, own⟩ xs h = cnd (decide (xs.length = p)) (finK h.length res (evalCode C L h.length c h.length ⟨initR xs 0, h, .no⟩)) none := by
  unfold runV
  congr 1
  rcases evalCode C L h.length c h.length ⟨initR xs 0, h, .no⟩ with _ | ⟨x, st'⟩
  · rfl
  · cases x <;> rfl
end

section
variable {C : Callee} {fb : Nat} {live : List Nat} {c : VCode} {s s' : St} {r : Ex × St}
theorem loop_next (h1 : roundV C loopL fb live c s = some (.normal, s')) (h2 : loopRun C loopL fb live c s' = some r) : loopRun C loopL fb live c s = some r := loopL_next h1 rfl h2
theorem loop_exit {j : Nat} (h1 : roundV C loopL fb live c s = some (.exit j, s')) : loopRun C loopL fb live c s = some (.exit j, s') := loopL_done h1 rfl
theorem loop_ret (h1 : roundV C loopL fb live c s = some (.ret, s')) : loopRun C loopL fb live c s = some (.ret, s') := loopL_done h1 rfl
end
end Go.Vm

/- Numbers: wraps. -/
set_option linter.unusedVariables false
set_option linter.unusedSimpArgs false
namespace Go.Vm
theorem wrap_i64 {n : Int} (h1 : -9223372036854775808 ≤ n) (h2 : n ≤ 9223372036854775807) : IntKind.wrap .i64 n = n := by
  show (if (true && decide (n % (18446744073709551616 : Int) ≥ (9223372036854775808 : Int))) = true then n % 18446744073709551616 - 18446744073709551616 else n % 18446744073709551616) = n
  simp only [Bool.true_and, decide_eq_true_eq]
  split <;> omega
theorem wrap_u64 {n : Int} (h1 : 0 ≤ n) (h2 : n ≤ 18446744073709551615) : IntKind.wrap .u64 n = n := by
  show (if (false && decide (n % (18446744073709551616 : Int) ≥ (9223372036854775808 : Int))) = true then n % 18446744073709551616 - 18446744073709551616 else n % 18446744073709551616) = n
  simp only [Bool.false_and, Bool.false_eq_true, if_false]
  omega
theorem and_one (n : Int) : bitsV .u64 (BitVec.ofInt IntKind.u64.bits n &&& BitVec.ofInt IntKind.u64.bits 1) = .int .u64 (n % 2) := by
  show V.int .u64 (IntKind.wrap .u64 ((BitVec.ofInt 64 n &&& BitVec.ofInt 64 1).toNat : Nat)) = .int .u64 (n % 2)
  congr 1
  have h1 : (BitVec.ofInt 64 1).toNat = 1 := rfl
  rw [BitVec.toNat_and, h1, Nat.and_one_is_mod, BitVec.toNat_ofInt, wrap_u64] <;> omega
@[simp high] theorem bin_and1 (ek : EK) (n : Int) : binV .and ek (.int .u64 n) (.int .u64 1) = some (.int .u64 (n % 2)) := by rw [bin_and, and_one]
end Go.Vm

/- The program's data as plain structures, and how they lie in the V-machine. No function of the program in sight. -/
set_option linter.unusedVariables false
set_option linter.unusedSimpArgs false
namespace Go.Vm

def I64 (n : Int) : Prop := -9223372036854775808 ≤ n ∧ n ≤ 9223372036854775807
theorem wf_i64 {n : Int} (h : (Lit.int .i64 n).wf = true) : I64 n := by
  have h : (decide ((-9223372036854775808 : Int) ≤ n) && decide (n ≤ (9223372036854775807 : Int))) = true := h
  simp only [Bool.and_eq_true, decide_eq_true_eq] at h
  exact h
theorem wf_u8 {n : Int} (h : (Lit.int .u8 n).wf = true) : 0 ≤ n ∧ n ≤ 255 := by
  have h : (decide ((0 : Int) ≤ n) && decide (n ≤ (255 : Int))) = true := h
  simp only [Bool.and_eq_true, decide_eq_true_eq] at h
  exact h

def bytesV (b : List UInt8) : V := .sl (b.map byteV)
@[simp] theorem byteV_flat (b : UInt8) : (byteV b).flat = [byteV b] := rfl
@[simp] theorem byteV_pure (b : UInt8) : (byteV b).pure = true := rfl
@[simp] theorem byteV_pureCell (b : UInt8) : (byteV b).pureCell = true := rfl
@[simp] theorem byteV_cell (b : UInt8) : (byteV b).isCell = true := rfl
@[simp] theorem byteV_lt (n : Nat) (b : UInt8) : (byteV b).lt n = true := by simp [byteV]
@[simp] theorem sizeOk_bytes (b : List UInt8) : sizeOk 1 (b.map byteV) = true := by cases b <;> simp
@[simp] theorem bytesOf_map (b : List UInt8) : bytesOf (b.map byteV) = some b := by
  induction b with
  | nil => rfl
  | cons x xs ih =>
    have : UInt8.ofNat ((x.toNat : Int).toNat) = x := by simp
    simp [bytesOf, byteV, ih]

structure Dot where
  node : Int
  n : Int
  deriving DecidableEq
def Dot.c (d : Dot) : List V := [.int .i64 d.node, .int .i64 d.n]
abbrev Dot.v (d : Dot) : V := .agg d.c
def Dot.Wf (d : Dot) : Prop := I64 d.node ∧ I64 d.n
namespace Dot
variable (d : Dot)
@[simp] theorem c_len : d.c.length = 2 := rfl
@[simp] theorem c_cell : d.c.all V.isCell = true := rfl
@[simp] theorem c_pure : d.c.all V.pureCell = true := rfl
@[simp] theorem c_lt (n : Nat) : V.ltL n d.c = true := by simp [Dot.c]
@[simp] theorem c_take : d.c.take 2 = d.c := rfl
@[simp] theorem c_drop : d.c.drop 2 = [] := rfl
@[simp] theorem c0 : d.c[0]? = some (.int .i64 d.node) := rfl
@[simp] theorem c1 : d.c[1]? = some (.int .i64 d.n) := rfl
@[simp] theorem v_flat : d.v.flat = d.c := rfl
@[simp] theorem v_lt (n : Nat) : d.v.lt n = true := by simp [Dot.v]
@[simp] theorem v_pure : d.v.pure = true := rfl
theorem eq_cells (e : Dot) : cellsEq [.i, .i] d.c e.c = some (decide (d = e)) := by
  obtain ⟨a, b⟩ := d; obtain ⟨x, y⟩ := e
  simp [Dot.c]
  by_cases h : a = x <;> by_cases h' : b = y <;> simp [h, h']
end Dot
@[simp] theorem bin_dot_eql (d e : Dot) : binV .eql (.agg [.i, .i]) d.v e.v = some (.bool (decide (d = e))) := by simp [Dot.v, Dot.eq_cells]
@[simp] theorem bin_dot_neq (d e : Dot) : binV .neq (.agg [.i, .i]) d.v e.v = some (.bool (!decide (d = e))) := by simp [Dot.v, Dot.eq_cells]

structure Vec where
  l : List Int
  h : l.length = 8
  deriving DecidableEq
def Vec.c (v : Vec) : List V := v.l.map (.int .i64)
abbrev Vec.v (v : Vec) : V := .agg v.c
def Vec.Wf (v : Vec) : Prop := ∀ n ∈ v.l, I64 n
namespace Vec
variable (v : Vec)
@[simp] theorem l_len : v.l.length = 8 := v.h
@[simp] theorem c_len : v.c.length = 8 := by simp [Vec.c]
@[simp] theorem c_cell : v.c.all V.isCell = true := by simp [Vec.c]
@[simp] theorem c_pure : v.c.all V.pureCell = true := by simp [Vec.c]
@[simp] theorem c_lt (n : Nat) : V.ltL n v.c = true := by simp [Vec.c]
@[simp] theorem c_take : v.c.take 8 = v.c := List.take_of_length_le (by simp)
@[simp] theorem c_drop : v.c.drop 8 = [] := List.drop_of_length_le (by simp)
@[simp] theorem ca_take (xs : List V) : (v.c ++ xs).take 8 = v.c := List.take_left' (by simp)
@[simp] theorem ca_drop (xs : List V) : (v.c ++ xs).drop 8 = xs := List.drop_left' (by simp)
@[simp] theorem ca_get (x : V) : (v.c ++ [x])[8]? = some x := by rw [List.getElem?_append_right (by simp)]; simp
@[simp] theorem ca_set (x y : V) : (v.c ++ [x]).set 8 y = v.c ++ [y] := by rw [List.set_append_right _ _ (by simp)]; simp
@[simp] theorem v_flat : v.v.flat = v.c := rfl
@[simp] theorem v_lt (n : Nat) : v.v.lt n = true := by simp [Vec.v]
@[simp] theorem v_pure : v.v.pure = true := by simp [Vec.v]
theorem eq_ints : ∀ (a b : List Int), a.length = b.length → cellsEq (a.map fun _ => SK.i) (a.map (V.int .i64)) (b.map (V.int .i64)) = some (decide (a = b))
  | [], [], _ => rfl
  | x :: a, y :: b, h => by
    simp at h
    simp [eq_ints a b h]
    by_cases h1 : x = y <;> by_cases h2 : a = b <;> simp [h1, h2]
theorem ext_l {a b : Vec} (h : a.l = b.l) : a = b := by cases a; cases b; simp at h; subst h; rfl
theorem l_inj {a b : Vec} : a.l = b.l ↔ a = b := ⟨ext_l, fun h => h ▸ rfl⟩
theorem eq_cells (a b : Vec) : cellsEq [.i, .i, .i, .i, .i, .i, .i, .i] a.c b.c = some (decide (a = b)) := by
  have h := eq_ints a.l b.l (by simp)
  have e : (a.l.map fun _ => SK.i) = [.i, .i, .i, .i, .i, .i, .i, .i] := by
    rw [List.map_const', a.h]; rfl
  rw [e] at h
  unfold Vec.c
  rw [h]
  congr 1
  simp [l_inj]
end Vec
@[simp] theorem bin_vec_eql (d e : Vec) : binV .eql (.agg [.i, .i, .i, .i, .i, .i, .i, .i]) d.v e.v = some (.bool (decide (d = e))) := by simp [Vec.v, Vec.eq_cells]
@[simp] theorem bin_vec_neq (d e : Vec) : binV .neq (.agg [.i, .i, .i, .i, .i, .i, .i, .i]) d.v e.v = some (.bool (!decide (d = e))) := by simp [Vec.v, Vec.eq_cells]

structure Val where
  dot : Dot
  data : List UInt8
  dead : Bool
  deriving DecidableEq
def Val.c (v : Val) : List V := [.int .i64 v.dot.node, .int .i64 v.dot.n, bytesV v.data, .bool v.dead]
abbrev Val.v (v : Val) : V := .agg v.c
def Val.Wf (v : Val) : Prop := v.dot.Wf ∧ v.data.length ≤ reachLen
namespace Val
variable (v : Val)
@[simp] theorem c_len : v.c.length = 4 := rfl
@[simp] theorem c_cell : v.c.all V.isCell = true := rfl
@[simp] theorem c_pure : v.c.all V.pureCell = true := rfl
@[simp] theorem c_lt (n : Nat) : V.ltL n v.c = true := by simp [Val.c, bytesV]
@[simp] theorem c_take : v.c.take 4 = v.c := rfl
@[simp] theorem c_drop : v.c.drop 4 = [] := rfl
@[simp] theorem c_dot : v.c.take 2 = v.dot.c := rfl
@[simp] theorem c0 : v.c[0]? = some (.int .i64 v.dot.node) := rfl
@[simp] theorem c1 : v.c[1]? = some (.int .i64 v.dot.n) := rfl
@[simp] theorem c2 : v.c[2]? = some (.sl (v.data.map byteV)) := rfl
@[simp] theorem c3 : v.c[3]? = some (.bool v.dead) := rfl
@[simp] theorem v_flat : v.v.flat = v.c := rfl
@[simp] theorem v_lt (n : Nat) : v.v.lt n = true := by simp [Val.v]
@[simp] theorem v_pure : v.v.pure = true := rfl
end Val
structure Sib where
  seen : Vec
  vals : List Val
  deriving DecidableEq
def Sib.c (s : Sib) : List V := s.seen.c ++ [.sl (s.vals.map Val.v)]
abbrev Sib.v (s : Sib) : V := .agg s.c
def Sib.Wf (s : Sib) : Prop := s.seen.Wf ∧ s.vals.length ≤ reachLen ∧ ∀ v ∈ s.vals, v.Wf
namespace Sib
variable (s : Sib)
@[simp] theorem c_len : s.c.length = 9 := by simp [Sib.c]
@[simp] theorem c_cell : s.c.all V.isCell = true := by rw [Sib.c, List.all_append, Vec.c_cell]; rfl
@[simp] theorem c_pure : s.c.all V.pureCell = true := by rw [Sib.c, List.all_append, Vec.c_pure]; rfl
theorem ltL_append (n : Nat) : ∀ (xs ys : List V), V.ltL n (xs ++ ys) = (V.ltL n xs && V.ltL n ys)
  | [], ys => by simp
  | x :: xs, ys => by simp [ltL_append n xs ys, Bool.and_assoc]
@[simp] theorem c_lt (n : Nat) : V.ltL n s.c = true := by simp [Sib.c, ltL_append]
@[simp] theorem c_take : s.c.take 9 = s.c := List.take_of_length_le (by simp)
@[simp] theorem c_drop : s.c.drop 9 = [] := List.drop_of_length_le (by simp)
@[simp] theorem c_seen : s.c.take 8 = s.seen.c := by simp [Sib.c]
@[simp] theorem c8 : s.c[8]? = some (.sl (s.vals.map Val.v)) := by simp [Sib.c]
@[simp] theorem c_set8 (l : List Val) : s.c.set 8 (.sl (l.map Val.v)) = Sib.c ⟨s.seen, l⟩ := by simp [Sib.c]
@[simp] theorem v_flat : s.v.flat = s.c := rfl
@[simp] theorem v_lt (n : Nat) : s.v.lt n = true := by simp [Sib.v]
@[simp] theorem v_pure : s.v.pure = true := by simp [Sib.v]
end Sib
@[simp] theorem sizeOk_vals (l : List Val) : sizeOk 4 (l.map Val.v) = true := by cases l <;> simp
@[simp] theorem sizeOk_dots (l : List Dot) : sizeOk 2 (l.map Dot.v) = true := by cases l <;> simp
structure Ent where
  key : List UInt8
  sib : Sib
  deriving DecidableEq
def Ent.c (e : Ent) : List V := .str e.key :: e.sib.c
abbrev Ent.v (e : Ent) : V := .agg e.c
def Ent.Wf (e : Ent) : Prop := e.key.length ≤ reachLen ∧ e.sib.Wf
namespace Ent
variable (e : Ent)
@[simp] theorem c_len : e.c.length = 10 := by simp [Ent.c]
@[simp] theorem c_cell : e.c.all V.isCell = true := by rw [Ent.c, List.all_cons, Sib.c_cell]; rfl
@[simp] theorem c_pure : e.c.all V.pureCell = true := by rw [Ent.c, List.all_cons, Sib.c_pure]; rfl
@[simp] theorem c_lt (n : Nat) : V.ltL n e.c = true := by simp [Ent.c]
@[simp] theorem c_take : e.c.take 10 = e.c := List.take_of_length_le (by simp)
@[simp] theorem c_drop : e.c.drop 10 = [] := List.drop_of_length_le (by simp)
@[simp] theorem c0 : e.c[0]? = some (.str e.key) := rfl
@[simp] theorem c9 : e.c[9]? = some (.sl (e.sib.vals.map Val.v)) := Sib.c8 _
@[simp] theorem c_drop1 : e.c.drop 1 = e.sib.c := rfl
@[simp] theorem c_tail : e.c.tail = e.sib.c := rfl
@[simp] theorem c_set9 (l : List Val) : e.c.set 9 (.sl (l.map Val.v)) = Ent.c ⟨e.key, ⟨e.sib.seen, l⟩⟩ := by simp [Ent.c]
@[simp] theorem v_flat : e.v.flat = e.c := rfl
@[simp] theorem v_lt (n : Nat) : e.v.lt n = true := by simp [Ent.v]
@[simp] theorem v_pure : e.v.pure = true := by simp [Ent.v]
end Ent
@[simp] theorem sizeOk_ents (l : List Ent) : sizeOk 10 (l.map Ent.v) = true := by cases l <;> simp
structure Dig where
  key : List UInt8
  seen : Vec
  dots : List Dot
  deriving DecidableEq
def Dig.c (d : Dig) : List V := .str d.key :: (d.seen.c ++ [.sl (d.dots.map Dot.v)])
abbrev Dig.v (d : Dig) : V := .agg d.c
def Dig.Wf (d : Dig) : Prop := d.key.length ≤ reachLen ∧ d.seen.Wf ∧ d.dots.length ≤ reachLen ∧ ∀ x ∈ d.dots, x.Wf
namespace Dig
variable (d : Dig)
@[simp] theorem c_len : d.c.length = 10 := by simp [Dig.c]
@[simp] theorem c_cell : d.c.all V.isCell = true := by rw [Dig.c, List.all_cons, List.all_append, Vec.c_cell]; rfl
@[simp] theorem c_pure : d.c.all V.pureCell = true := by rw [Dig.c, List.all_cons, List.all_append, Vec.c_pure]; rfl
@[simp] theorem c_lt (n : Nat) : V.ltL n d.c = true := by simp [Dig.c, Sib.ltL_append]
@[simp] theorem c_take : d.c.take 10 = d.c := List.take_of_length_le (by simp)
@[simp] theorem c_drop : d.c.drop 10 = [] := List.drop_of_length_le (by simp)
@[simp] theorem c0 : d.c[0]? = some (.str d.key) := rfl
@[simp] theorem c9 : d.c[9]? = some (.sl (d.dots.map Dot.v)) := by simp [Dig.c]
@[simp] theorem c_seen : (d.c.drop 1).take 8 = d.seen.c := by simp [Dig.c]
@[simp] theorem c_seen' : d.c.tail.take 8 = d.seen.c := by simp [Dig.c]
@[simp] theorem v_flat : d.v.flat = d.c := rfl
@[simp] theorem v_lt (n : Nat) : d.v.lt n = true := by simp [Dig.v]
@[simp] theorem v_pure : d.v.pure = true := by simp [Dig.v]
end Dig
@[simp] theorem sizeOk_digs (l : List Dig) : sizeOk 10 (l.map Dig.v) = true := by cases l <;> simp

def dotT : Ty := .st (.cons (.int .i64) (.cons (.int .i64) .nil))
def bytT : Ty := .sl (.int .u8)
def vecT : Ty := .arr 8 (.int .i64)
def valT : Ty := .st (.cons dotT (.cons bytT (.cons .bool .nil)))
def sibT : Ty := .st (.cons vecT (.cons (.sl valT) .nil))
def entT : Ty := .st (.cons .str (.cons sibT .nil))
def digT : Ty := .st (.cons .str (.cons vecT (.cons (.sl dotT) .nil)))
theorem list_of {α : Type} {f : α → V} {Q : α → Prop} : ∀ {xs : List V}, (∀ x ∈ xs, ∃ a, Q a ∧ x = f a) → ∃ l : List α, xs = l.map f ∧ ∀ a ∈ l, Q a
  | [], _ => ⟨[], rfl, by simp⟩
  | x :: xs, h => by
    obtain ⟨a, h1, rfl⟩ := h x (by simp)
    obtain ⟨l, rfl, h2⟩ := list_of (xs := xs) (fun y hy => h y (by simp [hy]))
    exact ⟨a :: l, rfl, fun b hb => by
      rcases List.mem_cons.1 hb with rfl | hb
      · exact h1
      · exact h2 b hb⟩
theorem slice_of {α : Type} {f : α → V} {Q : α → Prop} {t : Ty} (he : ∀ ys, t.Has ys → ∃ a, Q a ∧ t.el ys = f a) {cs : List V} (h : (Ty.sl t).Has cs) : ∃ l : List α, l.length ≤ reachLen ∧ cs = [.sl (l.map f)] ∧ ∀ a ∈ l, Q a := by
  obtain ⟨xs, hl, rfl, h⟩ := h
  obtain ⟨l, rfl, h2⟩ := list_of (f := f) (Q := Q) (xs := xs) (fun x hx => by
    obtain ⟨ys, h1, rfl⟩ := h x hx
    exact he ys h1)
  exact ⟨l, by simpa using hl, rfl, h2⟩
theorem Dot.dec {cs : List V} (h : dotT.Has cs) : ∃ d : Dot, d.Wf ∧ cs = d.c := by
  obtain ⟨_, _, rfl, ⟨a, ha, rfl⟩, _, _, rfl, ⟨b, hb, rfl⟩, rfl⟩ := h
  exact ⟨⟨a, b⟩, ⟨wf_i64 ha, wf_i64 hb⟩, rfl⟩
theorem bytes_dec {cs : List V} (h : bytT.Has cs) : ∃ b : List UInt8, b.length ≤ reachLen ∧ cs = [bytesV b] := by
  obtain ⟨l, h1, rfl, _⟩ := slice_of (f := byteV) (Q := fun _ => True) (fun ys hy => by
    obtain ⟨n, hn, rfl⟩ := hy
    have := wf_u8 hn
    refine ⟨UInt8.ofNat n.toNat, trivial, ?_⟩
    show V.int .u8 n = .int .u8 _
    congr 1
    simp
    omega) h
  exact ⟨l, h1, rfl⟩
theorem Vec.dec {cs : List V} (h : vecT.Has cs) : ∃ v : Vec, v.Wf ∧ cs = v.c := by
  obtain ⟨css, hl, rfl, h⟩ := h
  have : ∀ (css : List (List V)), (∀ x ∈ css, Ty.Has (.int .i64) x) → ∃ l : List Int, css.flatten = l.map (.int .i64) ∧ l.length = css.length ∧ ∀ n ∈ l, I64 n := by
    intro css
    induction css with
    | nil => intro _; exact ⟨[], rfl, rfl, by simp⟩
    | cons x xs ih =>
      intro h
      obtain ⟨n, hn, rfl⟩ := h x (by simp)
      obtain ⟨l, h1, h2, h3⟩ := ih (fun y hy => h y (by simp [hy]))
      exact ⟨n :: l, by simp [h1], by simp [h2], fun m hm => by
        rcases List.mem_cons.1 hm with rfl | hm
        · exact wf_i64 hn
        · exact h3 m hm⟩
  obtain ⟨l, h1, h2, h3⟩ := this css h
  exact ⟨⟨l, by omega⟩, h3, h1⟩
theorem Val.dec {cs : List V} (h : valT.Has cs) : ∃ v : Val, v.Wf ∧ cs = v.c := by
  obtain ⟨_, _, rfl, hd, _, _, rfl, hb, _, _, rfl, ⟨b, rfl⟩, rfl⟩ := h
  obtain ⟨d, hw, rfl⟩ := Dot.dec hd
  obtain ⟨x, hx, rfl⟩ := bytes_dec hb
  exact ⟨⟨d, x, b⟩, ⟨hw, hx⟩, rfl⟩
theorem Sib.dec {cs : List V} (h : sibT.Has cs) : ∃ s : Sib, s.Wf ∧ cs = s.c := by
  obtain ⟨_, _, rfl, hv, _, _, rfl, hl, rfl⟩ := h
  obtain ⟨v, hw, rfl⟩ := Vec.dec hv
  obtain ⟨l, h1, rfl, h2⟩ := slice_of (f := Val.v) (Q := Val.Wf) (fun ys hy => by
    obtain ⟨x, h1, rfl⟩ := Val.dec hy
    exact ⟨x, h1, rfl⟩) hl
  exact ⟨⟨v, l⟩, ⟨hw, h1, h2⟩, rfl⟩
theorem Ent.dec {cs : List V} (h : entT.Has cs) : ∃ s : Ent, s.Wf ∧ cs = s.c := by
  obtain ⟨_, _, rfl, ⟨k, hk, rfl⟩, _, _, rfl, hl, rfl⟩ := h
  obtain ⟨s, hs, rfl⟩ := Sib.dec hl
  exact ⟨⟨k, s⟩, ⟨hk, hs⟩, by simp [Ent.c]⟩
theorem Dig.dec {cs : List V} (h : digT.Has cs) : ∃ s : Dig, s.Wf ∧ cs = s.c := by
  obtain ⟨_, _, rfl, ⟨k, hk, rfl⟩, _, _, rfl, hv, _, _, rfl, hl, rfl⟩ := h
  obtain ⟨v, hw, rfl⟩ := Vec.dec hv
  obtain ⟨l, h1, rfl, h2⟩ := slice_of (f := Dot.v) (Q := Dot.Wf) (fun ys hy => by
    obtain ⟨x, h1, rfl⟩ := Dot.dec hy
    exact ⟨x, h1, rfl⟩) hl
  exact ⟨⟨k, v, l⟩, ⟨hk, hw, h1, h2⟩, rfl⟩
theorem Ents.dec {cs : List V} (h : (Ty.sl entT).Has cs) : ∃ l : List Ent, l.length ≤ reachLen ∧ (∀ e ∈ l, e.Wf) ∧ cs = [.sl (l.map Ent.v)] := by
  obtain ⟨l, h1, rfl, h2⟩ := slice_of (f := Ent.v) (Q := Ent.Wf) (fun ys hy => by
    obtain ⟨x, h1, rfl⟩ := Ent.dec hy
    exact ⟨x, h1, rfl⟩) h
  exact ⟨l, h1, h2, rfl⟩
theorem Digs.dec {cs : List V} (h : (Ty.sl digT).Has cs) : ∃ l : List Dig, l.length ≤ reachLen ∧ (∀ e ∈ l, e.Wf) ∧ cs = [.sl (l.map Dig.v)] := by
  obtain ⟨l, h1, rfl, h2⟩ := slice_of (f := Dig.v) (Q := Dig.Wf) (fun ys hy => by
    obtain ⟨x, h1, rfl⟩ := Dig.dec hy
    exact ⟨x, h1, rfl⟩) h
  exact ⟨l, h1, h2, rfl⟩
end Go.Vm

/- Loops over so many rounds; one that may end early. -/
set_option linter.unusedVariables false
set_option linter.unusedSimpArgs false
namespace Go.Vm
section
variable {C : Callee} {fb : Nat} {live : List Nat} {c : VCode}
theorem loop_done {s : St} {r : Ex × St} (h1 : roundV C loopL fb live c s = some r) (hr : r.1.isNormal = false) : loopRun C loopL fb live c s = some r := by
  obtain ⟨e, s'⟩ := r
  cases e with
  | normal => cases hr
  | exit j => exact loop_exit h1
  | ret => exact loop_ret h1
theorem loop_from (S : Nat → St) (m : Nat) (hstep : ∀ j, j < m → roundV C loopL fb live c (S j) = some (.normal, S (j + 1))) {r : Ex × St} (hend : roundV C loopL fb live c (S m) = some r) (hr : r.1.isNormal = false) :
    ∀ (k j : Nat), j + k = m → loopRun C loopL fb live c (S j) = some r := by
  intro k
  induction k with
  | zero =>
    intro j hj
    have : j = m := by omega
    subst this
    exact loop_done hend hr
  | succ k ih => intro j hj; exact loop_next (hstep j (by omega)) (ih (j + 1) (by omega))
theorem loop_to (S : Nat → St) (m : Nat) (hstep : ∀ j, j < m → roundV C loopL fb live c (S j) = some (.normal, S (j + 1))) {r : Ex × St} (hend : roundV C loopL fb live c (S m) = some r) (hr : r.1.isNormal = false) :
    loopRun C loopL fb live c (S 0) = some r := loop_from S m hstep hend hr m 0 (by omega)
theorem loop_scan (S : Nat → St) (n : Nat) (p : Nat → Bool) (rE : Ex × St) (rX : Nat → Ex × St) (hstep : ∀ j, j < n → p j = true → roundV C loopL fb live c (S j) = some (.normal, S (j + 1)))
    (hstop : ∀ j, j < n → p j = false → roundV C loopL fb live c (S j) = some (rX j)) (hX : ∀ j, (rX j).1.isNormal = false) (hend : roundV C loopL fb live c (S n) = some rE) (hE : rE.1.isNormal = false) :
    ((∀ j, j < n → p j = true) ∧ loopRun C loopL fb live c (S 0) = some rE) ∨ ∃ j, j < n ∧ p j = false ∧ (∀ i, i < j → p i = true) ∧ loopRun C loopL fb live c (S 0) = some (rX j) := by
  by_cases hall : ∀ j, j < n → p j = true
  · exact .inl ⟨hall, loop_to S n (fun j hj => hstep j hj (hall j hj)) hend hE⟩
  · have key : ∀ m, (∀ i, i < m → p i = true) ∨ ∃ j, j < m ∧ p j = false ∧ ∀ i, i < j → p i = true := by
      intro m
      induction m with
      | zero => exact .inl fun i hi => by omega
      | succ m ih =>
        rcases ih with h1 | ⟨j, h1, h2, h3⟩
        · cases hp : p m
          · exact .inr ⟨m, by omega, hp, h1⟩
          · exact .inl fun i hi => by
              rcases Nat.lt_or_ge i m with h2 | h2
              · exact h1 i h2
              · have : i = m := by omega
                subst this; exact hp
        · exact .inr ⟨j, by omega, h2, h3⟩
    rcases key n with h1 | ⟨j, h1, h2, h3⟩
    · exact absurd h1 hall
    · exact .inr ⟨j, h1, h2, h3, loop_to S j (fun i hi => hstep i (by omega) (h3 i hi)) (hstop j h1 h2) (hX j)⟩
end
def getB {α : Type} (l : List α) (f : α → Bool) (j : Nat) : Bool :=
  match l[j]? with
  | some x => f x
  | none => true
theorem getB_at {α : Type} {l : List α} {f : α → Bool} {j : Nat} {x : α} (h : l[j]? = some x) : getB l f j = f x := by unfold getB; rw [h]
theorem all_getB {α : Type} {l : List α} {f : α → Bool} (h : ∀ j, j < l.length → getB l f j = true) : l.all f = true := by
  rw [List.all_eq_true]
  intro x hx
  obtain ⟨j, hj, rfl⟩ := List.getElem_of_mem hx
  rw [← getB_at (f := f) (List.getElem?_eq_getElem hj)]
  exact h j hj
theorem not_all_getB {α : Type} {l : List α} {f : α → Bool} {j : Nat} (hj : j < l.length) (h : getB l f j = false) : l.all f = false := by
  cases ha : l.all f
  · rfl
  · rw [getB_at (List.getElem?_eq_getElem hj)] at h
    rw [List.all_eq_true] at ha
    rw [ha _ (List.getElem_mem hj)] at h
    cases h
theorem findIdx_getB {α : Type} {l : List α} {f : α → Bool} (h : ∀ j, j < l.length → getB l (fun x => !f x) j = true) : l.findIdx? f = none := by
  rw [List.findIdx?_eq_none_iff]
  intro x hx
  obtain ⟨j, hj, rfl⟩ := List.getElem_of_mem hx
  have := h j hj
  rw [getB_at (List.getElem?_eq_getElem hj)] at this
  simpa using this
theorem findIdx_at {α : Type} {l : List α} {f : α → Bool} {j : Nat} (hj : j < l.length) (h : getB l (fun x => !f x) j = false) (h0 : ∀ i, i < j → getB l (fun x => !f x) i = true) : l.findIdx? f = some j := by
  rw [List.findIdx?_eq_some_iff_getElem]
  refine ⟨hj, ?_, fun i hi => ?_⟩
  · rw [getB_at (List.getElem?_eq_getElem hj)] at h
    simpa using h
  · have := h0 i hi
    rw [getB_at (List.getElem?_eq_getElem (by omega))] at this
    simpa using this
end Go.Vm

/- Lists of structs as the cells of one object. -/
set_option linter.unusedVariables false
set_option linter.unusedSimpArgs false
namespace Go.Vm
section
variable {α : Type} {c : α → List V} {z : Nat} (hc : ∀ x, (c x).length = z)
include hc
theorem flat_len (l : List α) : (l.flatMap c).length = l.length * z := by
  induction l with
  | nil => simp
  | cons x l ih => rw [List.flatMap_cons, List.length_append, hc, ih, List.length_cons, Nat.add_mul, Nat.one_mul, Nat.add_comm]
theorem flat_drop : ∀ (l : List α) (i : Nat), (l.flatMap c).drop (i * z) = (l.drop i).flatMap c
  | l, 0 => by simp
  | [], i + 1 => by simp
  | x :: l, i + 1 => by
    rw [List.flatMap_cons, List.drop_succ_cons, ← flat_drop l i, Nat.add_mul, Nat.one_mul, Nat.add_comm (i * z) z, ← List.drop_drop, ← hc x, List.drop_left]
theorem flat_take : ∀ (l : List α) (i : Nat), (l.flatMap c).take (i * z) = (l.take i).flatMap c
  | l, 0 => by simp
  | [], i + 1 => by simp
  | x :: l, i + 1 => by
    rw [List.flatMap_cons, List.take_succ_cons, List.flatMap_cons, ← flat_take l i, Nat.add_mul, Nat.one_mul, Nat.add_comm (i * z) z, ← hc x, List.take_length_add_append]
theorem flat_part {l : List α} {i : Nat} {x : α} (hx : l[i]? = some x) (o n : Nat) (ho : o + n ≤ z) : ((l.flatMap c).drop (i * z + o)).take n = ((c x).drop o).take n := by
  have hlt := (List.getElem?_eq_some_iff.1 hx).1
  have e : l.drop i = x :: l.drop (i + 1) := by rw [List.drop_eq_getElem_cons hlt]; congr 1; exact (List.getElem?_eq_some_iff.1 hx).2
  have h1 := hc x
  rw [← List.drop_drop, flat_drop hc, e, List.flatMap_cons, List.drop_append_of_le_length (by omega), List.take_append_of_le_length (by rw [List.length_drop]; omega)]
theorem flat_in {l : List α} {i : Nat} (hi : i < l.length) (o n : Nat) (ho : o + n ≤ z) : i * z + o + n ≤ (l.flatMap c).length := by
  rw [flat_len hc]
  have : (i + 1) * z ≤ l.length * z := Nat.mul_le_mul_right _ hi
  rw [Nat.add_mul, Nat.one_mul] at this
  omega
theorem flat_set {l : List α} {i : Nat} {x y : α} (hx : l[i]? = some x) (o n : Nat) (ho : o + n ≤ z) {vs : List V} (hn : vs.length = n) (hy : c y = (c x).take o ++ (vs ++ (c x).drop (o + n))) :
    (l.flatMap c).take (i * z + o) ++ (vs ++ (l.flatMap c).drop (i * z + o + n)) = (l.set i y).flatMap c := by
  have hlt := (List.getElem?_eq_some_iff.1 hx).1
  have e : l.drop i = x :: l.drop (i + 1) := by rw [List.drop_eq_getElem_cons hlt]; congr 1; exact (List.getElem?_eq_some_iff.1 hx).2
  have hcx := hc x
  have h1 : (l.flatMap c).take (i * z + o) = (l.take i).flatMap c ++ (c x).take o := by
    rw [List.take_add, flat_take hc, flat_drop hc, e, List.flatMap_cons, List.take_append_of_le_length (by omega)]
  have h2 : (l.flatMap c).drop (i * z + o + n) = (c x).drop (o + n) ++ (l.drop (i + 1)).flatMap c := by
    rw [Nat.add_assoc, ← List.drop_drop, flat_drop hc, e, List.flatMap_cons, List.drop_append_of_le_length (by omega)]
  rw [h1, h2, List.set_eq_take_append_cons_drop, if_pos hlt, List.flatMap_append, List.flatMap_cons, hy]
  simp
theorem flat_chunks (hz : 0 < z) (l : List α) : chunks true z l.length (l.flatMap c) = l.map fun x => V.agg (c x) := by
  induction l with
  | nil => rfl
  | cons x l ih =>
    have h1 := hc x
    simp only [List.length_cons, chunks, cnd_true, List.flatMap_cons, List.map_cons]
    rw [List.take_append_of_le_length (by omega), List.take_of_length_le (by omega), ← h1, List.drop_left, h1, ih]
omit hc in
theorem flat_pure (hp : ∀ x, (c x).all V.pureCell = true) (l : List α) : (l.flatMap c).all V.pureCell = true := by
  simp only [List.all_eq_true, List.mem_flatMap] at hp ⊢
  rintro y ⟨x, _, hy⟩
  exact hp x y hy
omit hc in
theorem flat_lt {n : Nat} (hp : ∀ x, V.ltL n (c x) = true) (l : List α) : V.ltL n (l.flatMap c) = true := by
  induction l with
  | nil => simp
  | cons x l ih => rw [List.flatMap_cons, Sib.ltL_append, hp, ih]; rfl
omit hc in
theorem flat_mapl (l : List α) : (l.map fun x => V.agg (c x)).flatMap V.flat = l.flatMap c := by
  induction l with
  | nil => rfl
  | cons x l ih => rw [List.map_cons, List.flatMap_cons, List.flatMap_cons, ih]; rfl
end
@[simp] theorem flat_ents (l : List Ent) : (l.map Ent.v).flatMap V.flat = l.flatMap Ent.c := flat_mapl l
@[simp] theorem flat_vals (l : List Val) : (l.map Val.v).flatMap V.flat = l.flatMap Val.c := flat_mapl l
@[simp] theorem flat_dots (l : List Dot) : (l.map Dot.v).flatMap V.flat = l.flatMap Dot.c := flat_mapl l
@[simp] theorem flat_ents_len (l : List Ent) : (l.flatMap Ent.c).length = l.length * 10 := flat_len (fun x => Ent.c_len x) l
@[simp] theorem flat_vals_len (l : List Val) : (l.flatMap Val.c).length = l.length * 4 := flat_len (fun x => Val.c_len x) l
@[simp] theorem flat_dots_len (l : List Dot) : (l.flatMap Dot.c).length = l.length * 2 := flat_len (fun x => Dot.c_len x) l
@[simp] theorem flat_ents_pure (l : List Ent) : (l.flatMap Ent.c).all V.pureCell = true := flat_pure (fun x => Ent.c_pure x) l
@[simp] theorem flat_vals_pure (l : List Val) : (l.flatMap Val.c).all V.pureCell = true := flat_pure (fun x => Val.c_pure x) l
@[simp] theorem flat_dots_pure (l : List Dot) : (l.flatMap Dot.c).all V.pureCell = true := flat_pure (fun x => Dot.c_pure x) l
@[simp] theorem flat_ents_lt (n : Nat) (l : List Ent) : V.ltL n (l.flatMap Ent.c) = true := flat_lt (fun x => Ent.c_lt x n) l
@[simp] theorem flat_vals_lt (n : Nat) (l : List Val) : V.ltL n (l.flatMap Val.c) = true := flat_lt (fun x => Val.c_lt x n) l
@[simp] theorem flat_dots_lt (n : Nat) (l : List Dot) : V.ltL n (l.flatMap Dot.c) = true := flat_lt (fun x => Dot.c_lt x n) l
@[simp] theorem chunks_ents (l : List Ent) (n : Nat) (hn : n = l.length) : chunks true 10 n (l.flatMap Ent.c) = l.map Ent.v := by subst hn; exact flat_chunks (fun x => Ent.c_len x) (by omega) l
@[simp] theorem chunks_vals (l : List Val) (n : Nat) (hn : n = l.length) : chunks true 4 n (l.flatMap Val.c) = l.map Val.v := by subst hn; exact flat_chunks (fun x => Val.c_len x) (by omega) l
@[simp] theorem chunks_dots (l : List Dot) (n : Nat) (hn : n = l.length) : chunks true 2 n (l.flatMap Dot.c) = l.map Dot.v := by subst hn; exact flat_chunks (fun x => Dot.c_len x) (by omega) l
end Go.Vm

/- Sorting a list that is its register's alone: what is rested on is the library's contract of 'slices.SortFunc'. -/
set_option linter.unusedVariables false
set_option linter.unusedSimpArgs false
namespace Go.Vm
open Go.Sort Go.Proofs

def ltK (p q : Int × Int) : Bool := decide (p.1 < q.1) || (decide (p.1 = q.1) && decide (p.2 < q.2))
def cmpK (p q : Int × Int) : Int := if ltK p q = true then -1 else if ltK q p = true then 1 else 0
theorem ltK_irrefl (p : Int × Int) : ltK p p = false := by simp [ltK]
theorem ltK_trans {p q r : Int × Int} (h1 : ltK p q = true) (h2 : ltK q r = true) : ltK p r = true := by
  simp only [ltK, Bool.or_eq_true, Bool.and_eq_true, decide_eq_true_eq] at *
  omega
theorem ltK_ntrans {p q r : Int × Int} (h1 : ltK p q = false) (h2 : ltK q r = false) : ltK p r = false := by
  simp only [ltK, Bool.or_eq_false_iff, Bool.and_eq_false_iff, decide_eq_false_iff_not] at *
  omega
theorem ltK_eq {p q : Int × Int} (h1 : ltK p q = false) (h2 : ltK q p = false) : p = q := by
  simp only [ltK, Bool.or_eq_false_iff, Bool.and_eq_false_iff, decide_eq_false_iff_not] at *
  apply Prod.ext <;> omega
def keyV : V → Option (Int × Int)
  | .agg (.int .i64 a :: .int .i64 b :: _) => some (a, b)
  | _ => none
def lessV (x y : V) : Bool := match keyV x, keyV y with
  | some p, some q => ltK p q
  | _, _ => false
theorem lessV_keys {x y : V} {p q : Int × Int} (hx : keyV x = some p) (hy : keyV y = some q) : lessV x y = ltK p q := by unfold lessV; rw [hx, hy]
theorem lessV_inv {x y : V} (h : lessV x y = true) : ∃ p q, keyV x = some p ∧ keyV y = some q ∧ ltK p q = true := by
  unfold lessV at h
  split at h
  · rename_i p q h1 h2; exact ⟨p, q, h1, h2, h⟩
  · cases h
theorem lessV_trans {x y z : V} (h1 : lessV x y = true) (h2 : lessV y z = true) : lessV x z = true := by
  obtain ⟨p, q, a1, a2, a3⟩ := lessV_inv h1
  obtain ⟨q', r, b1, b2, b3⟩ := lessV_inv h2
  rw [a2] at b1
  cases b1
  rw [lessV_keys a1 b2]
  exact ltK_trans a3 b3
theorem lessV_irrefl (x : V) : lessV x x = false := by
  cases h : lessV x x
  · rfl
  · obtain ⟨p, q, a1, a2, a3⟩ := lessV_inv h
    rw [a1] at a2
    cases a2
    rw [ltK_irrefl] at a3
    cases a3
def insV (x : V) : List V → List V
  | [] => [x]
  | y :: ys => cnd (lessV x y) (x :: y :: ys) (y :: insV x ys)
def sortL : List V → List V
  | [] => []
  | x :: xs => insV x (sortL xs)
def distV : List V → Bool
  | [] => true
  | x :: xs => (keyV x).isSome && ((xs.all fun y => !decide (keyV x = keyV y)) && distV xs)
def sortV (xs args : List V) : Option (List V) := match args with
  | [] => cnd (distV xs && decide (xs.length < 4611686018427387904)) (some (sortL xs)) none
  | _ :: _ => none
theorem insV_perm (x : V) : ∀ ys : List V, (insV x ys).Perm (x :: ys)
  | [] => .refl _
  | y :: ys => by
    simp only [insV]
    cases lessV x y
    · exact ((insV_perm x ys).cons y).trans (.swap _ _ _)
    · exact .refl _
theorem sortL_perm : ∀ xs : List V, (sortL xs).Perm xs
  | [] => .refl _
  | x :: xs => (insV_perm x _).trans ((sortL_perm xs).cons x)
theorem insV_sorted (x : V) : ∀ {ys : List V}, ys.Pairwise (fun a b => lessV b a = false) → (insV x ys).Pairwise fun a b => lessV b a = false
  | [], _ => by simp [insV]
  | y :: ys, h => by
    simp only [insV]
    obtain ⟨h1, h2⟩ := List.pairwise_cons.1 h
    cases hl : lessV x y with
    | true =>
      refine List.pairwise_cons.2 ⟨fun z hz => ?_, h⟩
      cases hzx : lessV z x with
      | false => rfl
      | true =>
        have hzy := lessV_trans hzx hl
        rcases List.mem_cons.1 hz with rfl | hz
        · rw [lessV_irrefl] at hzy; cases hzy
        · rw [h1 z hz] at hzy; cases hzy
    | false =>
      refine List.pairwise_cons.2 ⟨fun z hz => ?_, insV_sorted x h2⟩
      rcases List.mem_cons.1 ((insV_perm x ys).subset hz) with rfl | hz
      · exact hl
      · exact h1 z hz
theorem sortL_sorted : ∀ xs : List V, (sortL xs).Pairwise fun a b => lessV b a = false
  | [] => .nil
  | x :: xs => insV_sorted x (sortL_sorted xs)
theorem dist_keys : ∀ {xs : List V}, distV xs = true → ∀ x ∈ xs, (keyV x).isSome = true
  | [], _, x, hx => by cases hx
  | y :: ys, h, x, hx => by
    simp only [distV, Bool.and_eq_true] at h
    rcases List.mem_cons.1 hx with rfl | hx
    · exact h.1
    · exact dist_keys h.2.2 x hx
theorem dist_eq : ∀ {xs : List V}, distV xs = true → ∀ x ∈ xs, ∀ y ∈ xs, keyV x = keyV y → x = y
  | [], _, x, hx, _, _, _ => by cases hx
  | z :: zs, h, x, hx, y, hy, e => by
    simp only [distV, Bool.and_eq_true, List.all_eq_true, Bool.not_eq_true', decide_eq_false_iff_not] at h
    rcases List.mem_cons.1 hx with h1 | h1
    · rcases List.mem_cons.1 hy with h2 | h2
      · rw [h1, h2]
      · rw [h1] at e; exact absurd e (h.2.1 y h2)
    · rcases List.mem_cons.1 hy with h2 | h2
      · rw [h2] at e; exact absurd e.symm (h.2.1 x h1)
      · exact dist_eq h.2.2 x h1 y h2 e
theorem sort_unique {xs ys : List V} (hd : distV xs = true) (hp : ys.Perm xs) (hs : ys.Pairwise fun a b => lessV b a = false) : ys = sortL xs := by
  refine List.Perm.eq_of_pairwise (le := fun a b => lessV b a = false) (fun a b ha hb h1 h2 => ?_) hs (sortL_sorted xs) (hp.trans (sortL_perm xs).symm)
  have ha := hp.subset ha
  have hb := (sortL_perm xs).subset hb
  obtain ⟨p, hk⟩ := Option.isSome_iff_exists.1 (dist_keys hd a ha)
  obtain ⟨q, hq⟩ := Option.isSome_iff_exists.1 (dist_keys hd b hb)
  rw [lessV_keys hq hk] at h1
  rw [lessV_keys hk hq] at h2
  refine dist_eq hd a ha b hb ?_
  rw [hk, hq, ltK_eq h2 h1]
theorem perm_lift {α β : Type} {f : α → β} : ∀ {a b : List β}, a.Perm b → ∀ l : List α, l.map f = a → ∃ l' : List α, l'.Perm l ∧ l'.map f = b := by
  intro a b h
  induction h with
  | nil => intro l hl; exact ⟨l, .refl _, hl⟩
  | cons x _ ih =>
    intro l hl
    cases l with
    | nil => cases hl
    | cons y l =>
      simp only [List.map_cons, List.cons.injEq] at hl
      obtain ⟨l', h1, h2⟩ := ih l hl.2
      exact ⟨y :: l', h1.cons y, by simp [h2, hl.1]⟩
  | swap x y l0 =>
    intro l hl
    cases l with
    | nil => cases hl
    | cons u l =>
      cases l with
      | nil => simp at hl
      | cons v l =>
        simp only [List.map_cons, List.cons.injEq] at hl
        exact ⟨v :: u :: l, .swap _ _ _, by simp [hl]⟩
  | trans _ _ ih1 ih2 =>
    intro l hl
    obtain ⟨l1, h1, h2⟩ := ih1 l hl
    obtain ⟨l2, h3, h4⟩ := ih2 l1 h2
    exact ⟨l2, h3.trans h1, h4⟩

structure El where
  a : Int
  b : Int
  c : Value
  d : Value
  hc : c.oneCell' = true
  hd : d.oneCell' = true
instance : Inhabited El := ⟨⟨0, 0, .bool false, .bool false, rfl, rfl⟩⟩
def El.enc (x : El) : List Value := [.int .i64 x.a, .int .i64 x.b, x.c, x.d]
def El.key (x : El) : Int × Int := (x.a, x.b)
def El.cf (x y : El) : Int := cmpK x.key y.key
theorem El.lt_eq (x y : El) : ltOf El.cf x y = ltK x.key y.key := by
  unfold ltOf El.cf cmpK
  by_cases h1 : ltK x.key y.key = true
  · rw [if_pos h1, h1]; rfl
  · rw [if_neg h1]
    have h1 : ltK x.key y.key = false := by simpa using h1
    rw [h1]
    by_cases h2 : ltK y.key x.key = true
    · rw [if_pos h2]; rfl
    · rw [if_neg h2]; rfl
theorem El.swo : SWO (ltOf El.cf) where
  irrefl x := by rw [El.lt_eq]; exact ltK_irrefl _
  trans x y z h1 h2 := by rw [El.lt_eq] at h1 h2 ⊢; exact ltK_trans h1 h2
  ntrans x y z h1 h2 := by rw [El.lt_eq] at h1 h2 ⊢; exact ltK_ntrans h1 h2
theorem El.enc_len (x : El) : x.enc.length = 4 := rfl
theorem El.enc_one (x : El) : ∀ v ∈ x.enc, v.oneCell' = true := by
  intro v hv
  simp only [El.enc, List.mem_cons, List.not_mem_nil, or_false] at hv
  rcases hv with rfl | rfl | rfl | rfl
  · rfl
  · rfl
  · exact x.hc
  · exact x.hd
theorem enc_get : ∀ (l : List El) (j : Nat), j < l.length * 4 → (l.flatMap El.enc)[j]? = some ((El.enc l.toArray[j / 4]!)[j % 4]!)
  | [], j, h => by simp at h
  | x :: l, j, h => by
    rw [List.flatMap_cons]
    by_cases hj : j < 4
    · have h0 : j / 4 = 0 := by omega
      have h1 : j % 4 = j := by omega
      rw [h0, h1, List.getElem?_append_left (by simpa [El.enc_len] using hj)]
      have hx : (x :: l).toArray[0]! = x := by simp
      rw [hx]
      have : j = 0 ∨ j = 1 ∨ j = 2 ∨ j = 3 := by omega
      rcases this with rfl | rfl | rfl | rfl <;> rfl
    · have hj' : 4 ≤ j := by omega
      have h0 : j / 4 = (j - 4) / 4 + 1 := by omega
      have h1 : j % 4 = (j - 4) % 4 := by omega
      simp only [List.length_cons] at h
      rw [List.getElem?_append_right (by simpa [El.enc_len] using hj'), El.enc_len, enc_get l (j - 4) (by omega), h0, h1]
      simp
theorem enc_flat (l : List El) : (l.flatMap El.enc).length = l.length * 4 := by
  induction l with
  | nil => rfl
  | cons x l ih => simp [El.enc_len, ih, Nat.add_mul]; omega
theorem CR.one {m : Imm} {u : Value} {v : V} (h : CR m u v) : u.oneCell' = true := CRs.oneCells (us := [u]) (vs := [v]) (.cons h .nil) u (by simp)
theorem els_of {m : Imm} : ∀ {xs : List V} {us : List Value}, (∀ x ∈ xs, x.flat.length = 4) → (∀ x ∈ xs, (keyV x).isSome = true) → CRs m us (xs.flatMap V.flat) →
    ∃ ps : List (El × V), ps.map Prod.snd = xs ∧ us = (ps.map Prod.fst).flatMap El.enc ∧ ∀ p ∈ ps, CRs m p.1.enc p.2.flat ∧ keyV p.2 = some p.1.key
  | [], us, _, _, h => by
    cases h
    exact ⟨[], rfl, rfl, by simp⟩
  | x :: xs, us, hl, hk, h => by
    have h4 := hl x (by simp)
    have hx := hk x (by simp)
    unfold keyV at hx
    split at hx
    · rename_i a b rest
      simp only [V.flat] at h4
      simp only [List.length_cons] at h4
      match rest, h4 with
      | [c, d], _ =>
        simp only [List.flatMap_cons, V.flat, List.cons_append, List.nil_append] at h
        cases h with
        | cons h1 h =>
          cases h with
          | cons h2 h =>
            cases h with
            | cons h3 h =>
              cases h with
              | cons h5 h =>
                cases h1
                cases h2
                obtain ⟨ps, p1, p2, p3⟩ := els_of (fun y hy => hl y (by simp [hy])) (fun y hy => hk y (by simp [hy])) h
                refine ⟨(⟨a, b, _, _, h3.one, h5.one⟩, .agg [.int .i64 a, .int .i64 b, c, d]) :: ps, by simp [p1], by simp [p2, El.enc], fun p hp => ?_⟩
                rcases List.mem_cons.1 hp with rfl | hp
                · exact ⟨.cons (.int _ _) (.cons (.int _ _) (.cons h3 (.cons h5 .nil))), rfl⟩
                · exact p3 p hp
    · cases hx
theorem els_back {m : Imm} : ∀ {ps : List (El × V)}, (∀ p ∈ ps, CRs m p.1.enc p.2.flat) → CRs m ((ps.map Prod.fst).flatMap El.enc) ((ps.map Prod.snd).flatMap V.flat)
  | [], _ => .nil
  | p :: ps, h => by
    simp only [List.map_cons, List.flatMap_cons]
    exact (h p (by simp)).append (els_back fun q hq => h q (by simp [hq]))
theorem world_ext {w w' : World} (h1 : w'.heap = w.heap) (h2 : w'.tape = w.tape) (h3 : w'.drawn = w.drawn) (h4 : w'.os = w.os) (h5 : w'.output = w.output) : w' = w := by
  cases w; cases w'; simp at *; exact ⟨h1, h2, h3, h4, h5⟩
section
variable {P : Program} {R : Nat → Option Nat} {ρ : Go.Shelf.Ren}
def CmpAll (P : Program) (gf : Nat) : Prop := ∀ (W : World) (x y : El), Calls P gf #[.agg x.enc.toArray, .agg y.enc.toArray] W fun e w' => e = .returned (.int .i64 (El.cf x y)) ∧ ∃ q os', w' = grow (W.drewN q) os'
theorem cmp_all {E : Env} (hE : EnvOk P R E) {gf : Nat} {v : VFun} (hp : E.prim gf = none) (hf : E.fn gf = some v)
    (hr : ∀ a b c d, callL E gf [.agg [.int .i64 a, .int .i64 b, .cel, .cel], .agg [.int .i64 c, .int .i64 d, .cel, .cel]] [] = some (.int .i64 (cmpK (a, b) (c, d)), [], .no)) (hT : Tracks R) : CmpAll P gf := fun W x y => by
  have arg : ∀ z : El, VR (topG W) (.agg z.enc.toArray) (.agg [.int .i64 z.a, .int .i64 z.b, .cel, .cel]) := fun z => .agg (.cons (.cell (.int _ _)) (.cons (.cell (.int _ _)) (.cons (.cel z.hc) (.cons (.cel z.hd) .nil)))) rfl
  have hcall := call_sound hE gf _ [] _ (hr x.a x.b y.a y.b) (topG W) W #[.agg x.enc.toArray, .agg y.enc.toArray] (pre_top W) (.cons (arg x) (.cons (arg y) .nil))
  obtain ⟨fn, code, c, h1, h2, h3, _⟩ := (hE.fn gf v hp hf).ok
  rcases hcall with ⟨_, h⟩ | ⟨u, w', h, _⟩
  · refine h.mono fun e w' ⟨u, he, g, hW, hG, _, hu, _⟩ => ?_
    subst he
    cases hu with
    | cell hu =>
      cases hu
      refine ⟨rfl, w'.drawn - W.drawn, w'.heap.extract W.heap.size w'.heap.size, ?_⟩
      have hd := hW.drn hT
      have hs := hW.hsz
      refine world_ext ?_ hW.tape ?_ hW.os hW.out
      · apply Array.ext_getElem?
        intro k
        simp only [grow, World.heap_drewN, Array.getElem?_append]
        by_cases hk : k < W.heap.size
        · rw [if_pos hk]
          refine hW.old k hk ?_
          rintro (⟨i, ⟨o, ho, _⟩, _⟩ | ⟨i, j, l, sz, x, _, hx, _⟩)
          · simp at ho
          · obtain ⟨cs, own, b, h1, _⟩ := hx
            simp at h1
        · rw [if_neg hk, Array.getElem?_extract]
          have hs' : W.heap.size ≤ w'.heap.size := hs
          by_cases hk2 : k < w'.heap.size
          · rw [if_pos (by omega), show W.heap.size + (k - W.heap.size) = k by omega]
          · rw [if_neg (by omega), Array.getElem?_eq_none (by omega)]
      · show w'.drawn = W.drawn + (w'.drawn - W.drawn)
        have hd' : W.drawn ≤ w'.drawn := hd
        omega
  · rw [callFunc_enter h1 h2 h3] at h
    cases h
theorem sort_post (L : SlLaysF0.n6 P ρ) (aE : ∀ w, (isAgg (ρ.t 24)).run P w = .ok true w) (zE : ∀ w, (Go.sizeOf (ρ.t 24)).run P w = .ok 4 w) {gf : Nat} (eg : ∀ args w, (callFunc gf args).run P w = .ok (.enter gf args) w) (hcmp : CmpAll P gf)
    {xs ys : List V} (hF : sortV xs [] = some ys) {h : Heap} {g : Gh} {w : World} {u : Value} (hp : Pre h g w) (hl : LinR w g.imm 4 u) (hc : LinC g.imm w 4 xs u) :
    Calls P (ρ.f 6) #[u, .func (.func gf) #[] #[]] w fun e w' => e = .returned (.tuple #[]) ∧ LinPost g w u 4 ys u w' g.imm := by
  unfold sortV at hF
  obtain ⟨hcond, hF⟩ := cnd_eq_some hF
  cases hF
  simp only [Bool.and_eq_true, decide_eq_true_eq] at hcond
  obtain ⟨hd, hlen⟩ := hcond
  obtain ⟨h4, hcase⟩ := hc
  have hown : ∀ b n cap, ownBlk (4 + 1000000) (.slice (some ⟨b, 0, none⟩) n cap) = some b := fun b n cap => by simp [ownBlk, isLin_add]
  rcases hcase with ⟨rfl, rfl⟩ | ⟨b, cap, us, rfl, hu1, hu2⟩
  · refine (AnyF.slices_SortFunc_none L none 0 (.func (.func gf) #[] #[]) w).mono fun e w' ⟨he, hw⟩ => ⟨he, ?_⟩
    subst hw
    exact ⟨⟨rfl, rfl, rfl, Nat.le_refl _, fun _ _ _ => rfl⟩, hl, ⟨by simp [sortL], .inl ⟨rfl, rfl⟩⟩, fun b hb => .inl hb, Nat.le_refl _, ImmLe.refl _, fun _ _ _ => rfl, hp.hr.imm, fun b => Keeps.same rfl⟩
  · obtain ⟨ps, p1, p2, p3⟩ := els_of h4 (dist_keys hd) hu2
    obtain ⟨_, n', cap', e, hl2⟩ := hl
    injection e with e1 e2 e3
    subst e1 e2 e3
    have hplen : ps.length = xs.length := by rw [← p1]; simp
    have hlin0 : ∃ cur t, w.heap[b]? = some (.cells cur t (0, 0)) ∧ xs.length ≤ cap ∧ cap * 4 ≤ cur.size ∧ ∀ k, g.imm b k = none := by
      rcases hl2 with ⟨e, _⟩ | ⟨h1, _, b', cur, t, e, h2, h3, h5⟩
      · cases e
      · injection e with e
        injection e with e _ _
        subst e
        exact ⟨cur, t, h2, h1, h3, h5⟩
    obtain ⟨cur, t, hb, hcap, hsz, hno⟩ := hlin0
    have hblk : b < w.heap.size := (Array.getElem?_eq_some_iff.1 hb).1
    have hdsz : (ps.map Prod.fst).toArray.size = xs.length := by simp [hplen]
    have hH : HoldsK El.enc 4 w b 0 (ps.map Prod.fst).toArray := by
      intro j hj
      rw [size_flatK, hdsz] at hj
      rw [get_flatK _ _ _ _ (by rw [hdsz]; exact hj), Nat.zero_add]
      refine ⟨?_, ?_⟩
      · have := enc_get (ps.map Prod.fst) j (by simpa [hplen] using hj)
        rw [← p2] at this
        exact hu1 j _ this
      · simp [World.frozen?, hb]
    have key := AnyQ.slices_SortFunc L 4 aE zE El.enc El.enc_len El.enc_one El.cf El.swo gf #[] b 0 cap (ps.map Prod.fst).toArray w eg (fun m os dk _ x y => by simpa using hcmp _ x y) hH hblk (by rw [hdsz]; exact hlen)
    rw [hdsz] at key
    refine key.mono fun e w' ⟨he, d', n, os, hperm, hsort, hw⟩ => ⟨he, ?_⟩
    obtain ⟨q1, _, q3⟩ := hperm
    rw [hdsz] at q1
    have hperm2 : (ps.map Prod.fst).Perm d'.toList := by
      have e1 : (d'.extract 0 xs.length).toList = d'.toList := by rw [← q1]; simp
      have e2 : ((ps.map Prod.fst).toArray.extract 0 xs.length).toList = ps.map Prod.fst := by rw [← hplen]; simp only [List.extract_toArray, List.drop_zero, Nat.sub_zero]; exact List.take_of_length_le (by simp)
      rw [e1, e2] at q3
      exact q3.symm
    obtain ⟨ps', r1, r2⟩ := perm_lift hperm2 ps rfl
    have r3 : ∀ p ∈ ps', CRs g.imm p.1.enc p.2.flat ∧ keyV p.2 = some p.1.key := fun p hp => p3 p (r1.subset hp)
    have hpl' : ps'.length = xs.length := by rw [r1.length_eq, hplen]
    have hys : ps'.map Prod.snd = sortL xs := by
      refine sort_unique hd (by rw [← p1]; exact r1.map _) ?_
      rw [List.pairwise_map, List.pairwise_iff_getElem]
      intro i j hi hj hij
      have h1 := hsort i j (Nat.zero_le _) hij (by omega)
      rw [El.lt_eq] at h1
      have get : ∀ k (hk : k < ps'.length), d'[k]! = ps'[k].1 := fun k hk => by
        have hk2 : k < d'.size := by omega
        rw [getElem!_pos d' k hk2, ← Array.getElem_toList]
        simp only [← r2, List.getElem_map]
      rw [get i hi, get j hj] at h1
      rw [lessV_keys (r3 _ (List.getElem_mem hj)).2 (r3 _ (List.getElem_mem hi)).2]
      exact h1
    have hw2 : w' = grow (mapBlock (Sort.ahead w n) b (putCells id 0 (flatK El.enc 4 d'))) os := hw
    have hother : ∀ k, k < w.heap.size → k ≠ b → w'.heap[k]? = w.heap[k]? := fun k hk hne => by
      rw [hw2]
      simp only [grow, mapBlock, Sort.heap_ahead, Array.getElem?_append, Array.size_modify]
      rw [if_pos hk, Array.getElem?_modify, if_neg (Ne.symm hne)]
    have hhere : ∃ cur', w'.heap[b]? = some (.cells cur' t (0, 0)) ∧ cur'.size = cur.size := by
      refine ⟨putCells id 0 (flatK El.enc 4 d') cur, ?_, by simp [putCells]⟩
      rw [hw2]
      simp only [grow, mapBlock, Sort.heap_ahead, Array.getElem?_append, Array.size_modify]
      rw [if_pos hblk, Array.getElem?_modify, if_pos rfl, hb]
      rfl
    obtain ⟨cur', hb', hcs⟩ := hhere
    have hH' : HoldsK El.enc 4 w' b 0 d' := by
      rw [hw]
      exact holdsK_grow _ _ _ _ _ _ _ (by show b < (putRow id _ _ _ _).heap.size; rw [Go.Sort.size_putRow]; exact hblk) (holdsK_putRowK _ _ _ _ _ _ _ (holdsK_ahead _ _ _ _ _ _ _ hH) (by rw [q1, hdsz]))
    have hwsz : w.heap.size ≤ w'.heap.size := by
      rw [hw2]; simp [grow, mapBlock]
    have hsl : (sortL xs).length = xs.length := (sortL_perm xs).length_eq
    have himm : ∀ c k x, g.imm c k = some x → w'.cell? ⟨c, k, none⟩ = some x := fun c k x hx => by
      have h1 := hp.hr.imm c k x hx
      rw [cell_same (hother c (cell_lt h1) (fun e => by rw [e, hno k] at hx; cases hx))]
      exact h1
    refine ⟨⟨by rw [hw2]; rfl, by rw [hw2]; rfl, by rw [hw2]; rfl, hwsz, fun k hk hne => hother k hk fun e => hne (by rw [e, hown])⟩, ?_, ⟨fun x hx => h4 x ((sortL_perm xs).subset hx), .inr ⟨b, cap, d'.toList.flatMap El.enc, by rw [hsl], fun j x hx => ?_, ?_⟩⟩, fun c hc => .inl hc, ?_, ImmLe.refl _, fun _ _ _ => rfl, himm, fun c => ?_⟩
    · exact ⟨_, _, _, rfl, .inr ⟨hcap, by omega, b, cur', t, rfl, hb', by omega, hno⟩⟩
    · have hj := (List.getElem?_eq_some_iff.1 hx).1
      rw [enc_flat] at hj
      have hj2 : j < d'.size * 4 := by simpa using hj
      rw [enc_get _ j hj] at hx
      have h1 := (hH' j (by rw [size_flatK]; exact hj2)).1
      rw [get_flatK _ _ _ _ hj2, Nat.zero_add] at h1
      rw [← hx]
      exact h1
    · rw [← r2, ← hys]
      exact els_back fun p hp => (r3 p hp).1
    · rw [hw2]; show w.drawn ≤ w.drawn + n; omega
    · by_cases hc : c = b
      · subst hc
        intro us' t' fr' hv
        rw [hb] at hv
        cases hv
        exact ⟨_, _, _, hb', by omega⟩
      · intro us' t' fr' hv
        have hlt : c < w.heap.size := (Array.getElem?_eq_some_iff.1 hv).1
        exact ⟨us', t', fr', by rw [hother c hlt hc]; exact hv, Nat.le_refl _⟩
end
end Go.Vm

/- 'internal/bytealg.Compare', which the model itself answers. -/
set_option linter.unusedVariables false
set_option linter.unusedSimpArgs false
namespace Go.Vm

def compareP : List V → Heap → Option (V × Heap × Fl)
  | [.sl xs, .sl ys], h => bnd (bytesOf xs) fun a => bnd (bytesOf ys) fun b => some (.int .i64 (Lib.compareBytes a b), h, .no)
  | _, _ => none
section
variable {P : Program} {R : Nat → Option Nat} {h : Heap} {g : Gh} {w : World}
theorem lib_bytesOf (ns : List Int) : Lib.bytesOf ns = ns.map fun n => UInt8.ofNat n.toNat := by
  unfold Lib.bytesOf
  rfl
theorem bytes_run (hi : HRead g h w) {u : Value} {xs : List V} {l : List UInt8} (hx : VR g u (.sl xs)) (hl : bytesOf xs = some l) : (Extern.Bytes.bytesOf u).run P w = .ok ⟨l.toArray⟩ w := by
  rcases hx.sl_inv.sl_inv with ⟨rfl, rfl⟩ | ⟨ad, cap, rfl, rfl⟩ | ⟨b, o, cap, sz, us, rfl, hcap, hss, himm, hus⟩
  · cases hl
    rfl
  · cases hl
    simp only [Extern.Bytes.bytesOf, Extern.Bytes.loadBytes]
    rfl
  · obtain ⟨ns, rfl, hlen, rfl⟩ := bytes_sound hus hl
    have := Lib.run_loadBytesX (P := P) w ns ⟨b, o, none⟩ .empty (fun j x hj => by
      rw [add_lit]
      exact hi.imm _ _ _ (himm j _ (by simp [hj])))
    rw [hlen] at this
    simp only [Extern.Bytes.bytesOf]
    rw [this, lib_bytesOf]
    congr 1
    apply ByteArray.ext
    show (#[] : Array UInt8) ++ _ = _
    simp
theorem compare_ok {f : Nat} {fn : Func} (hf : P.funcs[f]? = some fn) (hname : (fn.name == "runtime.NumGoroutine") = false) (hb : fn.body.isNone = true) (hn : Extern.findNext fn = none) (he : Extern.find fn = some Extern.BytealgCompare.compare) (hR : R f = none) : PrimOk P R f compareP := by
  intro vargs h r hr g w uargs hp hargs
  unfold compareP at hr
  split at hr
  · rename_i xs ys
    obtain ⟨a, ha, hr⟩ := bnd_eq_some hr
    obtain ⟨b, hb', hr⟩ := bnd_eq_some hr
    cases hr
    obtain ⟨us⟩ := uargs
    simp only at hargs
    cases hargs with
    | cons h1 hargs =>
      cases hargs with
      | cons h2 hargs =>
        cases hargs
        rename_i u1 u2
        refine .inr ⟨.int .i64 (Lib.compareBytes a b), w, ?_, ?_⟩
        · rw [run_callFunc_extern hf hname hb hn he]
          change (Sem.run P (do pure (goInt (Extern.BytealgCompare.cmp (← Extern.Bytes.bytesOf u1) (← Extern.Bytes.bytesOf u2)))) w).andThen _ = _
          simp only [Sem.run_bind, bytes_run hp.hr h1 ha, bytes_run hp.hr h2 hb', Sem.run_pure, Result.andThen]
          rw [Lib.cmp_eq]
          rfl
        · have hi := pre_start (Dt := Tracks R) hp (N := 0) (uargs := #[]) (vargs := []) .nil (by simp)
          have := fun_end (st := ⟨initR [] 0, h, .no⟩) hp hi (u := .int .i64 (Lib.compareBytes a b)) (v := .int .i64 (Lib.compareBytes a b)) (.cell (.int _ _)) (own := R f) (fun sz hs => by rw [hR] at hs; cases hs)
          have e : finishV h.length ⟨initR [] 0, h, .no⟩ (.int .i64 (Lib.compareBytes a b)) = (.int .i64 (Lib.compareBytes a b), h, .no) := by
            unfold finishV
            simp [escOk, V.lt, escLt]
          rw [e] at this
          exact this
  · cases hr
abbrev Prim := List V → Heap → Option (V × Heap × Fl)
def primFn : List (Nat × Prim) → Nat → Option Prim
  | [], _ => none
  | (k, p) :: l, f => cnd (decide (f = k)) (some p) (primFn l f)
def PrimsOk (P : Program) (R : Nat → Option Nat) : List (Nat × Prim) → Prop
  | [] => True
  | (f, p) :: l => PrimOk P R f p ∧ PrimsOk P R l
theorem prims_ok : ∀ {l : List (Nat × Prim)} {f : Nat} {p : Prim}, PrimsOk P R l → primFn l f = some p → PrimOk P R f p
  | [], f, p, _, h => by cases h
  | (k, x) :: l, f, p, ⟨h1, h2⟩, h => by
    simp only [primFn] at h
    cases hd : decide (f = k) <;> rw [hd] at h
    · exact prims_ok h2 h
    · cases h
      cases of_decide_eq_true hd
      exact h1
theorem env_prims {l : List (Nat × VFun)} {ps : List (Nat × Prim)} (hm : P.follows .mixedOrders = true) (hc : PrimsOk P R ps) (h : TabOk P R l) : EnvOk P R ⟨tabFn l, primFn ps⟩ :=
  ⟨hm, fun _ _ _ hf => tab_ok h hf, fun f p hf => prims_ok hc hf⟩
theorem prim_env {R0 : Nat → Option Nat} {E0 : Env} (h0 : EnvOk P R0 E0) (hT : Tracks R → Tracks R0) {f : Nat} (hR : R f = R0 f) : PrimOk P R f (callL E0 f) := fun vargs h r hr g w uargs hp hargs => by
  have h1 := call_sound h0 f vargs h r hr g w uargs hp hargs
  have cp : ∀ u w', CallPost (calleeCx (Dt := Tracks R0) h g w) h (R0 f) r u w' → CallPost (calleeCx (Dt := Tracks R) h g w) h (R f) r u w' := fun u w' ⟨g', hW, hG, hO, hv, hres⟩ =>
    ⟨g', ⟨hW.os, hW.tape, hW.out, fun d => hW.drn (hT d), hW.hsz, hW.old, hW.wr⟩, ⟨hG.hr, hG.ge, hG.immW, hG.fbl, hG.lbh, hG.muOld, hG.dom, hG.dome, hG.muW, hG.new, hG.inj, hG.muimm, hG.low⟩,
      ⟨hO.own, hO.blk, hO.dis, hO.cont, hO.contc⟩, hv, fun sz hs => hres sz (hR ▸ hs)⟩
  rcases h1 with ⟨h2, h3⟩ | ⟨u, w', h2, h3⟩
  · exact .inl ⟨h2, h3.mono fun e w' ⟨u, he, hq⟩ => ⟨u, he, cp u w' hq⟩⟩
  · exact .inr ⟨u, w', h2, cp u w' h3⟩
end
end Go.Vm

