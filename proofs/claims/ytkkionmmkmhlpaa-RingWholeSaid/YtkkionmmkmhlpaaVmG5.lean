/- The V-machine, part 5. -/
import Derived.Test.YtkkionmmkmhlpaaVmG4
import Derived.Shelf.SlSortCmp.NoneTotal
import Derived.Lib.BytesEntry
import Derived.Laws.Externs
/- The V-machine's steps as equations for simp, one for each shape: nothing is tried that does not fit. -/
set_option linter.unusedVariables false
set_option linter.unusedSimpArgs false
namespace Go.Vm
@[simp] theorem cnd_nil_iff (p : Prop) [Decidable p] (i : Nat) : (cnd (decide p) [i] [] = []) ↔ ¬ p := by by_cases h : p <;> simp [h]
@[simp] theorem addE_eq_nil (a b : List Nat) : (addE a b = []) ↔ a = [] ∧ b = [] := by
  constructor
  · intro h
    have h1 : a = [] := by unfold addE at h; exact (List.append_eq_nil_iff.1 h).1
    subst h1
    simpa using h
  · rintro ⟨rfl, rfl⟩; rfl
@[simp] theorem nat_add_lt_self (n k : Nat) : (n + k < n) = False := by simp
section
variable (b c : Bool) (k k' : IntKind) (n m : Int) (s t : List UInt8) (a : Option (Nat × Nat)) (i o : Nat) (cs ds xs ys : List V) (f g : Nat) (ek : EK) (x y : V)
@[simp] theorem flat_bool : V.flat (.bool b) = [.bool b] := rfl
@[simp] theorem flat_int : V.flat (.int k n) = [.int k n] := rfl
@[simp] theorem flat_str : V.flat (.str s) = [.str s] := rfl
@[simp] theorem flat_ptr : V.flat (.ptr a) = [.ptr a] := rfl
@[simp] theorem flat_ro : V.flat (.ro cs) = [.ro cs] := rfl
@[simp] theorem flat_sl : V.flat (.sl cs) = [.sl cs] := rfl
@[simp] theorem flat_map (q : Option Nat) : V.flat (.map q) = [.map q] := rfl
@[simp] theorem flat_fn : V.flat (.fn f cs ds) = [.fn f cs ds] := rfl
@[simp] theorem flat_nofn : V.flat .nofn = [.nofn] := rfl
@[simp] theorem flat_aggs : V.flat (.agg cs) = cs := rfl
@[simp] theorem cell_bool : V.isCell (.bool b) = true := rfl
@[simp] theorem cell_int : V.isCell (.int k n) = true := rfl
@[simp] theorem cell_str : V.isCell (.str s) = true := rfl
@[simp] theorem cell_ptr : V.isCell (.ptr a) = true := rfl
@[simp] theorem cell_ro : V.isCell (.ro cs) = true := rfl
@[simp] theorem cell_sl : V.isCell (.sl cs) = true := rfl
@[simp] theorem cell_map (q : Option Nat) : V.isCell (.map q) = true := rfl
@[simp] theorem cell_fn : V.isCell (.fn f cs ds) = true := rfl
@[simp] theorem cell_nofn : V.isCell .nofn = true := rfl
@[simp] theorem pureCell_bool : V.pureCell (.bool b) = true := rfl
@[simp] theorem pureCell_int : V.pureCell (.int k n) = true := rfl
@[simp] theorem pureCell_str : V.pureCell (.str s) = true := rfl
@[simp] theorem pureCell_sl : V.pureCell (.sl cs) = true := rfl
@[simp] theorem pureCell_nil : V.pureCell (.ptr none) = true := rfl
@[simp] theorem pureCell_nomap : V.pureCell (.map none) = true := rfl
@[simp] theorem pureCell_nofn : V.pureCell .nofn = true := rfl
@[simp] theorem pure_bool : V.pure (.bool b) = true := rfl
@[simp] theorem pure_int : V.pure (.int k n) = true := rfl
@[simp] theorem pure_str : V.pure (.str s) = true := rfl
@[simp] theorem pure_sl : V.pure (.sl cs) = true := rfl
@[simp] theorem pure_agg : V.pure (.agg cs) = cs.all V.pureCell := rfl
@[simp] theorem lt_bool (q : Nat) : V.lt q (.bool b) = true := by simp [V.lt]
@[simp] theorem lt_int (q : Nat) : V.lt q (.int k n) = true := by simp [V.lt]
@[simp] theorem lt_str (q : Nat) : V.lt q (.str s) = true := by simp [V.lt]
@[simp] theorem lt_sl (q : Nat) : V.lt q (.sl cs) = true := by simp [V.lt]
@[simp] theorem lt_ro (q : Nat) : V.lt q (.ro cs) = true := by simp [V.lt]
@[simp] theorem lt_nil (q : Nat) : V.lt q (.ptr none) = true := by simp [V.lt]
@[simp] theorem lt_ptr (q : Nat) : V.lt q (.ptr (some (i, o))) = decide (i < q) := by simp [V.lt]
@[simp] theorem lt_nomap (q : Nat) : V.lt q (.map none) = true := by simp [V.lt]
@[simp] theorem lt_map (q : Nat) : V.lt q (.map (some i)) = decide (i < q) := by simp [V.lt]
@[simp] theorem lt_nofn (q : Nat) : V.lt q .nofn = true := by simp [V.lt]
@[simp] theorem lt_undef (q : Nat) : V.lt q .undef = true := by simp [V.lt]
@[simp] theorem flat_msl (i o n c : Nat) : V.flat (.msl i o n c) = [.msl i o n c] := rfl
@[simp] theorem flat_cel : V.flat .cel = [.cel] := rfl
@[simp] theorem cell_cel : V.isCell .cel = true := rfl
@[simp] theorem cell_msl (i o n c : Nat) : V.isCell (.msl i o n c) = true := rfl
@[simp] theorem lt_cel (q : Nat) : V.lt q .cel = true := by simp [V.lt]
@[simp] theorem lt_nsl (q : Nat) : V.lt q .nsl = true := by simp [V.lt]
@[simp] theorem lt_msl (q i o n c : Nat) : V.lt q (.msl i o n c) = decide (i < q) := by simp [V.lt]
@[simp] theorem iaddr_msl (size j i o n c : Nat) : iaddrV size j none (.msl i o n c) = cnd (decide (j < n)) (some (.ptr (some (i, o + j * size)))) none := rfl
@[simp] theorem len_msl (h : Heap) (i o n c : Nat) : lenV h .sl (.msl i o n c) = some (.int .i64 n) := rfl
@[simp] theorem len_nsl (h : Heap) : lenV h .sl .nsl = some (.int .i64 0) := rfl
@[simp] theorem flat_eml (i c : Nat) : V.flat (.eml i c) = [.eml i c] := rfl
@[simp] theorem flat_nsl : V.flat .nsl = [.nsl] := rfl
@[simp] theorem flat_own : V.flat (.own xs) = [.own xs] := rfl
@[simp] theorem cell_eml (i c : Nat) : V.isCell (.eml i c) = true := rfl
@[simp] theorem cell_nsl : V.isCell .nsl = true := rfl
@[simp] theorem cell_own : V.isCell (.own xs) = true := rfl
@[simp] theorem lt_eml (q i c : Nat) : V.lt q (.eml i c) = decide (i < q) := by simp [V.lt]
@[simp] theorem lt_own (q : Nat) : V.lt q (.own xs) = true := by simp [V.lt]
@[simp] theorem len_eml (h : Heap) (i c : Nat) : lenV h .sl (.eml i c) = some (.int .i64 0) := rfl
@[simp] theorem isnil_msl (i o n c : Nat) : isnilV (.msl i o n c) = some (.bool false) := rfl
@[simp] theorem isnil_nsl : isnilV .nsl = some (.bool true) := rfl
@[simp] theorem mcells_nsl (h : Heap) : mcells h .nsl = some ([], 0) := rfl
@[simp] theorem mcells_eml (h : Heap) (i c : Nat) : mcells h (.eml i c) = match hget h i with | some .emp => some ([], 0) | _ => none := rfl
@[simp] theorem mcells_msl (h : Heap) (i o n c : Nat) : mcells h (.msl i o n c) = match hget h i with | some (.cells cs []) => cnd (decide (o + n * c ≤ cs.length)) (some ((cs.drop o).take (n * c), n)) none | _ => none := rfl
@[simp] theorem mkill_nsl (h : Heap) : mkill h .nsl = h := rfl
@[simp] theorem mkill_eml (h : Heap) (i c : Nat) : mkill h (.eml i c) = hset h i .dead := rfl
@[simp] theorem mkill_msl (h : Heap) (i o n c : Nat) : mkill h (.msl i o n c) = hset h i .dead := rfl
@[simp] theorem mobj_nsl : mobj .nsl = 0 := rfl
@[simp] theorem mobj_eml (i c : Nat) : mobj (.eml i c) = i := rfl
@[simp] theorem mobj_msl (i o n c : Nat) : mobj (.msl i o n c) = i := rfl
@[simp] theorem misnil_nsl : misnil .nsl = true := rfl
@[simp] theorem misnil_eml (i c : Nat) : misnil (.eml i c) = false := rfl
@[simp] theorem misnil_msl (i o n c : Nat) : misnil (.msl i o n c) = false := rfl
@[simp] theorem mnot_nsl (j : Nat) : mnot j .nsl = true := rfl
@[simp] theorem mnot_eml (j i c : Nat) : mnot j (.eml i c) = decide (i ≠ j) := rfl
@[simp] theorem mnot_msl (j i o n c : Nat) : mnot j (.msl i o n c) = decide (i ≠ j) := rfl
@[simp] theorem msize_nsl (z : Nat) : msize z .nsl = true := rfl
@[simp] theorem msize_eml (z i c : Nat) : msize z (.eml i c) = decide (c = z) := rfl
@[simp] theorem msize_msl (z i o n c : Nat) : msize z (.msl i o n c) = (decide (o = 0) && decide (c = z)) := rfl
@[simp] theorem msizeA_nsl (z : Nat) : msizeA z .nsl = true := rfl
@[simp] theorem msizeA_eml (z i c : Nat) : msizeA z (.eml i c) = decide (c = z) := rfl
@[simp] theorem msizeA_msl (z i o n c : Nat) : msizeA z (.msl i o n c) = decide (c = z) := rfl
@[simp] theorem appX_sl (z : Nat) (h : Heap) : appX z h (.sl xs) = cnd (sizeOk z xs) (some (xs.flatMap V.flat, xs.length)) none := rfl
@[simp] theorem appX_nsl (z : Nat) (h : Heap) : appX z h .nsl = some ([], 0) := rfl
@[simp] theorem appX_eml (z : Nat) (h : Heap) (i c : Nat) : appX z h (.eml i c) = cnd (msizeA z (.eml i c)) (mcells h (.eml i c)) none := rfl
@[simp] theorem appX_msl (z : Nat) (h : Heap) (i o n c : Nat) : appX z h (.msl i o n c) = cnd (msizeA z (.msl i o n c)) (mcells h (.msl i o n c)) none := rfl
@[simp] theorem thwV_lst (h : Heap) (z : Nat) : thwV h z (.lst xs) = some (mnewV h z xs.length, h ++ [mnewO xs.length (xs.flatMap V.flat)], .no) := rfl
@[simp] theorem mnewV_eq (h : Heap) (z n : Nat) : mnewV h z n = cnd (decide (n = 0)) (.eml h.length z) (.msl h.length 0 n z) := rfl
@[simp] theorem mnewO_eq (n : Nat) : mnewO n cs = cnd (decide (n = 0)) .emp (.cells cs []) := rfl
@[simp] theorem ownV_own : ownV (some (.own xs)) = some xs := rfl
@[simp] theorem ownDel_nil (o : Nat) : ownDel o [] = [] := rfl
@[simp] theorem ownDel_cons (o p q : Nat) (l : List (Nat × Nat)) : ownDel o ((p, q) :: l) = cnd (decide (p ≠ o)) ((p, q) :: ownDel o l) (ownDel o l) := by
  unfold ownDel
  rw [List.filter_cons]
  cases decide (p ≠ o) <;> rfl
@[simp] theorem ownNot_nil (o : Nat) : ownNot o [] = true := rfl
@[simp] theorem ownNot_cons (o p q : Nat) (l : List (Nat × Nat)) : ownNot o ((p, q) :: l) = (decide (p ≠ o) && ownNot o l) := rfl
@[simp] theorem frzl_lst : frzlV (.lst xs) = some (.sl xs) := rfl
@[simp] theorem frzr_sl (z : Nat) (ag : Bool) (h : Heap) : frzrV z ag h (.sl xs) = some (.sl xs, h, .no) := rfl
@[simp] theorem frzr_nsl (z : Nat) (ag : Bool) (h : Heap) : frzrV z ag h .nsl = some (.sl [], h, .no) := rfl
@[simp] theorem frzr_eml (z : Nat) (ag : Bool) (h : Heap) (i c : Nat) : frzrV z ag h (.eml i c) = bnd (pureL z ag h (.eml i c)) fun xs => some (.sl xs, hset h i .dead, .no) := rfl
@[simp] theorem frzr_msl (z : Nat) (ag : Bool) (h : Heap) (i o n c : Nat) : frzrV z ag h (.msl i o n c) = bnd (pureL z ag h (.msl i o n c)) fun xs => some (.sl xs, hset h i .dead, .no) := rfl
@[simp] theorem pureL_eq (z : Nat) (ag : Bool) (h : Heap) : pureL z ag h x = bnd (mcells h x) fun c => cnd ((c.1.all V.pureCell && (ag || decide (z = 1))) && (msizeA z x && decide (0 < z))) (some (chunks ag z c.2 c.1)) none := rfl
@[simp] theorem linNil_nil : linNil cs [] = true := rfl
@[simp] theorem linNil_cons (j z : Nat) (l : List (Nat × Nat)) : linNil cs ((j, z) :: l) = ((!decide (1000000 ≤ z) || match cs[j]? with | some .nsl => true | _ => false) && linNil cs l) := rfl
@[simp] theorem ownCells_nil : ownCells cs [] = cs := rfl
@[simp] theorem ownCells_cons (j z : Nat) (l : List (Nat × Nat)) : ownCells cs ((j, z) :: l) = cnd (decide (1000000 ≤ z)) ((ownCells cs l).set j (.own [])) (ownCells cs l) := rfl
@[simp] theorem lt_bb (q : Nat) : V.lt q .bb = true := by simp [V.lt]
@[simp] theorem isnil_nil : isnilV (.sl []) = some .bb := rfl
@[simp] theorem isnil_cons : isnilV (.sl (x :: xs)) = some (.bool false) := rfl
@[simp] theorem lt_top (q : Nat) : V.lt q .top = true := by simp [V.lt]
@[simp] theorem lt_fn (q : Nat) : V.lt q (.fn f cs ds) = (V.ltL q cs && V.ltL q ds) := by simp [V.lt]
@[simp] theorem lt_agg (q : Nat) : V.lt q (.agg cs) = V.ltL q cs := by simp [V.lt]
@[simp] theorem lt_tup (q : Nat) : V.lt q (.tup cs) = V.ltL q cs := by simp [V.lt]
@[simp] theorem ltL_nil (q : Nat) : V.ltL q [] = true := by simp [V.ltL]
@[simp] theorem ltL_cons (q : Nat) : V.ltL q (x :: xs) = (V.lt q x && V.ltL q xs) := by simp [V.ltL]
@[simp] theorem cellEq_b : cellEq .b (.bool b) (.bool c) = some (b == c) := rfl
@[simp] theorem cellEq_i : cellEq .i (.int k n) (.int k m) = some (n == m) := by simp [cellEq]
@[simp] theorem cellEq_s : cellEq .s (.str s) (.str t) = some (s == t) := rfl
@[simp] theorem cellsEq_nil : cellsEq [] [] [] = some true := rfl
@[simp] theorem cellsEq_cons (q : SK) (qs : List SK) : cellsEq (q :: qs) (x :: xs) (y :: ys) = bnd (cellEq q x y) fun b => bnd (cellsEq qs xs ys) fun c => some (b && c) := rfl
@[simp] theorem bin_add : binV .add ek (.int k n) (.int k m) = some (.int k (k.wrap (n + m))) := by simp [binV, isShift, intV]
@[simp] theorem bin_sub : binV .sub ek (.int k n) (.int k m) = some (.int k (k.wrap (n - m))) := by simp [binV, isShift, intV]
@[simp] theorem bin_mul : binV .mul ek (.int k n) (.int k m) = some (.int k (k.wrap (n * m))) := by simp [binV, isShift, intV]
@[simp] theorem bin_quo : binV .quo ek (.int k n) (.int k m) = cnd (m == 0) none (some (.int k (k.wrap (n.tdiv m)))) := by simp [binV, isShift, intV]
@[simp] theorem bin_rem : binV .rem ek (.int k n) (.int k m) = cnd (m == 0) none (some (.int k (n.tmod m))) := by simp [binV, isShift, intV]
@[simp] theorem bin_and : binV .and ek (.int k n) (.int k m) = some (bitsV k (BitVec.ofInt k.bits n &&& BitVec.ofInt k.bits m)) := by simp [binV, isShift, intV]
@[simp] theorem bin_or : binV .or ek (.int k n) (.int k m) = some (bitsV k (BitVec.ofInt k.bits n ||| BitVec.ofInt k.bits m)) := by simp [binV, isShift, intV]
@[simp] theorem bin_xor : binV .xor ek (.int k n) (.int k m) = some (bitsV k (BitVec.ofInt k.bits n ^^^ BitVec.ofInt k.bits m)) := by simp [binV, isShift, intV]
@[simp] theorem bin_andNot : binV .andNot ek (.int k n) (.int k m) = some (bitsV k (BitVec.ofInt k.bits n &&& ~~~(BitVec.ofInt k.bits m))) := by simp [binV, isShift, intV]
@[simp] theorem bin_eql : binV .eql ek (.int k n) (.int k m) = some (.bool (n == m)) := by simp [binV, isShift, intV]
@[simp] theorem bin_neq : binV .neq ek (.int k n) (.int k m) = some (.bool (!(n == m))) := by simp [binV, isShift, intV]
@[simp] theorem bin_lss : binV .lss ek (.int k n) (.int k m) = some (.bool (decide (n < m))) := by simp [binV, isShift, intV]
@[simp] theorem bin_leq : binV .leq ek (.int k n) (.int k m) = some (.bool (decide (n ≤ m))) := by simp [binV, isShift, intV]
@[simp] theorem bin_gtr : binV .gtr ek (.int k n) (.int k m) = some (.bool (decide (m < n))) := by simp [binV, isShift, intV]
@[simp] theorem bin_geq : binV .geq ek (.int k n) (.int k m) = some (.bool (decide (m ≤ n))) := by simp [binV, isShift, intV]
@[simp] theorem bin_shl : binV .shl ek (.int k n) (.int k' m) = cnd (decide (m < 0)) none (some (.int k (k.wrap (n * 2 ^ (min m.toNat k.bits))))) := rfl
@[simp] theorem bin_shr : binV .shr ek (.int k n) (.int k' m) = cnd (decide (m < 0)) none (some (.int k (n.fdiv (2 ^ (min m.toNat k.bits))))) := rfl
@[simp] theorem bin_sadd : binV .add ek (.str s) (.str t) = cnd (decide (s.length + t.length ≤ 140737488351232)) (some (.str (s ++ t))) none := rfl
@[simp] theorem bin_seql : binV .eql ek (.str s) (.str t) = some (.bool (s == t)) := rfl
@[simp] theorem bin_sneq : binV .neq ek (.str s) (.str t) = some (.bool (!(s == t))) := rfl
@[simp] theorem bin_slss : binV .lss ek (.str s) (.str t) = some (.bool (bytesLess s t)) := rfl
@[simp] theorem bin_sleq : binV .leq ek (.str s) (.str t) = some (.bool (bytesLess s t || s == t)) := rfl
@[simp] theorem bin_sgtr : binV .gtr ek (.str s) (.str t) = some (.bool (!(bytesLess s t || s == t))) := rfl
@[simp] theorem bin_sgeq : binV .geq ek (.str s) (.str t) = some (.bool (!bytesLess s t)) := rfl
@[simp] theorem bin_beql : binV .eql .bool (.bool b) (.bool c) = some (.bool (b == c)) := rfl
@[simp] theorem bin_bneq : binV .neq .bool (.bool b) (.bool c) = some (.bool (!(b == c))) := rfl
@[simp] theorem bin_peql : binV .eql .ptr (.ptr a) (.ptr none) = some (.bool a.isNone) := rfl
@[simp] theorem bin_pneq : binV .neq .ptr (.ptr a) (.ptr none) = some (.bool (!a.isNone)) := rfl
@[simp] theorem bin_reql : binV .eql .ptr (.ro cs) (.ptr none) = some (.bool false) := rfl
@[simp] theorem bin_rneq : binV .neq .ptr (.ro cs) (.ptr none) = some (.bool true) := rfl
@[simp] theorem bin_npeql (q : Nat × Nat) : binV .eql .ptr (.ptr none) (.ptr (some q)) = some (.bool false) := rfl
@[simp] theorem bin_npneq (q : Nat × Nat) : binV .neq .ptr (.ptr none) (.ptr (some q)) = some (.bool true) := rfl
@[simp] theorem bin_meql (q : Option Nat) : binV .eql .map (.map q) (.map none) = some (.bool q.isNone) := rfl
@[simp] theorem bin_mneq (q : Option Nat) : binV .neq .map (.map q) (.map none) = some (.bool (!q.isNone)) := rfl
@[simp] theorem bin_feql : binV .eql .fn (.fn f cs ds) .nofn = some (.bool false) := rfl
@[simp] theorem bin_fneq : binV .neq .fn (.fn f cs ds) .nofn = some (.bool true) := rfl
@[simp] theorem bin_nfeql : binV .eql .fn .nofn .nofn = some (.bool true) := rfl
@[simp] theorem bin_nfneq : binV .neq .fn .nofn .nofn = some (.bool false) := rfl
@[simp] theorem bin_aeql (ks : List SK) : binV .eql (.agg ks) (.agg xs) (.agg ys) = bnd (cellsEq ks xs ys) fun b => some (.bool b) := rfl
@[simp] theorem bin_aneq (ks : List SK) : binV .neq (.agg ks) (.agg xs) (.agg ys) = bnd (cellsEq ks xs ys) fun b => some (.bool (!b)) := rfl
@[simp] theorem un_not : unV .not (.bool b) = some (.bool (!b)) := rfl
@[simp] theorem un_neg : unV .neg (.int k n) = some (.int k (k.wrap (0 - n))) := rfl
@[simp] theorem un_xor : unV .xor (.int k n) = some (bitsV k (BitVec.ofInt k.bits (if k.signed then -1 else k.max) ^^^ BitVec.ofInt k.bits n)) := rfl
@[simp] theorem conv_int : convV (.toInt k) (.int k' n) = some (.int k (k.wrap n)) := rfl
@[simp] theorem conv_str : convV .strOfBytes (.sl xs) = bnd (bytesOf xs) fun l => some (.str l) := rfl
@[simp] theorem conv_bytes : convV .bytesOfStr (.str s) = some (.sl (s.map byteV)) := rfl
@[simp] theorem conv_same : convV .same (.str s) = some (.str s) := rfl
@[simp] theorem min_int : minV (.int k n) (.int k m) = some (.int k (if m < n then m else n)) := by simp [minV]
@[simp] theorem max_int : maxV (.int k n) (.int k m) = some (.int k (if m > n then m else n)) := by simp [maxV]
@[simp] theorem foldV_nil (q : V → V → Option V) : foldV q x [] = some x := rfl
@[simp] theorem foldV_cons (q : V → V → Option V) : foldV q x (y :: ys) = bnd (q x y) fun z => foldV q z ys := rfl
@[simp] theorem foldV1_cons (q : V → V → Option V) : foldV1 q (x :: xs) = foldV q x xs := rfl
variable (rs : Regs) (h : Heap)
@[simp] theorem fillV_nil : fillV rs cs [] = some cs := rfl
@[simp] theorem fillV_cons (off size : Nat) (q : Arg) (r : List (Nat × Nat × Arg)) : fillV rs cs ((off, size, q) :: r) =
    cnd (decide (((q.val rs).flat.length = size ∧ off + size ≤ cs.length) ∧ (q.val rs).flat.all V.isCell = true)) (fillV rs (cs.take off ++ ((q.val rs).flat ++ cs.drop (off + size))) r) none := rfl
@[simp] theorem fillE_nil : fillE rs cs [] = some cs := rfl
@[simp] theorem fillE_cons (q : Arg) (r : List (Nat × Arg)) : fillE rs cs ((i, q) :: r) = cnd (decide (i < cs.length)) (fillE rs (cs.set i (q.val rs)) r) none := rfl
@[simp] theorem isKey_i : isKey .i (.int k n) = true := rfl
@[simp] theorem isKey_s : isKey .s (.str s) = true := rfl
@[simp] theorem natOf_int : natOf (.int k n) = cnd (decide (0 ≤ n)) (some n.toNat) none := rfl
@[simp] theorem natOr_none (d : Nat) : natOr rs d none = some d := rfl
@[simp] theorem natOr_some (d : Nat) (q : Arg) : natOr rs d (some q) = natOf (q.val rs) := rfl
@[simp] theorem cut_agg (size off : Nat) : cut true size off cs = cnd (decide (off + size ≤ cs.length)) (some (.agg ((cs.drop off).take size))) none := rfl
@[simp] theorem cut_one (off : Nat) : cut false 1 off cs = cs[off]? := by
  unfold cut
  by_cases hd : off + 1 ≤ cs.length
  · simp [hd]
  · rw [List.getElem?_eq_none (by omega)]; simp [hd]
@[simp] theorem cellsAt_eq : cellsAt h i = match hget h i with | some (.cells cs own) => some (cs, own) | _ => none := rfl
@[simp] theorem mapAt_eq : mapAt h i = match hget h i with | some (.map es) => some es | _ => none := rfl
@[simp] theorem mapOf_none : mapOf h (.map none) = some [] := rfl
@[simp] theorem mapOf_some : mapOf h (.map (some i)) = mapAt h i := rfl
@[simp] theorem load_ptr (q : Bool) (size : Nat) : loadV q size h (.ptr (some (i, o))) = bnd (cellsAt h i) fun c => cut q size o c.1 := rfl
@[simp] theorem load_ro (q : Bool) (size : Nat) : loadV q size h (.ro cs) = cut q size 0 cs := rfl
@[simp] theorem pick_bool : pickV (.bool b) x y = some (cnd b x y) := rfl
@[simp] theorem nilck_ptr (q : Nat × Nat) : nilckV (.ptr (some q)) = some (.ptr (some q)) := rfl
@[simp] theorem nilck_ro : nilckV (.ro cs) = some (.ro cs) := rfl
@[simp] theorem nilck_fn : nilckV (.fn f cs ds) = some (.fn f cs ds) := rfl
@[simp] theorem sizeOk_nil (size : Nat) : sizeOk size [] = true := rfl
@[simp] theorem sizeOk_cons (size : Nat) : sizeOk size (x :: xs) = (x.flat.length == size) := rfl
@[simp] theorem allSize_nil (size : Nat) : allSize size [] = true := rfl
@[simp] theorem allSize_cons (size : Nat) : allSize size (x :: xs) = (x.flat.length == size && allSize size xs) := rfl
@[simp] theorem slice_str (size : Nat) (lo hi mx : Option Arg) : sliceV size rs lo hi mx true (.str s) = bnd (natOr rs 0 lo) fun l => bnd (natOr rs s.length hi) fun u => cnd (decide (l ≤ u ∧ u ≤ s.length) && mx.isNone) (some (.str ((s.take u).drop l))) none := rfl
@[simp] theorem slice_sl (size : Nat) (lo hi mx : Option Arg) : sliceV size rs lo hi mx false (.sl xs) = bnd (natOr rs 0 lo) fun l => bnd (natOr rs xs.length hi) fun u => bnd (natOr rs u mx) fun m =>
      cnd (decide (l ≤ u ∧ u ≤ m ∧ m ≤ xs.length) && ((hi.isSome || mx.isNone) && sizeOk size xs)) (some (.sl ((xs.take u).drop l))) none := rfl
@[simp] theorem slice_msl (size : Nat) (lo hi mx : Option Arg) (i o n z : Nat) : sliceV size rs lo hi mx false (.msl i o n z) = bnd (natOr rs 0 lo) fun l => bnd (natOr rs n hi) fun u =>
      cnd (decide (l ≤ u ∧ u ≤ n ∧ z = size) && mx.isNone) (some (cnd (decide (l < u)) (.msl i (o + l * size) (u - l) z) (.sl []))) none := rfl
@[simp] theorem mrk_lst : mrkV (.lst (x :: xs)) = some (.sl (x :: xs)) := rfl
@[simp] theorem faddr_ptr (off : Nat) : faddrV off (.ptr (some (i, o))) = some (.ptr (some (i, o + off))) := rfl
@[simp] theorem faddr_ro (off : Nat) : faddrV off (.ro cs) = some (.ro (cs.drop off)) := rfl
@[simp] theorem field_agg (off size : Nat) (q : Bool) : fieldV off size q (.agg cs) = cut q size off cs := rfl
@[simp] theorem iaddr_sl (size j : Nat) : iaddrV size j none (.sl xs) = bnd (xs[j]?) fun v => cnd (v.flat.length == size) (some (.ro v.flat)) none := rfl
@[simp] theorem iaddr_ptr (size j z : Nat) : iaddrV size j (some z) (.ptr (some (i, o))) = cnd (decide (j < z)) (some (.ptr (some (i, o + j * size)))) none := rfl
@[simp] theorem iaddr_ro (size j z : Nat) : iaddrV size j (some z) (.ro cs) = cnd (decide (j < z)) (some (.ro (cs.drop (j * size)))) none := rfl
@[simp] theorem index_str (z size j : Nat) (q : Bool) : indexV z size q j true (.str s) = bnd (s[j]?) fun b => some (byteV b) := rfl
@[simp] theorem index_agg (z size j : Nat) (q : Bool) : indexV z size q j false (.agg cs) = cnd (decide (j < z)) (cut q size (j * size) cs) none := rfl
@[simp] theorem found_tt : found x true (some y) = .tup [y, .bool true] := rfl
@[simp] theorem found_tf : found x true none = .tup [x, .bool false] := rfl
@[simp] theorem found_ft : found x false (some y) = y := rfl
@[simp] theorem found_ff : found x false none = x := rfl
@[simp] theorem extract_tup : extractV i (.tup xs) = xs[i]? := rfl
@[simp] theorem allPure_nil : allPure [] = true := rfl
@[simp] theorem allPure_cons : allPure (x :: xs) = (x.pure && allPure xs) := rfl
@[simp] theorem app_sl (size bytes : Nat) : appV size bytes (.sl xs) (.sl ys) = cnd (decide ((xs.length + ys.length) * bytes ≤ 140737488355328) && (sizeOk size xs && sizeOk size ys)) (some (.sl (xs ++ ys))) none := rfl
@[simp] theorem len_arr : lenV h (.arr i) x = some (.int .i64 i) := rfl
@[simp] theorem len_str : lenV h .str (.str s) = some (.int .i64 s.length) := rfl
@[simp] theorem len_sl : lenV h .sl (.sl xs) = some (.int .i64 xs.length) := rfl
@[simp] theorem len_map (q : Option Nat) : lenV h .map (.map q) = bnd (mapOf h (.map q)) fun es => some (.int .i64 es.length) := rfl
@[simp] theorem ownHas_nil (j sz : Nat) : ownHas [] j sz = false := rfl
@[simp] theorem ownHas_cons (j sz p q : Nat) (l : List (Nat × Nat)) : ownHas ((p, q) :: l) j sz = ((decide (p = j) && decide (q = sz)) || ownHas l j sz) := rfl
@[simp] theorem ownOk_nil (size : Nat) (own : List (Nat × Nat)) : ownOk o size own [] = true := rfl
@[simp] theorem ownOk_cons (size j sz : Nat) (own js : List (Nat × Nat)) : ownOk o size own ((j, sz) :: js) = ((!(decide (o ≤ j) && decide (j < o + size)) || ownHas own (j - o) sz) && ownOk o size own js) := rfl
@[simp] theorem store_ptr (fb lb size : Nat) (own : List (Nat × Nat)) : storeV fb lb size own h x (.ptr (some (i, o))) = bnd (cellsAt h i) (storeC fb lb size own h i o x) := rfl
@[simp high] theorem storeC_one (fb lb : Nat) (own own' : List (Nat × Nat)) : storeC fb lb 1 own h i o x (cs, own') = cnd (decide (x.flat.length = 1 ∧ o < cs.length) && (ownOk o 1 own own' && x.flat.all V.isCell))
    (some (hset h i (.cells (cs.set o (x.flat.headD .top)) own'), ⟨cnd (decide (i < fb)) [i] [], cnd (x.lt 0) [] [i], false⟩)) none := by
  unfold storeC
  by_cases hx : x.flat.length = 1 ∧ o < cs.length
  · obtain ⟨h1, h2⟩ := hx
    obtain ⟨y, hy⟩ := List.length_eq_one_iff.1 h1
    have h3 : decide ([y].length = 1 ∧ o + 1 ≤ cs.length) = true := decide_eq_true ⟨rfl, h2⟩
    have h4 : decide ([y].length = 1 ∧ o < cs.length) = true := decide_eq_true ⟨rfl, h2⟩
    rw [hy, h3, h4, List.set_eq_take_append_cons_drop, if_pos h2]
    rfl
  · have h1 : decide (x.flat.length = 1 ∧ o + 1 ≤ cs.length) = false := decide_eq_false hx
    rw [h1, decide_eq_false hx]
    rfl
@[simp] theorem storeC_eq (fb lb size : Nat) (own own' : List (Nat × Nat)) : storeC fb lb size own h i o x (cs, own') = cnd (decide (x.flat.length = size ∧ o + size ≤ cs.length) && (ownOk o size own own' && x.flat.all V.isCell))
    (some (hset h i (.cells (cs.take o ++ (x.flat ++ cs.drop (o + size))) own'), ⟨cnd (decide (i < fb)) [i] [], cnd (x.lt 0) [] [i], false⟩)) none := rfl
@[simp] theorem samePtr_none : samePtr rs x none = true := rfl
@[simp] theorem samePtr_some (p : Nat) : samePtr rs (.ptr (some (i, o))) (some p) = match get rs p with | .ptr (some (j, u)) => decide (j = i) && decide (u = o) | _ => false := by
  unfold samePtr
  simp only
  cases get rs p <;> try rfl
  rename_i q
  cases q <;> rfl
@[simp] theorem appc_ptr (fb size : Nat) : appcV fb size h (.ptr (some (i, o))) = bnd (cellsAt h i) fun c => cnd (ownHas c.2 o size) (some (cnd (decide (i < fb)) [i] [])) none := rfl
@[simp] theorem boxable_eq (size : Nat) : boxable size x = (x.flat.length == size && x.flat.all V.isCell) := rfl
@[simp] theorem callV_fn (C : Callee) : callV C h xs (.fn f cs ds) = C f (cs ++ (xs ++ ds)) h := rfl
@[simp] theorem allLt_nil (q : Nat) : allLt q [] = true := rfl
@[simp] theorem allLt_cons (q r : Nat) : allLt q ((r, x) :: rs) = (x.lt q && allLt q rs) := rfl
variable (es : List Nat)
@[simp] theorem clean_eq (q : Nat) (st : St) : clean q es rs st = cnd (escOk q st.h st.fl.esc && allLt q rs) ⟨rs, st.h.take q, ⟨st.fl.wr, addE es (escLt q st.h st.fl.esc), st.fl.all⟩⟩ ⟨rs, st.h, ⟨st.fl.wr, addE es st.fl.esc, st.fl.all⟩⟩ := rfl
@[simp] theorem bodyEnd_eq (q : Nat) (live : List Nat) (r : Ex × St) : bodyEnd q live es r = cnd r.1.isNormal (some (.normal, clean q es (keep r.2.rs live) r.2)) (some (r.1, ⟨r.2.rs, r.2.h, ⟨r.2.fl.wr, addE es r.2.fl.esc, r.2.fl.all⟩⟩)) := rfl
@[simp] theorem escOk_nil (q : Nat) : escOk q h [] = true := rfl
@[simp] theorem escOk_cons (q : Nat) : escOk q h (i :: es) = ((decide (q ≤ i) || objLt q h i) && escOk q h es) := rfl
@[simp] theorem wrLt_nil (q : Nat) : wrLt q [] = [] := rfl
@[simp] theorem wrLt_cons (q : Nat) : wrLt q (i :: es) = cnd (decide (i < q)) (i :: wrLt q es) (wrLt q es) := rfl
@[simp] theorem escLt_nil (q : Nat) : escLt q h [] = [] := rfl
@[simp] theorem escLt_cons (q : Nat) : escLt q h (i :: es) = cnd (decide (i < q) && !objLt 0 h i) (i :: escLt q h es) (escLt q h es) := rfl
@[simp] theorem objLt_eq (q : Nat) : objLt q h i = match hget h i with | some o => o.lt q | none => true := rfl
@[simp] theorem olt_cells (q : Nat) (own : List (Nat × Nat)) : Obj.lt q (.cells cs own) = V.ltL q cs := rfl
@[simp] theorem olt_emp (q : Nat) : Obj.lt q .emp = true := rfl
@[simp] theorem olt_dead (q : Nat) : Obj.lt q .dead = true := rfl
def hasE (i : Nat) : List Nat → Bool
  | [] => false
  | j :: l => decide (i = j) || hasE i l
theorem hasE_contains (i : Nat) : ∀ l : List Nat, hasE i l = l.contains i
  | [] => rfl
  | j :: l => by
    simp only [hasE, hasE_contains i l, List.contains_cons]
    rfl
@[simp] theorem hasE_nil : hasE i [] = false := rfl
@[simp] theorem hasE_cons (j : Nat) : hasE i (j :: es) = (decide (i = j) || hasE i es) := rfl
@[simp] theorem addE_one : addE es [i] = cnd (hasE i es) es (es ++ [i]) := by
  rw [hasE_contains]
  unfold addE
  cases hc : es.contains i <;> simp_all
@[simp] theorem resV_nil : resV rs h [] = some [] := rfl
@[simp] theorem resV_r (r : Nat) (l : List Res) : resV rs h (.r r :: l) = bnd (resV rs h l) fun q => some (get rs r :: q) := rfl
@[simp] theorem resV_cell (r size : Nat) (q : Bool) (l : List Res) : resV rs h (.cell r q size :: l) = bnd (loadV q size h (get rs r)) fun v => bnd (resV rs h l) fun l => some (v :: l) := rfl
@[simp] theorem one_one : one [x] = x := rfl
@[simp] theorem one_nil : one [] = .tup [] := rfl
@[simp] theorem one_two : one (x :: y :: xs) = .tup (x :: y :: xs) := rfl
@[simp] theorem finishV_eq (q : Nat) (st : St) : finishV q st x = cnd (escOk q st.h st.fl.esc && x.lt q) (x, st.h.take q, ⟨st.fl.wr, escLt q st.h st.fl.esc, st.fl.all⟩) (x, st.h, st.fl) := rfl
@[simp] theorem initR_nil (q : Nat) : initR [] q = [] := rfl
@[simp] theorem initR_cons (q : Nat) : initR (x :: xs) q = (q, x) :: initR xs (q + 1) := rfl
@[simp] theorem hget_set (q : Obj) (hi : i < h.length) : hget (hset h i q) i = some q := by simp [hget, hset, hi]
@[simp] theorem hget_set_ne (j : Nat) (q : Obj) (hi : j ≠ i) : hget (hset h j q) i = hget h i := by simp [hget, hset, List.getElem?_set, hi]
@[simp] theorem hset_len (q : Obj) : (hset h i q).length = h.length := by simp [hset]
@[simp] theorem hset_take (q : Obj) : (hset h i q).take h.length = hset h i q := List.take_of_length_le (by simp [hset])
@[simp] theorem get_c0 {α : Type} (x : α) (xs : List α) : (x :: xs)[0]? = some x := rfl
@[simp] theorem get_cs {α : Type} (x : α) (xs : List α) (i : Nat) : (x :: xs)[i + 1]? = xs[i]? := rfl
@[simp] theorem hget_c0 (q : Obj) : hget (q :: h) 0 = some q := rfl
@[simp] theorem hget_cs (q : Obj) : hget (q :: h) (i + 1) = hget h i := by simp [hget]
@[simp] theorem hset_c0 (q r : Obj) : hset (q :: h) 0 r = r :: h := rfl
@[simp] theorem hset_cs (q r : Obj) : hset (q :: h) (i + 1) r = q :: hset h i r := by simp [hset]
attribute [simp] hset_hset
end
@[simp] theorem ltL_bools (q : Nat) (l : List Bool) : V.ltL q (l.map V.bool) = true := by induction l <;> simp_all
@[simp] theorem ltL_ints (q : Nat) (k : IntKind) (l : List Int) : V.ltL q (l.map (V.int k)) = true := by induction l <;> simp_all
@[simp] theorem ltL_strs (q : Nat) (l : List (List UInt8)) : V.ltL q (l.map V.str) = true := by induction l <;> simp_all
@[simp] theorem sizeOk_ints (k : IntKind) (l : List Int) : sizeOk 1 (l.map (V.int k)) = true := by cases l <;> simp
@[simp] theorem ltL_replicate (q n : Nat) (v : V) (hv : v.lt q = true) : V.ltL q (List.replicate n v) = true := by induction n <;> simp_all [List.replicate_succ]
@[simp] theorem take_local (h l : Heap) (k : Nat) : List.take (h.length + k) (h ++ l) = h ++ l.take k := by rw [List.take_append]; simp [Nat.add_sub_cancel_left, List.take_of_length_le]
@[simp] theorem hget_hset_l (h l : Heap) (t k : Nat) (o : Obj) : hget (hset h t o ++ l) (h.length + k) = l[k]? := by
  have := hget_local (hset h t o) l k
  rwa [hset_len] at this
@[simp] theorem hget_hset_l0 (h l : Heap) (t : Nat) (o : Obj) : hget (hset h t o ++ l) h.length = l[0]? := hget_hset_l h l t 0 o
@[simp] theorem hset_hset_l (h l : Heap) (t k : Nat) (o q : Obj) : hset (hset h t o ++ l) (h.length + k) q = hset h t o ++ l.set k q := by
  have := hset_local (hset h t o) l k q
  rwa [hset_len] at this
@[simp] theorem hset_hset_l0 (h l : Heap) (t : Nat) (o q : Obj) : hset (hset h t o ++ l) h.length q = hset h t o ++ l.set 0 q := hset_hset_l h l t 0 o q
@[simp] theorem take_hset_l (h l : Heap) (t : Nat) (o : Obj) : (hset h t o ++ l).take h.length = hset h t o := List.take_left' (hset_len t h o)
theorem hget_lt {h : Heap} {i : Nat} {q : Obj} (hh : hget h i = some q) : i < h.length := (List.getElem?_eq_some_iff.1 hh).1
end Go.Vm

/- The V-machine's run as a machine with named continuations: simp goes no further than what is known. -/
set_option linter.unusedVariables false
set_option linter.unusedSimpArgs false
namespace Go.Vm

noncomputable def opsK (C : Callee) (fb lb : Nat) (e : Option Nat) (is : List VI) (rs : Regs) (fl : Fl) : Option (V × Heap × Fl) → Option (Regs × Heap × Fl)
  | some (v, h, f) => evalOps C fb lb is (putR e v rs) h (fl.or f)
  | none => none
noncomputable def guardK (C : Callee) (fb lb : Nat) (e : Option Nat) (o : VOp) (is : List VI) (rs : Regs) (h : Heap) (fl : Fl) : Option Bool → Option (Regs × Heap × Fl)
  | some true => opsK C fb lb e is rs fl (evalOp C fb lb rs h o)
  | some false => evalOps C fb lb is (putR e .undef rs) h fl
  | none => none
def vK (h : Heap) : Option V → Option (V × Heap × Fl)
  | some v => some (v, h, .no)
  | none => none
def storeK : Option (Heap × Fl) → Option (V × Heap × Fl)
  | some (h, fl) => some (.undef, h, fl)
  | none => none
noncomputable def callK (fb : Nat) (q : Bool) (h : Heap) : Option (V × Heap × Fl) → Option (V × Heap × Fl)
  | some r => quiet fb q h r
  | none => none
def appcK (h : Heap) (v : Option V) : Option (List Nat) → Option (V × Heap × Fl)
  | some w => bnd v fun v => some (v, h, ⟨w, [], false⟩)
  | none => none
def codeK (live : List Nat) : Option (Regs × Heap × Fl) → Option (Ex × St)
  | some (rs, h, fl) => some (.normal, ⟨keep rs live, h, fl⟩)
  | none => none
noncomputable def seqK (C : Callee) (L : Looper) (fb lb : Nat) (y : VCode) : Option (Ex × St) → Option (Ex × St)
  | some (.normal, st) => evalCode C L fb y lb st
  | r => r
noncomputable def condK (C : Callee) (L : Looper) (fb lb : Nat) (x y : VCode) (st : St) : V → Option (Ex × St)
  | .bool true => evalCode C L fb x lb st
  | .bool false => evalCode C L fb y lb st
  | _ => none
def blockK (id : Nat) : Option (Ex × St) → Option (Ex × St)
  | some (.exit j, st) => some (cnd (decide (j = id)) .normal (.exit j), st)
  | r => r
noncomputable def roundV (C : Callee) (L : Looper) (fb : Nat) (live : List Nat) (b : VCode) (s : St) : Option (Ex × St) :=
  bnd (evalCode C L fb b s.h.length ⟨s.rs, s.h, ⟨s.fl.wr, [], s.fl.all⟩⟩) (bodyEnd s.h.length live s.fl.esc)
noncomputable def loopRun (C : Callee) (L : Looper) (fb : Nat) (live : List Nat) (b : VCode) (s : St) : Option (Ex × St) := L (roundV C L fb live b) s
def endK (n : Nat) (live : List Nat) (esc : List Nat) : Option (Ex × St) → Option (Ex × St)
  | some (.normal, st) => some (.normal, clean n esc (keep st.rs live) st)
  | some (e, st) => some (e, ⟨st.rs, st.h, ⟨st.fl.wr, addE esc st.fl.esc, st.fl.all⟩⟩)
  | none => none
open Classical in
noncomputable def bothK : Option (Ex × St) → Option (Ex × St) → Option (Ex × St)
  | some a, some b => if a = b then some a else none
  | _, _ => none
noncomputable def ambK2 (C : Callee) (L : Looper) (fb lb : Nat) (x y z : VCode) (st : St) : V → Option (Ex × St)
  | .bool true => evalCode C L fb (.seq x z) lb st
  | .bool false => evalCode C L fb (.seq y z) lb st
  | .bb => bothK (evalCode C L fb (.seq x z) lb st) (evalCode C L fb (.seq y z) lb st)
  | _ => none
noncomputable def ambK (C : Callee) (L : Looper) (fb lb : Nat) (c : Arg) (x y z : VCode) : Option (Ex × St) → Option (Ex × St)
  | some (.normal, st) => ambK2 C L fb lb x y z st (c.val st.rs)
  | r => r
def finK (n : Nat) (res : List Res) : Option (Ex × St) → Option (V × Heap × Fl)
  | some (.exit _, _) => none
  | some (_, st) => bnd (resV st.rs st.h res) fun vs => some (finishV n st (one vs))
  | none => none

section
variable (C : Callee) (L : Looper) (fb lb n : Nat) (rs : Regs) (h : Heap) (e : Option Nat) (b : Bool) (fl : Fl) (is : List VI) (o : VOp) (v : V) (f : Fl)
@[simp] theorem s_nil : evalOps C fb lb [] rs h fl = some (rs, h, fl) := rfl
@[simp] theorem s_cons : evalOps C fb lb (⟨e, none, o⟩ :: is) rs h fl = opsK C fb lb e is rs fl (evalOp C fb lb rs h o) := by
  rw [evalOps_cons]
  rcases evalOp C fb lb rs h o with _ | ⟨v, h', f⟩ <;> rfl
@[simp] theorem s_consg (g : Nat) : evalOps C fb lb (⟨e, some (g, b), o⟩ :: is) rs h fl = guardK C fb lb e o is rs h fl (wantedV b (get rs g)) := by
  rw [evalOps_consg]
  rcases wantedV b (get rs g) with _ | t
  · rfl
  · cases t
    · rfl
    · simp only [bnd_some, cnd_true, guardK]
      rcases evalOp C fb lb rs h o with _ | ⟨v, h', f⟩ <;> rfl
@[simp] theorem s_opsK : opsK C fb lb e is rs fl (some (v, h, f)) = evalOps C fb lb is (putR e v rs) h (fl.or f) := rfl
@[simp] theorem s_guard_t : guardK C fb lb e o is rs h fl (some true) = opsK C fb lb e is rs fl (evalOp C fb lb rs h o) := rfl
@[simp] theorem s_guard_f : guardK C fb lb e o is rs h fl (some false) = evalOps C fb lb is (putR e .undef rs) h fl := rfl
@[simp] theorem s_vK : vK h (some v) = some (v, h, .no) := rfl
@[simp] theorem s_storeK : storeK (some (h, fl)) = some (.undef, h, fl) := rfl
@[simp] theorem s_callK (r : V × Heap × Fl) : callK fb b h (some r) = quiet fb b h r := rfl
@[simp] theorem s_appcK (w : List Nat) : appcK h (some v) (some w) = some (v, h, ⟨w, [], false⟩) := rfl
variable (x y : Arg) (a : Arg)
@[simp] theorem s_mv : evalOp C fb lb rs h (.mv x) = some (x.val rs, h, .no) := rfl
@[simp] theorem s_asg : evalOp C fb lb rs h (.asg x) = some (x.val rs, h, .no) := rfl
theorem bnd_vK (z : Option V) : (bnd z fun v => some (v, h, Fl.no)) = vK h z := by cases z <;> rfl
@[simp] theorem s_pick (c : Arg) : evalOp C fb lb rs h (.pick c x y) = vK h (pickV (c.val rs) (x.val rs) (y.val rs)) := by rw [evalOp_pick, bnd_vK]
@[simp] theorem s_build (z : List V) (ps : List (Nat × Nat × Arg)) : evalOp C fb lb rs h (.build z ps) = vK h (bnd (fillV rs z ps) fun cs => some (.agg cs)) := by rw [evalOp_build, bnd_vK]
@[simp] theorem s_bslice (z : V) (k m : Nat) (ps : List (Nat × Arg)) : evalOp C fb lb rs h (.bslice z k m ps) = vK h (bnd (fillE rs (List.replicate m z) ps) fun xs => cnd (allPure xs && allSize k xs) (some (.sl xs)) none) := by rw [evalOp_bslice, bnd_vK]
@[simp] theorem s_load (k : Nat) : evalOp C fb lb rs h (.load b k a) = vK h (loadV b k h (a.val rs)) := by rw [evalOp_load, bnd_vK]
@[simp] theorem s_nilck : evalOp C fb lb rs h (.nilck x) = vK h (nilckV (x.val rs)) := by rw [evalOp_nilck, bnd_vK]
@[simp] theorem s_bin (op : BinOp) (k : EK) : evalOp C fb lb rs h (.bin op k x y) = vK h (binV op k (x.val rs) (y.val rs)) := by rw [evalOp_bin, bnd_vK]
@[simp] theorem s_un (op : UnOp) : evalOp C fb lb rs h (.un op x) = vK h (unV op (x.val rs)) := by rw [evalOp_un, bnd_vK]
@[simp] theorem s_conv (k : CK) : evalOp C fb lb rs h (.conv k x) = vK h (convV k (x.val rs)) := by rw [evalOp_conv, bnd_vK]
@[simp] theorem s_mkfn (g : Nat) (p q : List Arg) : evalOp C fb lb rs h (.mkfn g p q) = some (.fn g (vals rs p) (vals rs q), h, .no) := rfl
@[simp] theorem s_slice (k : Nat) (l u m : Option Arg) : evalOp C fb lb rs h (.slice b k x l u m) = vK h (sliceV k rs l u m b (x.val rs)) := by rw [evalOp_slice, bnd_vK]
@[simp] theorem s_faddr (k : Nat) : evalOp C fb lb rs h (.faddr k x) = vK h (faddrV k (x.val rs)) := by rw [evalOp_faddr, bnd_vK]
@[simp] theorem s_field (k m : Nat) : evalOp C fb lb rs h (.field k m b x) = vK h (fieldV k m b (x.val rs)) := by rw [evalOp_field, bnd_vK]
@[simp] theorem s_iaddr (r : Option Nat) (k : Nat) : evalOp C fb lb rs h (.iaddr r k x y) = vK h (bnd (natOf (y.val rs)) fun j => iaddrV k j r (x.val rs)) := by rw [evalOp_iaddr, bnd_vK]
@[simp] theorem s_index (t : Bool) (m z : Nat) : evalOp C fb lb rs h (.index t m z b x y) = vK h (bnd (natOf (y.val rs)) fun j => indexV m z b j t (x.val rs)) := by rw [evalOp_index, bnd_vK]
@[simp] theorem s_lookup (q : SK) (z : V) : evalOp C fb lb rs h (.lookup q z b x y) = vK h (bnd (mapOf h (x.val rs)) fun es => cnd (isKey q (y.val rs)) (bnd (findV q (y.val rs) es) fun r => some (found z b r)) none) := by rw [evalOp_lookup, bnd_vK]
@[simp] theorem s_extract (k : Nat) : evalOp C fb lb rs h (.extract k x) = vK h (extractV k (x.val rs)) := by rw [evalOp_extract, bnd_vK]
@[simp] theorem s_app (p : Place) (k m : Nat) : evalOp C fb lb rs h (.app p k m x y) = vK h (appV k m (x.val rs) (y.val rs)) := by rw [evalOp_app, bnd_vK]
@[simp] theorem s_len (r : LK) : evalOp C fb lb rs h (.len r x) = vK h (lenV h r (x.val rs)) := by rw [evalOp_len, bnd_vK]
@[simp] theorem s_mn (xs : List Arg) : evalOp C fb lb rs h (.mn xs) = vK h (foldV1 minV (vals rs xs)) := by rw [evalOp_mn, bnd_vK]
@[simp] theorem s_mx (xs : List Arg) : evalOp C fb lb rs h (.mx xs) = vK h (foldV1 maxV (vals rs xs)) := by rw [evalOp_mx, bnd_vK]
@[simp] theorem s_alloc (cs : List V) (w : List (Nat × Nat)) : evalOp C fb lb rs h (.alloc cs w) = some (.ptr (some (h.length, 0)), h ++ [.cells cs w], .no) := rfl
@[simp] theorem s_box (k : Nat) : evalOp C fb lb rs h (.box k x) = cnd (boxable k (x.val rs)) (some (.ptr (some (h.length, 0)), h ++ [.cells (x.val rs).flat []], .no)) none := rfl
@[simp] theorem s_mkmap : evalOp C fb lb rs h .mkmap = some (.map (some h.length), h ++ [.map []], .no) := rfl
@[simp] theorem s_store (z : Nat) (w : List (Nat × Nat)) (p : Option Nat) : evalOp C fb lb rs h (.store z a x w p) = cnd (samePtr rs (a.val rs) p) (storeK (storeV fb lb z w h (x.val rs) (a.val rs))) none := by
  rw [evalOp_store]
  congr 1
  rcases storeV fb lb z w h (x.val rs) (a.val rs) with _ | ⟨q, r⟩ <;> rfl
@[simp] theorem s_mapupd (q : SK) (m : Arg) : evalOp C fb lb rs h (.mapupd q m x y) = mapupdV fb lb h q (x.val rs) (y.val rs) (m.val rs) := rfl
@[simp] theorem s_delete (q : SK) : evalOp C fb lb rs h (.delete q x y) = deleteV fb h q (y.val rs) (x.val rs) := rfl
@[simp] theorem s_sliceArr (k z : Nat) : evalOp C fb lb rs h (.sliceArr k z x) = sliceArrV fb k z h (x.val rs) := rfl
@[simp] theorem s_call (g : Nat) (ars : List Arg) : evalOp C fb lb rs h (.call b g ars) = callK fb b h (C g (vals rs ars) h) := by
  rw [evalOp_call]; cases C g (vals rs ars) h <;> rfl
@[simp] theorem s_callv (ars : List Arg) : evalOp C fb lb rs h (.callv b x ars) = callK fb b h (callV C h (vals rs ars) (x.val rs)) := by
  rw [evalOp_callv]; cases callV C h (vals rs ars) (x.val rs) <;> rfl
@[simp] theorem s_appc (p k m : Nat) : evalOp C fb lb rs h (.appc p k m x y) = appcK h (appV k m (x.val rs) (y.val rs)) (appcV fb k h (get rs p)) := by
  rw [evalOp_appc]; cases appcV fb k h (get rs p) <;> rfl
@[simp] theorem s_newl (z : Nat) : evalOp C fb lb rs h (.newl z) = some (.lst [], h, .no) := rfl
@[simp] theorem s_appl (p k m : Nat) : evalOp C fb lb rs h (.appl p k m x y) = vK h (applV k m (get rs p) (y.val rs)) := by
  show (bnd (applV k m (get rs p) (y.val rs)) fun v => some (v, h, Fl.no)) = _
  rw [bnd_vK]
@[simp] theorem s_lenl (p : Nat) : evalOp C fb lb rs h (.lenl p x) = vK h (lenlV (get rs p)) := by
  show (bnd (lenlV (get rs p)) fun v => some (v, h, Fl.no)) = _
  rw [bnd_vK]
@[simp] theorem s_slf (p k : Nat) (l u : Option Arg) : evalOp C fb lb rs h (.slf p k x l u) = vK h (slfV k rs l u (get rs p)) := by
  show (bnd (slfV k rs l u (get rs p)) fun v => some (v, h, Fl.no)) = _
  rw [bnd_vK]
@[simp] theorem s_calll (g p k : Nat) (F : List V → List V → Option (List V)) (ars : List Arg) : evalOp C fb lb rs h (.calll g p k F x ars) = vK h (calllV F (vals rs ars) (get rs p)) := by
  show (bnd (calllV F (vals rs ars) (get rs p)) fun v => some (v, h, Fl.no)) = _
  rw [bnd_vK]
@[simp] theorem s_bld (z : List V) (ps : List (Nat × Nat × Arg)) (l : List Nat) : evalOp C fb lb rs h (.bld z ps l) = vK h (bnd (fillV rs z ps) fun cs => some (.agg cs)) := by
  show (bnd (bnd (fillV rs z ps) fun cs => some (V.agg cs)) fun v => some (v, h, Fl.no)) = _
  rw [bnd_vK]
@[simp] theorem s_boxo (k : Nat) (w : List (Nat × Nat)) : evalOp C fb lb rs h (.boxo k x w) = cnd (boxable k (x.val rs) && linNil (x.val rs).flat w) (some (.ptr (some (h.length, 0)), h ++ [.cells (ownCells (x.val rs).flat w) w], .no)) none := rfl
@[simp] theorem s_mvn : evalOp C fb lb rs h .mvn = some (.nsl, h, .no) := rfl
def bsllK (h : Heap) (size : Nat) : Option (List V) → Option (V × Heap × Fl)
  | some xs => cnd (allPure xs && allSize size xs) (some (.lst xs, h, .no)) none
  | none => none
@[simp] theorem s_bsllK (k : Nat) (xs : List V) : bsllK h k (some xs) = cnd (allPure xs && allSize k xs) (some (.lst xs, h, .no)) none := rfl
@[simp] theorem s_bsll (z : V) (k m : Nat) (ps : List (Nat × Arg)) : evalOp C fb lb rs h (.bsll z k m ps) = bsllK h k (fillE rs (List.replicate m z) ps) := by
  show bnd (fillE rs (List.replicate m z) ps) _ = _
  cases fillE rs (List.replicate m z) ps <;> rfl
def appmK (fb size bytes : Nat) (h : Heap) (s : V) (c : Option (List V × Nat)) : Option (List V × Nat) → Option (V × Heap × Fl)
  | some y => bnd c fun c => cnd (decide ((c.2 + y.2) * bytes ≤ 140737488355328)) (cnd (decide (y.2 = 0)) (some (s, h, .no))
      (some (.msl h.length 0 (c.2 + y.2) size, mkill h s ++ [.cells (c.1 ++ y.1) []], ⟨[], [], !misnil s && decide (mobj s < fb)⟩))) none
  | none => none
@[simp] theorem s_appmK (k m : Nat) (s : V) (c y : List V × Nat) : appmK fb k m h s (some c) (some y) = cnd (decide ((c.2 + y.2) * m ≤ 140737488355328)) (cnd (decide (y.2 = 0)) (some (s, h, .no))
      (some (.msl h.length 0 (c.2 + y.2) k, mkill h s ++ [.cells (c.1 ++ y.1) []], ⟨[], [], !misnil s && decide (mobj s < fb)⟩))) none := rfl
@[simp] theorem s_appm (k m : Nat) : evalOp C fb lb rs h (.appm k m x y) = appmK fb k m h (x.val rs) (cnd (msize k (x.val rs)) (mcells h (x.val rs)) none) (appX k h (y.val rs)) := by
  show appmV fb k m h (x.val rs) (y.val rs) = _
  unfold appmV appmK
  cases cnd (msize k (x.val rs)) (mcells h (x.val rs)) none with
  | none => cases appX k h (y.val rs) <;> rfl
  | some c => cases appX k h (y.val rs) <;> rfl
@[simp] theorem s_clr (zs : List V) : evalOp C fb lb rs h (.clr zs x) = clrV fb lb zs h (x.val rs) := rfl
@[simp] theorem s_mkm (b : Nat) (zs : List V) : evalOp C fb lb rs h (.mkm b zs x) = mkmV b zs h (x.val rs) := rfl
@[simp] theorem clr_nil (zs : List V) : clrV fb lb zs h (.sl []) = some (.tup [], h, .no) := rfl
@[simp] theorem clr_nsl (zs : List V) : clrV fb lb zs h .nsl = some (.tup [], h, .no) := rfl
@[simp] theorem clr_msl (zs : List V) (k q n z : Nat) : clrV fb lb zs h (.msl k q n z) = bnd (cellsAt h k) fun c => cnd (decide ((0 < n ∧ zs.length = z) ∧ c.2 = []) && zs.all V.pureCell)
      (bnd (storeC fb lb (n * z) [] h k q (.agg (List.replicate n zs).flatten) c) fun r => some (.tup [], r.1, r.2)) none := rfl
@[simp] theorem s_thwr (p k : Nat) : evalOp C fb lb rs h (.thwr p k) = thwV h k (get rs p) := rfl
@[simp] theorem s_frzr (p k : Nat) (ag : Bool) : evalOp C fb lb rs h (.frzr p k ag) = frzrV k ag h (get rs p) := rfl
@[simp] theorem s_frzl (p k : Nat) : evalOp C fb lb rs h (.frzl p k) = vK h (frzlV (get rs p)) := by
  show (bnd (frzlV (get rs p)) fun v => some (v, h, Fl.no)) = _
  rw [bnd_vK]
@[simp] theorem s_mrk (p : Nat) : evalOp C fb lb rs h (.mrk p x) = vK h (mrkV (get rs p)) := by
  show (bnd (mrkV (get rs p)) fun v => some (v, h, Fl.no)) = _
  rw [bnd_vK]
@[simp] theorem s_thwc (p q k : Nat) : evalOp C fb lb rs h (.thwc p q k) = thwcV fb k h (offV q (get rs p)) := rfl
@[simp] theorem s_setc (p q k : Nat) (ag : Bool) : evalOp C fb lb rs h (.setc p q k ag) = setcV k ag h (offV q (get rs p)) := rfl
@[simp] theorem s_frzc (p q k : Nat) (ag : Bool) : evalOp C fb lb rs h (.frzc p q k ag) = frzcV k ag h (offV q (get rs p)) := rfl
@[simp] theorem offV_ptr (q i j : Nat) : offV q (.ptr (some (i, j))) = .ptr (some (i, j + q)) := rfl
@[simp] theorem thwc_ptr (z i j : Nat) : thwcV fb z h (.ptr (some (i, j))) = bnd (cellsAt h i) fun c => cnd (ownHas c.2 j (z + 1000000)) (bnd (ownV c.1[j]?) fun xs =>
    some (.undef, hset h i (.cells (c.1.set j (mnewV h z xs.length)) (ownDel j c.2)) ++ [mnewO xs.length (xs.flatMap V.flat)], ⟨[], [i], true⟩)) none := rfl
@[simp] theorem setc_ptr (z i j : Nat) (ag : Bool) : setcV z ag h (.ptr (some (i, j))) = bnd (cellsAt h i) fun c => bnd (c.1[j]?) fun s => bnd (pureL z ag h s) fun xs =>
    cnd (msize z s && (ownNot j c.2 && mnot i s)) (some (.undef, hset (mkill h s) i (.cells (c.1.set j (.own xs)) ((j, z + 1000000) :: c.2)), .no)) none := rfl
@[simp] theorem frzc_ptr (z i j : Nat) (ag : Bool) : frzcV z ag h (.ptr (some (i, j))) = bnd (cellsAt h i) fun c => bnd (c.1[j]?) fun s => bnd (pureL z ag h s) fun xs =>
    cnd (ownNot j c.2 && mnot i s) (some (.undef, hset (mkill h s) i (.cells (c.1.set j (.sl xs)) c.2), .no)) none := rfl
@[simp] theorem s_bstr : evalOp C fb lb rs h (.bstr x) = vK h (convV .bytesOfStr (x.val rs)) := by
  show (bnd (convV .bytesOfStr (x.val rs)) fun v => some (v, h, Fl.no)) = _
  rw [bnd_vK]
@[simp] theorem s_isnil : evalOp C fb lb rs h (.isnil x) = vK h (isnilV (x.val rs)) := by
  show (bnd (isnilV (x.val rs)) fun v => some (v, h, Fl.no)) = _
  rw [bnd_vK]
@[simp] theorem applV_eq (k m : Nat) (xs ys : List V) : applV k m (.lst xs) (.sl ys) = cnd (decide ((xs.length + ys.length) * m ≤ 140737488355328) && (sizeOk k xs && sizeOk k ys)) (some (.lst (xs ++ ys))) none := rfl
@[simp] theorem lenlV_eq (xs : List V) : lenlV (.lst xs) = some (.int .i64 xs.length) := rfl
@[simp] theorem slfV_eq (k : Nat) (l u : Option Arg) (xs : List V) : slfV k rs l u (.lst xs) = sliceV k rs l u none false (.sl xs) := rfl
@[simp] theorem calllV_eq (F : List V → List V → Option (List V)) (ars xs : List V) : calllV F ars (.lst xs) = bnd (F xs ars) fun ys => some (.lst ys) := rfl
@[simp] theorem lt_lst (q : Nat) (xs : List V) : V.lt q (.lst xs) = true := by simp [V.lt]
variable (st : St) (live : List Nat) (c d : VCode)
@[simp] theorem s_skip : evalCode C L fb .skip lb st = some (.normal, st) := rfl
@[simp] theorem s_ops : evalCode C L fb (.ops is live) lb st = codeK live (evalOps C fb lb is st.rs st.h st.fl) := by
  rw [code_ops]; rcases evalOps C fb lb is st.rs st.h st.fl with _ | ⟨p, q, r⟩ <;> rfl
@[simp] theorem s_dops (k : Nat) : evalCode C L fb (.dops k is live) lb st = codeK live (evalOps C fb lb is st.rs st.h st.fl) := by
  rw [code_dops]; rcases evalOps C fb lb is st.rs st.h st.fl with _ | ⟨p, q, r⟩ <;> rfl
theorem xops_of {k x : Nat} {chk : List Nat} (h : agree C fb lb x chk is st.rs st.h st.fl) : evalCode C L fb (.xops k x chk is live) lb st = codeK live (evalOps C fb lb is st.rs st.h st.fl) := by
  simp only [evalCode]
  rcases evalOps C fb lb is st.rs st.h st.fl with _ | ⟨p, q, r⟩
  · rfl
  · simp only [bnd_some]; rw [if_pos h]; rfl
@[simp] theorem s_xops (k x : Nat) : evalCode C L fb (.xops k x [] is live) lb st = codeK live (evalOps C fb lb is st.rs st.h st.fl) := xops_of C L fb lb is st live (fun j hj => by simp at hj)
open Classical in
noncomputable def agreeK (live : List Nat) (p : Prop) (r : Option (Regs × Heap × Fl)) : Option (Ex × St) := if p then codeK live r else none
@[simp] theorem s_xopsc (k x j : Nat) (chk : List Nat) : evalCode C L fb (.xops k x (j :: chk) is live) lb st = agreeK live (agree C fb lb x (j :: chk) is st.rs st.h st.fl) (evalOps C fb lb is st.rs st.h st.fl) := by
  simp only [evalCode, agreeK]
  rcases evalOps C fb lb is st.rs st.h st.fl with _ | ⟨p, q, r⟩
  · simp [codeK]
  · rfl
def agV : Option (V × Heap × Fl) → Option (V × Heap × Fl) → Option (V × Heap × Fl) → Prop
  | some q, some a, some b => a.1 = q.1 ∧ b.1 = q.1
  | none, _, _ => True
  | _, _, _ => False
def agK (C : Callee) (fb lb : Nat) (h : Heap) : Option VI → Option (Regs × Heap × Fl) → Option (Regs × Heap × Fl) → Prop
  | some i, some (rj, hj, _), some (_, h1, _) => wanted rj i.guard = some true → agV (evalOp C fb lb rj hj i.op) (evalOp C fb lb rj h i.op) (evalOp C fb lb rj h1 i.op)
  | _, _, _ => True
@[simp] theorem s_agV (v v' v'' : V) (a a' a'' : Heap × Fl) : agV (some (v, a)) (some (v', a')) (some (v'', a'')) = (v' = v ∧ v'' = v) := rfl
@[simp] theorem s_agK (i : VI) (rj r1 : Regs) (hj h1 : Heap) (f f' : Fl) : agK C fb lb h (some i) (some (rj, hj, f)) (some (r1, h1, f')) = (wanted rj i.guard = some true → agV (evalOp C fb lb rj hj i.op) (evalOp C fb lb rj h i.op) (evalOp C fb lb rj h1 i.op)) := rfl
@[simp] theorem wanted_none : wanted rs none = some true := rfl
@[simp] theorem wanted_some (g : Nat) : wanted rs (some (g, b)) = wantedV b (get rs g) := rfl
@[simp] theorem agree1_eq (x j : Nat) : agree1 C fb lb x is rs h fl j = agK C fb lb h is[j]? (evalOps C fb lb (is.take j) rs h fl) (evalOps C fb lb (is.take (x + 1)) rs h fl) := by
  refine propext ⟨fun ha => ?_, fun ha => ?_⟩
  · cases hi : is[j]? with
    | none => exact trivial
    | some i =>
      rcases e1 : evalOps C fb lb (is.take j) rs h fl with _ | ⟨rj, hj, fj⟩
      · exact trivial
      · rcases e2 : evalOps C fb lb (is.take (x + 1)) rs h fl with _ | ⟨r1, h1, f1⟩
        · exact trivial
        · intro hw
          have := ha i hi rj hj fj e1 hw r1 h1 f1 e2
          rcases q : evalOp C fb lb rj hj i.op with _ | q'
          · exact trivial
          · obtain ⟨⟨a, a1, a2⟩, b, b1, b2⟩ := this q' q
            rw [a1, b1]
            exact ⟨a2, b2⟩
  · intro i hi rj hj fj e1 hw r1 h1 f1 e2 q hq
    rw [hi, e1, e2] at ha
    have := ha hw
    rw [hq] at this
    rcases a : evalOp C fb lb rj h i.op with _ | a' <;> rcases b : evalOp C fb lb rj h1 i.op with _ | b' <;> rw [a, b] at this
    · exact this.elim
    · exact this.elim
    · exact this.elim
    · exact ⟨⟨a', rfl, this.1⟩, b', rfl, this.2⟩
@[simp] theorem agree_nil (x : Nat) : agree C fb lb x [] is rs h fl = True := by simp [agree]
@[simp] theorem agree_cons (x j : Nat) (chk : List Nat) : agree C fb lb x (j :: chk) is rs h fl = (agree1 C fb lb x is rs h fl j ∧ agree C fb lb x chk is rs h fl) := by simp only [agree, List.mem_cons, forall_eq_or_imp]
@[simp] theorem agreeK_true (r : Option (Regs × Heap × Fl)) : agreeK live True r = codeK live r := by unfold agreeK; rw [if_pos trivial]
theorem agreeK_of {p : Prop} (h : p) (r : Option (Regs × Heap × Fl)) : agreeK live p r = codeK live r := by unfold agreeK; rw [if_pos h]
@[simp] theorem s_codeK : codeK live (some (rs, h, fl)) = some (.normal, ⟨keep rs live, h, fl⟩) := rfl
@[simp] theorem s_seq : evalCode C L fb (.seq c d) lb st = seqK C L fb lb d (evalCode C L fb c lb st) := by
  rw [code_seq]
  rcases evalCode C L fb c lb st with _ | ⟨x, st'⟩
  · rfl
  · cases x <;> rfl
@[simp] theorem s_seqK_n : seqK C L fb lb d (some (.normal, st)) = evalCode C L fb d lb st := rfl
@[simp] theorem s_seqK_e (j : Nat) : seqK C L fb lb d (some (.exit j, st)) = some (.exit j, st) := rfl
@[simp] theorem s_seqK_r : seqK C L fb lb d (some (.ret, st)) = some (.ret, st) := rfl
@[simp] theorem s_cond : evalCode C L fb (.cond a c d) lb st = condK C L fb lb c d st (a.val st.rs) := by
  rw [code_cond]
  cases a.val st.rs <;> try rfl
  rename_i t
  cases t <;> rfl
@[simp] theorem s_amb (z : VCode) (o : VCode) : evalCode C L fb (.amb o a c d z) lb st = ambK C L fb lb a c d z (evalCode C L fb o lb st) := by
  simp only [evalCode]
  rcases evalCode C L fb o lb st with _ | ⟨e, st'⟩
  · rfl
  · cases e
    · simp only [bnd_some, isNormal_normal, cnd_true, ambK]
      cases a.val st'.rs <;> try rfl
      · rename_i b
        cases b <;> rfl
      · show ambV .bb _ _ = bothK (evalCode C L fb (.seq c z) lb st') (evalCode C L fb (.seq d z) lb st')
        simp only [evalCode]
        generalize (bnd (evalCode C L fb c lb st') fun q => cnd q.1.isNormal (evalCode C L fb z lb q.2) (some q)) = p
        generalize (bnd (evalCode C L fb d lb st') fun q => cnd q.1.isNormal (evalCode C L fb z lb q.2) (some q)) = q
        cases p <;> cases q <;> simp [ambV, bothK]
    · rfl
    · rfl
@[simp] theorem s_ambK_n (z : VCode) : ambK C L fb lb a c d z (some (.normal, st)) = ambK2 C L fb lb c d z st (a.val st.rs) := rfl
@[simp] theorem s_ambK_e (z : VCode) (j : Nat) : ambK C L fb lb a c d z (some (.exit j, st)) = some (.exit j, st) := rfl
@[simp] theorem s_ambK_r (z : VCode) : ambK C L fb lb a c d z (some (.ret, st)) = some (.ret, st) := rfl
@[simp] theorem s_ambK2_t (z : VCode) : ambK2 C L fb lb c d z st (.bool true) = evalCode C L fb (.seq c z) lb st := rfl
@[simp] theorem s_ambK2_f (z : VCode) : ambK2 C L fb lb c d z st (.bool false) = evalCode C L fb (.seq d z) lb st := rfl
@[simp] theorem s_ambK2_b (z : VCode) : ambK2 C L fb lb c d z st .bb = bothK (evalCode C L fb (.seq c z) lb st) (evalCode C L fb (.seq d z) lb st) := rfl
@[simp] theorem s_bothK (r : Ex × St) : bothK (some r) (some r) = some r := by simp [bothK]
@[simp] theorem s_condK_t : condK C L fb lb c d st (.bool true) = evalCode C L fb c lb st := rfl
@[simp] theorem s_condK_f : condK C L fb lb c d st (.bool false) = evalCode C L fb d lb st := rfl
@[simp] theorem s_block (id : Nat) : evalCode C L fb (.block id c) lb st = blockK id (evalCode C L fb c lb st) := by
  rw [code_block]
  rcases evalCode C L fb c lb st with _ | ⟨x, st'⟩
  · rfl
  · cases x <;> try rfl
    rename_i j
    simp only [bnd_some, isExit_exit, blockK]
    cases decide (j = id) <;> rfl
@[simp] theorem s_blockK_n (id : Nat) : blockK id (some (.normal, st)) = some (.normal, st) := rfl
@[simp] theorem s_blockK_r (id : Nat) : blockK id (some (.ret, st)) = some (.ret, st) := rfl
@[simp] theorem s_blockK_e (id j : Nat) : blockK id (some (.exit j, st)) = some (cnd (decide (j = id)) .normal (.exit j), st) := rfl
noncomputable def gopK (C : Callee) (L : Looper) (fb lb : Nat) (y : VCode) : Option (Regs × Heap × Fl) → Option (Ex × St)
  | some (rs, h, fl) => evalCode C L fb y lb ⟨rs, h, fl⟩
  | none => none
@[simp] theorem s_gopK : gopK C L fb lb c (some (rs, h, fl)) = evalCode C L fb c lb ⟨rs, h, fl⟩ := rfl
@[simp] theorem s_gop : evalCode C L fb (.gop is c) lb st = gopK C L fb lb c (evalOps C fb lb is st.rs st.h st.fl) := by
  show bnd (evalOps C fb lb is st.rs st.h st.fl) _ = _
  cases evalOps C fb lb is st.rs st.h st.fl <;> rfl
@[simp] theorem s_exit (id : Nat) : evalCode C L fb (.exit id) lb st = some (.exit id, st) := rfl
@[simp] theorem s_ret : evalCode C L fb .ret lb st = some (.ret, st) := rfl
@[simp] theorem s_loop (own : List (Nat × Nat × Nat)) : evalCode C L fb (.loop live own c) lb st = loopRun C L fb live c st := rfl
theorem s_round : roundV C L fb live c st = endK st.h.length live st.fl.esc (evalCode C L fb c st.h.length ⟨st.rs, st.h, ⟨st.fl.wr, [], st.fl.all⟩⟩) := by
  unfold roundV
  rcases evalCode C L fb c st.h.length ⟨st.rs, st.h, ⟨st.fl.wr, [], st.fl.all⟩⟩ with _ | ⟨x, st'⟩
  · rfl
  · cases x <;> rfl
@[simp] theorem s_endK_n (es : List Nat) : endK n live es (some (.normal, st)) = some (.normal, clean n es (keep st.rs live) st) := rfl
@[simp] theorem s_endK_e (es : List Nat) (j : Nat) : endK n live es (some (.exit j, st)) = some (.exit j, ⟨st.rs, st.h, ⟨st.fl.wr, addE es st.fl.esc, st.fl.all⟩⟩) := rfl
@[simp] theorem s_endK_r (es : List Nat) : endK n live es (some (.ret, st)) = some (.ret, ⟨st.rs, st.h, ⟨st.fl.wr, addE es st.fl.esc, st.fl.all⟩⟩) := rfl
@[simp] theorem s_finK_n (res : List Res) : finK n res (some (.normal, st)) = bnd (resV st.rs st.h res) fun vs => some (finishV n st (one vs)) := rfl
@[simp] theorem s_finK_r (res : List Res) : finK n res (some (.ret, st)) = bnd (resV st.rs st.h res) fun vs => some (finishV n st (one vs)) := rfl
@[simp] theorem s_run (p : Nat) (res : List Res) (own : Option Nat) (xs : List V) : runV C L ⟨p, c, res, own⟩ xs h = cnd (decide (xs.length = p)) (finK h.length res (evalCode C L h.length c h.length ⟨initR xs 0, h, .no⟩)) none := by
  unfold runV
  congr 1
  rcases evalCode C L h.length c h.length ⟨initR xs 0, h, .no⟩ with _ | ⟨x, st'⟩
  · rfl
  · cases x <;> rfl
end

section
variable {C : Callee} {fb : Nat} {live : List Nat} {c : VCode} {s s' : St} {r : Ex × St}
theorem loop_next (h1 : roundV C loopL fb live c s = some (.normal, s')) (h2 : loopRun C loopL fb live c s' = some r) : loopRun C loopL fb live c s = some r := loopL_next h1 rfl h2
theorem loop_exit {j : Nat} (h1 : roundV C loopL fb live c s = some (.exit j, s')) : loopRun C loopL fb live c s = some (.exit j, s') := loopL_done h1 rfl
theorem loop_ret (h1 : roundV C loopL fb live c s = some (.ret, s')) : loopRun C loopL fb live c s = some (.ret, s') := loopL_done h1 rfl
end
end Go.Vm

/- Numbers: wraps. -/
set_option linter.unusedVariables false
set_option linter.unusedSimpArgs false
namespace Go.Vm
theorem wrap_i64 {n : Int} (h1 : -9223372036854775808 ≤ n) (h2 : n ≤ 9223372036854775807) : IntKind.wrap .i64 n = n := by
  show (if (true && decide (n % (18446744073709551616 : Int) ≥ (9223372036854775808 : Int))) = true then n % 18446744073709551616 - 18446744073709551616 else n % 18446744073709551616) = n
  simp only [Bool.true_and, decide_eq_true_eq]
  split <;> omega
theorem wrap_u64 {n : Int} (h1 : 0 ≤ n) (h2 : n ≤ 18446744073709551615) : IntKind.wrap .u64 n = n := by
  show (if (false && decide (n % (18446744073709551616 : Int) ≥ (9223372036854775808 : Int))) = true then n % 18446744073709551616 - 18446744073709551616 else n % 18446744073709551616) = n
  simp only [Bool.false_and, Bool.false_eq_true, if_false]
  omega
theorem and_one (n : Int) : bitsV .u64 (BitVec.ofInt IntKind.u64.bits n &&& BitVec.ofInt IntKind.u64.bits 1) = .int .u64 (n % 2) := by
  show V.int .u64 (IntKind.wrap .u64 ((BitVec.ofInt 64 n &&& BitVec.ofInt 64 1).toNat : Nat)) = .int .u64 (n % 2)
  congr 1
  have h1 : (BitVec.ofInt 64 1).toNat = 1 := rfl
  rw [BitVec.toNat_and, h1, Nat.and_one_is_mod, BitVec.toNat_ofInt, wrap_u64] <;> omega
@[simp high] theorem bin_and1 (ek : EK) (n : Int) : binV .and ek (.int .u64 n) (.int .u64 1) = some (.int .u64 (n % 2)) := by rw [bin_and, and_one]
end Go.Vm

/- The program's data as plain structures, and how they lie in the V-machine. No function of the program in sight. -/
set_option linter.unusedVariables false
set_option linter.unusedSimpArgs false
namespace Go.Vm

def I64 (n : Int) : Prop := -9223372036854775808 ≤ n ∧ n ≤ 9223372036854775807
def bytesV (b : List UInt8) : V := .sl (b.map byteV)
@[simp] theorem byteV_flat (b : UInt8) : (byteV b).flat = [byteV b] := rfl
@[simp] theorem byteV_pure (b : UInt8) : (byteV b).pure = true := rfl
@[simp] theorem byteV_pureCell (b : UInt8) : (byteV b).pureCell = true := rfl
@[simp] theorem byteV_cell (b : UInt8) : (byteV b).isCell = true := rfl
@[simp] theorem byteV_lt (n : Nat) (b : UInt8) : (byteV b).lt n = true := by simp [byteV]
@[simp] theorem sizeOk_bytes (b : List UInt8) : sizeOk 1 (b.map byteV) = true := by cases b <;> simp
@[simp] theorem bytesOf_map (b : List UInt8) : bytesOf (b.map byteV) = some b := by
  induction b with
  | nil => rfl
  | cons x xs ih =>
    have : UInt8.ofNat ((x.toNat : Int).toNat) = x := by simp
    simp [bytesOf, byteV, ih]

structure Dot where
  node : Int
  n : Int
  deriving DecidableEq
def Dot.c (d : Dot) : List V := [.int .i64 d.node, .int .i64 d.n]
abbrev Dot.v (d : Dot) : V := .agg d.c
def Dot.Wf (d : Dot) : Prop := I64 d.node ∧ I64 d.n
namespace Dot
variable (d : Dot)
@[simp] theorem c_len : d.c.length = 2 := rfl
@[simp] theorem c_cell : d.c.all V.isCell = true := rfl
@[simp] theorem c_pure : d.c.all V.pureCell = true := rfl
@[simp] theorem c_lt (n : Nat) : V.ltL n d.c = true := by simp [Dot.c]
@[simp] theorem c_take : d.c.take 2 = d.c := rfl
@[simp] theorem c_drop : d.c.drop 2 = [] := rfl
@[simp] theorem c0 : d.c[0]? = some (.int .i64 d.node) := rfl
@[simp] theorem c1 : d.c[1]? = some (.int .i64 d.n) := rfl
@[simp] theorem v_flat : d.v.flat = d.c := rfl
@[simp] theorem v_lt (n : Nat) : d.v.lt n = true := by simp [Dot.v]
@[simp] theorem v_pure : d.v.pure = true := rfl
theorem eq_cells (e : Dot) : cellsEq [.i, .i] d.c e.c = some (decide (d = e)) := by
  obtain ⟨a, b⟩ := d; obtain ⟨x, y⟩ := e
  simp [Dot.c]
  by_cases h : a = x <;> by_cases h' : b = y <;> simp [h, h']
end Dot
@[simp] theorem bin_dot_eql (d e : Dot) : binV .eql (.agg [.i, .i]) d.v e.v = some (.bool (decide (d = e))) := by simp [Dot.v, Dot.eq_cells]
@[simp] theorem bin_dot_neq (d e : Dot) : binV .neq (.agg [.i, .i]) d.v e.v = some (.bool (!decide (d = e))) := by simp [Dot.v, Dot.eq_cells]

structure Vec where
  l : List Int
  h : l.length = 8
  deriving DecidableEq
def Vec.c (v : Vec) : List V := v.l.map (.int .i64)
abbrev Vec.v (v : Vec) : V := .agg v.c
def Vec.Wf (v : Vec) : Prop := ∀ n ∈ v.l, I64 n
namespace Vec
variable (v : Vec)
@[simp] theorem l_len : v.l.length = 8 := v.h
@[simp] theorem c_len : v.c.length = 8 := by simp [Vec.c]
@[simp] theorem c_cell : v.c.all V.isCell = true := by simp [Vec.c]
@[simp] theorem c_pure : v.c.all V.pureCell = true := by simp [Vec.c]
@[simp] theorem c_lt (n : Nat) : V.ltL n v.c = true := by simp [Vec.c]
@[simp] theorem c_take : v.c.take 8 = v.c := List.take_of_length_le (by simp)
@[simp] theorem c_drop : v.c.drop 8 = [] := List.drop_of_length_le (by simp)
@[simp] theorem ca_take (xs : List V) : (v.c ++ xs).take 8 = v.c := List.take_left' (by simp)
@[simp] theorem ca_drop (xs : List V) : (v.c ++ xs).drop 8 = xs := List.drop_left' (by simp)
@[simp] theorem ca_get (x : V) : (v.c ++ [x])[8]? = some x := by rw [List.getElem?_append_right (by simp)]; simp
@[simp] theorem ca_set (x y : V) : (v.c ++ [x]).set 8 y = v.c ++ [y] := by rw [List.set_append_right _ _ (by simp)]; simp
@[simp] theorem v_flat : v.v.flat = v.c := rfl
@[simp] theorem v_lt (n : Nat) : v.v.lt n = true := by simp [Vec.v]
@[simp] theorem v_pure : v.v.pure = true := by simp [Vec.v]
theorem eq_ints : ∀ (a b : List Int), a.length = b.length → cellsEq (a.map fun _ => SK.i) (a.map (V.int .i64)) (b.map (V.int .i64)) = some (decide (a = b))
  | [], [], _ => rfl
  | x :: a, y :: b, h => by
    simp at h
    simp [eq_ints a b h]
    by_cases h1 : x = y <;> by_cases h2 : a = b <;> simp [h1, h2]
theorem ext_l {a b : Vec} (h : a.l = b.l) : a = b := by cases a; cases b; simp at h; subst h; rfl
theorem l_inj {a b : Vec} : a.l = b.l ↔ a = b := ⟨ext_l, fun h => h ▸ rfl⟩
theorem eq_cells (a b : Vec) : cellsEq [.i, .i, .i, .i, .i, .i, .i, .i] a.c b.c = some (decide (a = b)) := by
  have h := eq_ints a.l b.l (by simp)
  have e : (a.l.map fun _ => SK.i) = [.i, .i, .i, .i, .i, .i, .i, .i] := by
    rw [List.map_const', a.h]; rfl
  rw [e] at h
  unfold Vec.c
  rw [h]
  congr 1
  simp [l_inj]
end Vec
@[simp] theorem bin_vec_eql (d e : Vec) : binV .eql (.agg [.i, .i, .i, .i, .i, .i, .i, .i]) d.v e.v = some (.bool (decide (d = e))) := by simp [Vec.v, Vec.eq_cells]
@[simp] theorem bin_vec_neq (d e : Vec) : binV .neq (.agg [.i, .i, .i, .i, .i, .i, .i, .i]) d.v e.v = some (.bool (!decide (d = e))) := by simp [Vec.v, Vec.eq_cells]

structure Val where
  dot : Dot
  data : List UInt8
  dead : Bool
  deriving DecidableEq
def Val.c (v : Val) : List V := [.int .i64 v.dot.node, .int .i64 v.dot.n, bytesV v.data, .bool v.dead]
abbrev Val.v (v : Val) : V := .agg v.c
def Val.Wf (v : Val) : Prop := v.dot.Wf ∧ v.data.length ≤ reachLen
namespace Val
variable (v : Val)
@[simp] theorem c_len : v.c.length = 4 := rfl
@[simp] theorem c_cell : v.c.all V.isCell = true := rfl
@[simp] theorem c_pure : v.c.all V.pureCell = true := rfl
@[simp] theorem c_lt (n : Nat) : V.ltL n v.c = true := by simp [Val.c, bytesV]
@[simp] theorem c_take : v.c.take 4 = v.c := rfl
@[simp] theorem c_drop : v.c.drop 4 = [] := rfl
@[simp] theorem c_dot : v.c.take 2 = v.dot.c := rfl
@[simp] theorem c0 : v.c[0]? = some (.int .i64 v.dot.node) := rfl
@[simp] theorem c1 : v.c[1]? = some (.int .i64 v.dot.n) := rfl
@[simp] theorem c2 : v.c[2]? = some (.sl (v.data.map byteV)) := rfl
@[simp] theorem c3 : v.c[3]? = some (.bool v.dead) := rfl
@[simp] theorem v_flat : v.v.flat = v.c := rfl
@[simp] theorem v_lt (n : Nat) : v.v.lt n = true := by simp [Val.v]
@[simp] theorem v_pure : v.v.pure = true := rfl
end Val
structure Sib where
  seen : Vec
  vals : List Val
  deriving DecidableEq
def Sib.c (s : Sib) : List V := s.seen.c ++ [.sl (s.vals.map Val.v)]
abbrev Sib.v (s : Sib) : V := .agg s.c
def Sib.Wf (s : Sib) : Prop := s.seen.Wf ∧ s.vals.length ≤ reachLen ∧ ∀ v ∈ s.vals, v.Wf
namespace Sib
variable (s : Sib)
@[simp] theorem c_len : s.c.length = 9 := by simp [Sib.c]
@[simp] theorem c_cell : s.c.all V.isCell = true := by rw [Sib.c, List.all_append, Vec.c_cell]; rfl
@[simp] theorem c_pure : s.c.all V.pureCell = true := by rw [Sib.c, List.all_append, Vec.c_pure]; rfl
theorem ltL_append (n : Nat) : ∀ (xs ys : List V), V.ltL n (xs ++ ys) = (V.ltL n xs && V.ltL n ys)
  | [], ys => by simp
  | x :: xs, ys => by simp [ltL_append n xs ys, Bool.and_assoc]
@[simp] theorem c_lt (n : Nat) : V.ltL n s.c = true := by simp [Sib.c, ltL_append]
@[simp] theorem c_take : s.c.take 9 = s.c := List.take_of_length_le (by simp)
@[simp] theorem c_drop : s.c.drop 9 = [] := List.drop_of_length_le (by simp)
@[simp] theorem c_seen : s.c.take 8 = s.seen.c := by simp [Sib.c]
@[simp] theorem c8 : s.c[8]? = some (.sl (s.vals.map Val.v)) := by simp [Sib.c]
@[simp] theorem c_set8 (l : List Val) : s.c.set 8 (.sl (l.map Val.v)) = Sib.c ⟨s.seen, l⟩ := by simp [Sib.c]
@[simp] theorem v_flat : s.v.flat = s.c := rfl
@[simp] theorem v_lt (n : Nat) : s.v.lt n = true := by simp [Sib.v]
@[simp] theorem v_pure : s.v.pure = true := by simp [Sib.v]
end Sib
@[simp] theorem sizeOk_vals (l : List Val) : sizeOk 4 (l.map Val.v) = true := by cases l <;> simp
@[simp] theorem sizeOk_dots (l : List Dot) : sizeOk 2 (l.map Dot.v) = true := by cases l <;> simp
structure Ent where
  key : List UInt8
  sib : Sib
  deriving DecidableEq
def Ent.c (e : Ent) : List V := .str e.key :: e.sib.c
abbrev Ent.v (e : Ent) : V := .agg e.c
def Ent.Wf (e : Ent) : Prop := e.key.length ≤ reachLen ∧ e.sib.Wf
namespace Ent
variable (e : Ent)
@[simp] theorem c_len : e.c.length = 10 := by simp [Ent.c]
@[simp] theorem c_cell : e.c.all V.isCell = true := by rw [Ent.c, List.all_cons, Sib.c_cell]; rfl
@[simp] theorem c_pure : e.c.all V.pureCell = true := by rw [Ent.c, List.all_cons, Sib.c_pure]; rfl
@[simp] theorem c_lt (n : Nat) : V.ltL n e.c = true := by simp [Ent.c]
@[simp] theorem c_take : e.c.take 10 = e.c := List.take_of_length_le (by simp)
@[simp] theorem c_drop : e.c.drop 10 = [] := List.drop_of_length_le (by simp)
@[simp] theorem c0 : e.c[0]? = some (.str e.key) := rfl
@[simp] theorem c9 : e.c[9]? = some (.sl (e.sib.vals.map Val.v)) := Sib.c8 _
@[simp] theorem c_drop1 : e.c.drop 1 = e.sib.c := rfl
@[simp] theorem c_tail : e.c.tail = e.sib.c := rfl
@[simp] theorem c_set9 (l : List Val) : e.c.set 9 (.sl (l.map Val.v)) = Ent.c ⟨e.key, ⟨e.sib.seen, l⟩⟩ := by simp [Ent.c]
@[simp] theorem v_flat : e.v.flat = e.c := rfl
@[simp] theorem v_lt (n : Nat) : e.v.lt n = true := by simp [Ent.v]
@[simp] theorem v_pure : e.v.pure = true := by simp [Ent.v]
end Ent
@[simp] theorem sizeOk_ents (l : List Ent) : sizeOk 10 (l.map Ent.v) = true := by cases l <;> simp
structure Dig where
  key : List UInt8
  seen : Vec
  dots : List Dot
  deriving DecidableEq
def Dig.c (d : Dig) : List V := .str d.key :: (d.seen.c ++ [.sl (d.dots.map Dot.v)])
abbrev Dig.v (d : Dig) : V := .agg d.c
def Dig.Wf (d : Dig) : Prop := d.key.length ≤ reachLen ∧ d.seen.Wf ∧ d.dots.length ≤ reachLen ∧ ∀ x ∈ d.dots, x.Wf
namespace Dig
variable (d : Dig)
@[simp] theorem c_len : d.c.length = 10 := by simp [Dig.c]
@[simp] theorem c_cell : d.c.all V.isCell = true := by rw [Dig.c, List.all_cons, List.all_append, Vec.c_cell]; rfl
@[simp] theorem c_pure : d.c.all V.pureCell = true := by rw [Dig.c, List.all_cons, List.all_append, Vec.c_pure]; rfl
@[simp] theorem c_lt (n : Nat) : V.ltL n d.c = true := by simp [Dig.c, Sib.ltL_append]
@[simp] theorem c_take : d.c.take 10 = d.c := List.take_of_length_le (by simp)
@[simp] theorem c_drop : d.c.drop 10 = [] := List.drop_of_length_le (by simp)
@[simp] theorem c0 : d.c[0]? = some (.str d.key) := rfl
@[simp] theorem c9 : d.c[9]? = some (.sl (d.dots.map Dot.v)) := by simp [Dig.c]
@[simp] theorem c_seen : (d.c.drop 1).take 8 = d.seen.c := by simp [Dig.c]
@[simp] theorem c_seen' : d.c.tail.take 8 = d.seen.c := by simp [Dig.c]
@[simp] theorem v_flat : d.v.flat = d.c := rfl
@[simp] theorem v_lt (n : Nat) : d.v.lt n = true := by simp [Dig.v]
@[simp] theorem v_pure : d.v.pure = true := by simp [Dig.v]
end Dig
@[simp] theorem sizeOk_digs (l : List Dig) : sizeOk 10 (l.map Dig.v) = true := by cases l <;> simp

def dotT : Ty := .st (.cons (.int .i64) (.cons (.int .i64) .nil))
def bytT : Ty := .sl (.int .u8)
def vecT : Ty := .arr 8 (.int .i64)
def valT : Ty := .st (.cons dotT (.cons bytT (.cons .bool .nil)))
def sibT : Ty := .st (.cons vecT (.cons (.sl valT) .nil))
def entT : Ty := .st (.cons .str (.cons sibT .nil))
def digT : Ty := .st (.cons .str (.cons vecT (.cons (.sl dotT) .nil)))
end Go.Vm

/- Loops over so many rounds; one that may end early. -/
set_option linter.unusedVariables false
set_option linter.unusedSimpArgs false
namespace Go.Vm
section
variable {C : Callee} {fb : Nat} {live : List Nat} {c : VCode}
theorem loop_done {s : St} {r : Ex × St} (h1 : roundV C loopL fb live c s = some r) (hr : r.1.isNormal = false) : loopRun C loopL fb live c s = some r := by
  obtain ⟨e, s'⟩ := r
  cases e with
  | normal => cases hr
  | exit j => exact loop_exit h1
  | ret => exact loop_ret h1
theorem loop_from (S : Nat → St) (m : Nat) (hstep : ∀ j, j < m → roundV C loopL fb live c (S j) = some (.normal, S (j + 1))) {r : Ex × St} (hend : roundV C loopL fb live c (S m) = some r) (hr : r.1.isNormal = false) :
    ∀ (k j : Nat), j + k = m → loopRun C loopL fb live c (S j) = some r := by
  intro k
  induction k with
  | zero =>
    intro j hj
    have : j = m := by omega
    subst this
    exact loop_done hend hr
  | succ k ih => intro j hj; exact loop_next (hstep j (by omega)) (ih (j + 1) (by omega))
theorem loop_to (S : Nat → St) (m : Nat) (hstep : ∀ j, j < m → roundV C loopL fb live c (S j) = some (.normal, S (j + 1))) {r : Ex × St} (hend : roundV C loopL fb live c (S m) = some r) (hr : r.1.isNormal = false) :
    loopRun C loopL fb live c (S 0) = some r := loop_from S m hstep hend hr m 0 (by omega)
theorem loop_scan (S : Nat → St) (n : Nat) (p : Nat → Bool) (rE : Ex × St) (rX : Nat → Ex × St) (hstep : ∀ j, j < n → p j = true → roundV C loopL fb live c (S j) = some (.normal, S (j + 1)))
    (hstop : ∀ j, j < n → p j = false → roundV C loopL fb live c (S j) = some (rX j)) (hX : ∀ j, (rX j).1.isNormal = false) (hend : roundV C loopL fb live c (S n) = some rE) (hE : rE.1.isNormal = false) :
    ((∀ j, j < n → p j = true) ∧ loopRun C loopL fb live c (S 0) = some rE) ∨ ∃ j, j < n ∧ p j = false ∧ (∀ i, i < j → p i = true) ∧ loopRun C loopL fb live c (S 0) = some (rX j) := by
  by_cases hall : ∀ j, j < n → p j = true
  · exact .inl ⟨hall, loop_to S n (fun j hj => hstep j hj (hall j hj)) hend hE⟩
  · have key : ∀ m, (∀ i, i < m → p i = true) ∨ ∃ j, j < m ∧ p j = false ∧ ∀ i, i < j → p i = true := by
      intro m
      induction m with
      | zero => exact .inl fun i hi => by omega
      | succ m ih =>
        rcases ih with h1 | ⟨j, h1, h2, h3⟩
        · cases hp : p m
          · exact .inr ⟨m, by omega, hp, h1⟩
          · exact .inl fun i hi => by
              rcases Nat.lt_or_ge i m with h2 | h2
              · exact h1 i h2
              · have : i = m := by omega
                subst this; exact hp
        · exact .inr ⟨j, by omega, h2, h3⟩
    rcases key n with h1 | ⟨j, h1, h2, h3⟩
    · exact absurd h1 hall
    · exact .inr ⟨j, h1, h2, h3, loop_to S j (fun i hi => hstep i (by omega) (h3 i hi)) (hstop j h1 h2) (hX j)⟩
end
def getB {α : Type} (l : List α) (f : α → Bool) (j : Nat) : Bool :=
  match l[j]? with
  | some x => f x
  | none => true
theorem getB_at {α : Type} {l : List α} {f : α → Bool} {j : Nat} {x : α} (h : l[j]? = some x) : getB l f j = f x := by unfold getB; rw [h]
end Go.Vm

/- Lists of structs as the cells of one object. -/
set_option linter.unusedVariables false
set_option linter.unusedSimpArgs false
namespace Go.Vm
section
variable {α : Type} {c : α → List V} {z : Nat} (hc : ∀ x, (c x).length = z)
include hc
theorem flat_len (l : List α) : (l.flatMap c).length = l.length * z := by
  induction l with
  | nil => simp
  | cons x l ih => rw [List.flatMap_cons, List.length_append, hc, ih, List.length_cons, Nat.add_mul, Nat.one_mul, Nat.add_comm]
theorem flat_chunks (hz : 0 < z) (l : List α) : chunks true z l.length (l.flatMap c) = l.map fun x => V.agg (c x) := by
  induction l with
  | nil => rfl
  | cons x l ih =>
    have h1 := hc x
    simp only [List.length_cons, chunks, cnd_true, List.flatMap_cons, List.map_cons]
    rw [List.take_append_of_le_length (by omega), List.take_of_length_le (by omega), ← h1, List.drop_left, h1, ih]
omit hc in
theorem flat_pure (hp : ∀ x, (c x).all V.pureCell = true) (l : List α) : (l.flatMap c).all V.pureCell = true := by
  simp only [List.all_eq_true, List.mem_flatMap] at hp ⊢
  rintro y ⟨x, _, hy⟩
  exact hp x y hy
omit hc in
theorem flat_lt {n : Nat} (hp : ∀ x, V.ltL n (c x) = true) (l : List α) : V.ltL n (l.flatMap c) = true := by
  induction l with
  | nil => simp
  | cons x l ih => rw [List.flatMap_cons, Sib.ltL_append, hp, ih]; rfl
omit hc in
theorem flat_mapl (l : List α) : (l.map fun x => V.agg (c x)).flatMap V.flat = l.flatMap c := by
  induction l with
  | nil => rfl
  | cons x l ih => rw [List.map_cons, List.flatMap_cons, List.flatMap_cons, ih]; rfl
end
@[simp] theorem flat_ents (l : List Ent) : (l.map Ent.v).flatMap V.flat = l.flatMap Ent.c := flat_mapl l
@[simp] theorem flat_vals (l : List Val) : (l.map Val.v).flatMap V.flat = l.flatMap Val.c := flat_mapl l
@[simp] theorem flat_dots (l : List Dot) : (l.map Dot.v).flatMap V.flat = l.flatMap Dot.c := flat_mapl l
@[simp] theorem flat_ents_len (l : List Ent) : (l.flatMap Ent.c).length = l.length * 10 := flat_len (fun x => Ent.c_len x) l
@[simp] theorem flat_vals_len (l : List Val) : (l.flatMap Val.c).length = l.length * 4 := flat_len (fun x => Val.c_len x) l
@[simp] theorem flat_dots_len (l : List Dot) : (l.flatMap Dot.c).length = l.length * 2 := flat_len (fun x => Dot.c_len x) l
@[simp] theorem flat_ents_pure (l : List Ent) : (l.flatMap Ent.c).all V.pureCell = true := flat_pure (fun x => Ent.c_pure x) l
@[simp] theorem flat_vals_pure (l : List Val) : (l.flatMap Val.c).all V.pureCell = true := flat_pure (fun x => Val.c_pure x) l
@[simp] theorem flat_dots_pure (l : List Dot) : (l.flatMap Dot.c).all V.pureCell = true := flat_pure (fun x => Dot.c_pure x) l
@[simp] theorem flat_ents_lt (n : Nat) (l : List Ent) : V.ltL n (l.flatMap Ent.c) = true := flat_lt (fun x => Ent.c_lt x n) l
@[simp] theorem flat_vals_lt (n : Nat) (l : List Val) : V.ltL n (l.flatMap Val.c) = true := flat_lt (fun x => Val.c_lt x n) l
@[simp] theorem flat_dots_lt (n : Nat) (l : List Dot) : V.ltL n (l.flatMap Dot.c) = true := flat_lt (fun x => Dot.c_lt x n) l
@[simp] theorem chunks_ents (l : List Ent) (n : Nat) (hn : n = l.length) : chunks true 10 n (l.flatMap Ent.c) = l.map Ent.v := by subst hn; exact flat_chunks (fun x => Ent.c_len x) (by omega) l
@[simp] theorem chunks_vals (l : List Val) (n : Nat) (hn : n = l.length) : chunks true 4 n (l.flatMap Val.c) = l.map Val.v := by subst hn; exact flat_chunks (fun x => Val.c_len x) (by omega) l
@[simp] theorem chunks_dots (l : List Dot) (n : Nat) (hn : n = l.length) : chunks true 2 n (l.flatMap Dot.c) = l.map Dot.v := by subst hn; exact flat_chunks (fun x => Dot.c_len x) (by omega) l
end Go.Vm

/- Sorting a list that is its register's alone: what is rested on is the library's contract of 'slices.SortFunc'. -/
set_option linter.unusedVariables false
set_option linter.unusedSimpArgs false
namespace Go.Vm
open Go.Sort Go.Proofs

def ltK (p q : Int × Int) : Bool := decide (p.1 < q.1) || (decide (p.1 = q.1) && decide (p.2 < q.2))
def cmpK (p q : Int × Int) : Int := if ltK p q = true then -1 else if ltK q p = true then 1 else 0
def keyV : V → Option (Int × Int)
  | .agg (.int .i64 a :: .int .i64 b :: _) => some (a, b)
  | _ => none
def lessV (x y : V) : Bool := match keyV x, keyV y with
  | some p, some q => ltK p q
  | _, _ => false
def insV (x : V) : List V → List V
  | [] => [x]
  | y :: ys => cnd (lessV x y) (x :: y :: ys) (y :: insV x ys)
def sortL : List V → List V
  | [] => []
  | x :: xs => insV x (sortL xs)
def distV : List V → Bool
  | [] => true
  | x :: xs => (keyV x).isSome && ((xs.all fun y => !decide (keyV x = keyV y)) && distV xs)
def sortV (xs args : List V) : Option (List V) := match args with
  | [] => cnd (distV xs && decide (xs.length < 4611686018427387904)) (some (sortL xs)) none
  | _ :: _ => none
structure El where
  a : Int
  b : Int
  c : Value
  d : Value
  hc : c.oneCell' = true
  hd : d.oneCell' = true
instance : Inhabited El := ⟨⟨0, 0, .bool false, .bool false, rfl, rfl⟩⟩
def El.enc (x : El) : List Value := [.int .i64 x.a, .int .i64 x.b, x.c, x.d]
def El.key (x : El) : Int × Int := (x.a, x.b)
def El.cf (x y : El) : Int := cmpK x.key y.key
theorem El.enc_len (x : El) : x.enc.length = 4 := rfl
theorem El.enc_one (x : El) : ∀ v ∈ x.enc, v.oneCell' = true := by
  intro v hv
  simp only [El.enc, List.mem_cons, List.not_mem_nil, or_false] at hv
  rcases hv with rfl | rfl | rfl | rfl
  · rfl
  · rfl
  · exact x.hc
  · exact x.hd
theorem CR.one {m : Imm} {u : Value} {v : V} (h : CR m u v) : u.oneCell' = true := CRs.oneCells (us := [u]) (vs := [v]) (.cons h .nil) u (by simp)
theorem world_ext {w w' : World} (h1 : w'.heap = w.heap) (h2 : w'.tape = w.tape) (h3 : w'.drawn = w.drawn) (h4 : w'.os = w.os) (h5 : w'.output = w.output) : w' = w := by
  cases w; cases w'; simp at *; exact ⟨h1, h2, h3, h4, h5⟩
section
variable {P : Program} {R : Nat → Option Nat} {ρ : Go.Shelf.Ren}
def CmpAll (P : Program) (gf : Nat) : Prop := ∀ (W : World) (x y : El), Calls P gf #[.agg x.enc.toArray, .agg y.enc.toArray] W fun e w' => e = .returned (.int .i64 (El.cf x y)) ∧ ∃ q os', w' = grow (W.drewN q) os'
end
end Go.Vm

/- 'internal/bytealg.Compare', which the model itself answers. -/
set_option linter.unusedVariables false
set_option linter.unusedSimpArgs false
namespace Go.Vm

def compareP : List V → Heap → Option (V × Heap × Fl)
  | [.sl xs, .sl ys], h => bnd (bytesOf xs) fun a => bnd (bytesOf ys) fun b => some (.int .i64 (Lib.compareBytes a b), h, .no)
  | _, _ => none
section
variable {P : Program} {R : Nat → Option Nat} {h : Heap} {g : Gh} {w : World}
abbrev Prim := List V → Heap → Option (V × Heap × Fl)
def primFn : List (Nat × Prim) → Nat → Option Prim
  | [], _ => none
  | (k, p) :: l, f => cnd (decide (f = k)) (some p) (primFn l f)
def PrimsOk (P : Program) (R : Nat → Option Nat) : List (Nat × Prim) → Prop
  | [] => True
  | (f, p) :: l => PrimOk P R f p ∧ PrimsOk P R l
theorem prims_ok : ∀ {l : List (Nat × Prim)} {f : Nat} {p : Prim}, PrimsOk P R l → primFn l f = some p → PrimOk P R f p
  | [], f, p, _, h => by cases h
  | (k, x) :: l, f, p, ⟨h1, h2⟩, h => by
    simp only [primFn] at h
    cases hd : decide (f = k) <;> rw [hd] at h
    · exact prims_ok h2 h
    · cases h
      cases of_decide_eq_true hd
      exact h1
theorem env_prims {l : List (Nat × VFun)} {ps : List (Nat × Prim)} (hm : P.follows .mixedOrders = true) (hc : PrimsOk P R ps) (h : TabOk P R l) : EnvOk P R ⟨tabFn l, primFn ps⟩ :=
  ⟨hm, fun _ _ _ hf => tab_ok h hf, fun f p hf => prims_ok hc hf⟩
theorem prim_env {R0 : Nat → Option Nat} {E0 : Env} (h0 : EnvOk P R0 E0) (hT : Tracks R → Tracks R0) {f : Nat} (hR : R f = R0 f) : PrimOk P R f (callL E0 f) := fun vargs h r hr g w uargs hp hargs => by
  have h1 := call_sound h0 f vargs h r hr g w uargs hp hargs
  have cp : ∀ u w', CallPost (calleeCx (Dt := Tracks R0) h g w) h (R0 f) r u w' → CallPost (calleeCx (Dt := Tracks R) h g w) h (R f) r u w' := fun u w' ⟨g', hW, hG, hO, hv, hres⟩ =>
    ⟨g', ⟨hW.os, hW.tape, hW.out, fun d => hW.drn (hT d), hW.hsz, hW.old, hW.wr⟩, ⟨hG.hr, hG.ge, hG.immW, hG.fbl, hG.lbh, hG.muOld, hG.dom, hG.dome, hG.muW, hG.new, hG.inj, hG.muimm, hG.low⟩,
      ⟨hO.own, hO.blk, hO.dis, hO.cont, hO.contc⟩, hv, fun sz hs => hres sz (hR ▸ hs)⟩
  rcases h1 with ⟨h2, h3⟩ | ⟨u, w', h2, h3⟩
  · exact .inl ⟨h2, h3.mono fun e w' ⟨u, he, hq⟩ => ⟨u, he, cp u w' hq⟩⟩
  · exact .inr ⟨u, w', h2, cp u w' h3⟩
end
end Go.Vm

