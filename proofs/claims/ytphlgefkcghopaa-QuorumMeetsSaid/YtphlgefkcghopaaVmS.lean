/- The V-machine's steps as equations for simp, one for each shape: nothing is tried that does not fit. -/
import Derived.Test.YtphlgefkcghopaaVmE2
set_option linter.unusedVariables false
set_option linter.unusedSimpArgs false
namespace Go.Vm
section
variable (b c : Bool) (k k' : IntKind) (n m : Int) (s t : List UInt8) (a : Option (Nat × Nat)) (i o : Nat) (cs ds xs ys : List V) (f g : Nat) (ek : EK) (x y : V)
@[simp] theorem flat_bool : V.flat (.bool b) = [.bool b] := rfl
@[simp] theorem flat_int : V.flat (.int k n) = [.int k n] := rfl
@[simp] theorem flat_str : V.flat (.str s) = [.str s] := rfl
@[simp] theorem flat_ptr : V.flat (.ptr a) = [.ptr a] := rfl
@[simp] theorem flat_ro : V.flat (.ro cs) = [.ro cs] := rfl
@[simp] theorem flat_sl : V.flat (.sl cs) = [.sl cs] := rfl
@[simp] theorem flat_map (q : Option Nat) : V.flat (.map q) = [.map q] := rfl
@[simp] theorem flat_fn : V.flat (.fn f cs ds) = [.fn f cs ds] := rfl
@[simp] theorem flat_nofn : V.flat .nofn = [.nofn] := rfl
@[simp] theorem flat_aggs : V.flat (.agg cs) = cs := rfl
@[simp] theorem cell_bool : V.isCell (.bool b) = true := rfl
@[simp] theorem cell_int : V.isCell (.int k n) = true := rfl
@[simp] theorem cell_str : V.isCell (.str s) = true := rfl
@[simp] theorem cell_ptr : V.isCell (.ptr a) = true := rfl
@[simp] theorem cell_ro : V.isCell (.ro cs) = true := rfl
@[simp] theorem cell_sl : V.isCell (.sl cs) = true := rfl
@[simp] theorem cell_map (q : Option Nat) : V.isCell (.map q) = true := rfl
@[simp] theorem cell_fn : V.isCell (.fn f cs ds) = true := rfl
@[simp] theorem cell_nofn : V.isCell .nofn = true := rfl
@[simp] theorem pureCell_bool : V.pureCell (.bool b) = true := rfl
@[simp] theorem pureCell_int : V.pureCell (.int k n) = true := rfl
@[simp] theorem pureCell_str : V.pureCell (.str s) = true := rfl
@[simp] theorem pureCell_sl : V.pureCell (.sl cs) = true := rfl
@[simp] theorem pureCell_nil : V.pureCell (.ptr none) = true := rfl
@[simp] theorem pureCell_nomap : V.pureCell (.map none) = true := rfl
@[simp] theorem pureCell_nofn : V.pureCell .nofn = true := rfl
@[simp] theorem pure_bool : V.pure (.bool b) = true := rfl
@[simp] theorem pure_int : V.pure (.int k n) = true := rfl
@[simp] theorem pure_str : V.pure (.str s) = true := rfl
@[simp] theorem pure_sl : V.pure (.sl cs) = true := rfl
@[simp] theorem pure_agg : V.pure (.agg cs) = cs.all V.pureCell := rfl
@[simp] theorem lt_bool (q : Nat) : V.lt q (.bool b) = true := by simp [V.lt]
@[simp] theorem lt_int (q : Nat) : V.lt q (.int k n) = true := by simp [V.lt]
@[simp] theorem lt_str (q : Nat) : V.lt q (.str s) = true := by simp [V.lt]
@[simp] theorem lt_sl (q : Nat) : V.lt q (.sl cs) = true := by simp [V.lt]
@[simp] theorem lt_ro (q : Nat) : V.lt q (.ro cs) = true := by simp [V.lt]
@[simp] theorem lt_nil (q : Nat) : V.lt q (.ptr none) = true := by simp [V.lt]
@[simp] theorem lt_ptr (q : Nat) : V.lt q (.ptr (some (i, o))) = decide (i < q) := by simp [V.lt]
@[simp] theorem lt_nomap (q : Nat) : V.lt q (.map none) = true := by simp [V.lt]
@[simp] theorem lt_map (q : Nat) : V.lt q (.map (some i)) = decide (i < q) := by simp [V.lt]
@[simp] theorem lt_nofn (q : Nat) : V.lt q .nofn = true := by simp [V.lt]
@[simp] theorem lt_undef (q : Nat) : V.lt q .undef = true := by simp [V.lt]
@[simp] theorem lt_top (q : Nat) : V.lt q .top = true := by simp [V.lt]
@[simp] theorem lt_fn (q : Nat) : V.lt q (.fn f cs ds) = (V.ltL q cs && V.ltL q ds) := by simp [V.lt]
@[simp] theorem lt_agg (q : Nat) : V.lt q (.agg cs) = V.ltL q cs := by simp [V.lt]
@[simp] theorem lt_tup (q : Nat) : V.lt q (.tup cs) = V.ltL q cs := by simp [V.lt]
@[simp] theorem ltL_nil (q : Nat) : V.ltL q [] = true := by simp [V.ltL]
@[simp] theorem ltL_cons (q : Nat) : V.ltL q (x :: xs) = (V.lt q x && V.ltL q xs) := by simp [V.ltL]
@[simp] theorem cellEq_b : cellEq .b (.bool b) (.bool c) = some (b == c) := rfl
@[simp] theorem cellEq_i : cellEq .i (.int k n) (.int k m) = some (n == m) := by simp [cellEq]
@[simp] theorem cellEq_s : cellEq .s (.str s) (.str t) = some (s == t) := rfl
@[simp] theorem cellsEq_nil : cellsEq [] [] [] = some true := rfl
@[simp] theorem cellsEq_cons (q : SK) (qs : List SK) : cellsEq (q :: qs) (x :: xs) (y :: ys) = bnd (cellEq q x y) fun b => bnd (cellsEq qs xs ys) fun c => some (b && c) := rfl
@[simp] theorem bin_add : binV .add ek (.int k n) (.int k m) = some (.int k (k.wrap (n + m))) := by simp [binV, isShift, intV]
@[simp] theorem bin_sub : binV .sub ek (.int k n) (.int k m) = some (.int k (k.wrap (n - m))) := by simp [binV, isShift, intV]
@[simp] theorem bin_mul : binV .mul ek (.int k n) (.int k m) = some (.int k (k.wrap (n * m))) := by simp [binV, isShift, intV]
@[simp] theorem bin_quo : binV .quo ek (.int k n) (.int k m) = cnd (m == 0) none (some (.int k (k.wrap (n.tdiv m)))) := by simp [binV, isShift, intV]
@[simp] theorem bin_rem : binV .rem ek (.int k n) (.int k m) = cnd (m == 0) none (some (.int k (n.tmod m))) := by simp [binV, isShift, intV]
@[simp] theorem bin_and : binV .and ek (.int k n) (.int k m) = some (bitsV k (BitVec.ofInt k.bits n &&& BitVec.ofInt k.bits m)) := by simp [binV, isShift, intV]
@[simp] theorem bin_or : binV .or ek (.int k n) (.int k m) = some (bitsV k (BitVec.ofInt k.bits n ||| BitVec.ofInt k.bits m)) := by simp [binV, isShift, intV]
@[simp] theorem bin_xor : binV .xor ek (.int k n) (.int k m) = some (bitsV k (BitVec.ofInt k.bits n ^^^ BitVec.ofInt k.bits m)) := by simp [binV, isShift, intV]
@[simp] theorem bin_andNot : binV .andNot ek (.int k n) (.int k m) = some (bitsV k (BitVec.ofInt k.bits n &&& ~~~(BitVec.ofInt k.bits m))) := by simp [binV, isShift, intV]
@[simp] theorem bin_eql : binV .eql ek (.int k n) (.int k m) = some (.bool (n == m)) := by simp [binV, isShift, intV]
@[simp] theorem bin_neq : binV .neq ek (.int k n) (.int k m) = some (.bool (!(n == m))) := by simp [binV, isShift, intV]
@[simp] theorem bin_lss : binV .lss ek (.int k n) (.int k m) = some (.bool (decide (n < m))) := by simp [binV, isShift, intV]
@[simp] theorem bin_leq : binV .leq ek (.int k n) (.int k m) = some (.bool (decide (n ≤ m))) := by simp [binV, isShift, intV]
@[simp] theorem bin_gtr : binV .gtr ek (.int k n) (.int k m) = some (.bool (decide (m < n))) := by simp [binV, isShift, intV]
@[simp] theorem bin_geq : binV .geq ek (.int k n) (.int k m) = some (.bool (decide (m ≤ n))) := by simp [binV, isShift, intV]
@[simp] theorem bin_shl : binV .shl ek (.int k n) (.int k' m) = cnd (decide (m < 0)) none (some (.int k (k.wrap (n * 2 ^ (min m.toNat k.bits))))) := rfl
@[simp] theorem bin_shr : binV .shr ek (.int k n) (.int k' m) = cnd (decide (m < 0)) none (some (.int k (n.fdiv (2 ^ (min m.toNat k.bits))))) := rfl
@[simp] theorem bin_sadd : binV .add ek (.str s) (.str t) = cnd (decide (s.length + t.length ≤ 140737488351232)) (some (.str (s ++ t))) none := rfl
@[simp] theorem bin_seql : binV .eql ek (.str s) (.str t) = some (.bool (s == t)) := rfl
@[simp] theorem bin_sneq : binV .neq ek (.str s) (.str t) = some (.bool (!(s == t))) := rfl
@[simp] theorem bin_slss : binV .lss ek (.str s) (.str t) = some (.bool (bytesLess s t)) := rfl
@[simp] theorem bin_sleq : binV .leq ek (.str s) (.str t) = some (.bool (bytesLess s t || s == t)) := rfl
@[simp] theorem bin_sgtr : binV .gtr ek (.str s) (.str t) = some (.bool (!(bytesLess s t || s == t))) := rfl
@[simp] theorem bin_sgeq : binV .geq ek (.str s) (.str t) = some (.bool (!bytesLess s t)) := rfl
@[simp] theorem bin_beql : binV .eql .bool (.bool b) (.bool c) = some (.bool (b == c)) := rfl
@[simp] theorem bin_bneq : binV .neq .bool (.bool b) (.bool c) = some (.bool (!(b == c))) := rfl
@[simp] theorem bin_peql : binV .eql .ptr (.ptr a) (.ptr none) = some (.bool a.isNone) := rfl
@[simp] theorem bin_pneq : binV .neq .ptr (.ptr a) (.ptr none) = some (.bool (!a.isNone)) := rfl
@[simp] theorem bin_reql : binV .eql .ptr (.ro cs) (.ptr none) = some (.bool false) := rfl
@[simp] theorem bin_rneq : binV .neq .ptr (.ro cs) (.ptr none) = some (.bool true) := rfl
@[simp] theorem bin_npeql (q : Nat × Nat) : binV .eql .ptr (.ptr none) (.ptr (some q)) = some (.bool false) := rfl
@[simp] theorem bin_npneq (q : Nat × Nat) : binV .neq .ptr (.ptr none) (.ptr (some q)) = some (.bool true) := rfl
@[simp] theorem bin_meql (q : Option Nat) : binV .eql .map (.map q) (.map none) = some (.bool q.isNone) := rfl
@[simp] theorem bin_mneq (q : Option Nat) : binV .neq .map (.map q) (.map none) = some (.bool (!q.isNone)) := rfl
@[simp] theorem bin_feql : binV .eql .fn (.fn f cs ds) .nofn = some (.bool false) := rfl
@[simp] theorem bin_fneq : binV .neq .fn (.fn f cs ds) .nofn = some (.bool true) := rfl
@[simp] theorem bin_nfeql : binV .eql .fn .nofn .nofn = some (.bool true) := rfl
@[simp] theorem bin_nfneq : binV .neq .fn .nofn .nofn = some (.bool false) := rfl
@[simp] theorem bin_aeql (ks : List SK) : binV .eql (.agg ks) (.agg xs) (.agg ys) = bnd (cellsEq ks xs ys) fun b => some (.bool b) := rfl
@[simp] theorem bin_aneq (ks : List SK) : binV .neq (.agg ks) (.agg xs) (.agg ys) = bnd (cellsEq ks xs ys) fun b => some (.bool (!b)) := rfl
@[simp] theorem un_not : unV .not (.bool b) = some (.bool (!b)) := rfl
@[simp] theorem un_neg : unV .neg (.int k n) = some (.int k (k.wrap (0 - n))) := rfl
@[simp] theorem un_xor : unV .xor (.int k n) = some (bitsV k (BitVec.ofInt k.bits (if k.signed then -1 else k.max) ^^^ BitVec.ofInt k.bits n)) := rfl
@[simp] theorem conv_int : convV (.toInt k) (.int k' n) = some (.int k (k.wrap n)) := rfl
@[simp] theorem conv_str : convV .strOfBytes (.sl xs) = bnd (bytesOf xs) fun l => some (.str l) := rfl
@[simp] theorem conv_bytes : convV .bytesOfStr (.str s) = some (.sl (s.map byteV)) := rfl
@[simp] theorem conv_same : convV .same (.str s) = some (.str s) := rfl
@[simp] theorem min_int : minV (.int k n) (.int k m) = some (.int k (if m < n then m else n)) := by simp [minV]
@[simp] theorem max_int : maxV (.int k n) (.int k m) = some (.int k (if m > n then m else n)) := by simp [maxV]
@[simp] theorem foldV_nil (q : V → V → Option V) : foldV q x [] = some x := rfl
@[simp] theorem foldV_cons (q : V → V → Option V) : foldV q x (y :: ys) = bnd (q x y) fun z => foldV q z ys := rfl
@[simp] theorem foldV1_cons (q : V → V → Option V) : foldV1 q (x :: xs) = foldV q x xs := rfl
variable (rs : Regs) (h : Heap)
@[simp] theorem fillV_nil : fillV rs cs [] = some cs := rfl
@[simp] theorem fillV_cons (off size : Nat) (q : Arg) (r : List (Nat × Nat × Arg)) : fillV rs cs ((off, size, q) :: r) =
    cnd (decide (((q.val rs).flat.length = size ∧ off + size ≤ cs.length) ∧ (q.val rs).flat.all V.isCell = true)) (fillV rs (cs.take off ++ ((q.val rs).flat ++ cs.drop (off + size))) r) none := rfl
@[simp] theorem fillE_nil : fillE rs cs [] = some cs := rfl
@[simp] theorem fillE_cons (q : Arg) (r : List (Nat × Arg)) : fillE rs cs ((i, q) :: r) = cnd (decide (i < cs.length)) (fillE rs (cs.set i (q.val rs)) r) none := rfl
@[simp] theorem isKey_i : isKey .i (.int k n) = true := rfl
@[simp] theorem isKey_s : isKey .s (.str s) = true := rfl
@[simp] theorem natOf_int : natOf (.int k n) = cnd (decide (0 ≤ n)) (some n.toNat) none := rfl
@[simp] theorem natOr_none (d : Nat) : natOr rs d none = some d := rfl
@[simp] theorem natOr_some (d : Nat) (q : Arg) : natOr rs d (some q) = natOf (q.val rs) := rfl
@[simp] theorem cut_agg (size off : Nat) : cut true size off cs = cnd (decide (off + size ≤ cs.length)) (some (.agg ((cs.drop off).take size))) none := rfl
@[simp] theorem cut_one (off : Nat) : cut false 1 off cs = cs[off]? := by
  unfold cut
  by_cases hd : off + 1 ≤ cs.length
  · simp [hd]
  · rw [List.getElem?_eq_none (by omega)]; simp [hd]
@[simp] theorem cellsAt_eq : cellsAt h i = match hget h i with | some (.cells cs own) => some (cs, own) | _ => none := rfl
@[simp] theorem mapAt_eq : mapAt h i = match hget h i with | some (.map es) => some es | _ => none := rfl
@[simp] theorem mapOf_none : mapOf h (.map none) = some [] := rfl
@[simp] theorem mapOf_some : mapOf h (.map (some i)) = mapAt h i := rfl
@[simp] theorem load_ptr (q : Bool) (size : Nat) : loadV q size h (.ptr (some (i, o))) = bnd (cellsAt h i) fun c => cut q size o c.1 := rfl
@[simp] theorem load_ro (q : Bool) (size : Nat) : loadV q size h (.ro cs) = cut q size 0 cs := rfl
@[simp] theorem pick_bool : pickV (.bool b) x y = some (cnd b x y) := rfl
@[simp] theorem nilck_ptr (q : Nat × Nat) : nilckV (.ptr (some q)) = some (.ptr (some q)) := rfl
@[simp] theorem nilck_ro : nilckV (.ro cs) = some (.ro cs) := rfl
@[simp] theorem nilck_fn : nilckV (.fn f cs ds) = some (.fn f cs ds) := rfl
@[simp] theorem sizeOk_nil (size : Nat) : sizeOk size [] = true := rfl
@[simp] theorem sizeOk_cons (size : Nat) : sizeOk size (x :: xs) = (x.flat.length == size) := rfl
@[simp] theorem allSize_nil (size : Nat) : allSize size [] = true := rfl
@[simp] theorem allSize_cons (size : Nat) : allSize size (x :: xs) = (x.flat.length == size && allSize size xs) := rfl
@[simp] theorem slice_str (size : Nat) (lo hi mx : Option Arg) : sliceV size rs lo hi mx true (.str s) = bnd (natOr rs 0 lo) fun l => bnd (natOr rs s.length hi) fun u => cnd (decide (l ≤ u ∧ u ≤ s.length) && mx.isNone) (some (.str ((s.take u).drop l))) none := rfl
@[simp] theorem slice_sl (size : Nat) (lo hi mx : Option Arg) : sliceV size rs lo hi mx false (.sl xs) = bnd (natOr rs 0 lo) fun l => bnd (natOr rs xs.length hi) fun u => bnd (natOr rs u mx) fun m =>
      cnd (decide (l ≤ u ∧ u ≤ m ∧ m ≤ xs.length) && ((hi.isSome || mx.isNone) && sizeOk size xs)) (some (.sl ((xs.take u).drop l))) none := rfl
@[simp] theorem faddr_ptr (off : Nat) : faddrV off (.ptr (some (i, o))) = some (.ptr (some (i, o + off))) := rfl
@[simp] theorem faddr_ro (off : Nat) : faddrV off (.ro cs) = some (.ro (cs.drop off)) := rfl
@[simp] theorem field_agg (off size : Nat) (q : Bool) : fieldV off size q (.agg cs) = cut q size off cs := rfl
@[simp] theorem iaddr_sl (size j : Nat) : iaddrV size j none (.sl xs) = bnd (xs[j]?) fun v => cnd (v.flat.length == size) (some (.ro v.flat)) none := rfl
@[simp] theorem iaddr_ptr (size j z : Nat) : iaddrV size j (some z) (.ptr (some (i, o))) = cnd (decide (j < z)) (some (.ptr (some (i, o + j * size)))) none := rfl
@[simp] theorem iaddr_ro (size j z : Nat) : iaddrV size j (some z) (.ro cs) = cnd (decide (j < z)) (some (.ro (cs.drop (j * size)))) none := rfl
@[simp] theorem index_str (z size j : Nat) (q : Bool) : indexV z size q j true (.str s) = bnd (s[j]?) fun b => some (byteV b) := rfl
@[simp] theorem index_agg (z size j : Nat) (q : Bool) : indexV z size q j false (.agg cs) = cnd (decide (j < z)) (cut q size (j * size) cs) none := rfl
@[simp] theorem found_tt : found x true (some y) = .tup [y, .bool true] := rfl
@[simp] theorem found_tf : found x true none = .tup [x, .bool false] := rfl
@[simp] theorem found_ft : found x false (some y) = y := rfl
@[simp] theorem found_ff : found x false none = x := rfl
@[simp] theorem extract_tup : extractV i (.tup xs) = xs[i]? := rfl
@[simp] theorem allPure_nil : allPure [] = true := rfl
@[simp] theorem allPure_cons : allPure (x :: xs) = (x.pure && allPure xs) := rfl
@[simp] theorem app_sl (size bytes : Nat) : appV size bytes (.sl xs) (.sl ys) = cnd (decide ((xs.length + ys.length) * bytes ≤ 140737488355328) && (sizeOk size xs && sizeOk size ys)) (some (.sl (xs ++ ys))) none := rfl
@[simp] theorem len_arr : lenV h (.arr i) x = some (.int .i64 i) := rfl
@[simp] theorem len_str : lenV h .str (.str s) = some (.int .i64 s.length) := rfl
@[simp] theorem len_sl : lenV h .sl (.sl xs) = some (.int .i64 xs.length) := rfl
@[simp] theorem len_map (q : Option Nat) : lenV h .map (.map q) = bnd (mapOf h (.map q)) fun es => some (.int .i64 es.length) := rfl
@[simp] theorem ownHas_nil (j sz : Nat) : ownHas [] j sz = false := rfl
@[simp] theorem ownHas_cons (j sz p q : Nat) (l : List (Nat × Nat)) : ownHas ((p, q) :: l) j sz = ((decide (p = j) && decide (q = sz)) || ownHas l j sz) := rfl
@[simp] theorem ownOk_nil (size : Nat) (own : List (Nat × Nat)) : ownOk o size own [] = true := rfl
@[simp] theorem ownOk_cons (size j sz : Nat) (own js : List (Nat × Nat)) : ownOk o size own ((j, sz) :: js) = ((!(decide (o ≤ j) && decide (j < o + size)) || ownHas own (j - o) sz) && ownOk o size own js) := rfl
@[simp] theorem store_ptr (fb lb size : Nat) (own : List (Nat × Nat)) : storeV fb lb size own h x (.ptr (some (i, o))) = bnd (cellsAt h i) (storeC fb lb size own h i o x) := rfl
@[simp high] theorem storeC_one (fb lb : Nat) (own own' : List (Nat × Nat)) : storeC fb lb 1 own h i o x (cs, own') = cnd (decide (x.flat.length = 1 ∧ o < cs.length) && (ownOk o 1 own own' && x.flat.all V.isCell))
    (some (hset h i (.cells (cs.set o (x.flat.headD .top)) own'), ⟨decide (i < fb), decide (i < lb) && !x.lt 0⟩)) none := by
  unfold storeC
  by_cases hx : x.flat.length = 1 ∧ o < cs.length
  · obtain ⟨h1, h2⟩ := hx
    obtain ⟨y, hy⟩ := List.length_eq_one_iff.1 h1
    have h3 : decide ([y].length = 1 ∧ o + 1 ≤ cs.length) = true := decide_eq_true ⟨rfl, h2⟩
    have h4 : decide ([y].length = 1 ∧ o < cs.length) = true := decide_eq_true ⟨rfl, h2⟩
    rw [hy, h3, h4, List.set_eq_take_append_cons_drop, if_pos h2]
    rfl
  · have h1 : decide (x.flat.length = 1 ∧ o + 1 ≤ cs.length) = false := decide_eq_false hx
    rw [h1, decide_eq_false hx]
    rfl
@[simp] theorem storeC_eq (fb lb size : Nat) (own own' : List (Nat × Nat)) : storeC fb lb size own h i o x (cs, own') = cnd (decide (x.flat.length = size ∧ o + size ≤ cs.length) && (ownOk o size own own' && x.flat.all V.isCell))
    (some (hset h i (.cells (cs.take o ++ (x.flat ++ cs.drop (o + size))) own'), ⟨decide (i < fb), decide (i < lb) && !x.lt 0⟩)) none := rfl
@[simp] theorem samePtr_none : samePtr rs x none = true := rfl
@[simp] theorem samePtr_some (p : Nat) : samePtr rs (.ptr (some (i, o))) (some p) = match get rs p with | .ptr (some (j, u)) => decide (j = i) && decide (u = o) | _ => false := by
  unfold samePtr
  simp only
  cases get rs p <;> try rfl
  rename_i q
  cases q <;> rfl
@[simp] theorem appc_ptr (fb size : Nat) : appcV fb size h (.ptr (some (i, o))) = bnd (cellsAt h i) fun c => cnd (ownHas c.2 o size) (some (decide (i < fb))) none := rfl
@[simp] theorem boxable_eq (size : Nat) : boxable size x = (x.flat.length == size && x.flat.all V.isCell) := rfl
@[simp] theorem callV_fn (C : Callee) : callV C h xs (.fn f cs ds) = C f (cs ++ (xs ++ ds)) h := rfl
@[simp] theorem allLt_nil (q : Nat) : allLt q [] = true := rfl
@[simp] theorem allLt_cons (q r : Nat) : allLt q ((r, x) :: rs) = (x.lt q && allLt q rs) := rfl
@[simp] theorem clean_eq (q : Nat) (st : St) : clean q b rs st = cnd (!st.fl.esc && allLt q rs) ⟨rs, st.h.take q, ⟨st.fl.wr, b⟩⟩ ⟨rs, st.h, ⟨st.fl.wr, b || st.fl.esc⟩⟩ := rfl
@[simp] theorem bodyEnd_eq (q : Nat) (live : List Nat) (r : Ex × St) : bodyEnd q live b r = cnd r.1.isNormal (some (.normal, clean q b (keep r.2.rs live) r.2)) (some (r.1, ⟨r.2.rs, r.2.h, ⟨r.2.fl.wr, b || r.2.fl.esc⟩⟩)) := rfl
@[simp] theorem resV_nil : resV rs h [] = some [] := rfl
@[simp] theorem resV_r (r : Nat) (l : List Res) : resV rs h (.r r :: l) = bnd (resV rs h l) fun q => some (get rs r :: q) := rfl
@[simp] theorem resV_cell (r size : Nat) (q : Bool) (l : List Res) : resV rs h (.cell r q size :: l) = bnd (loadV q size h (get rs r)) fun v => bnd (resV rs h l) fun l => some (v :: l) := rfl
@[simp] theorem one_one : one [x] = x := rfl
@[simp] theorem one_nil : one [] = .tup [] := rfl
@[simp] theorem one_two : one (x :: y :: xs) = .tup (x :: y :: xs) := rfl
@[simp] theorem finishV_eq (q : Nat) (st : St) : finishV q st x = cnd (!st.fl.esc && x.lt q) (x, st.h.take q, ⟨st.fl.wr, false⟩) (x, st.h, st.fl) := rfl
@[simp] theorem initR_nil (q : Nat) : initR [] q = [] := rfl
@[simp] theorem initR_cons (q : Nat) : initR (x :: xs) q = (q, x) :: initR xs (q + 1) := rfl
@[simp] theorem hget_set (q : Obj) (hi : i < h.length) : hget (hset h i q) i = some q := by simp [hget, hset, hi]
@[simp] theorem hget_set_ne (j : Nat) (q : Obj) (hi : j ≠ i) : hget (hset h j q) i = hget h i := by simp [hget, hset, List.getElem?_set, hi]
@[simp] theorem hset_len (q : Obj) : (hset h i q).length = h.length := by simp [hset]
@[simp] theorem hset_take (q : Obj) : (hset h i q).take h.length = hset h i q := List.take_of_length_le (by simp [hset])
@[simp] theorem get_c0 : (x :: xs)[0]? = some x := rfl
@[simp] theorem get_cs : (x :: xs)[i + 1]? = xs[i]? := rfl
@[simp] theorem hget_c0 (q : Obj) : hget (q :: h) 0 = some q := rfl
@[simp] theorem hget_cs (q : Obj) : hget (q :: h) (i + 1) = hget h i := by simp [hget]
@[simp] theorem hset_c0 (q r : Obj) : hset (q :: h) 0 r = r :: h := rfl
@[simp] theorem hset_cs (q r : Obj) : hset (q :: h) (i + 1) r = q :: hset h i r := by simp [hset]
@[simp] theorem hset_hset (q r : Obj) : hset (hset h i q) i r = hset h i r := by simp [hset]
end
@[simp] theorem ltL_bools (q : Nat) (l : List Bool) : V.ltL q (l.map V.bool) = true := by induction l <;> simp_all
@[simp] theorem ltL_ints (q : Nat) (k : IntKind) (l : List Int) : V.ltL q (l.map (V.int k)) = true := by induction l <;> simp_all
@[simp] theorem ltL_strs (q : Nat) (l : List (List UInt8)) : V.ltL q (l.map V.str) = true := by induction l <;> simp_all
@[simp] theorem sizeOk_ints (k : IntKind) (l : List Int) : sizeOk 1 (l.map (V.int k)) = true := by cases l <;> simp
@[simp] theorem ltL_replicate (q n : Nat) (v : V) (hv : v.lt q = true) : V.ltL q (List.replicate n v) = true := by induction n <;> simp_all [List.replicate_succ]
theorem hset_same {h : Heap} {i : Nat} {q : Obj} (hh : hget h i = some q) : hset h i q = h := by
  obtain ⟨h1, h2⟩ := List.getElem?_eq_some_iff.1 hh
  unfold hset
  rw [← h2]
  exact List.set_getElem_self h1
theorem hget_lt {h : Heap} {i : Nat} {q : Obj} (hh : hget h i = some q) : i < h.length := (List.getElem?_eq_some_iff.1 hh).1
end Go.Vm
