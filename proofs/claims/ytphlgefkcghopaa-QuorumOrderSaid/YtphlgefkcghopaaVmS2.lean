/- The V-machine's run as a machine with named continuations: simp goes no further than what is known. -/
import Derived.Test.YtphlgefkcghopaaVmS
set_option linter.unusedVariables false
set_option linter.unusedSimpArgs false
namespace Go.Vm

noncomputable def opsK (C : Callee) (fb lb : Nat) (e : Option Nat) (is : List VI) (rs : Regs) (fl : Fl) : Option (V × Heap × Fl) → Option (Regs × Heap × Fl)
  | some (v, h, f) => evalOps C fb lb is (putR e v rs) h (fl.or f)
  | none => none
noncomputable def guardK (C : Callee) (fb lb : Nat) (e : Option Nat) (o : VOp) (is : List VI) (rs : Regs) (h : Heap) (fl : Fl) : Option Bool → Option (Regs × Heap × Fl)
  | some true => opsK C fb lb e is rs fl (evalOp C fb lb rs h o)
  | some false => evalOps C fb lb is (putR e .undef rs) h fl
  | none => none
def vK (h : Heap) : Option V → Option (V × Heap × Fl)
  | some v => some (v, h, .no)
  | none => none
def storeK : Option (Heap × Fl) → Option (V × Heap × Fl)
  | some (h, fl) => some (.undef, h, fl)
  | none => none
noncomputable def callK (q : Bool) (h : Heap) : Option (V × Heap × Fl) → Option (V × Heap × Fl)
  | some r => quiet q h r
  | none => none
def appcK (h : Heap) (v : Option V) : Option Bool → Option (V × Heap × Fl)
  | some w => bnd v fun v => some (v, h, ⟨w, false⟩)
  | none => none
def codeK (live : List Nat) : Option (Regs × Heap × Fl) → Option (Ex × St)
  | some (rs, h, fl) => some (.normal, ⟨keep rs live, h, fl⟩)
  | none => none
noncomputable def seqK (C : Callee) (L : Looper) (fb lb : Nat) (y : VCode) : Option (Ex × St) → Option (Ex × St)
  | some (.normal, st) => evalCode C L fb y lb st
  | r => r
noncomputable def condK (C : Callee) (L : Looper) (fb lb : Nat) (x y : VCode) (st : St) : V → Option (Ex × St)
  | .bool true => evalCode C L fb x lb st
  | .bool false => evalCode C L fb y lb st
  | _ => none
def blockK (id : Nat) : Option (Ex × St) → Option (Ex × St)
  | some (.exit j, st) => some (cnd (decide (j = id)) .normal (.exit j), st)
  | r => r
noncomputable def roundV (C : Callee) (L : Looper) (fb : Nat) (live : List Nat) (b : VCode) (s : St) : Option (Ex × St) :=
  bnd (evalCode C L fb b s.h.length ⟨s.rs, s.h, ⟨s.fl.wr, false⟩⟩) (bodyEnd s.h.length live s.fl.esc)
noncomputable def loopRun (C : Callee) (L : Looper) (fb : Nat) (live : List Nat) (b : VCode) (s : St) : Option (Ex × St) := L (roundV C L fb live b) s
def endK (n : Nat) (live : List Nat) (esc : Bool) : Option (Ex × St) → Option (Ex × St)
  | some (.normal, st) => some (.normal, clean n esc (keep st.rs live) st)
  | some (e, st) => some (e, ⟨st.rs, st.h, ⟨st.fl.wr, esc || st.fl.esc⟩⟩)
  | none => none
def finK (n : Nat) (res : List Res) : Option (Ex × St) → Option (V × Heap × Fl)
  | some (.exit _, _) => none
  | some (_, st) => bnd (resV st.rs st.h res) fun vs => some (finishV n st (one vs))
  | none => none

section
variable (C : Callee) (L : Looper) (fb lb n : Nat) (rs : Regs) (h : Heap) (e : Option Nat) (b : Bool) (fl : Fl) (is : List VI) (o : VOp) (v : V) (f : Fl)
@[simp] theorem s_nil : evalOps C fb lb [] rs h fl = some (rs, h, fl) := rfl
@[simp] theorem s_cons : evalOps C fb lb (⟨e, none, o⟩ :: is) rs h fl = opsK C fb lb e is rs fl (evalOp C fb lb rs h o) := by
  rw [evalOps_cons]
  rcases evalOp C fb lb rs h o with _ | ⟨v, h', f⟩ <;> rfl
@[simp] theorem s_consg (g : Nat) : evalOps C fb lb (⟨e, some (g, b), o⟩ :: is) rs h fl = guardK C fb lb e o is rs h fl (wantedV b (get rs g)) := by
  rw [evalOps_consg]
  rcases wantedV b (get rs g) with _ | t
  · rfl
  · cases t
    · rfl
    · simp only [bnd_some, cnd_true, guardK]
      rcases evalOp C fb lb rs h o with _ | ⟨v, h', f⟩ <;> rfl
@[simp] theorem s_opsK : opsK C fb lb e is rs fl (some (v, h, f)) = evalOps C fb lb is (putR e v rs) h (fl.or f) := rfl
@[simp] theorem s_guard_t : guardK C fb lb e o is rs h fl (some true) = opsK C fb lb e is rs fl (evalOp C fb lb rs h o) := rfl
@[simp] theorem s_guard_f : guardK C fb lb e o is rs h fl (some false) = evalOps C fb lb is (putR e .undef rs) h fl := rfl
@[simp] theorem s_vK : vK h (some v) = some (v, h, .no) := rfl
@[simp] theorem s_storeK : storeK (some (h, fl)) = some (.undef, h, fl) := rfl
@[simp] theorem s_callK (r : V × Heap × Fl) : callK b h (some r) = quiet b h r := rfl
@[simp] theorem s_appcK (w : Bool) : appcK h (some v) (some w) = some (v, h, ⟨w, false⟩) := rfl
variable (x y : Arg) (a : Arg)
@[simp] theorem s_mv : evalOp C fb lb rs h (.mv x) = some (x.val rs, h, .no) := rfl
@[simp] theorem s_asg : evalOp C fb lb rs h (.asg x) = some (x.val rs, h, .no) := rfl
theorem bnd_vK (z : Option V) : (bnd z fun v => some (v, h, Fl.no)) = vK h z := by cases z <;> rfl
@[simp] theorem s_pick (c : Arg) : evalOp C fb lb rs h (.pick c x y) = vK h (pickV (c.val rs) (x.val rs) (y.val rs)) := by rw [evalOp_pick, bnd_vK]
@[simp] theorem s_build (z : List V) (ps : List (Nat × Nat × Arg)) : evalOp C fb lb rs h (.build z ps) = vK h (bnd (fillV rs z ps) fun cs => some (.agg cs)) := by rw [evalOp_build, bnd_vK]
@[simp] theorem s_bslice (z : V) (k m : Nat) (ps : List (Nat × Arg)) : evalOp C fb lb rs h (.bslice z k m ps) = vK h (bnd (fillE rs (List.replicate m z) ps) fun xs => cnd (allPure xs && allSize k xs) (some (.sl xs)) none) := by rw [evalOp_bslice, bnd_vK]
@[simp] theorem s_load (k : Nat) : evalOp C fb lb rs h (.load b k a) = vK h (loadV b k h (a.val rs)) := by rw [evalOp_load, bnd_vK]
@[simp] theorem s_nilck : evalOp C fb lb rs h (.nilck x) = vK h (nilckV (x.val rs)) := by rw [evalOp_nilck, bnd_vK]
@[simp] theorem s_bin (op : BinOp) (k : EK) : evalOp C fb lb rs h (.bin op k x y) = vK h (binV op k (x.val rs) (y.val rs)) := by rw [evalOp_bin, bnd_vK]
@[simp] theorem s_un (op : UnOp) : evalOp C fb lb rs h (.un op x) = vK h (unV op (x.val rs)) := by rw [evalOp_un, bnd_vK]
@[simp] theorem s_conv (k : CK) : evalOp C fb lb rs h (.conv k x) = vK h (convV k (x.val rs)) := by rw [evalOp_conv, bnd_vK]
@[simp] theorem s_mkfn (g : Nat) (p q : List Arg) : evalOp C fb lb rs h (.mkfn g p q) = some (.fn g (vals rs p) (vals rs q), h, .no) := rfl
@[simp] theorem s_slice (k : Nat) (l u m : Option Arg) : evalOp C fb lb rs h (.slice b k x l u m) = vK h (sliceV k rs l u m b (x.val rs)) := by rw [evalOp_slice, bnd_vK]
@[simp] theorem s_faddr (k : Nat) : evalOp C fb lb rs h (.faddr k x) = vK h (faddrV k (x.val rs)) := by rw [evalOp_faddr, bnd_vK]
@[simp] theorem s_field (k m : Nat) : evalOp C fb lb rs h (.field k m b x) = vK h (fieldV k m b (x.val rs)) := by rw [evalOp_field, bnd_vK]
@[simp] theorem s_iaddr (r : Option Nat) (k : Nat) : evalOp C fb lb rs h (.iaddr r k x y) = vK h (bnd (natOf (y.val rs)) fun j => iaddrV k j r (x.val rs)) := by rw [evalOp_iaddr, bnd_vK]
@[simp] theorem s_index (t : Bool) (m z : Nat) : evalOp C fb lb rs h (.index t m z b x y) = vK h (bnd (natOf (y.val rs)) fun j => indexV m z b j t (x.val rs)) := by rw [evalOp_index, bnd_vK]
@[simp] theorem s_lookup (q : SK) (z : V) : evalOp C fb lb rs h (.lookup q z b x y) = vK h (bnd (mapOf h (x.val rs)) fun es => cnd (isKey q (y.val rs)) (bnd (findV q (y.val rs) es) fun r => some (found z b r)) none) := by rw [evalOp_lookup, bnd_vK]
@[simp] theorem s_extract (k : Nat) : evalOp C fb lb rs h (.extract k x) = vK h (extractV k (x.val rs)) := by rw [evalOp_extract, bnd_vK]
@[simp] theorem s_app (p : Place) (k m : Nat) : evalOp C fb lb rs h (.app p k m x y) = vK h (appV k m (x.val rs) (y.val rs)) := by rw [evalOp_app, bnd_vK]
@[simp] theorem s_len (r : LK) : evalOp C fb lb rs h (.len r x) = vK h (lenV h r (x.val rs)) := by rw [evalOp_len, bnd_vK]
@[simp] theorem s_mn (xs : List Arg) : evalOp C fb lb rs h (.mn xs) = vK h (foldV1 minV (vals rs xs)) := by rw [evalOp_mn, bnd_vK]
@[simp] theorem s_mx (xs : List Arg) : evalOp C fb lb rs h (.mx xs) = vK h (foldV1 maxV (vals rs xs)) := by rw [evalOp_mx, bnd_vK]
@[simp] theorem s_alloc (cs : List V) (w : List (Nat × Nat)) : evalOp C fb lb rs h (.alloc cs w) = some (.ptr (some (h.length, 0)), h ++ [.cells cs w], .no) := rfl
@[simp] theorem s_box (k : Nat) : evalOp C fb lb rs h (.box k x) = cnd (boxable k (x.val rs)) (some (.ptr (some (h.length, 0)), h ++ [.cells (x.val rs).flat []], .no)) none := rfl
@[simp] theorem s_mkmap : evalOp C fb lb rs h .mkmap = some (.map (some h.length), h ++ [.map []], .no) := rfl
@[simp] theorem s_store (z : Nat) (w : List (Nat × Nat)) (p : Option Nat) : evalOp C fb lb rs h (.store z a x w p) = cnd (samePtr rs (a.val rs) p) (storeK (storeV fb lb z w h (x.val rs) (a.val rs))) none := by
  rw [evalOp_store]
  congr 1
  rcases storeV fb lb z w h (x.val rs) (a.val rs) with _ | ⟨q, r⟩ <;> rfl
@[simp] theorem s_mapupd (q : SK) (m : Arg) : evalOp C fb lb rs h (.mapupd q m x y) = mapupdV fb lb h q (x.val rs) (y.val rs) (m.val rs) := rfl
@[simp] theorem s_delete (q : SK) : evalOp C fb lb rs h (.delete q x y) = deleteV fb h q (y.val rs) (x.val rs) := rfl
@[simp] theorem s_sliceArr (k z : Nat) : evalOp C fb lb rs h (.sliceArr k z x) = sliceArrV fb k z h (x.val rs) := rfl
@[simp] theorem s_call (g : Nat) (as : List Arg) : evalOp C fb lb rs h (.call b g as) = callK b h (C g (vals rs as) h) := by
  rw [evalOp_call]; cases C g (vals rs as) h <;> rfl
@[simp] theorem s_callv (as : List Arg) : evalOp C fb lb rs h (.callv b x as) = callK b h (callV C h (vals rs as) (x.val rs)) := by
  rw [evalOp_callv]; cases callV C h (vals rs as) (x.val rs) <;> rfl
@[simp] theorem s_appc (p k m : Nat) : evalOp C fb lb rs h (.appc p k m x y) = appcK h (appV k m (x.val rs) (y.val rs)) (appcV fb k h (get rs p)) := by
  rw [evalOp_appc]; cases appcV fb k h (get rs p) <;> rfl
variable (st : St) (live : List Nat) (c d : VCode)
@[simp] theorem s_skip : evalCode C L fb .skip lb st = some (.normal, st) := rfl
@[simp] theorem s_ops : evalCode C L fb (.ops is live) lb st = codeK live (evalOps C fb lb is st.rs st.h st.fl) := by
  rw [code_ops]; rcases evalOps C fb lb is st.rs st.h st.fl with _ | ⟨p, q, r⟩ <;> rfl
@[simp] theorem s_dops (k : Nat) : evalCode C L fb (.dops k is live) lb st = codeK live (evalOps C fb lb is st.rs st.h st.fl) := by
  rw [code_dops]; rcases evalOps C fb lb is st.rs st.h st.fl with _ | ⟨p, q, r⟩ <;> rfl
@[simp] theorem s_codeK : codeK live (some (rs, h, fl)) = some (.normal, ⟨keep rs live, h, fl⟩) := rfl
@[simp] theorem s_seq : evalCode C L fb (.seq c d) lb st = seqK C L fb lb d (evalCode C L fb c lb st) := by
  rw [code_seq]
  rcases evalCode C L fb c lb st with _ | ⟨x, st'⟩
  · rfl
  · cases x <;> rfl
@[simp] theorem s_seqK_n : seqK C L fb lb d (some (.normal, st)) = evalCode C L fb d lb st := rfl
@[simp] theorem s_seqK_e (j : Nat) : seqK C L fb lb d (some (.exit j, st)) = some (.exit j, st) := rfl
@[simp] theorem s_seqK_r : seqK C L fb lb d (some (.ret, st)) = some (.ret, st) := rfl
@[simp] theorem s_cond : evalCode C L fb (.cond a c d) lb st = condK C L fb lb c d st (a.val st.rs) := by
  rw [code_cond]
  cases a.val st.rs <;> try rfl
  rename_i t
  cases t <;> rfl
@[simp] theorem s_condK_t : condK C L fb lb c d st (.bool true) = evalCode C L fb c lb st := rfl
@[simp] theorem s_condK_f : condK C L fb lb c d st (.bool false) = evalCode C L fb d lb st := rfl
@[simp] theorem s_block (id : Nat) : evalCode C L fb (.block id c) lb st = blockK id (evalCode C L fb c lb st) := by
  rw [code_block]
  rcases evalCode C L fb c lb st with _ | ⟨x, st'⟩
  · rfl
  · cases x <;> try rfl
    rename_i j
    simp only [bnd_some, isExit_exit, blockK]
    cases decide (j = id) <;> rfl
@[simp] theorem s_blockK_n (id : Nat) : blockK id (some (.normal, st)) = some (.normal, st) := rfl
@[simp] theorem s_blockK_r (id : Nat) : blockK id (some (.ret, st)) = some (.ret, st) := rfl
@[simp] theorem s_blockK_e (id j : Nat) : blockK id (some (.exit j, st)) = some (cnd (decide (j = id)) .normal (.exit j), st) := rfl
@[simp] theorem s_exit (id : Nat) : evalCode C L fb (.exit id) lb st = some (.exit id, st) := rfl
@[simp] theorem s_ret : evalCode C L fb .ret lb st = some (.ret, st) := rfl
@[simp] theorem s_loop (own : List (Nat × Nat × Nat)) : evalCode C L fb (.loop live own c) lb st = loopRun C L fb live c st := rfl
theorem s_round : roundV C L fb live c st = endK st.h.length live st.fl.esc (evalCode C L fb c st.h.length ⟨st.rs, st.h, ⟨st.fl.wr, false⟩⟩) := by
  unfold roundV
  rcases evalCode C L fb c st.h.length ⟨st.rs, st.h, ⟨st.fl.wr, false⟩⟩ with _ | ⟨x, st'⟩
  · rfl
  · cases x <;> rfl
@[simp] theorem s_endK_n : endK n live b (some (.normal, st)) = some (.normal, clean n b (keep st.rs live) st) := rfl
@[simp] theorem s_endK_e (j : Nat) : endK n live b (some (.exit j, st)) = some (.exit j, ⟨st.rs, st.h, ⟨st.fl.wr, b || st.fl.esc⟩⟩) := rfl
@[simp] theorem s_endK_r : endK n live b (some (.ret, st)) = some (.ret, ⟨st.rs, st.h, ⟨st.fl.wr, b || st.fl.esc⟩⟩) := rfl
@[simp] theorem s_finK_n (res : List Res) : finK n res (some (.normal, st)) = bnd (resV st.rs st.h res) fun vs => some (finishV n st (one vs)) := rfl
@[simp] theorem s_finK_r (res : List Res) : finK n res (some (.ret, st)) = bnd (resV st.rs st.h res) fun vs => some (finishV n st (one vs)) := rfl
@[simp] theorem s_run (p : Nat) (res : List Res) (own : Option Nat) (xs : List V) : runV C L ⟨p, c, res, own⟩ xs h = cnd (decide (xs.length = p)) (finK h.length res (evalCode C L h.length c h.length ⟨initR xs 0, h, .no⟩)) none := by
  unfold runV
  congr 1
  rcases evalCode C L h.length c h.length ⟨initR xs 0, h, .no⟩ with _ | ⟨x, st'⟩
  · rfl
  · cases x <;> rfl
end

theorem top_of {E : Env} {f : Nat} {fn : VFun} (hp : E.prim f = none) (hf : E.fn f = some fn) {a : List V} {h : Heap} {v : V} (hr : ∃ h' fl, runV (callL E) loopL fn a h = some (v, h', fl)) : ∃ h' fl, callL E f a h = some (v, h', fl) := by
  obtain ⟨h', fl, hr⟩ := hr
  exact ⟨h', fl, callL_of hp hf hr⟩

/-! ### loops -/
section
variable {C : Callee} {fb : Nat} {live : List Nat} {c : VCode} {s s' : St} {r : Ex × St}
theorem loop_next (h1 : roundV C loopL fb live c s = some (.normal, s')) (h2 : loopRun C loopL fb live c s' = some r) : loopRun C loopL fb live c s = some r := loopL_next h1 rfl h2
theorem loop_exit {j : Nat} (h1 : roundV C loopL fb live c s = some (.exit j, s')) : loopRun C loopL fb live c s = some (.exit j, s') := loopL_done h1 rfl
theorem loop_ret (h1 : roundV C loopL fb live c s = some (.ret, s')) : loopRun C loopL fb live c s = some (.ret, s') := loopL_done h1 rfl
end
end Go.Vm
