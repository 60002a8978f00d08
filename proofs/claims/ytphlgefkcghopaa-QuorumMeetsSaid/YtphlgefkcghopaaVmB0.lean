/- From the model's operations to the V-machine's: a check that the kernel runs once for each function. -/
import Derived.Test.YtphlgefkcghopaaVmA2
import Derived.WalkKit
set_option linter.unusedVariables false
set_option linter.unusedSimpArgs false
namespace Go.Vm
attribute [local simp] evalOps_nil evalOps_cons evalOps_consg evalOp_mv evalOp_asg evalOp_pick evalOp_build evalOp_bslice evalOp_load evalOp_nilck evalOp_bin evalOp_un evalOp_conv evalOp_mkfn evalOp_slice evalOp_faddr evalOp_field evalOp_iaddr evalOp_index evalOp_lookup evalOp_extract evalOp_app evalOp_len evalOp_mn evalOp_mx evalOp_alloc evalOp_box evalOp_mkmap evalOp_store evalOp_mapupd evalOp_delete evalOp_sliceArr evalOp_call evalOp_callv evalOp_appc code_skip code_ops code_dops code_seq code_cond code_block code_exit code_ret finish_normal finish_ret
attribute [local simp] V.lt V.ltL V.flat V.pureCell V.pure V.isCell cellEq cellsEq eqV intV shV strV isShift binV unV byteV convV minV maxV foldV foldV1 fillV fillE findV putV delV isKey natOf natOr cut cellsAt mapAt mapOf loadV pickV nilckV sizeOk allSize sliceV faddrV fieldV iaddrV indexV found extractV allPure appV lenV ownHas ownOk storeC storeV samePtr appcV boxable mapupdV deleteV sliceArrV callV allLt clean bodyEnd resV one finishV runV initR

def trVal : Value → Option V
  | .bool b => some (.bool b)
  | .int k n => some (.int k n)
  | .string s => some (.str s.data.toList)
  | .pointer none => some (.ptr none)
  | .slice none 0 0 => some (.sl [])
  | .map none => some (.map none)
  | .nilFunc => some .nofn
  | _ => none
def trVals : List Value → Option (List V)
  | [] => some []
  | u :: us => bnd (trVal u) fun v => bnd (trVals us) fun vs => some (v :: vs)
def trConst : Value → Option V
  | .agg cs => bnd (trVals cs.toList) fun l => some (.agg l)
  | u => trVal u
def trArg : Operand → Option Arg
  | .tmp t => some (.r t)
  | .const u => bnd (trConst u) fun v => some (.c v)
  | .func f => some (.c (.fn f [] []))
  | .global _ => none
def trArgs : List Operand → Option (List Arg)
  | [] => some []
  | o :: os => bnd (trArg o) fun a => bnd (trArgs os) fun l => some (a :: l)
def trOpt : Option Operand → Option (Option Arg)
  | none => some none
  | some o => bnd (trArg o) fun a => some (some a)

section
variable (P : Program)
def sizeT (t : TypeId) : Option Nat := bnd (P.info? t) fun i => some i.size
def bytesT (t : TypeId) : Option Nat := bnd (P.info? t) fun i => some i.bytes
def zeroT (t : TypeId) : Option Value := bnd (P.info? t) fun i => i.zero
def aggT (t : TypeId) : Option Bool :=
  match P.underlying t with
  | some (.struct _) | some (.array _ _) => some true
  | some _ => some false
  | none => none
/-- A field: where, and of what type. -/
def fieldT (t : TypeId) (f : Nat) : Option (Nat × TypeId) :=
  match P.underlying t with
  | some (.struct fs) =>
    match fs[f]? with
    | some x => some (x.offset, x.type)
    | none => none
  | _ => none
def sliceT (t : TypeId) : Option TypeId :=
  match P.underlying t with
  | some (.slice e) => some e
  | _ => none
def arrayT (t : TypeId) : Option (Nat × TypeId) :=
  match P.underlying t with
  | some (.array n e) => some (n, e)
  | _ => none
def byteT (t : TypeId) : Bool :=
  match P.underlying t with
  | some (.int .u8) => true
  | _ => false
/-- A type whose values are so many cells one behind the other, each a number, a truth or a text: '==' compares them cell by cell. -/
def flatFs (ft : TypeId → Option (List SK)) : List Field → Nat → Option (List SK)
  | [], _ => some []
  | f :: fs, o => bnd (ft f.type) fun ks => if f.name ≠ "_" ∧ f.offset = o ∧ 0 < ks.length ∧ sizeT P f.type = some ks.length then bnd (flatFs ft fs (o + ks.length)) fun l => some (ks ++ l) else none
def reps : Nat → List SK → List SK
  | 0, _ => []
  | n + 1, ks => ks ++ reps n ks
def flatT : Nat → TypeId → Option (List SK)
  | 0, _ => none
  | d + 1, t =>
    match P.underlying t with
    | some .bool => some [.b]
    | some (.int _) => some [.i]
    | some .string => some [.s]
    | some (.array n e) => bnd (flatT d e) fun ks => if 0 < ks.length ∧ sizeT P e = some ks.length then some (reps n ks) else none
    | some (.struct fs) => cnd (P.stoodInHeld t) none (flatFs P (flatT d) fs.toList 0)
    | _ => none
def eqK (t : TypeId) : EK :=
  match P.underlying t with
  | some .bool => .bool
  | some (.pointer _) => .ptr
  | some (.map _ _) => .map
  | some (.func _ _ _) => .fn
  | some (.struct _) | some (.array _ _) => match flatT P 8 t with | some ks => cnd (P.eqGuardType P.depth t) .no (.agg ks) | none => .no
  | _ => .no

/-- A map's key: a number or a text. -/
def keyK (t : TypeId) : Option SK :=
  match P.underlying t with
  | some (.int _) => some .i
  | some .string => some .s
  | _ => none

def sizesT : List Field → Option (List (Nat × Nat))
  | [] => some []
  | f :: fs => bnd (P.info? f.type) fun i => bnd (sizesT fs) fun l => some ((f.offset, i.size) :: l)
def partsS (t : TypeId) : List (Nat × Operand) → Option (List (Nat × Nat × Arg))
  | [] => some []
  | (i, o) :: ps => bnd (fieldT P t i) fun f => bnd (sizeT P f.2) fun z => bnd (trArg o) fun a => bnd (partsS t ps) fun l => some ((f.1, z, a) :: l)
def partsA (size : Nat) : List (Nat × Operand) → Option (List (Nat × Nat × Arg))
  | [] => some []
  | (i, o) :: ps => bnd (trArg o) fun a => bnd (partsA size ps) fun l => some ((i * size, size, a) :: l)
def partsE : List (Nat × Operand) → Option (List (Nat × Arg))
  | [] => some []
  | (i, o) :: ps => bnd (trArg o) fun a => bnd (partsE ps) fun l => some ((i, a) :: l)

/-- The operation that stands for one of the model's; 'g' gives what is the check's own to choose (which slices count as an object's own, how an append's operand came to be). -/
def trOp (op : Op) (ty : TypeId) (g : VOp) : Option VOp :=
  match op with
  | .move x => bnd (trArg x) fun a => some (.mv a)
  | .assign x => bnd (trArg x) fun a => some (.asg a)
  | .pick c x y => bnd (trArg c) fun c => bnd (trArg x) fun x => bnd (trArg y) fun y => some (.pick c x y)
  | .alloc e =>
    match g with
    | .alloc _ own => bnd (zeroT P e) fun z => bnd (trVals z.cells.toList) fun cs => some (.alloc cs own)
    | _ => none
  | .box e x => bnd (sizeT P e) fun n => bnd (trArg x) fun a => some (.box n a)
  | .build t parts => bnd (zeroT P t) fun z => bnd (trVals z.cells.toList) fun cs =>
    match P.underlying t with
    | some (.struct fs) => bnd (sizesT P fs.toList) fun _ => bnd (partsS P t parts.toList) fun ps => some (.build cs ps)
    | some (.array _ e) => bnd (sizeT P e) fun n => bnd (partsA n parts.toList) fun ps => some (.build cs ps)
    | _ => none
  | .buildSlice t n parts => bnd (sliceT P t) fun e => bnd (zeroT P e) fun z => bnd (trConst z) fun v => bnd (sizeT P e) fun k => bnd (partsE parts.toList) fun ps =>
    if 0 < k ∧ n * k ≤ 65536 ∧ z.cells.size = k then some (.bslice v k n ps) else none
  | .load t a => bnd (aggT P t) fun b => bnd (sizeT P t) fun n => bnd (trArg a) fun a => if b = true ∨ n = 1 then some (.load b n a) else none
  | .store t a x =>
    match g with
    | .store _ _ _ own p => bnd (sizeT P t) fun n => bnd (trArg a) fun a => bnd (trArg x) fun x => some (.store n a x own p)
    | _ => none
  | .nilCheck x => bnd (trArg x) fun a => some (.nilck a)
  | .binOp o t x y _ => bnd (trArg x) fun x => bnd (trArg y) fun y => some (.bin o (eqK P t) x y)
  | .unOp o _ x => bnd (trArg x) fun a => some (.un o a)
  | .convert s d x => bnd (trArg x) fun a =>
    match P.underlying s, P.underlying d with
    | some (.int _), some (.int k) => some (.conv (.toInt k) a)
    | some .string, some .string => some (.conv .same a)
    | some (.slice e), some .string => cnd (byteT P e) (some (.conv .strOfBytes a)) none
    | some .string, some (.slice e) => cnd (byteT P e) (some (.conv .bytesOfStr a)) none
    | _, _ => none
  | .makeFunc f first caps =>
    match f with
    | .func f => bnd (trArgs first.toList) fun a => bnd (trArgs caps.toList) fun c => some (.mkfn f a c)
    | _ => none
  | .makeMap t r =>
    match r with
    | none => some .mkmap
    | some _ => none
  | .slice t x lo hi mx => bnd (trArg x) fun a => bnd (trOpt lo) fun l => bnd (trOpt hi) fun u => bnd (trOpt mx) fun m =>
    match P.underlying t with
    | some .string => some (.slice true 1 a l u m)
    | some (.slice e) => bnd (sizeT P e) fun n => some (.slice false n a l u m)
    | some (.array n e) =>
      match l, u, m with
      | none, none, none => bnd (sizeT P e) fun k => some (.sliceArr n k a)
      | _, _, _ => none
    | _ => none
  | .fieldAddr t x f => bnd (fieldT P t f) fun fd => bnd (sizeT P fd.2) fun n => bnd (trArg x) fun a => if 0 < n then some (.faddr fd.1 a) else none
  | .field t x f => bnd (fieldT P t f) fun fd => bnd (aggT P fd.2) fun b => bnd (sizeT P fd.2) fun n => bnd (trArg x) fun a => if b = true ∨ n = 1 then some (.field fd.1 n b a) else none
  | .indexAddr t x i => bnd (trArg x) fun a => bnd (trArg i) fun j =>
    match P.underlying t with
    | some (.slice e) => bnd (sizeT P e) fun n => some (.iaddr none n a j)
    | some (.array n e) => bnd (sizeT P e) fun k => some (.iaddr (some n) k a j)
    | _ => none
  | .index t x i => bnd (trArg x) fun a => bnd (trArg i) fun j =>
    match P.underlying t with
    | some .string => some (.index true 0 1 false a j)
    | some (.array n e) => bnd (aggT P e) fun b => bnd (sizeT P e) fun k => if b = true ∨ k = 1 then some (.index false n k b a j) else none
    | _ => none
  | .lookup t x i ok => bnd (trArg x) fun a => bnd (trArg i) fun k =>
    match P.underlying t with
    | some (.map kt e) =>
      bnd (keyK P kt) fun q => bnd (zeroT P e) fun z => bnd (trConst z) fun v => some (.lookup q v ok a k)
    | _ => none
  | .mapUpdate t m k v =>
    match P.underlying t with
    | some (.map kt _) =>
      bnd (keyK P kt) fun q => bnd (trArg m) fun m => bnd (trArg k) fun k => bnd (trArg v) fun v => some (.mapupd q m k v)
    | _ => none
  | .extract x i => bnd (trArg x) fun a => some (.extract i a)
  | .call c =>
    match c.callee with
    | .value (.func f) =>
      match g with
      | .call q _ _ => bnd (trArgs c.args.toList) fun as => some (.call q f as)
      | _ => none
    | .value x =>
      match g with
      | .callv q _ _ => bnd (trArg x) fun a => bnd (trArgs c.args.toList) fun as => some (.callv q a as)
      | _ => none
    | .builtin .append =>
      match c.args.toList, c.argTypes.toList with
      | [s, x], [t, tx] => bnd (sliceT P t) fun e => bnd (P.info? e) fun i => bnd (trArg s) fun a => bnd (trArg x) fun y =>
        match i.zero, P.underlying tx with
        | some z, some (.slice e') => if e' = e ∧ tx = t ∧ 0 < i.size ∧ 0 < i.bytes ∧ z.cells.size = i.size then
          match g with
          | .app p _ _ _ _ => some (.app p i.size i.bytes a y)
          | .appc r _ _ _ _ => some (.appc r i.size i.bytes a y)
          | _ => none
          else none
        | _, _ => none
      | _, _ => none
    | .builtin .len =>
      match c.args.toList, c.argTypes.toList with
      | [x], [t] => bnd (trArg x) fun a =>
        match P.underlying t with
        | some .string => some (.len .str a)
        | some (.slice _) => some (.len .sl a)
        | some (.map _ _) => some (.len .map a)
        | some (.array n _) => some (.len (.arr n) a)
        | some (.pointer r) => bnd (arrayT P r) fun ar => some (.len (.arr ar.1) a)
        | _ => none
      | _, _ => none
    | .builtin .min => bnd (trArgs c.args.toList) fun as => some (.mn as)
    | .builtin .max => bnd (trArgs c.args.toList) fun as => some (.mx as)
    | .builtin .delete =>
      match c.args.toList, c.argTypes.toList with
      | [m, k], t :: _ =>
        match P.underlying t with
        | some (.map kt _) =>
          bnd (keyK P kt) fun q => bnd (trArg m) fun m => bnd (trArg k) fun k => some (.delete q m k)
        | _ => none
      | _, _ => none
    | _ => none
  | _ => none

def trGuard (ops : Array Oper) : Option (Nat × Bool) → Option (Option (Nat × Bool))
  | none => some none
  | some (j, b) =>
    match (ops[j]?).bind (·.dst) with
    | some t => some (some (t, b))
    | none => none

def trI (ops : Array Oper) (o : Oper) (g : VI) : Option VI :=
  bnd (trGuard ops o.guard) fun gd => bnd (trOp P o.op o.type g.op) fun op => some ⟨o.dst, gd, op⟩
def trIs (ops : Array Oper) : List Oper → List VI → Option (List VI)
  | [], [] => some []
  | o :: os, g :: gs => bnd (trI P ops o g) fun i => bnd (trIs ops os gs) fun l => some (i :: l)
  | _, _ => none

def trCode : Code → VCode → Option VCode
  | .skip, .skip => some .skip
  | .ret, .ret => some .ret
  | .exit j, .exit _ => some (.exit j)
  | .region _ ops false, .ops is live => bnd (trIs P ops ops.toList is) fun l => some (.ops l live)
  | .region _ ops true, .dops c is live => bnd (trIs P ops ops.toList is) fun l => some (.dops c l live)
  | .seq a b, .seq x y => bnd (trCode a x) fun a => bnd (trCode b y) fun b => some (.seq a b)
  | .cond c a b, .cond _ x y => bnd (trArg c) fun c => bnd (trCode a x) fun a => bnd (trCode b y) fun b => some (.cond c a b)
  | .block id b, .block _ x => bnd (trCode b x) fun b => some (.block id b)
  | .loop b, .loop live own x => bnd (trCode b x) fun b => some (.loop live own b)
  | _, _ => none
def trRes : List ResultVar → Option (List Res)
  | [] => some []
  | .tmp t :: rs => bnd (trRes rs) fun l => some (.r t :: l)
  | .cell a t :: rs => bnd (aggT P t) fun b => bnd (sizeT P t) fun n => bnd (trRes rs) fun l => if b = true ∨ n = 1 then some (.cell a b n :: l) else none
end
end Go.Vm
