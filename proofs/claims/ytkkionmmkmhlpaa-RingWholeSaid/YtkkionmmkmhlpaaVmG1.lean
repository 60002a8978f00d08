/- The V-machine, part 1. -/
import GoSem.Core.View
import Derived.WalkKit
/- The V-machine: an interpreter of the model's operations over plain values. No program in sight. -/
set_option linter.unusedVariables false
set_option linter.unusedSimpArgs false
namespace Go.Vm

def bnd {α β : Type} (x : Option α) (f : α → Option β) : Option β :=
  match x with
  | some a => f a
  | none => none
@[simp] theorem bnd_some {α β : Type} (a : α) (f : α → Option β) : bnd (some a) f = f a := rfl
@[simp] theorem bnd_none {α β : Type} (f : α → Option β) : bnd none f = none := rfl
@[congr] theorem bnd_congr {α β : Type} {x y : Option α} {f : α → Option β} (h : x = y) : bnd x f = bnd y f := by rw [h]
def cnd {α : Type} (b : Bool) (x y : α) : α :=
  match b with
  | true => x
  | false => y
@[simp] theorem cnd_true {α : Type} (x y : α) : cnd true x y = x := rfl
@[simp] theorem cnd_false {α : Type} (x y : α) : cnd false x y = y := rfl
@[congr] theorem cnd_congr {α : Type} {b c : Bool} {x y : α} (h : b = c) : cnd b x y = cnd c x y := by rw [h]
theorem bnd_eq_some {α β : Type} {x : Option α} {f : α → Option β} {r : β} (h : bnd x f = some r) : ∃ a, x = some a ∧ f a = some r := by
  cases x with
  | none => cases h
  | some a => exact ⟨a, rfl, h⟩
inductive V where
  | bool (b : Bool)
  | int (k : IntKind) (n : Int)
  | str (s : List UInt8)
  | ptr (a : Option (Nat × Nat))
  | ro (cs : List V)
  | sl (xs : List V)
  | lst (xs : List V)
  | map (m : Option Nat)
  | fn (f : Nat) (first caps : List V)
  | nofn
  | agg (cs : List V)
  | tup (vs : List V)
  | undef
  | top
  | bb
  | cel
  | msl (i o n z : Nat)
  | eml (i z : Nat)
  | nsl
  | own (xs : List V)

mutual
def V.lt (n : Nat) : V → Bool
  | .ptr (some (i, _)) => decide (i < n)
  | .map (some i) => decide (i < n)
  | .msl i _ _ _ => decide (i < n)
  | .eml i _ => decide (i < n)
  | .fn _ a b => V.ltL n a && V.ltL n b
  | .agg cs => V.ltL n cs
  | .tup vs => V.ltL n vs
  | _ => true
def V.ltL (n : Nat) : List V → Bool
  | [] => true
  | v :: vs => V.lt n v && V.ltL n vs
end

def V.flat : V → List V
  | .agg cs => cs
  | v => [v]

def V.pureCell : V → Bool
  | .bool _ | .int _ _ | .str _ | .sl _ | .ptr none | .map none | .nofn | .fn _ [] [] => true
  | _ => false
def V.isCell : V → Bool
  | .agg _ | .tup _ | .undef | .top | .lst _ => false
  | _ => true
def V.pure : V → Bool
  | .agg cs => cs.all V.pureCell
  | v => v.pureCell

structure Fl where
  wr : List Nat
  esc : List Nat
  all : Bool
abbrev Fl.no : Fl := ⟨[], [], false⟩
abbrev Fl.w (l : List Nat) : Fl := ⟨l, [], false⟩
def addE (a b : List Nat) : List Nat := a ++ b.filter fun i => !a.contains i
@[simp] theorem addE_nil (a : List Nat) : addE a [] = a := by simp [addE]
@[simp] theorem nil_addE (a : List Nat) : addE [] a = a := by simp [addE]
@[simp] theorem addE_self (i : Nat) : addE [i] [i] = [i] := by simp [addE]
theorem mem_addE {a b : List Nat} {i : Nat} : i ∈ addE a b ↔ i ∈ a ∨ i ∈ b := by
  simp only [addE, List.mem_append, List.mem_filter, Bool.not_eq_true', List.contains_eq_mem, decide_eq_false_iff_not]
  by_cases h : i ∈ a <;> simp [h]
def Fl.or (a b : Fl) : Fl := ⟨addE a.wr b.wr, addE a.esc b.esc, a.all || b.all⟩
def wrLt (n : Nat) : List Nat → List Nat
  | [] => []
  | i :: l => cnd (decide (i < n)) (i :: wrLt n l) (wrLt n l)
theorem mem_wrLt {n i : Nat} : ∀ {l : List Nat}, i ∈ wrLt n l ↔ i ∈ l ∧ i < n
  | [] => by simp [wrLt]
  | j :: l => by
    by_cases h : j < n
    · simp only [wrLt, decide_eq_true h, cnd_true, List.mem_cons, mem_wrLt]
      constructor
      · rintro (rfl | ⟨h1, h2⟩)
        · exact ⟨.inl rfl, h⟩
        · exact ⟨.inr h1, h2⟩
      · rintro ⟨rfl | h1, h2⟩
        · exact .inl rfl
        · exact .inr ⟨h1, h2⟩
    · simp only [wrLt, decide_eq_false h, cnd_false, List.mem_cons, mem_wrLt]
      constructor
      · rintro ⟨h1, h2⟩; exact ⟨.inr h1, h2⟩
      · rintro ⟨rfl | h1, h2⟩
        · exact absurd h2 h
        · exact ⟨h1, h2⟩
def Fl.cut (n : Nat) (a : Fl) : Fl := ⟨wrLt n a.wr, a.esc, a.all⟩

inductive Obj where
  | cells (cs : List V) (own : List (Nat × Nat))
  | map (es : List (V × V))
  | emp
  | dead

abbrev Heap := List Obj
abbrev Regs := List (Nat × V)

def get : Regs → Nat → V
  | [], _ => .top
  | (k, v) :: t, r => cnd (decide (r = k)) v (get t r)

inductive Arg where
  | r (n : Nat)
  | c (v : V)

def Arg.val (rs : Regs) : Arg → V
  | .r n => get rs n
  | .c v => v
def vals (rs : Regs) : List Arg → List V
  | [] => []
  | a :: as => a.val rs :: vals rs as

inductive Place where
  | fresh
  | reg (p : Nat)

inductive CK where
  | toInt (k : IntKind)
  | strOfBytes
  | bytesOfStr
  | same

inductive SK where
  | b | i | s
inductive EK where
  | bool | ptr | map | fn | no
  | agg (ks : List SK)
inductive LK where
  | arr (n : Nat)
  | str | sl | map

inductive VOp where
  | mv (x : Arg)
  | asg (x : Arg)
  | pick (c a b : Arg)
  | alloc (cs : List V) (own : List (Nat × Nat))
  | box (size : Nat) (x : Arg)
  | build (zero : List V) (parts : List (Nat × Nat × Arg))
  | bslice (zero : V) (size n : Nat) (parts : List (Nat × Arg))
  | load (agg : Bool) (size : Nat) (a : Arg)
  | store (size : Nat) (a x : Arg) (own : List (Nat × Nat)) (pend : Option Nat)
  | nilck (x : Arg)
  | bin (op : BinOp) (k : EK) (x y : Arg)
  | un (op : UnOp) (x : Arg)
  | conv (k : CK) (x : Arg)
  | mkfn (f : Nat) (first caps : List Arg)
  | mkmap
  | slice (str : Bool) (size : Nat) (x : Arg) (lo hi mx : Option Arg)
  | sliceArr (n size : Nat) (x : Arg)
  | faddr (off : Nat) (x : Arg)
  | field (off size : Nat) (agg : Bool) (x : Arg)
  | iaddr (arr : Option Nat) (size : Nat) (x i : Arg)
  | index (str : Bool) (n size : Nat) (agg : Bool) (x i : Arg)
  | lookup (kk : SK) (zero : V) (ok : Bool) (m k : Arg)
  | mapupd (kk : SK) (m k v : Arg)
  | delete (kk : SK) (m k : Arg)
  | extract (i : Nat) (x : Arg)
  | call (q : Bool) (f : Nat) (args : List Arg)
  | callv (q : Bool) (x : Arg) (args : List Arg)
  | app (p : Place) (size bytes : Nat) (s x : Arg)
  | appc (a size bytes : Nat) (s x : Arg)
  | len (k : LK) (x : Arg)
  | mn (xs : List Arg)
  | mx (xs : List Arg)
  | newl (size : Nat)
  | appl (p size bytes : Nat) (s x : Arg)
  | lenl (p : Nat) (x : Arg)
  | slf (p size : Nat) (x : Arg) (lo hi : Option Arg)
  | calll (f p size : Nat) (F : List V → List V → Option (List V)) (x : Arg) (args : List Arg)
  | bld (zero : List V) (parts : List (Nat × Nat × Arg)) (offs : List Nat)
  | boxo (size : Nat) (x : Arg) (own : List (Nat × Nat))
  | bstr (x : Arg)
  | isnil (x : Arg)
  | bad
  | mvn
  | bsll (zero : V) (size n : Nat) (parts : List (Nat × Arg))
  | appm (size bytes : Nat) (s x : Arg)
  | thwr (p size : Nat)
  | thwc (a off size : Nat)
  | setc (a off size : Nat) (agg : Bool)
  | frzr (r size : Nat) (agg : Bool)
  | frzc (a off size : Nat) (agg : Bool)
  | frzl (p size : Nat)
  | mrk (p : Nat) (x : Arg)
  | clr (zs : List V) (x : Arg)
  | mkm (bytes : Nat) (zs : List V) (x : Arg)

structure VI where
  dst : Option Nat
  guard : Option (Nat × Bool)
  op : VOp

inductive VCode where
  | skip
  | ops (is : List VI) (live : List Nat)
  | dops (c : Nat) (is : List VI) (live : List Nat)
  | xops (c x : Nat) (chk : List Nat) (is : List VI) (live : List Nat)
  | seq (a b : VCode)
  | cond (c : Arg) (a b : VCode)
  | block (id : Nat) (b : VCode)
  | loop (live : List Nat) (own : List (Nat × Nat × Nat)) (b : VCode)
  | exit (id : Nat)
  | ret
  | amb (o : VCode) (c : Arg) (x y z : VCode)
  | gop (gs : List VI) (y : VCode)

inductive Res where
  | r (n : Nat)
  | cell (a : Nat) (agg : Bool) (size : Nat)

structure VFun where
  params : Nat
  body : VCode
  res : List Res
  own : Option Nat

def bitsV (k : IntKind) (r : BitVec k.bits) : V := .int k (k.wrap r.toNat)

def bytesLess : List UInt8 → List UInt8 → Bool
  | _, [] => false
  | [], _ :: _ => true
  | a :: x, b :: y => a < b || (a == b && bytesLess x y)

def cellEq : SK → V → V → Option Bool
  | .b, .bool a, .bool b => some (a == b)
  | .i, .int k a, .int k' b => cnd (decide (k = k')) (some (a == b)) none
  | .s, .str a, .str b => some (a == b)
  | _, _, _ => none
def cellsEq : List SK → List V → List V → Option Bool
  | [], [], [] => some true
  | k :: ks, x :: xs, y :: ys => bnd (cellEq k x y) fun b => bnd (cellsEq ks xs ys) fun c => some (b && c)
  | _, _, _ => none

def eqV : EK → V → V → Option Bool
  | .bool, .bool a, .bool b => some (a == b)
  | .ptr, .ptr a, .ptr none => some a.isNone
  | .ptr, .ro _, .ptr none => some false
  | .ptr, .ptr none, .ptr (some _) => some false
  | .map, .map a, .map none => some a.isNone
  | .fn, .nofn, .nofn => some true
  | .fn, .fn _ _ _, .nofn => some false
  | .agg ks, .agg xs, .agg ys => cellsEq ks xs ys
  | _, _, _ => none

def intV (op : BinOp) (k : IntKind) (a b : Int) : Option V :=
  match op with
  | .add => some (.int k (k.wrap (a + b)))
  | .sub => some (.int k (k.wrap (a - b)))
  | .mul => some (.int k (k.wrap (a * b)))
  | .quo => cnd (b == 0) none (some (.int k (k.wrap (a.tdiv b))))
  | .rem => cnd (b == 0) none (some (.int k (a.tmod b)))
  | .and => some (bitsV k (BitVec.ofInt k.bits a &&& BitVec.ofInt k.bits b))
  | .or => some (bitsV k (BitVec.ofInt k.bits a ||| BitVec.ofInt k.bits b))
  | .xor => some (bitsV k (BitVec.ofInt k.bits a ^^^ BitVec.ofInt k.bits b))
  | .andNot => some (bitsV k (BitVec.ofInt k.bits a &&& ~~~(BitVec.ofInt k.bits b)))
  | .eql => some (.bool (a == b))
  | .neq => some (.bool (!(a == b)))
  | .lss => some (.bool (decide (a < b)))
  | .leq => some (.bool (decide (a ≤ b)))
  | .gtr => some (.bool (decide (b < a)))
  | .geq => some (.bool (decide (b ≤ a)))
  | _ => none
def shV (op : BinOp) (k : IntKind) (a b : Int) : Option V :=
  match op with
  | .shl => cnd (decide (b < 0)) none (some (.int k (k.wrap (a * 2 ^ (min b.toNat k.bits)))))
  | .shr => cnd (decide (b < 0)) none (some (.int k (a.fdiv (2 ^ (min b.toNat k.bits)))))
  | _ => none
def strV (op : BinOp) (a b : List UInt8) : Option V :=
  match op with
  | .add => cnd (decide (a.length + b.length ≤ 140737488351232)) (some (.str (a ++ b))) none
  | .eql => some (.bool (a == b))
  | .neq => some (.bool (!(a == b)))
  | .lss => some (.bool (bytesLess a b))
  | .leq => some (.bool (bytesLess a b || a == b))
  | .gtr => some (.bool (!(bytesLess a b || a == b)))
  | .geq => some (.bool (!bytesLess a b))
  | _ => none

def isShift : BinOp → Bool
  | .shl | .shr => true
  | _ => false
def binV (op : BinOp) (ek : EK) : V → V → Option V
  | .int k a, .int k' b => cnd (isShift op) (shV op k a b) (cnd (decide (k = k')) (intV op k a b) none)
  | .str a, .str b => strV op a b
  | x, y =>
    match op with
    | .eql => bnd (eqV ek x y) fun b => some (.bool b)
    | .neq => bnd (eqV ek x y) fun b => some (.bool (!b))
    | _ => none

def unV : UnOp → V → Option V
  | .not, .bool b => some (.bool (!b))
  | .neg, .int k n => some (.int k (k.wrap (0 - n)))
  | .xor, .int k n => some (bitsV k (BitVec.ofInt k.bits (if k.signed then -1 else k.max) ^^^ BitVec.ofInt k.bits n))
  | _, _ => none

def bytesOf : List V → Option (List UInt8)
  | [] => some []
  | .int .u8 n :: xs => bnd (bytesOf xs) fun l => some (UInt8.ofNat n.toNat :: l)
  | _ :: _ => none

def byteV (b : UInt8) : V := .int .u8 b.toNat

def convV : CK → V → Option V
  | .toInt k, .int _ n => some (.int k (k.wrap n))
  | .strOfBytes, .sl xs => bnd (bytesOf xs) fun l => some (.str l)
  | .bytesOfStr, .str s => some (.sl (s.map byteV))
  | .same, .str s => some (.str s)
  | _, _ => none

def minV : V → V → Option V
  | .int k x, .int k' y => cnd (decide (k = k')) (some (.int k (if y < x then y else x))) none
  | _, _ => none
def maxV : V → V → Option V
  | .int k x, .int k' y => cnd (decide (k = k')) (some (.int k (if y > x then y else x))) none
  | _, _ => none
def foldV (f : V → V → Option V) : V → List V → Option V
  | x, [] => some x
  | x, y :: ys => bnd (f x y) fun z => foldV f z ys
def foldV1 (f : V → V → Option V) : List V → Option V
  | [] => none
  | x :: xs => foldV f x xs

def fillV (rs : Regs) (cells : List V) : List (Nat × Nat × Arg) → Option (List V)
  | [] => some cells
  | (off, size, a) :: rest =>
    cnd (decide (((a.val rs).flat.length = size ∧ off + size ≤ cells.length) ∧ (a.val rs).flat.all V.isCell = true)) (fillV rs (cells.take off ++ ((a.val rs).flat ++ cells.drop (off + size))) rest) none

def fillE (rs : Regs) (cells : List V) : List (Nat × Arg) → Option (List V)
  | [] => some cells
  | (i, a) :: rest => cnd (decide (i < cells.length)) (fillE rs (cells.set i (a.val rs)) rest) none

def findV (q : SK) (k : V) : List (V × V) → Option (Option V)
  | [] => some none
  | (k', v) :: es => bnd (cellEq q k k') fun b => cnd b (some (some v)) (findV q k es)
def putV (q : SK) (k v : V) : List (V × V) → Option (List (V × V))
  | [] => some [(k, v)]
  | (k', v') :: es => bnd (cellEq q k k') fun b => cnd b (some ((k, v) :: es)) (bnd (putV q k v es) fun l => some ((k', v') :: l))
def delV (q : SK) (k : V) : List (V × V) → Option (List (V × V))
  | [] => some []
  | (k', v') :: es => bnd (cellEq q k k') fun b => cnd b (some es) (bnd (delV q k es) fun l => some ((k', v') :: l))
def isKey : SK → V → Bool
  | .i, .int _ _ => true
  | .s, .str _ => true
  | _, _ => false

def natOf : V → Option Nat
  | .int _ n => cnd (decide (0 ≤ n)) (some n.toNat) none
  | _ => none
def natOr (rs : Regs) (d : Nat) : Option Arg → Option Nat
  | none => some d
  | some a => natOf (a.val rs)

def cut (agg : Bool) (size off : Nat) (cs : List V) : Option V :=
  cnd (decide (off + size ≤ cs.length)) (cnd agg (some (.agg ((cs.drop off).take size))) (cnd (decide (size = 1)) cs[off]? none)) none

def hget (h : Heap) (i : Nat) : Option Obj := h[i]?
def cellsAt (h : Heap) (i : Nat) : Option (List V × List (Nat × Nat)) :=
  match hget h i with
  | some (.cells cs own) => some (cs, own)
  | _ => none
def mapAt (h : Heap) (i : Nat) : Option (List (V × V)) :=
  match hget h i with
  | some (.map es) => some es
  | _ => none
def mapOf (h : Heap) : V → Option (List (V × V))
  | .map none => some []
  | .map (some i) => mapAt h i
  | _ => none

def loadV (agg : Bool) (size : Nat) (h : Heap) : V → Option V
  | .ptr (some (i, o)) => bnd (cellsAt h i) fun c => cut agg size o c.1
  | .ro cs => cut agg size 0 cs
  | _ => none
def pickV : V → V → V → Option V
  | .bool t, a, b => some (cnd t a b)
  | _, _, _ => none
def nilckV : V → Option V
  | .ptr (some a) => some (.ptr (some a))
  | .ro cs => some (.ro cs)
  | .fn f a b => some (.fn f a b)
  | _ => none
def sizeOk (size : Nat) : List V → Bool
  | [] => true
  | x :: _ => x.flat.length == size
def allSize (size : Nat) : List V → Bool
  | [] => true
  | x :: xs => x.flat.length == size && allSize size xs
def sliceV (size : Nat) (rs : Regs) (lo hi mx : Option Arg) : Bool → V → Option V
  | true, .str s => bnd (natOr rs 0 lo) fun l => bnd (natOr rs s.length hi) fun u => cnd (decide (l ≤ u ∧ u ≤ s.length) && mx.isNone) (some (.str ((s.take u).drop l))) none
  | false, .sl xs => bnd (natOr rs 0 lo) fun l => bnd (natOr rs xs.length hi) fun u => bnd (natOr rs u mx) fun m =>
      cnd (decide (l ≤ u ∧ u ≤ m ∧ m ≤ xs.length) && ((hi.isSome || mx.isNone) && sizeOk size xs)) (some (.sl ((xs.take u).drop l))) none
  | false, .msl i o n z => bnd (natOr rs 0 lo) fun l => bnd (natOr rs n hi) fun u =>
      cnd (decide (l ≤ u ∧ u ≤ n ∧ z = size) && mx.isNone) (some (cnd (decide (l < u)) (.msl i (o + l * size) (u - l) z) (.sl []))) none
  | _, _ => none
def faddrV (off : Nat) : V → Option V
  | .ptr (some (i, o)) => some (.ptr (some (i, o + off)))
  | .ro cs => some (.ro (cs.drop off))
  | _ => none
def fieldV (off size : Nat) (agg : Bool) : V → Option V
  | .agg cs => cut agg size off cs
  | _ => none
def iaddrV (size j : Nat) : Option Nat → V → Option V
  | none, .sl xs => bnd (xs[j]?) fun v => cnd (v.flat.length == size) (some (.ro v.flat)) none
  | none, .msl k o n _ => cnd (decide (j < n)) (some (.ptr (some (k, o + j * size)))) none
  | some n, .ptr (some (k, o)) => cnd (decide (j < n)) (some (.ptr (some (k, o + j * size)))) none
  | some n, .ro cs => cnd (decide (j < n)) (some (.ro (cs.drop (j * size)))) none
  | _, _ => none
def indexV (n size : Nat) (agg : Bool) (j : Nat) : Bool → V → Option V
  | true, .str s => bnd (s[j]?) fun b => some (byteV b)
  | false, .agg cs => cnd (decide (j < n)) (cut agg size (j * size) cs) none
  | _, _ => none
def found (zero : V) : Bool → Option V → V
  | true, some v => .tup [v, .bool true]
  | true, none => .tup [zero, .bool false]
  | false, some v => v
  | false, none => zero
def extractV (i : Nat) : V → Option V
  | .tup vs => vs[i]?
  | _ => none
def allPure : List V → Bool
  | [] => true
  | v :: vs => v.pure && allPure vs
def appV (size bytes : Nat) : V → V → Option V
  | .sl xs, .sl ys => cnd (decide ((xs.length + ys.length) * bytes ≤ 140737488355328) && (sizeOk size xs && sizeOk size ys)) (some (.sl (xs ++ ys))) none
  | _, _ => none
def lenV (h : Heap) : LK → V → Option V
  | .arr n, _ => some (.int .i64 n)
  | .str, .str s => some (.int .i64 s.length)
  | .sl, .sl xs => some (.int .i64 xs.length)
  | .sl, .msl _ _ n _ => some (.int .i64 n)
  | .sl, .eml _ _ => some (.int .i64 0)
  | .sl, .nsl => some (.int .i64 0)
  | .map, .map m => bnd (mapOf h (.map m)) fun es => some (.int .i64 es.length)
  | _, _ => none

def valOp (h : Heap) (rs : Regs) : VOp → Option V
  | .mv x => some (x.val rs)
  | .asg x => some (x.val rs)
  | .pick c a b => pickV (c.val rs) (a.val rs) (b.val rs)
  | .build zero parts => bnd (fillV rs zero parts) fun cs => some (.agg cs)
  | .bslice zero size n parts => bnd (fillE rs (List.replicate n zero) parts) fun xs => cnd (allPure xs && allSize size xs) (some (.sl xs)) none
  | .load agg size a => loadV agg size h (a.val rs)
  | .nilck x => nilckV (x.val rs)
  | .bin op k x y => binV op k (x.val rs) (y.val rs)
  | .un op x => unV op (x.val rs)
  | .conv k x => convV k (x.val rs)
  | .mkfn f first caps => some (.fn f (vals rs first) (vals rs caps))
  | .slice str size x lo hi mx => sliceV size rs lo hi mx str (x.val rs)
  | .faddr off x => faddrV off (x.val rs)
  | .field off size agg x => fieldV off size agg (x.val rs)
  | .iaddr arr size x i => bnd (natOf (i.val rs)) fun j => iaddrV size j arr (x.val rs)
  | .index str n size agg x i => bnd (natOf (i.val rs)) fun j => indexV n size agg j str (x.val rs)
  | .lookup q zero ok m k => bnd (mapOf h (m.val rs)) fun es => cnd (isKey q (k.val rs)) (bnd (findV q (k.val rs) es) fun r => some (found zero ok r)) none
  | .extract i x => extractV i (x.val rs)
  | .app _ size bytes s x => appV size bytes (s.val rs) (x.val rs)
  | .len k x => lenV h k (x.val rs)
  | .mn xs => foldV1 minV (vals rs xs)
  | .mx xs => foldV1 maxV (vals rs xs)
  | _ => none

def hset (h : Heap) (i : Nat) (o : Obj) : Heap := h.set i o
def ownHas (own : List (Nat × Nat)) (j sz : Nat) : Bool :=
  match own with
  | [] => false
  | (k, z) :: l => (decide (k = j) && decide (z = sz)) || ownHas l j sz
def ownOk (o size : Nat) (own : List (Nat × Nat)) : List (Nat × Nat) → Bool
  | [] => true
  | (j, sz) :: js => (!(decide (o ≤ j) && decide (j < o + size)) || ownHas own (j - o) sz) && ownOk o size own js
def storeC (fb lb size : Nat) (own : List (Nat × Nat)) (h : Heap) (i o : Nat) (v : V) (c : List V × List (Nat × Nat)) : Option (Heap × Fl) :=
  cnd (decide (v.flat.length = size ∧ o + size ≤ c.1.length) && (ownOk o size own c.2 && v.flat.all V.isCell))
    (some (hset h i (.cells (c.1.take o ++ (v.flat ++ c.1.drop (o + size))) c.2), ⟨cnd (decide (i < fb)) [i] [], cnd (v.lt 0) [] [i], false⟩)) none
def storeV (fb lb size : Nat) (own : List (Nat × Nat)) (h : Heap) (v : V) : V → Option (Heap × Fl)
  | .ptr (some (i, o)) => bnd (cellsAt h i) (storeC fb lb size own h i o v)
  | _ => none
def samePtr (rs : Regs) (v : V) : Option Nat → Bool
  | none => true
  | some p =>
    match get rs p, v with
    | .ptr (some (i, o)), .ptr (some (j, u)) => decide (i = j) && decide (o = u)
    | _, _ => false
def appcV (fb size : Nat) (h : Heap) : V → Option (List Nat)
  | .ptr (some (i, o)) => bnd (cellsAt h i) fun c => cnd (ownHas c.2 o size) (some (cnd (decide (i < fb)) [i] [])) none
  | _ => none

abbrev Callee := Nat → List V → Heap → Option (V × Heap × Fl)

def boxable (size : Nat) (v : V) : Bool := v.flat.length == size && v.flat.all V.isCell

def mapupdV (fb lb : Nat) (h : Heap) (q : SK) (k v : V) : V → Option (V × Heap × Fl)
  | .map (some i) => bnd (mapAt h i) fun es => cnd (isKey q k) (bnd (putV q k v es) fun es' => some (.undef, hset h i (.map es'), ⟨cnd (decide (i < fb)) [i] [], cnd (v.lt 0) [] [i], false⟩)) none
  | _ => none
def deleteV (fb : Nat) (h : Heap) (q : SK) (k : V) : V → Option (V × Heap × Fl)
  | .map none => cnd (isKey q k) (some (.tup [], h, .no)) none
  | .map (some i) => bnd (mapAt h i) fun es => cnd (isKey q k) (bnd (delV q k es) fun es' => some (.tup [], hset h i (.map es'), ⟨cnd (decide (i < fb)) [i] [], [], false⟩)) none
  | _ => none
def sliceArrV (fb n size : Nat) (h : Heap) : V → Option (V × Heap × Fl)
  | .ptr (some (i, 0)) => bnd (cellsAt h i) fun c =>
      cnd (decide (c.1.length = n * size ∧ c.2 = [])) (some (.msl i 0 n size, h, .no)) none
  | _ => none

def callV (C : Callee) (h : Heap) (args : List V) : V → Option (V × Heap × Fl)
  | .fn f first caps => C f (first ++ (args ++ caps)) h
  | _ => none

open Classical in
noncomputable def still (h : Heap) (r : V × Heap × Fl) : Option V := if r.2.1 = h ∧ r.2.2 = .no then some r.1 else none
noncomputable def quiet (fb : Nat) (q : Bool) (h : Heap) (r : V × Heap × Fl) : Option (V × Heap × Fl) := cnd q (bnd (still h r) fun v => some (v, h, .no)) (some (r.1, r.2.1, r.2.2.cut fb))

def applV (size bytes : Nat) : V → V → Option V
  | .lst xs, .sl ys => cnd (decide ((xs.length + ys.length) * bytes ≤ 140737488355328) && (sizeOk size xs && sizeOk size ys)) (some (.lst (xs ++ ys))) none
  | _, _ => none
def lenlV : V → Option V
  | .lst xs => some (.int .i64 xs.length)
  | _ => none
def slfV (size : Nat) (rs : Regs) (lo hi : Option Arg) : V → Option V
  | .lst xs => sliceV size rs lo hi none false (.sl xs)
  | _ => none
def calllV (F : List V → List V → Option (List V)) (args : List V) : V → Option V
  | .lst xs => bnd (F xs args) fun ys => some (.lst ys)
  | _ => none
def isnilV : V → Option V
  | .sl [] => some .bb
  | .sl (_ :: _) => some (.bool false)
  | .nsl => some (.bool true)
  | .msl _ _ _ _ => some (.bool false)
  | _ => none
open Classical in
noncomputable def ambV {α : Type} : V → Option α → Option α → Option α
  | .bool b, r, s => cnd b r s
  | .bb, some a, some b => if a = b then some a else none
  | _, _, _ => none
theorem ambV_some {α : Type} {v : V} {r s : Option α} {q : α} (h : ambV v r s = some q) : (v = .bool true ∧ r = some q) ∨ (v = .bool false ∧ s = some q) ∨ (v = .bb ∧ r = some q ∧ s = some q) := by
  unfold ambV at h
  split at h
  · rename_i b
    cases b
    · exact .inr (.inl ⟨rfl, h⟩)
    · exact .inl ⟨rfl, h⟩
  · split at h
    · rename_i e
      subst e
      cases h
      exact .inr (.inr ⟨rfl, rfl, rfl⟩)
    · cases h
  · cases h
def chunks (agg : Bool) (z : Nat) : Nat → List V → List V
  | 0, _ => []
  | n + 1, cs => cnd agg (.agg (cs.take z)) (cs.headD .top) :: chunks agg z n (cs.drop z)
def mcells (h : Heap) : V → Option (List V × Nat)
  | .nsl => some ([], 0)
  | .eml k _ => match hget h k with
    | some .emp => some ([], 0)
    | _ => none
  | .msl k o n z => match hget h k with
    | some (.cells cs []) => cnd (decide (o + n * z ≤ cs.length)) (some ((cs.drop o).take (n * z), n)) none
    | _ => none
  | _ => none
def mkill (h : Heap) : V → Heap
  | .eml k _ => hset h k .dead
  | .msl k _ _ _ => hset h k .dead
  | _ => h
def mobj : V → Nat
  | .eml k _ => k
  | .msl k _ _ _ => k
  | _ => 0
def misnil : V → Bool
  | .nsl => true
  | _ => false
def mnot (i : Nat) : V → Bool
  | .eml k _ => decide (k ≠ i)
  | .msl k _ _ _ => decide (k ≠ i)
  | _ => true
def mnewV (h : Heap) (size n : Nat) : V := cnd (decide (n = 0)) (.eml h.length size) (.msl h.length 0 n size)
def mnewO (n : Nat) (cs : List V) : Obj := cnd (decide (n = 0)) .emp (.cells cs [])
def msize (size : Nat) : V → Bool
  | .nsl => true
  | .eml _ z => decide (z = size)
  | .msl _ o _ z => decide (o = 0) && decide (z = size)
  | _ => false
def msizeA (size : Nat) : V → Bool
  | .nsl => true
  | .eml _ z => decide (z = size)
  | .msl _ _ _ z => decide (z = size)
  | _ => false
def appX (size : Nat) (h : Heap) : V → Option (List V × Nat)
  | .sl ys => cnd (sizeOk size ys) (some (ys.flatMap V.flat, ys.length)) none
  | .msl k o n z => cnd (msizeA size (.msl k o n z)) (mcells h (.msl k o n z)) none
  | .eml k z => cnd (msizeA size (.eml k z)) (mcells h (.eml k z)) none
  | .nsl => some ([], 0)
  | _ => none
def appmV (fb size bytes : Nat) (h : Heap) (s x : V) : Option (V × Heap × Fl) :=
  bnd (cnd (msize size s) (mcells h s) none) fun c => bnd (appX size h x) fun y =>
    cnd (decide ((c.2 + y.2) * bytes ≤ 140737488355328)) (cnd (decide (y.2 = 0)) (some (s, h, .no))
      (some (.msl h.length 0 (c.2 + y.2) size, mkill h s ++ [.cells (c.1 ++ y.1) []], ⟨[], [], !misnil s && decide (mobj s < fb)⟩))) none
def thwV (h : Heap) (size : Nat) : V → Option (V × Heap × Fl)
  | .lst xs => some (mnewV h size xs.length, h ++ [mnewO xs.length (xs.flatMap V.flat)], .no)
  | _ => none
def ownDel (o : Nat) (own : List (Nat × Nat)) : List (Nat × Nat) := own.filter fun x => decide (x.1 ≠ o)
def ownNot (o : Nat) (own : List (Nat × Nat)) : Bool := own.all fun x => decide (x.1 ≠ o)
def ownV : Option V → Option (List V)
  | some (.own xs) => some xs
  | _ => none
def offV (off : Nat) : V → V
  | .ptr (some (i, o)) => .ptr (some (i, o + off))
  | v => v
def thwcV (fb size : Nat) (h : Heap) : V → Option (V × Heap × Fl)
  | .ptr (some (i, o)) => bnd (cellsAt h i) fun c => cnd (ownHas c.2 o (size + 1000000)) (bnd (ownV c.1[o]?) fun xs =>
    some (.undef, hset h i (.cells (c.1.set o (mnewV h size xs.length)) (ownDel o c.2)) ++ [mnewO xs.length (xs.flatMap V.flat)], ⟨[], [i], true⟩)) none
  | _ => none
def pureL (size : Nat) (agg : Bool) (h : Heap) (v : V) : Option (List V) :=
  bnd (mcells h v) fun c => cnd ((c.1.all V.pureCell && (agg || decide (size = 1))) && (msizeA size v && decide (0 < size))) (some (chunks agg size c.2 c.1)) none
def setcV (size : Nat) (agg : Bool) (h : Heap) : V → Option (V × Heap × Fl)
  | .ptr (some (i, o)) => bnd (cellsAt h i) fun c => bnd (c.1[o]?) fun s => bnd (pureL size agg h s) fun xs =>
    cnd (msize size s && (ownNot o c.2 && mnot i s)) (some (.undef, hset (mkill h s) i (.cells (c.1.set o (.own xs)) ((o, size + 1000000) :: c.2)), .no)) none
  | _ => none
def frzrV (size : Nat) (agg : Bool) (h : Heap) : V → Option (V × Heap × Fl)
  | .sl xs => some (.sl xs, h, .no)
  | .msl k o n z => bnd (pureL size agg h (.msl k o n z)) fun xs => some (.sl xs, hset h k .dead, .no)
  | .eml k z => bnd (pureL size agg h (.eml k z)) fun xs => some (.sl xs, hset h k .dead, .no)
  | .nsl => some (.sl [], h, .no)
  | _ => none
def frzcV (size : Nat) (agg : Bool) (h : Heap) : V → Option (V × Heap × Fl)
  | .ptr (some (i, o)) => bnd (cellsAt h i) fun c => bnd (c.1[o]?) fun s => bnd (pureL size agg h s) fun xs =>
    cnd (ownNot o c.2 && mnot i s) (some (.undef, hset (mkill h s) i (.cells (c.1.set o (.sl xs)) c.2), .no)) none
  | _ => none
def linNil (cs : List V) : List (Nat × Nat) → Bool
  | [] => true
  | (j, z) :: l => (!decide (1000000 ≤ z) || match cs[j]? with | some .nsl => true | _ => false) && linNil cs l
def ownCells (cs : List V) : List (Nat × Nat) → List V
  | [] => cs
  | (j, z) :: l => cnd (decide (1000000 ≤ z)) ((ownCells cs l).set j (.own [])) (ownCells cs l)
def mrkV : V → Option V
  | .lst (x :: xs) => some (.sl (x :: xs))
  | _ => none
def frzlV : V → Option V
  | .lst xs => some (.sl xs)
  | _ => none
def clrV (fb lb : Nat) (zs : List V) (h : Heap) : V → Option (V × Heap × Fl)
  | .sl [] => some (.tup [], h, .no)
  | .nsl => some (.tup [], h, .no)
  | .eml _ _ => some (.tup [], h, .no)
  | .msl k o n z => bnd (cellsAt h k) fun c => cnd (decide ((0 < n ∧ zs.length = z) ∧ c.2 = []) && zs.all V.pureCell)
      (bnd (storeC fb lb (n * z) [] h k o (.agg (List.replicate n zs).flatten) c) fun r => some (.tup [], r.1, r.2)) none
  | _ => none
def mkmV (bytes : Nat) (zs : List V) (h : Heap) : V → Option (V × Heap × Fl)
  | .int .i64 n => cnd (decide ((1 ≤ n ∧ n ≤ 1000) ∧ bytes ≤ 1000 ∧ 0 < zs.length) && zs.all V.pureCell) (some (.msl h.length 0 n.toNat zs.length, h ++ [.cells (List.replicate n.toNat zs).flatten []], .no)) none
  | _ => none
noncomputable def evalOp (C : Callee) (fb lb : Nat) (rs : Regs) (h : Heap) : VOp → Option (V × Heap × Fl)
  | .alloc cs own => some (.ptr (some (h.length, 0)), h ++ [.cells cs own], .no)
  | .box size x => cnd (boxable size (x.val rs)) (some (.ptr (some (h.length, 0)), h ++ [.cells (x.val rs).flat []], .no)) none
  | .mkmap => some (.map (some h.length), h ++ [.map []], .no)
  | .store size a x own p => cnd (samePtr rs (a.val rs) p) (bnd (storeV fb lb size own h (x.val rs) (a.val rs)) fun r => some (.undef, r.1, r.2)) none
  | .mapupd q m k v => mapupdV fb lb h q (k.val rs) (v.val rs) (m.val rs)
  | .delete q m k => deleteV fb h q (k.val rs) (m.val rs)
  | .sliceArr n size x => sliceArrV fb n size h (x.val rs)
  | .call q f args => bnd (C f (vals rs args) h) (quiet fb q h)
  | .callv q x args => bnd (callV C h (vals rs args) (x.val rs)) (quiet fb q h)
  | .appc a size bytes s x => bnd (appcV fb size h (get rs a)) fun w => bnd (appV size bytes (s.val rs) (x.val rs)) fun v => some (v, h, ⟨w, [], false⟩)
  | .newl _ => some (.lst [], h, .no)
  | .appl p size bytes _ x => bnd (applV size bytes (get rs p) (x.val rs)) fun v => some (v, h, .no)
  | .lenl p _ => bnd (lenlV (get rs p)) fun v => some (v, h, .no)
  | .slf p size _ lo hi => bnd (slfV size rs lo hi (get rs p)) fun v => some (v, h, .no)
  | .calll _ p _ F _ args => bnd (calllV F (vals rs args) (get rs p)) fun v => some (v, h, .no)
  | .bld zero parts _ => bnd (bnd (fillV rs zero parts) fun cs => some (.agg cs)) fun v => some (v, h, .no)
  | .boxo size x own => cnd (boxable size (x.val rs) && linNil (x.val rs).flat own) (some (.ptr (some (h.length, 0)), h ++ [.cells (ownCells (x.val rs).flat own) own], .no)) none
  | .bstr x => bnd (convV .bytesOfStr (x.val rs)) fun v => some (v, h, .no)
  | .isnil x => bnd (isnilV (x.val rs)) fun v => some (v, h, .no)
  | .mvn => some (.nsl, h, .no)
  | .bsll zero size n parts => bnd (fillE rs (List.replicate n zero) parts) fun xs => cnd (allPure xs && allSize size xs) (some (.lst xs, h, .no)) none
  | .appm size bytes s x => appmV fb size bytes h (s.val rs) (x.val rs)
  | .thwr p size => thwV h size (get rs p)
  | .thwc a off size => thwcV fb size h (offV off (get rs a))
  | .setc a off size agg => setcV size agg h (offV off (get rs a))
  | .frzr r size agg => frzrV size agg h (get rs r)
  | .frzc a off size agg => frzcV size agg h (offV off (get rs a))
  | .frzl p _ => bnd (frzlV (get rs p)) fun v => some (v, h, .no)
  | .mrk p _ => bnd (mrkV (get rs p)) fun v => some (v, h, .no)
  | .clr zs x => clrV fb lb zs h (x.val rs)
  | .mkm b zs x => mkmV b zs h (x.val rs)
  | op => bnd (valOp h rs op) fun v => some (v, h, .no)

def wantedV (b : Bool) : V → Option Bool
  | .bool c => some (c == b)
  | .undef => some false
  | _ => none
def wanted (rs : Regs) : Option (Nat × Bool) → Option Bool
  | none => some true
  | some (g, b) => wantedV b (get rs g)

def putR (d : Option Nat) (v : V) (rs : Regs) : Regs :=
  match d with
  | none => rs
  | some r => (r, v) :: rs

noncomputable def evalOps (C : Callee) (fb lb : Nat) : List VI → Regs → Heap → Fl → Option (Regs × Heap × Fl)
  | [], rs, h, fl => some (rs, h, fl)
  | i :: is, rs, h, fl =>
    bnd (wanted rs i.guard) fun b =>
      cnd b (bnd (evalOp C fb lb rs h i.op) fun r => evalOps C fb lb is (putR i.dst r.1 rs) r.2.1 (fl.or r.2.2))
        (evalOps C fb lb is (putR i.dst .undef rs) h fl)

inductive Ex where
  | normal
  | exit (id : Nat)
  | ret

def condV : V → Option Bool
  | .bool t => some t
  | _ => none

def Ex.isNormal : Ex → Bool
  | .normal => true
  | _ => false
def Ex.isExit (id : Nat) : Ex → Bool
  | .exit j => decide (j = id)
  | _ => false

structure St where
  rs : Regs
  h : Heap
  fl : Fl

def keep (rs : Regs) : List Nat → Regs
  | [] => []
  | r :: live => (r, get rs r) :: keep rs live

def allLt (n : Nat) : Regs → Bool
  | [] => true
  | (_, v) :: rs => v.lt n && allLt n rs

def pairsLt (n : Nat) : List (V × V) → Bool
  | [] => true
  | (k, v) :: es => (k.lt n && v.lt n) && pairsLt n es
def Obj.lt (n : Nat) : Obj → Bool
  | .cells cs _ => V.ltL n cs
  | .map es => pairsLt n es
  | .emp => true
  | .dead => true
def objLt (n : Nat) (h : Heap) (i : Nat) : Bool :=
  match hget h i with
  | some o => o.lt n
  | none => true
def escOk (n : Nat) (h : Heap) : List Nat → Bool
  | [] => true
  | i :: l => (decide (n ≤ i) || objLt n h i) && escOk n h l
def escLt (n : Nat) (h : Heap) : List Nat → List Nat
  | [] => []
  | i :: l => cnd (decide (i < n) && !objLt 0 h i) (i :: escLt n h l) (escLt n h l)
theorem mem_escLt {n : Nat} {h : Heap} {i : Nat} : ∀ {l : List Nat}, i ∈ escLt n h l ↔ i ∈ l ∧ i < n ∧ objLt 0 h i = false
  | [] => by simp [escLt]
  | j :: l => by
    simp only [escLt, List.mem_cons]
    cases hc : (decide (j < n) && !objLt 0 h j)
    · simp only [cnd_false, mem_escLt]
      simp only [Bool.and_eq_false_iff, decide_eq_false_iff_not, Bool.not_eq_false'] at hc
      constructor
      · rintro ⟨h1, h2⟩; exact ⟨.inr h1, h2⟩
      · rintro ⟨rfl | h1, h2, h3⟩
        · rcases hc with hc | hc
          · exact absurd h2 hc
          · rw [hc] at h3; cases h3
        · exact ⟨h1, h2, h3⟩
    · simp only [cnd_true, List.mem_cons, mem_escLt]
      simp only [Bool.and_eq_true, decide_eq_true_eq, Bool.not_eq_true'] at hc
      constructor
      · rintro (rfl | ⟨h1, h2⟩)
        · exact ⟨.inl rfl, hc⟩
        · exact ⟨.inr h1, h2⟩
      · rintro ⟨rfl | h1, h2⟩
        · exact .inl rfl
        · exact .inr ⟨h1, h2⟩
def clean (n : Nat) (esc : List Nat) (rs : Regs) (st : St) : St :=
  cnd (escOk n st.h st.fl.esc && allLt n rs) ⟨rs, st.h.take n, ⟨st.fl.wr, addE esc (escLt n st.h st.fl.esc), st.fl.all⟩⟩ ⟨rs, st.h, ⟨st.fl.wr, addE esc st.fl.esc, st.fl.all⟩⟩

def agree1 (C : Callee) (fb lb : Nat) (x : Nat) (is : List VI) (rs : Regs) (h : Heap) (fl : Fl) (j : Nat) : Prop :=
  ∀ i, is[j]? = some i → ∀ rj hj fj, evalOps C fb lb (is.take j) rs h fl = some (rj, hj, fj) → wanted rj i.guard = some true → ∀ r1 h1 f1, evalOps C fb lb (is.take (x + 1)) rs h fl = some (r1, h1, f1) →
    ∀ q, evalOp C fb lb rj hj i.op = some q → (∃ q', evalOp C fb lb rj h i.op = some q' ∧ q'.1 = q.1) ∧ ∃ q', evalOp C fb lb rj h1 i.op = some q' ∧ q'.1 = q.1
def agree (C : Callee) (fb lb : Nat) (x : Nat) (chk : List Nat) (is : List VI) (rs : Regs) (h : Heap) (fl : Fl) : Prop := ∀ j ∈ chk, agree1 C fb lb x is rs h fl j
abbrev Looper := (St → Option (Ex × St)) → St → Option (Ex × St)

def bodyEnd (n : Nat) (live : List Nat) (esc : List Nat) (r : Ex × St) : Option (Ex × St) :=
  cnd r.1.isNormal (some (.normal, clean n esc (keep r.2.rs live) r.2)) (some (r.1, ⟨r.2.rs, r.2.h, ⟨r.2.fl.wr, addE esc r.2.fl.esc, r.2.fl.all⟩⟩))

open Classical in
noncomputable def evalCode (C : Callee) (L : Looper) (fb : Nat) : VCode → Nat → St → Option (Ex × St)
  | .skip, _, st => some (.normal, st)
  | .ops is live, lb, st => bnd (evalOps C fb lb is st.rs st.h st.fl) fun r => some (.normal, ⟨keep r.1 live, r.2.1, r.2.2⟩)
  | .dops _ is live, lb, st => bnd (evalOps C fb lb is st.rs st.h st.fl) fun r => some (.normal, ⟨keep r.1 live, r.2.1, r.2.2⟩)
  | .xops _ x chk is live, lb, st => bnd (evalOps C fb lb is st.rs st.h st.fl) fun r => if agree C fb lb x chk is st.rs st.h st.fl then some (.normal, ⟨keep r.1 live, r.2.1, r.2.2⟩) else none
  | .seq a b, lb, st => bnd (evalCode C L fb a lb st) fun r => cnd r.1.isNormal (evalCode C L fb b lb r.2) (some r)
  | .cond c a b, lb, st =>
    bnd (condV (c.val st.rs)) fun t => cnd t (evalCode C L fb a lb st) (evalCode C L fb b lb st)
  | .block id b, lb, st => bnd (evalCode C L fb b lb st) fun r => some (cnd (r.1.isExit id) (.normal, r.2) r)
  | .loop live _ b, _, st => L (fun s => bnd (evalCode C L fb b s.h.length ⟨s.rs, s.h, ⟨s.fl.wr, [], s.fl.all⟩⟩) (bodyEnd s.h.length live s.fl.esc)) st
  | .exit id, _, st => some (.exit id, st)
  | .ret, _, st => some (.ret, st)
  | .gop gs y, lb, st => bnd (evalOps C fb lb gs st.rs st.h st.fl) fun r => evalCode C L fb y lb ⟨r.1, r.2.1, r.2.2⟩
  | .amb o c x y z, lb, st => bnd (evalCode C L fb o lb st) fun r => cnd r.1.isNormal
      (ambV (c.val r.2.rs) (bnd (evalCode C L fb x lb r.2) fun q => cnd q.1.isNormal (evalCode C L fb z lb q.2) (some q)) (bnd (evalCode C L fb y lb r.2) fun q => cnd q.1.isNormal (evalCode C L fb z lb q.2) (some q))) (some r)

def resV (rs : Regs) (h : Heap) : List Res → Option (List V)
  | [] => some []
  | .r n :: rest => bnd (resV rs h rest) fun l => some (get rs n :: l)
  | .cell a agg size :: rest => bnd (loadV agg size h (get rs a)) fun v => bnd (resV rs h rest) fun l => some (v :: l)

def one : List V → V
  | [v] => v
  | vs => .tup vs

def finishV (n : Nat) (st : St) (v : V) : V × Heap × Fl :=
  cnd (escOk n st.h st.fl.esc && v.lt n) (v, st.h.take n, ⟨st.fl.wr, escLt n st.h st.fl.esc, st.fl.all⟩) (v, st.h, st.fl)
def finish (n : Nat) (res : List Res) (r : Ex × St) : Option (V × Heap × Fl) :=
  match r.1 with
  | .exit _ => none
  | _ => bnd (resV r.2.rs r.2.h res) fun vs => some (finishV n r.2 (one vs))

structure Env where
  fn : Nat → Option VFun
  prim : Nat → Option (List V → Heap → Option (V × Heap × Fl))

def initR : List V → Nat → Regs
  | [], _ => []
  | v :: vs, k => (k, v) :: initR vs (k + 1)

noncomputable def runV (C : Callee) (L : Looper) (fn : VFun) (args : List V) (h : Heap) : Option (V × Heap × Fl) :=
  cnd (decide (args.length = fn.params)) (bnd (evalCode C L h.length fn.body h.length ⟨initR args 0, h, .no⟩) (finish h.length fn.res)) none

noncomputable def runFn (E : Env) (C : Callee) (L : Looper) (f : Nat) (args : List V) (h : Heap) : Option (V × Heap × Fl) :=
  match E.prim f with
  | some p => p args h
  | none =>
    match E.fn f with
    | none => none
    | some fn => runV C L fn args h

def iterN : Nat → Looper
  | 0, _, _ => none
  | n + 1, b, st => bnd (b st) fun r => cnd r.1.isNormal (iterN n b r.2) (some r)

noncomputable def evalFn (E : Env) : Nat → Callee
  | 0 => fun _ _ _ => none
  | n + 1 => runFn E (evalFn E n) (iterN n)

section
variable (C : Callee) (L : Looper) (fb lb n : Nat) (rs : Regs) (h : Heap) (e : Option Nat) (b : Bool) (fl : Fl)
theorem evalOps_nil : evalOps C fb lb [] rs h fl = some (rs, h, fl) := rfl
theorem evalOps_cons (o : VOp) (is : List VI) : evalOps C fb lb (⟨e, none, o⟩ :: is) rs h fl =
    bnd (evalOp C fb lb rs h o) fun r => evalOps C fb lb is (putR e r.1 rs) r.2.1 (fl.or r.2.2) := rfl
theorem evalOps_consg (g : Nat) (o : VOp) (is : List VI) : evalOps C fb lb (⟨e, some (g, b), o⟩ :: is) rs h fl =
    bnd (wantedV b (get rs g)) fun t => cnd t (bnd (evalOp C fb lb rs h o) fun r => evalOps C fb lb is (putR e r.1 rs) r.2.1 (fl.or r.2.2)) (evalOps C fb lb is (putR e .undef rs) h fl) := rfl
@[simp] theorem Fl.no_or : Fl.or .no fl = fl := by cases fl; simp [Fl.or]
@[simp] theorem Fl.or_no : Fl.or fl .no = fl := by cases fl; simp [Fl.or]
@[simp] theorem Fl.or_mk (p r q s : List Nat) (x y : Bool) : Fl.or ⟨p, q, x⟩ ⟨r, s, y⟩ = ⟨addE p r, addE q s, x || y⟩ := rfl
@[simp] theorem Fl.cut_mk (n : Nat) (p q : List Nat) (x : Bool) : Fl.cut n ⟨p, q, x⟩ = ⟨wrLt n p, q, x⟩ := rfl
theorem evalOp_mv {x} : evalOp C fb lb rs h (.mv x) = bnd (some (x.val rs)) fun v => some (v, h, .no) := rfl
theorem evalOp_asg {x} : evalOp C fb lb rs h (.asg x) = bnd (some (x.val rs)) fun v => some (v, h, .no) := rfl
theorem evalOp_pick {c x y} : evalOp C fb lb rs h (.pick c x y) = bnd (pickV (c.val rs) (x.val rs) (y.val rs)) fun v => some (v, h, .no) := rfl
theorem evalOp_build {z ps} : evalOp C fb lb rs h (.build z ps) = bnd (bnd (fillV rs z ps) fun cs => some (.agg cs)) fun v => some (v, h, .no) := rfl
theorem evalOp_bslice {z k m ps} : evalOp C fb lb rs h (.bslice z k m ps) = bnd (bnd (fillE rs (List.replicate m z) ps) fun xs => cnd (allPure xs && allSize k xs) (some (.sl xs)) none) fun v => some (v, h, .no) := rfl
theorem evalOp_load {g k a} : evalOp C fb lb rs h (.load g k a) = bnd (loadV g k h (a.val rs)) fun v => some (v, h, .no) := rfl
theorem evalOp_nilck {x} : evalOp C fb lb rs h (.nilck x) = bnd (nilckV (x.val rs)) fun v => some (v, h, .no) := rfl
theorem evalOp_bin {o k x y} : evalOp C fb lb rs h (.bin o k x y) = bnd (binV o k (x.val rs) (y.val rs)) fun v => some (v, h, .no) := rfl
theorem evalOp_un {o x} : evalOp C fb lb rs h (.un o x) = bnd (unV o (x.val rs)) fun v => some (v, h, .no) := rfl
theorem evalOp_conv {k x} : evalOp C fb lb rs h (.conv k x) = bnd (convV k (x.val rs)) fun v => some (v, h, .no) := rfl
theorem evalOp_mkfn {f x y} : evalOp C fb lb rs h (.mkfn f x y) = bnd (some (.fn f (vals rs x) (vals rs y))) fun v => some (v, h, .no) := rfl
theorem evalOp_slice {t k x l u m} : evalOp C fb lb rs h (.slice t k x l u m) = bnd (sliceV k rs l u m t (x.val rs)) fun v => some (v, h, .no) := rfl
theorem evalOp_faddr {o x} : evalOp C fb lb rs h (.faddr o x) = bnd (faddrV o (x.val rs)) fun v => some (v, h, .no) := rfl
theorem evalOp_field {o k g x} : evalOp C fb lb rs h (.field o k g x) = bnd (fieldV o k g (x.val rs)) fun v => some (v, h, .no) := rfl
theorem evalOp_iaddr {r k x i} : evalOp C fb lb rs h (.iaddr r k x i) = bnd (bnd (natOf (i.val rs)) fun j => iaddrV k j r (x.val rs)) fun v => some (v, h, .no) := rfl
theorem evalOp_index {t m z g x i} : evalOp C fb lb rs h (.index t m z g x i) = bnd (bnd (natOf (i.val rs)) fun j => indexV m z g j t (x.val rs)) fun v => some (v, h, .no) := rfl
theorem evalOp_lookup {q z k m x} : evalOp C fb lb rs h (.lookup q z k m x) = bnd (bnd (mapOf h (m.val rs)) fun es => cnd (isKey q (x.val rs)) (bnd (findV q (x.val rs) es) fun r => some (found z k r)) none) fun v => some (v, h, .no) := rfl
theorem evalOp_extract {i x} : evalOp C fb lb rs h (.extract i x) = bnd (extractV i (x.val rs)) fun v => some (v, h, .no) := rfl
theorem evalOp_app {p k m s x} : evalOp C fb lb rs h (.app p k m s x) = bnd (appV k m (s.val rs) (x.val rs)) fun v => some (v, h, .no) := rfl
theorem evalOp_len {r x} : evalOp C fb lb rs h (.len r x) = bnd (lenV h r (x.val rs)) fun v => some (v, h, .no) := rfl
theorem evalOp_mn {xs} : evalOp C fb lb rs h (.mn xs) = bnd (foldV1 minV (vals rs xs)) fun v => some (v, h, .no) := rfl
theorem evalOp_mx {xs} : evalOp C fb lb rs h (.mx xs) = bnd (foldV1 maxV (vals rs xs)) fun v => some (v, h, .no) := rfl
theorem evalOp_alloc {cs w} : evalOp C fb lb rs h (.alloc cs w) = some (.ptr (some (h.length, 0)), h ++ [.cells cs w], .no) := rfl
theorem evalOp_box {k x} : evalOp C fb lb rs h (.box k x) = cnd (boxable k (x.val rs)) (some (.ptr (some (h.length, 0)), h ++ [.cells (x.val rs).flat []], .no)) none := rfl
theorem evalOp_mkmap : evalOp C fb lb rs h (.mkmap ) = some (.map (some h.length), h ++ [.map []], .no) := rfl
theorem evalOp_store {z a x w p} : evalOp C fb lb rs h (.store z a x w p) = cnd (samePtr rs (a.val rs) p) (bnd (storeV fb lb z w h (x.val rs) (a.val rs)) fun r => some (.undef, r.1, r.2)) none := rfl
theorem evalOp_mapupd {q m k v} : evalOp C fb lb rs h (.mapupd q m k v) = mapupdV fb lb h q (k.val rs) (v.val rs) (m.val rs) := rfl
theorem evalOp_delete {q m k} : evalOp C fb lb rs h (.delete q m k) = deleteV fb h q (k.val rs) (m.val rs) := rfl
theorem evalOp_sliceArr {k z x} : evalOp C fb lb rs h (.sliceArr k z x) = sliceArrV fb k z h (x.val rs) := rfl
theorem evalOp_call {q f as} : evalOp C fb lb rs h (.call q f as) = bnd (C f (vals rs as) h) (quiet fb q h) := rfl
theorem evalOp_callv {q x as} : evalOp C fb lb rs h (.callv q x as) = bnd (callV C h (vals rs as) (x.val rs)) (quiet fb q h) := rfl
theorem evalOp_appc {a k m s x} : evalOp C fb lb rs h (.appc a k m s x) = bnd (appcV fb k h (get rs a)) fun w => bnd (appV k m (s.val rs) (x.val rs)) fun v => some (v, h, ⟨w, [], false⟩) := rfl
@[simp] theorem still_same (v : V) : still h (v, h, .no) = some v := by simp [still]
@[simp] theorem quiet_true (r : V × Heap × Fl) : quiet fb true h r = bnd (still h r) fun v => some (v, h, .no) := rfl
@[simp] theorem quiet_false (r : V × Heap × Fl) : quiet fb false h r = some (r.1, r.2.1, r.2.2.cut fb) := rfl
@[simp] theorem keep_nil : keep rs [] = [] := rfl
@[simp] theorem keep_cons (r : Nat) (l : List Nat) : keep rs (r :: l) = (r, get rs r) :: keep rs l := rfl
@[simp] theorem get_nil (r : Nat) : get [] r = .top := rfl
@[simp] theorem get_cons (k r : Nat) (v : V) : get ((k, v) :: rs) r = cnd (decide (r = k)) v (get rs r) := rfl
@[simp] theorem putR_none (v : V) : putR none v rs = rs := rfl
@[simp] theorem putR_some (r : Nat) (v : V) : putR (some r) v rs = (r, v) :: rs := rfl
@[simp] theorem val_r (r : Nat) : (Arg.r r).val rs = get rs r := rfl
@[simp] theorem val_c (v : V) : (Arg.c v).val rs = v := rfl
@[simp] theorem vals_nil : vals rs [] = [] := rfl
@[simp] theorem vals_cons (a : Arg) (l : List Arg) : vals rs (a :: l) = a.val rs :: vals rs l := rfl
@[congr] theorem evalOps_congr {is is' : List VI} (h1 : is = is') : evalOps C fb lb is rs h fl = evalOps C fb lb is' rs h fl := by rw [h1]
variable (st : St) (live : List Nat)
theorem code_skip : evalCode C L fb .skip lb st = some (.normal, st) := rfl
theorem code_ops (is : List VI) : evalCode C L fb (.ops is live) lb st = bnd (evalOps C fb lb is st.rs st.h st.fl) fun r => some (.normal, ⟨keep r.1 live, r.2.1, r.2.2⟩) := rfl
theorem code_dops (c : Nat) (is : List VI) : evalCode C L fb (.dops c is live) lb st = bnd (evalOps C fb lb is st.rs st.h st.fl) fun r => some (.normal, ⟨keep r.1 live, r.2.1, r.2.2⟩) := rfl
theorem code_seq (x y : VCode) : evalCode C L fb (.seq x y) lb st = bnd (evalCode C L fb x lb st) fun r => cnd r.1.isNormal (evalCode C L fb y lb r.2) (some r) := rfl
theorem code_cond (c : Arg) (x y : VCode) : evalCode C L fb (.cond c x y) lb st = bnd (condV (c.val st.rs)) fun t => cnd t (evalCode C L fb x lb st) (evalCode C L fb y lb st) := rfl
theorem code_block (id : Nat) (x : VCode) : evalCode C L fb (.block id x) lb st = bnd (evalCode C L fb x lb st) fun r => some (cnd (r.1.isExit id) (.normal, r.2) r) := rfl
theorem code_exit (id : Nat) : evalCode C L fb (.exit id) lb st = some (.exit id, st) := rfl
theorem code_ret : evalCode C L fb .ret lb st = some (.ret, st) := rfl
@[simp] theorem isNormal_normal : Ex.isNormal .normal = true := rfl
@[simp] theorem isNormal_exit (id : Nat) : Ex.isNormal (.exit id) = false := rfl
@[simp] theorem isNormal_ret : Ex.isNormal .ret = false := rfl
@[simp] theorem isExit_normal (id : Nat) : Ex.isExit id .normal = false := rfl
@[simp] theorem isExit_ret (id : Nat) : Ex.isExit id .ret = false := rfl
@[simp] theorem isExit_exit (id j : Nat) : Ex.isExit id (.exit j) = decide (j = id) := rfl
@[simp] theorem condV_bool (t : Bool) : condV (.bool t) = some t := rfl
@[simp] theorem wantedV_bool (t c : Bool) : wantedV t (.bool c) = some (c == t) := rfl
@[simp] theorem wantedV_undef (t : Bool) : wantedV t .undef = some false := rfl
theorem finish_normal (n : Nat) (res : List Res) : finish n res (.normal, st) = bnd (resV st.rs st.h res) fun vs => some (finishV n st (one vs)) := rfl
theorem finish_ret (n : Nat) (res : List Res) : finish n res (.ret, st) = bnd (resV st.rs st.h res) fun vs => some (finishV n st (one vs)) := rfl
@[congr] theorem code_congr {x y : VCode} (h1 : x = y) : evalCode C L fb x lb st = evalCode C L fb y lb st := by rw [h1]
end
attribute [local simp] evalOps_nil evalOps_cons evalOps_consg evalOp_mv evalOp_asg evalOp_pick evalOp_build evalOp_bslice evalOp_load evalOp_nilck evalOp_bin evalOp_un evalOp_conv evalOp_mkfn evalOp_slice evalOp_faddr evalOp_field evalOp_iaddr evalOp_index evalOp_lookup evalOp_extract evalOp_app evalOp_len evalOp_mn evalOp_mx evalOp_alloc evalOp_box evalOp_mkmap evalOp_store evalOp_mapupd evalOp_delete evalOp_sliceArr evalOp_call evalOp_callv evalOp_appc code_skip code_ops code_dops code_seq code_cond code_block code_exit code_ret finish_normal finish_ret
attribute [local simp] V.lt V.ltL V.flat V.pureCell V.pure V.isCell cellEq cellsEq eqV intV shV strV isShift binV unV byteV convV minV maxV foldV foldV1 fillV fillE findV putV delV isKey natOf natOr cut cellsAt mapAt mapOf
  loadV pickV nilckV sizeOk allSize sliceV faddrV fieldV iaddrV indexV found extractV allPure appV lenV ownHas ownOk storeC storeV samePtr appcV boxable mapupdV deleteV sliceArrV callV allLt clean bodyEnd resV one finishV runV initR
@[simp] theorem hget_local (h l : Heap) (k : Nat) : hget (h ++ l) (h.length + k) = l[k]? := by unfold hget; rw [List.getElem?_append_right (by omega)]; simp
@[simp] theorem hget_local0 (h l : Heap) : hget (h ++ l) h.length = l[0]? := hget_local h l 0
@[simp] theorem hset_local (h l : Heap) (k : Nat) (o : Obj) : hset (h ++ l) (h.length + k) o = h ++ l.set k o := by simp [hset, List.set_append_right]
@[simp] theorem hset_local0 (h l : Heap) (o : Obj) : hset (h ++ l) h.length o = h ++ l.set 0 o := by simp [hset, List.set_append_right]

end Go.Vm

/- The V-machine without a bound on rounds and calls: what some number of rounds yields. -/
set_option linter.unusedVariables false
set_option linter.unusedSimpArgs false
namespace Go.Vm
attribute [local simp] evalOps_nil evalOps_cons evalOps_consg evalOp_mv evalOp_asg evalOp_pick evalOp_build evalOp_bslice evalOp_load evalOp_nilck evalOp_bin evalOp_un evalOp_conv evalOp_mkfn evalOp_slice evalOp_faddr evalOp_field evalOp_iaddr evalOp_index evalOp_lookup evalOp_extract evalOp_app evalOp_len evalOp_mn evalOp_mx evalOp_alloc evalOp_box evalOp_mkmap evalOp_store evalOp_mapupd evalOp_delete evalOp_sliceArr evalOp_call evalOp_callv evalOp_appc code_skip code_ops code_dops code_seq code_cond code_block code_exit code_ret finish_normal finish_ret
attribute [local simp] V.lt V.ltL V.flat V.pureCell V.pure V.isCell cellEq cellsEq eqV intV shV strV isShift binV unV byteV convV minV maxV foldV foldV1 fillV fillE findV putV delV isKey natOf natOr cut cellsAt mapAt mapOf loadV pickV nilckV sizeOk allSize sliceV faddrV fieldV iaddrV indexV found extractV allPure appV lenV ownHas ownOk storeC storeV samePtr appcV boxable mapupdV deleteV sliceArrV callV allLt clean bodyEnd resV one finishV runV initR

def CLe (C C' : Callee) : Prop := ∀ f a h r, C f a h = some r → C' f a h = some r
def LLe (L L' : Looper) : Prop := ∀ b b' st r, (∀ s q, b s = some q → b' s = some q) → L b st = some r → L' b' st = some r

theorem callV_mono {C C' : Callee} (hC : CLe C C') {h : Heap} {args : List V} {x : V} {r} (hr : callV C h args x = some r) : callV C' h args x = some r := by
  cases x <;> first | exact hC _ _ _ _ hr | cases hr

theorem evalOp_mono {C C' : Callee} (hC : CLe C C') {fb lb : Nat} {rs : Regs} {h : Heap} {o : VOp} {r} (hr : evalOp C fb lb rs h o = some r) : evalOp C' fb lb rs h o = some r := by
  cases o <;> first
    | exact hr
    | (simp only [evalOp] at hr ⊢; obtain ⟨q, hq, hr⟩ := bnd_eq_some hr; (first | rw [hC _ _ _ _ hq, bnd_some] | rw [callV_mono hC hq, bnd_some]); exact hr)

theorem evalOps_mono {C C' : Callee} (hC : CLe C C') {fb lb : Nat} : ∀ (is : List VI) {rs : Regs} {h : Heap} {fl : Fl} {r}, evalOps C fb lb is rs h fl = some r → evalOps C' fb lb is rs h fl = some r
  | [], _, _, _, _, hr => hr
  | i :: is, rs, h, fl, r, hr => by
    simp only [evalOps] at hr ⊢
    obtain ⟨b, hb, hr⟩ := bnd_eq_some hr
    rw [hb, bnd_some]
    cases b
    · exact evalOps_mono hC is hr
    · simp only [cnd_true] at hr ⊢
      obtain ⟨q, hq, hr⟩ := bnd_eq_some hr
      rw [evalOp_mono hC hq, bnd_some]
      exact evalOps_mono hC is hr

theorem evalOps_append {C : Callee} {fb lb : Nat} : ∀ (is js : List VI) (rs : Regs) (h : Heap) (fl : Fl), evalOps C fb lb (is ++ js) rs h fl = bnd (evalOps C fb lb is rs h fl) fun r => evalOps C fb lb js r.1 r.2.1 r.2.2
  | [], js, rs, h, fl => rfl
  | i :: is, js, rs, h, fl => by
    simp only [List.cons_append, evalOps]
    cases hw : wanted rs i.guard with
    | none => rfl
    | some b =>
      simp only [bnd_some]
      cases b
      · exact evalOps_append is js _ h fl
      · simp only [cnd_true]
        cases he : evalOp C fb lb rs h i.op with
        | none => rfl
        | some r =>
          simp only [bnd_some]
          exact evalOps_append is js _ _ _
theorem evalOps_take {C : Callee} {fb lb : Nat} {is : List VI} {rs : Regs} {h : Heap} {fl : Fl} {r} (hr : evalOps C fb lb is rs h fl = some r) (j : Nat) :
    ∃ r', evalOps C fb lb (is.take j) rs h fl = some r' ∧ ∀ i, is[j]? = some i → wanted r'.1 i.guard = some true → ∃ q, evalOp C fb lb r'.1 r'.2.1 i.op = some q := by
  rw [← List.take_append_drop j is, evalOps_append] at hr
  obtain ⟨r', h1, h2⟩ := bnd_eq_some hr
  refine ⟨r', h1, fun i hi hw => ?_⟩
  obtain ⟨hlt, he⟩ := List.getElem?_eq_some_iff.1 hi
  rw [List.drop_eq_getElem_cons hlt, he] at h2
  simp only [evalOps, hw, bnd_some, cnd_true] at h2
  obtain ⟨q, hq, _⟩ := bnd_eq_some h2
  exact ⟨q, hq⟩
theorem agree1_mono {C C' : Callee} (hC : CLe C C') {fb lb x : Nat} {is : List VI} {rs : Regs} {h : Heap} {fl : Fl} {r} (hr : evalOps C fb lb is rs h fl = some r) {j : Nat} (ha : agree1 C fb lb x is rs h fl j) : agree1 C' fb lb x is rs h fl j := by
  intro i hi rj hj fj h1 hw r1 h1' f1 h2 q hq
  obtain ⟨p, e1, e2⟩ := evalOps_take hr j
  have e3 := evalOps_mono hC _ e1
  rw [h1] at e3
  cases e3
  obtain ⟨q0, hq0⟩ := e2 i hi hw
  have e4 := evalOp_mono hC hq0
  rw [hq] at e4
  cases e4
  obtain ⟨p', e5, _⟩ := evalOps_take hr (x + 1)
  have e6 := evalOps_mono hC _ e5
  rw [h2] at e6
  cases e6
  obtain ⟨⟨q1, a1, a2⟩, q2, b1, b2⟩ := ha i hi _ _ _ e1 hw _ _ _ e5 q hq0
  exact ⟨⟨q1, evalOp_mono hC a1, a2⟩, q2, evalOp_mono hC b1, b2⟩

theorem evalCode_mono {C C' : Callee} {L L' : Looper} (hC : CLe C C') (hL : LLe L L') : ∀ (c : VCode) {fb lb : Nat} {st : St} {r}, evalCode C L fb c lb st = some r → evalCode C' L' fb c lb st = some r
  | .skip, _, _, _, _, hr => hr
  | .exit _, _, _, _, _, hr => hr
  | .ret, _, _, _, _, hr => hr
  | .ops is live, fb, lb, st, r, hr => by
    simp only [evalCode] at hr ⊢
    obtain ⟨q, hq, hr⟩ := bnd_eq_some hr
    rw [evalOps_mono hC is hq, bnd_some]; exact hr
  | .dops c is live, fb, lb, st, r, hr => by
    simp only [evalCode] at hr ⊢
    obtain ⟨q, hq, hr⟩ := bnd_eq_some hr
    rw [evalOps_mono hC is hq, bnd_some]; exact hr
  | .seq a b, fb, lb, st, r, hr => by
    simp only [evalCode] at hr ⊢
    obtain ⟨q, hq, hr⟩ := bnd_eq_some hr
    rw [evalCode_mono hC hL a hq, bnd_some]
    cases hn : q.1.isNormal <;> rw [hn] at hr
    · exact hr
    · exact evalCode_mono hC hL b hr
  | .cond c a b, fb, lb, st, r, hr => by
    simp only [evalCode] at hr ⊢
    obtain ⟨q, hq, hr⟩ := bnd_eq_some hr
    rw [hq, bnd_some]
    cases q
    · exact evalCode_mono hC hL b hr
    · exact evalCode_mono hC hL a hr
  | .block id b, fb, lb, st, r, hr => by
    simp only [evalCode] at hr ⊢
    obtain ⟨q, hq, hr⟩ := bnd_eq_some hr
    rw [evalCode_mono hC hL b hq, bnd_some]; exact hr
  | .xops c x chk is live, fb, lb, st, r, hr => by
    simp only [evalCode] at hr ⊢
    obtain ⟨q, hq, hr⟩ := bnd_eq_some hr
    rw [evalOps_mono hC is hq, bnd_some]
    split at hr
    · rename_i ha
      have ha' : agree C' fb lb x chk is st.rs st.h st.fl := fun j hj => agree1_mono hC hq (ha j hj)
      rw [if_pos ha']; exact hr
    · cases hr
  | .gop gs y, fb, lb, st, r, hr => by
    simp only [evalCode] at hr ⊢
    obtain ⟨q, hq, hr⟩ := bnd_eq_some hr
    rw [evalOps_mono hC gs hq, bnd_some]
    exact evalCode_mono hC hL y hr
  | .amb o c x y z, fb, lb, st, r, hr => by
    simp only [evalCode] at hr ⊢
    obtain ⟨q, hq, hr⟩ := bnd_eq_some hr
    rw [evalCode_mono hC hL o hq, bnd_some]
    cases hn : q.1.isNormal <;> rw [hn] at hr
    · exact hr
    · simp only [cnd_true] at hr ⊢
      have key : ∀ (b : VCode) (hb : ∀ {fb lb : Nat} {st : St} {r}, evalCode C L fb b lb st = some r → evalCode C' L' fb b lb st = some r) {r}, (bnd (evalCode C L fb b lb q.2) fun p => cnd p.1.isNormal (evalCode C L fb z lb p.2) (some p)) = some r → (bnd (evalCode C' L' fb b lb q.2) fun p => cnd p.1.isNormal (evalCode C' L' fb z lb p.2) (some p)) = some r := by
        intro b hb r hr
        obtain ⟨p, hp, hr⟩ := bnd_eq_some hr
        rw [hb hp, bnd_some]
        cases hn : p.1.isNormal <;> rw [hn] at hr
        · exact hr
        · exact evalCode_mono hC hL z hr
      rcases ambV_some hr with ⟨hv, h1⟩ | ⟨hv, h1⟩ | ⟨hv, h1, h2⟩ <;> rw [hv]
      · exact key x (evalCode_mono hC hL x) h1
      · exact key y (evalCode_mono hC hL y) h1
      · rw [key x (evalCode_mono hC hL x) h1, key y (evalCode_mono hC hL y) h2]; simp [ambV]
  | .loop live own b, fb, lb, st, r, hr => by
    simp only [evalCode] at hr ⊢
    refine hL _ _ _ _ (fun s q hq => ?_) hr
    obtain ⟨p, hp, hq⟩ := bnd_eq_some hq
    rw [evalCode_mono hC hL b hp, bnd_some]; exact hq

theorem runV_mono {C C' : Callee} {L L' : Looper} (hC : CLe C C') (hL : LLe L L') {fn : VFun} {a : List V} {h : Heap} {r} (hr : runV C L fn a h = some r) : runV C' L' fn a h = some r := by
  unfold runV at hr ⊢
  cases hd : decide (a.length = fn.params) <;> rw [hd] at hr
  · cases hr
  · simp only [cnd_true] at hr ⊢
    obtain ⟨q, hq, hr⟩ := bnd_eq_some hr
    rw [evalCode_mono hC hL _ hq, bnd_some]; exact hr
theorem runFn_mono {E : Env} {C C' : Callee} {L L' : Looper} (hC : CLe C C') (hL : LLe L L') {f : Nat} {a : List V} {h : Heap} {r} (hr : runFn E C L f a h = some r) : runFn E C' L' f a h = some r := by
  unfold runFn at hr ⊢
  cases hp : E.prim f with
  | some p => rw [hp] at hr; exact hr
  | none =>
    rw [hp] at hr
    cases hf : E.fn f with
    | none => rw [hf] at hr; cases hr
    | some fn => rw [hf] at hr; exact runV_mono hC hL hr

theorem iterN_mono : ∀ {n m : Nat}, n ≤ m → LLe (iterN n) (iterN m)
  | 0, _, _ => fun _ _ _ _ _ hr => by cases hr
  | n + 1, 0, h => by omega
  | n + 1, m + 1, h => fun b b' st r hb hr => by
    simp only [iterN] at hr ⊢
    obtain ⟨q, hq, hr⟩ := bnd_eq_some hr
    rw [hb _ _ hq, bnd_some]
    cases hn : q.1.isNormal <;> rw [hn] at hr
    · exact hr
    · exact iterN_mono (by omega) b b' q.2 r hb hr

theorem evalFn_mono {E : Env} : ∀ {n m : Nat}, n ≤ m → CLe (evalFn E n) (evalFn E m)
  | 0, _, _ => fun _ _ _ _ hr => by cases hr
  | n + 1, 0, h => by omega
  | n + 1, m + 1, h => fun _ _ _ _ hr => runFn_mono (evalFn_mono (by omega)) (iterN_mono (by omega)) hr

open Classical in
noncomputable def callL (E : Env) : Callee := fun f a h => if x : ∃ n r, evalFn E n f a h = some r then some x.choose_spec.choose else none
open Classical in
noncomputable def loopL : Looper := fun b st => if x : ∃ n r, iterN n b st = some r then some x.choose_spec.choose else none

theorem callL_iff {E : Env} {f : Nat} {a : List V} {h : Heap} {r} : callL E f a h = some r ↔ ∃ n, evalFn E n f a h = some r := by
  unfold callL
  constructor
  · intro hr
    split at hr
    · rename_i x
      cases hr
      exact ⟨_, x.choose_spec.choose_spec⟩
    · cases hr
  · rintro ⟨n, hn⟩
    have x : ∃ n r, evalFn E n f a h = some r := ⟨n, r, hn⟩
    rw [dif_pos x]
    have h1 := x.choose_spec.choose_spec
    have h2 := evalFn_mono (Nat.le_max_left n x.choose) _ _ _ _ hn
    have h3 := evalFn_mono (Nat.le_max_right n x.choose) _ _ _ _ h1
    rw [h2] at h3
    exact h3.symm
theorem loopL_iff {b : St → Option (Ex × St)} {st : St} {r} : loopL b st = some r ↔ ∃ n, iterN n b st = some r := by
  unfold loopL
  constructor
  · intro hr
    split at hr
    · rename_i x
      cases hr
      exact ⟨_, x.choose_spec.choose_spec⟩
    · cases hr
  · rintro ⟨n, hn⟩
    have x : ∃ n r, iterN n b st = some r := ⟨n, r, hn⟩
    rw [dif_pos x]
    have h1 := x.choose_spec.choose_spec
    have h2 := iterN_mono (Nat.le_max_left n x.choose) b b _ _ (fun _ _ h => h) hn
    have h3 := iterN_mono (Nat.le_max_right n x.choose) b b _ _ (fun _ _ h => h) h1
    rw [h2] at h3
    exact h3.symm

section
variable {E : Env}
theorem callV_cont {h : Heap} {args : List V} {x : V} {r} (hr : callV (callL E) h args x = some r) : ∃ n, callV (evalFn E n) h args x = some r := by
  cases x <;> first | exact callL_iff.1 hr | cases hr
theorem evalOp_cont {fb lb : Nat} {rs : Regs} {h : Heap} {o : VOp} {r} (hr : evalOp (callL E) fb lb rs h o = some r) : ∃ n, evalOp (evalFn E n) fb lb rs h o = some r := by
  cases o <;> first
    | exact ⟨0, hr⟩
    | (simp only [evalOp] at hr ⊢; obtain ⟨q, hq, hr⟩ := bnd_eq_some hr
       first
       | (obtain ⟨n, hn⟩ := callL_iff.1 hq; exact ⟨n, by rw [hn, bnd_some]; exact hr⟩)
       | (obtain ⟨n, hn⟩ := callV_cont hq; exact ⟨n, by rw [hn, bnd_some]; exact hr⟩))
theorem evalOps_cont {fb lb : Nat} : ∀ (is : List VI) {rs : Regs} {h : Heap} {fl : Fl} {r}, evalOps (callL E) fb lb is rs h fl = some r → ∃ n, evalOps (evalFn E n) fb lb is rs h fl = some r
  | [], _, _, _, _, hr => ⟨0, hr⟩
  | i :: is, rs, h, fl, r, hr => by
    simp only [evalOps] at hr ⊢
    obtain ⟨b, hb, hr⟩ := bnd_eq_some hr
    simp only [hb, bnd_some]
    cases b
    · exact evalOps_cont is hr
    · simp only [cnd_true] at hr ⊢
      obtain ⟨q, hq, hr⟩ := bnd_eq_some hr
      obtain ⟨n1, h1⟩ := evalOp_cont hq
      obtain ⟨n2, h2⟩ := evalOps_cont is hr
      refine ⟨max n1 n2, ?_⟩
      rw [evalOp_mono (evalFn_mono (Nat.le_max_left _ _)) h1, bnd_some]
      exact evalOps_mono (evalFn_mono (Nat.le_max_right _ _)) is h2
theorem iter_cont {bb : Nat → St → Option (Ex × St)} {b : St → Option (Ex × St)} (hm : ∀ n m, n ≤ m → ∀ s q, bb n s = some q → bb m s = some q)
    (hb : ∀ s q, b s = some q → ∃ n, bb n s = some q) : ∀ (k : Nat) {st : St} {r}, iterN k b st = some r → ∃ n, iterN n (bb n) st = some r
  | 0, _, _, hr => by cases hr
  | k + 1, st, r, hr => by
    simp only [iterN] at hr
    obtain ⟨q, hq, hr⟩ := bnd_eq_some hr
    obtain ⟨n1, h1⟩ := hb _ _ hq
    cases hn : q.1.isNormal <;> rw [hn] at hr
    · refine ⟨n1 + 1, ?_⟩
      simp only [iterN]
      rw [hm n1 (n1 + 1) (by omega) _ _ h1, bnd_some, hn]
      exact hr
    · obtain ⟨n2, h2⟩ := iter_cont hm hb k hr
      refine ⟨max n1 n2 + 1, ?_⟩
      simp only [iterN]
      rw [hm n1 (max n1 n2 + 1) (by omega) _ _ h1, bnd_some, hn, cnd_true]
      exact iterN_mono (n := n2) (m := max n1 n2) (by omega) _ _ _ _ (hm n2 (max n1 n2 + 1) (by omega)) h2

theorem evalCode_cont : ∀ (c : VCode) {fb lb : Nat} {st : St} {r}, evalCode (callL E) loopL fb c lb st = some r → ∃ n, evalCode (evalFn E n) (iterN n) fb c lb st = some r
  | .skip, _, _, _, _, hr => ⟨0, hr⟩
  | .exit _, _, _, _, _, hr => ⟨0, hr⟩
  | .ret, _, _, _, _, hr => ⟨0, hr⟩
  | .ops is live, fb, lb, st, r, hr => by
    simp only [evalCode] at hr ⊢
    obtain ⟨q, hq, hr⟩ := bnd_eq_some hr
    obtain ⟨n, hn⟩ := evalOps_cont is hq
    exact ⟨n, by rw [hn, bnd_some]; exact hr⟩
  | .dops c is live, fb, lb, st, r, hr => by
    simp only [evalCode] at hr ⊢
    obtain ⟨q, hq, hr⟩ := bnd_eq_some hr
    obtain ⟨n, hn⟩ := evalOps_cont is hq
    exact ⟨n, by rw [hn, bnd_some]; exact hr⟩
  | .seq a b, fb, lb, st, r, hr => by
    simp only [evalCode] at hr ⊢
    obtain ⟨q, hq, hr⟩ := bnd_eq_some hr
    obtain ⟨n1, h1⟩ := evalCode_cont a hq
    cases hn : q.1.isNormal <;> rw [hn] at hr
    · exact ⟨n1, by rw [h1, bnd_some, hn]; exact hr⟩
    · obtain ⟨n2, h2⟩ := evalCode_cont b hr
      refine ⟨max n1 n2, ?_⟩
      rw [evalCode_mono (evalFn_mono (Nat.le_max_left _ _)) (iterN_mono (Nat.le_max_left _ _)) a h1, bnd_some, hn, cnd_true]
      exact evalCode_mono (evalFn_mono (Nat.le_max_right _ _)) (iterN_mono (Nat.le_max_right _ _)) b h2
  | .cond c a b, fb, lb, st, r, hr => by
    simp only [evalCode] at hr ⊢
    obtain ⟨q, hq, hr⟩ := bnd_eq_some hr
    simp only [hq, bnd_some]
    cases q
    · exact evalCode_cont b hr
    · exact evalCode_cont a hr
  | .block id b, fb, lb, st, r, hr => by
    simp only [evalCode] at hr ⊢
    obtain ⟨q, hq, hr⟩ := bnd_eq_some hr
    obtain ⟨n, hn⟩ := evalCode_cont b hq
    exact ⟨n, by rw [hn, bnd_some]; exact hr⟩
  | .xops c x chk is live, fb, lb, st, r, hr => by
    simp only [evalCode] at hr ⊢
    obtain ⟨q, hq, hr⟩ := bnd_eq_some hr
    obtain ⟨n, hn⟩ := evalOps_cont is hq
    split at hr
    · rename_i ha
      have key : ∀ (l : List Nat), (∀ j ∈ l, agree1 (callL E) fb lb x is st.rs st.h st.fl j) → ∃ m, n ≤ m ∧ ∀ j ∈ l, agree1 (evalFn E m) fb lb x is st.rs st.h st.fl j := by
        intro l
        induction l with
        | nil => intro _; exact ⟨n, Nat.le_refl _, fun j hj => by simp at hj⟩
        | cons j l ih =>
          intro hl
          obtain ⟨m, hm, h1⟩ := ih (fun k hk => hl k (by simp [hk]))
          have one : ∃ m', m ≤ m' ∧ agree1 (evalFn E m') fb lb x is st.rs st.h st.fl j := by
            obtain ⟨p, e1, e2⟩ := evalOps_take hn j
            obtain ⟨p', e5, _⟩ := evalOps_take hn (x + 1)
            have up : CLe (evalFn E n) (callL E) := fun f a h r hr => callL_iff.2 ⟨n, hr⟩
            by_cases hx : ∃ i, is[j]? = some i ∧ wanted p.1 i.guard = some true
            · obtain ⟨i, hi, hw⟩ := hx
              obtain ⟨q0, hq0⟩ := e2 i hi hw
              obtain ⟨⟨q1, a1, a2⟩, q2, b1, b2⟩ := hl j (by simp) i hi _ _ _ (evalOps_mono up _ e1) hw _ _ _ (evalOps_mono up _ e5) q0 (evalOp_mono up hq0)
              obtain ⟨n1, c1⟩ := evalOp_cont a1
              obtain ⟨n2, c2⟩ := evalOp_cont b1
              refine ⟨max m (max n1 n2), Nat.le_max_left _ _, fun i' hi' rj hj fj g1 gw r1 h1' f1 g2 q' hq' => ?_⟩
              rw [hi] at hi'; cases hi'
              have e3 := evalOps_mono (evalFn_mono (E := E) (n := n) (m := max m (max n1 n2)) (by omega)) _ e1
              rw [g1] at e3; cases e3
              have e4 := evalOp_mono (evalFn_mono (E := E) (n := n) (m := max m (max n1 n2)) (by omega)) hq0
              rw [hq'] at e4; cases e4
              have e6 := evalOps_mono (evalFn_mono (E := E) (n := n) (m := max m (max n1 n2)) (by omega)) _ e5
              rw [g2] at e6; cases e6
              exact ⟨⟨q1, evalOp_mono (evalFn_mono (by omega)) c1, a2⟩, q2, evalOp_mono (evalFn_mono (by omega)) c2, b2⟩
            · refine ⟨m, Nat.le_refl _, fun i' hi' rj hj fj g1 gw r1 h1' f1 g2 q' hq' => ?_⟩
              have e3 := evalOps_mono (evalFn_mono (E := E) hm) _ e1
              rw [g1] at e3; cases e3
              exact absurd ⟨i', hi', gw⟩ hx
          obtain ⟨m', hm', h2⟩ := one
          refine ⟨m', by omega, fun k hk => ?_⟩
          rcases List.mem_cons.1 hk with rfl | hk
          · exact h2
          · exact agree1_mono (evalFn_mono hm') (evalOps_mono (evalFn_mono hm) _ hn) (h1 k hk)
      obtain ⟨m, hm, h1⟩ := key chk ha
      refine ⟨m, ?_⟩
      have ha' : agree (evalFn E m) fb lb x chk is st.rs st.h st.fl := h1
      rw [evalOps_mono (evalFn_mono hm) is hn, bnd_some, if_pos ha']; exact hr
    · cases hr
  | .gop gs y, fb, lb, st, r, hr => by
    simp only [evalCode] at hr ⊢
    obtain ⟨q, hq, hr⟩ := bnd_eq_some hr
    obtain ⟨n1, h1⟩ := evalOps_cont gs hq
    obtain ⟨n2, h2⟩ := evalCode_cont y hr
    refine ⟨max n1 n2, ?_⟩
    rw [evalOps_mono (evalFn_mono (Nat.le_max_left _ _)) gs h1, bnd_some]
    exact evalCode_mono (evalFn_mono (Nat.le_max_right _ _)) (iterN_mono (Nat.le_max_right _ _)) y h2
  | .amb o c x y z, fb, lb, st, r, hr => by
    simp only [evalCode] at hr ⊢
    obtain ⟨q, hq, hr⟩ := bnd_eq_some hr
    obtain ⟨n1, h1⟩ := evalCode_cont o hq
    cases hn : q.1.isNormal <;> rw [hn] at hr
    · exact ⟨n1, by rw [h1, bnd_some, hn]; exact hr⟩
    · simp only [cnd_true] at hr
      have key : ∀ (b : VCode) (hb : ∀ {fb lb : Nat} {st : St} {r}, evalCode (callL E) loopL fb b lb st = some r → ∃ n, evalCode (evalFn E n) (iterN n) fb b lb st = some r) {r}, (bnd (evalCode (callL E) loopL fb b lb q.2) fun p => cnd p.1.isNormal (evalCode (callL E) loopL fb z lb p.2) (some p)) = some r →
          ∃ n, ∀ m, n ≤ m → (bnd (evalCode (evalFn E m) (iterN m) fb b lb q.2) fun p => cnd p.1.isNormal (evalCode (evalFn E m) (iterN m) fb z lb p.2) (some p)) = some r := by
        intro b hb r hr
        obtain ⟨p, hp, hr⟩ := bnd_eq_some hr
        obtain ⟨n2, h2⟩ := hb hp
        cases hn : p.1.isNormal <;> rw [hn] at hr
        · refine ⟨n2, fun m hm => ?_⟩
          rw [evalCode_mono (evalFn_mono hm) (iterN_mono hm) b h2, bnd_some, hn]; exact hr
        · obtain ⟨n3, h3⟩ := evalCode_cont z hr
          refine ⟨max n2 n3, fun m hm => ?_⟩
          rw [evalCode_mono (evalFn_mono (Nat.le_trans (Nat.le_max_left _ _) hm)) (iterN_mono (Nat.le_trans (Nat.le_max_left _ _) hm)) b h2, bnd_some, hn, cnd_true]
          exact evalCode_mono (evalFn_mono (Nat.le_trans (Nat.le_max_right _ _) hm)) (iterN_mono (Nat.le_trans (Nat.le_max_right _ _) hm)) z h3
      have fin : ∀ n, (ambV (c.val q.2.rs) (bnd (evalCode (evalFn E (max n1 n)) (iterN (max n1 n)) fb x lb q.2) fun p => cnd p.1.isNormal (evalCode (evalFn E (max n1 n)) (iterN (max n1 n)) fb z lb p.2) (some p)) (bnd (evalCode (evalFn E (max n1 n)) (iterN (max n1 n)) fb y lb q.2) fun p => cnd p.1.isNormal (evalCode (evalFn E (max n1 n)) (iterN (max n1 n)) fb z lb p.2) (some p))) = some r →
          ∃ n, evalCode (evalFn E n) (iterN n) fb (.amb o c x y z) lb st = some r := fun n hx => ⟨max n1 n, by
        simp only [evalCode]
        rw [evalCode_mono (evalFn_mono (Nat.le_max_left _ _)) (iterN_mono (Nat.le_max_left _ _)) o h1, bnd_some, hn, cnd_true]
        exact hx⟩
      simp only [evalCode] at fin
      rcases ambV_some hr with ⟨hv, h2⟩ | ⟨hv, h2⟩ | ⟨hv, h2, h3⟩ <;> rw [hv] at fin
      · obtain ⟨n, hx⟩ := key x (evalCode_cont x) h2
        exact fin n (hx _ (Nat.le_max_right _ _))
      · obtain ⟨n, hx⟩ := key y (evalCode_cont y) h2
        exact fin n (hx _ (Nat.le_max_right _ _))
      · obtain ⟨n, hx⟩ := key x (evalCode_cont x) h2
        obtain ⟨m, hy⟩ := key y (evalCode_cont y) h3
        refine fin (max n m) ?_
        rw [hx _ (by omega), hy _ (by omega)]
        simp [ambV]
  | .loop live own b, fb, lb, st, r, hr => by
    simp only [evalCode] at hr ⊢
    obtain ⟨k, hk⟩ := loopL_iff.1 hr
    refine iter_cont (bb := fun n s => bnd (evalCode (evalFn E n) (iterN n) fb b s.h.length ⟨s.rs, s.h, ⟨s.fl.wr, [], s.fl.all⟩⟩) (bodyEnd s.h.length live s.fl.esc)) (fun n m hnm s q hq => ?_) (fun s q hq => ?_) k hk
    · obtain ⟨p, hp, hq⟩ := bnd_eq_some hq
      rw [evalCode_mono (evalFn_mono hnm) (iterN_mono hnm) b hp, bnd_some]; exact hq
    · obtain ⟨p, hp, hq⟩ := bnd_eq_some hq
      obtain ⟨n, hn⟩ := evalCode_cont b hp
      exact ⟨n, by rw [hn, bnd_some]; exact hq⟩

theorem runFn_cont {f : Nat} {a : List V} {h : Heap} {r} (hr : runFn E (callL E) loopL f a h = some r) : ∃ n, runFn E (evalFn E n) (iterN n) f a h = some r := by
  unfold runFn at hr ⊢
  cases hp : E.prim f with
  | some p => simp only [hp] at hr ⊢; exact ⟨0, hr⟩
  | none =>
    simp only [hp] at hr ⊢
    cases hf : E.fn f with
    | none => simp only [hf] at hr; cases hr
    | some fn =>
      simp only [hf] at hr ⊢
      unfold runV at hr ⊢
      cases hd : decide (a.length = fn.params) <;> rw [hd] at hr
      · cases hr
      · simp only [cnd_true] at hr ⊢
        obtain ⟨q, hq, hr⟩ := bnd_eq_some hr
        obtain ⟨n, hn⟩ := evalCode_cont _ hq
        exact ⟨n, by rw [hn, bnd_some]; exact hr⟩

theorem callL_eq {f : Nat} {a : List V} {h : Heap} {r} (hr : runFn E (callL E) loopL f a h = some r) : callL E f a h = some r := by
  obtain ⟨n, hn⟩ := runFn_cont hr
  exact callL_iff.2 ⟨n + 1, hn⟩
theorem callL_of {f : Nat} {fn : VFun} (hp : E.prim f = none) (hf : E.fn f = some fn) {a : List V} {h : Heap} {r} (hr : runV (callL E) loopL fn a h = some r) : callL E f a h = some r :=
  callL_eq (by unfold runFn; rw [hp, hf]; exact hr)
theorem callL_prim {f : Nat} {p} (hp : E.prim f = some p) {a : List V} {h : Heap} {r} (hr : p a h = some r) : callL E f a h = some r :=
  callL_eq (by unfold runFn; rw [hp]; exact hr)
end

theorem loopL_next {b : St → Option (Ex × St)} {st : St} {e : Ex} {st' : St} (hb : b st = some (e, st')) (hn : e.isNormal = true) {r} (hr : loopL b st' = some r) : loopL b st = some r := by
  obtain ⟨n, h⟩ := loopL_iff.1 hr
  exact loopL_iff.2 ⟨n + 1, by simp only [iterN]; rw [hb, bnd_some, hn]; exact h⟩
theorem loopL_done {b : St → Option (Ex × St)} {st : St} {e : Ex} {st' : St} (hb : b st = some (e, st')) (hn : e.isNormal = false) : loopL b st = some (e, st') :=
  loopL_iff.2 ⟨1, by simp only [iterN]; rw [hb, bnd_some, hn]; rfl⟩
end Go.Vm

/- From the model's operations to the V-machine's: a check that the kernel runs once for each function. -/
set_option linter.unusedVariables false
set_option linter.unusedSimpArgs false
namespace Go.Vm
attribute [local simp] evalOps_nil evalOps_cons evalOps_consg evalOp_mv evalOp_asg evalOp_pick evalOp_build evalOp_bslice evalOp_load evalOp_nilck evalOp_bin evalOp_un evalOp_conv evalOp_mkfn evalOp_slice evalOp_faddr evalOp_field evalOp_iaddr evalOp_index evalOp_lookup evalOp_extract evalOp_app evalOp_len evalOp_mn evalOp_mx evalOp_alloc evalOp_box evalOp_mkmap evalOp_store evalOp_mapupd evalOp_delete evalOp_sliceArr evalOp_call evalOp_callv evalOp_appc code_skip code_ops code_dops code_seq code_cond code_block code_exit code_ret finish_normal finish_ret
attribute [local simp] V.lt V.ltL V.flat V.pureCell V.pure V.isCell cellEq cellsEq eqV intV shV strV isShift binV unV byteV convV minV maxV foldV foldV1 fillV fillE findV putV delV isKey natOf natOr cut cellsAt mapAt mapOf loadV pickV nilckV sizeOk allSize sliceV faddrV fieldV iaddrV indexV found extractV allPure appV lenV ownHas ownOk storeC storeV samePtr appcV boxable mapupdV deleteV sliceArrV callV allLt clean bodyEnd resV one finishV runV initR

def trVal : Value → Option V
  | .bool b => some (.bool b)
  | .int k n => some (.int k n)
  | .string s => some (.str s.data.toList)
  | .pointer none => some (.ptr none)
  | .slice none 0 0 => some (.sl [])
  | .map none => some (.map none)
  | .nilFunc => some .nofn
  | _ => none
def trVals : List Value → Option (List V)
  | [] => some []
  | u :: us => bnd (trVal u) fun v => bnd (trVals us) fun vs => some (v :: vs)
def trConst : Value → Option V
  | .agg cs => bnd (trVals cs.toList) fun l => some (.agg l)
  | u => trVal u
def trArg : Operand → Option Arg
  | .tmp t => some (.r t)
  | .const u => bnd (trConst u) fun v => some (.c v)
  | .func f => some (.c (.fn f [] []))
  | .global _ => none
def trArgs : List Operand → Option (List Arg)
  | [] => some []
  | o :: os => bnd (trArg o) fun a => bnd (trArgs os) fun l => some (a :: l)
def trOpt : Option Operand → Option (Option Arg)
  | none => some none
  | some o => bnd (trArg o) fun a => some (some a)

section
variable (P : Program)
def sizeT (t : TypeId) : Option Nat := bnd (P.info? t) fun i => some i.size
def bytesT (t : TypeId) : Option Nat := bnd (P.info? t) fun i => some i.bytes
def zeroT (t : TypeId) : Option Value := bnd (P.info? t) fun i => i.zero
def aggT (t : TypeId) : Option Bool :=
  match P.underlying t with
  | some (.struct _) | some (.array _ _) => some true
  | some _ => some false
  | none => none
def fieldT (t : TypeId) (f : Nat) : Option (Nat × TypeId) :=
  match P.underlying t with
  | some (.struct fs) =>
    match fs[f]? with
    | some x => some (x.offset, x.type)
    | none => none
  | _ => none
def sliceT (t : TypeId) : Option TypeId :=
  match P.underlying t with
  | some (.slice e) => some e
  | _ => none
def arrayT (t : TypeId) : Option (Nat × TypeId) :=
  match P.underlying t with
  | some (.array n e) => some (n, e)
  | _ => none
def byteT (t : TypeId) : Bool :=
  match P.underlying t with
  | some (.int .u8) => true
  | _ => false
def flatFs (ft : TypeId → Option (List SK)) : List Field → Nat → Option (List SK)
  | [], _ => some []
  | f :: fs, o => bnd (ft f.type) fun ks => if f.name ≠ "_" ∧ f.offset = o ∧ 0 < ks.length ∧ sizeT P f.type = some ks.length then bnd (flatFs ft fs (o + ks.length)) fun l => some (ks ++ l) else none
def reps : Nat → List SK → List SK
  | 0, _ => []
  | n + 1, ks => ks ++ reps n ks
def flatT : Nat → TypeId → Option (List SK)
  | 0, _ => none
  | d + 1, t =>
    match P.underlying t with
    | some .bool => some [.b]
    | some (.int _) => some [.i]
    | some .string => some [.s]
    | some (.array n e) => bnd (flatT d e) fun ks => if 0 < ks.length ∧ sizeT P e = some ks.length then some (reps n ks) else none
    | some (.struct fs) => cnd (P.stoodInHeld t) none (flatFs P (flatT d) fs.toList 0)
    | _ => none
def eqK (t : TypeId) : EK :=
  match P.underlying t with
  | some .bool => .bool
  | some (.pointer _) => .ptr
  | some (.map _ _) => .map
  | some (.func _ _ _) => .fn
  | some (.struct _) | some (.array _ _) => match flatT P 8 t with | some ks => cnd (P.eqGuardType P.depth t) .no (.agg ks) | none => .no
  | _ => .no

def keyK (t : TypeId) : Option SK :=
  match P.underlying t with
  | some (.int _) => some .i
  | some .string => some .s
  | _ => none

def sizesT : List Field → Option (List (Nat × Nat))
  | [] => some []
  | f :: fs => bnd (P.info? f.type) fun i => bnd (sizesT fs) fun l => some ((f.offset, i.size) :: l)
def partsS (t : TypeId) : List (Nat × Operand) → Option (List (Nat × Nat × Arg))
  | [] => some []
  | (i, o) :: ps => bnd (fieldT P t i) fun f => bnd (sizeT P f.2) fun z => bnd (trArg o) fun a => bnd (partsS t ps) fun l => some ((f.1, z, a) :: l)
def partsA (size : Nat) : List (Nat × Operand) → Option (List (Nat × Nat × Arg))
  | [] => some []
  | (i, o) :: ps => bnd (trArg o) fun a => bnd (partsA size ps) fun l => some ((i * size, size, a) :: l)
def partsE : List (Nat × Operand) → Option (List (Nat × Arg))
  | [] => some []
  | (i, o) :: ps => bnd (trArg o) fun a => bnd (partsE ps) fun l => some ((i, a) :: l)

def fix1 : V → V → V
  | .sl [], .nsl => .nsl
  | .sl [], .own [] => .own []
  | c, _ => c
def fixN : List V → List V → List V
  | c :: cs, g :: gs => fix1 c g :: fixN cs gs
  | cs, [] => cs
  | [], _ => []
def trOp (op : Op) (ty : TypeId) (g : VOp) : Option VOp :=
  match op with
  | .move x => bnd (trArg x) fun a => some (.mv a)
  | .assign x => match g with
    | .mv _ => bnd (trArg x) fun a => some (.mv a)
    | _ => bnd (trArg x) fun a => some (.asg a)
  | .pick c x y => bnd (trArg c) fun c => bnd (trArg x) fun x => bnd (trArg y) fun y => some (.pick c x y)
  | .alloc e =>
    match g with
    | .alloc gs own => bnd (zeroT P e) fun z => bnd (trVals z.cells.toList) fun cs => some (.alloc (fixN cs gs) own)
    | _ => none
  | .box e x => bnd (sizeT P e) fun n => bnd (trArg x) fun a => some (.box n a)
  | .build t parts => bnd (zeroT P t) fun z => bnd (trVals z.cells.toList) fun cs =>
    match P.underlying t with
    | some (.struct fs) => bnd (sizesT P fs.toList) fun _ => bnd (partsS P t parts.toList) fun ps => some (.build cs ps)
    | some (.array _ e) => bnd (sizeT P e) fun n => bnd (partsA n parts.toList) fun ps => some (.build cs ps)
    | _ => none
  | .buildSlice t n parts => bnd (sliceT P t) fun e => bnd (zeroT P e) fun z => bnd (trConst z) fun v => bnd (sizeT P e) fun k => bnd (partsE parts.toList) fun ps =>
    if 0 < k ∧ n * k ≤ 65536 ∧ z.cells.size = k then some (.bslice v k n ps) else none
  | .load t a => bnd (aggT P t) fun b => bnd (sizeT P t) fun n => bnd (trArg a) fun a => if b = true ∨ n = 1 then some (.load b n a) else none
  | .store t a x =>
    match g with
    | .store _ _ _ own p => bnd (sizeT P t) fun n => bnd (trArg a) fun a => bnd (trArg x) fun x => some (.store n a x own p)
    | _ => none
  | .nilCheck x => bnd (trArg x) fun a => some (.nilck a)
  | .binOp o t x y _ => bnd (trArg x) fun x => bnd (trArg y) fun y => some (.bin o (eqK P t) x y)
  | .unOp o _ x => bnd (trArg x) fun a => some (.un o a)
  | .convert s d x => bnd (trArg x) fun a =>
    match P.underlying s, P.underlying d with
    | some (.int _), some (.int k) => some (.conv (.toInt k) a)
    | some .string, some .string => some (.conv .same a)
    | some (.slice e), some .string => cnd (byteT P e) (some (.conv .strOfBytes a)) none
    | some .string, some (.slice e) => cnd (byteT P e) (some (.conv .bytesOfStr a)) none
    | _, _ => none
  | .makeFunc f first caps =>
    match f with
    | .func f => bnd (trArgs first.toList) fun a => bnd (trArgs caps.toList) fun c => some (.mkfn f a c)
    | _ => none
  | .makeMap t r =>
    match r with
    | none => some .mkmap
    | some _ => none
  | .slice t x lo hi mx => bnd (trArg x) fun a => bnd (trOpt lo) fun l => bnd (trOpt hi) fun u => bnd (trOpt mx) fun m =>
    match P.underlying t with
    | some .string => some (.slice true 1 a l u m)
    | some (.slice e) => bnd (sizeT P e) fun n => some (.slice false n a l u m)
    | some (.array n e) =>
      match l, u, m with
      | none, none, none => bnd (sizeT P e) fun k => some (.sliceArr n k a)
      | _, _, _ => none
    | _ => none
  | .fieldAddr t x f => bnd (fieldT P t f) fun fd => bnd (sizeT P fd.2) fun n => bnd (trArg x) fun a => if 0 < n then some (.faddr fd.1 a) else none
  | .field t x f => bnd (fieldT P t f) fun fd => bnd (aggT P fd.2) fun b => bnd (sizeT P fd.2) fun n => bnd (trArg x) fun a => if b = true ∨ n = 1 then some (.field fd.1 n b a) else none
  | .indexAddr t x i => bnd (trArg x) fun a => bnd (trArg i) fun j =>
    match P.underlying t with
    | some (.slice e) => bnd (sizeT P e) fun n => some (.iaddr none n a j)
    | some (.array n e) => bnd (sizeT P e) fun k => some (.iaddr (some n) k a j)
    | _ => none
  | .index t x i => bnd (trArg x) fun a => bnd (trArg i) fun j =>
    match P.underlying t with
    | some .string => some (.index true 0 1 false a j)
    | some (.array n e) => bnd (aggT P e) fun b => bnd (sizeT P e) fun k => if b = true ∨ k = 1 then some (.index false n k b a j) else none
    | _ => none
  | .lookup t x i ok => bnd (trArg x) fun a => bnd (trArg i) fun k =>
    match P.underlying t with
    | some (.map kt e) =>
      bnd (keyK P kt) fun q => bnd (zeroT P e) fun z => bnd (trConst z) fun v => some (.lookup q v ok a k)
    | _ => none
  | .mapUpdate t m k v | .insert t m k v =>
    match P.underlying t with
    | some (.map kt _) =>
      bnd (keyK P kt) fun q => bnd (trArg m) fun m => bnd (trArg k) fun k => bnd (trArg v) fun v => some (.mapupd q m k v)
    | _ => none
  | .extract x i => bnd (trArg x) fun a => some (.extract i a)
  | .call c =>
    match c.callee with
    | .value (.func f) =>
      match g with
      | .call q _ _ => bnd (trArgs c.args.toList) fun as => some (.call q f as)
      | _ => none
    | .value x =>
      match g with
      | .callv q _ _ => bnd (trArg x) fun a => bnd (trArgs c.args.toList) fun as => some (.callv q a as)
      | _ => none
    | .builtin .append =>
      match c.args.toList, c.argTypes.toList with
      | [s, x], [t, tx] => bnd (sliceT P t) fun e => bnd (P.info? e) fun i => bnd (trArg s) fun a => bnd (trArg x) fun y =>
        match i.zero, P.underlying tx with
        | some z, some (.slice e') => if e' = e ∧ tx = t ∧ 0 < i.size ∧ 0 < i.bytes ∧ z.cells.size = i.size then
          match g with
          | .app p _ _ _ _ => some (.app p i.size i.bytes a y)
          | .appc r _ _ _ _ => some (.appc r i.size i.bytes a y)
          | _ => none
          else none
        | _, _ => none
      | _, _ => none
    | .builtin .len =>
      match c.args.toList, c.argTypes.toList with
      | [x], [t] => bnd (trArg x) fun a =>
        match P.underlying t with
        | some .string => some (.len .str a)
        | some (.slice _) => some (.len .sl a)
        | some (.map _ _) => some (.len .map a)
        | some (.array n _) => some (.len (.arr n) a)
        | some (.pointer r) => bnd (arrayT P r) fun ar => some (.len (.arr ar.1) a)
        | _ => none
      | _, _ => none
    | .builtin .min => bnd (trArgs c.args.toList) fun as => some (.mn as)
    | .builtin .max => bnd (trArgs c.args.toList) fun as => some (.mx as)
    | .builtin .delete =>
      match c.args.toList, c.argTypes.toList with
      | [m, k], t :: _ =>
        match P.underlying t with
        | some (.map kt _) =>
          bnd (keyK P kt) fun q => bnd (trArg m) fun m => bnd (trArg k) fun k => some (.delete q m k)
        | _ => none
      | _, _ => none
    | _ => none
  | _ => none

def isNil : Arg → Bool
  | .c (.sl []) => true
  | _ => false
def linOp : VOp → Bool
  | .newl _ | .appl _ _ _ _ _ | .lenl _ _ | .slf _ _ _ _ _ | .calll _ _ _ _ _ _ | .bld _ _ _ | .boxo _ _ _ | .bstr _ | .isnil _ | .mvn | .bsll _ _ _ _ | .appm _ _ _ _ | .mrk _ _ | .clr _ _ | .mkm _ _ _ | .bad => true
  | _ => false
def ghost : VOp → Bool
  | .thwr _ _ | .thwc _ _ _ | .setc _ _ _ _ | .frzr _ _ _ | .frzc _ _ _ _ | .frzl _ _ => true
  | _ => false
def gdst : VOp → Option Nat
  | .thwr p _ | .frzr p _ _ | .frzl p _ => some p
  | _ => none
def trNewl (op : Op) : Option Unit :=
  match op with
  | .move x | .assign x => bnd (trArg x) fun a => cnd (isNil a) (some ()) none
  | _ => none
def trAppl (op : Op) : Option (Nat × Nat × Arg × Arg) :=
  match op with
  | .call c =>
    match c.callee, c.args.toList, c.argTypes.toList with
    | .builtin .append, [s, x], [t, tx] => bnd (sliceT P t) fun e => bnd (P.info? e) fun i => bnd (trArg s) fun a => bnd (trArg x) fun y =>
      match i.zero, P.underlying tx with
      | some z, some (.slice e') => if e' = e ∧ tx = t ∧ 0 < i.size ∧ 0 < i.bytes ∧ z.cells.size = i.size ∧ z.cells.toList.all Value.oneCell' = true then some (i.size, i.bytes, a, y) else none
      | _, _ => none
    | _, _, _ => none
  | _ => none
def trLenl (op : Op) : Option Arg :=
  match op with
  | .call c =>
    match c.callee, c.args.toList, c.argTypes.toList with
    | .builtin .len, [x], [t] => bnd (sliceT P t) fun _ => trArg x
    | _, _, _ => none
  | _ => none
def trSlf (op : Op) : Option (Nat × Arg × Option Arg × Option Arg) :=
  match op with
  | .slice t x lo hi none => bnd (sliceT P t) fun e => bnd (sizeT P e) fun n => bnd (trArg x) fun a => bnd (trOpt lo) fun l => bnd (trOpt hi) fun u => cnd (decide (0 < n)) (some (n, a, l, u)) none
  | _ => none
def trCalll (op : Op) : Option (Nat × Arg × List Arg) :=
  match op with
  | .call c =>
    match c.callee, c.args.toList with
    | .value (.func f), x :: xs => bnd (trArg x) fun a => bnd (trArgs xs) fun as => some (f, a, as)
    | _, _ => none
  | _ => none
def trBld (op : Op) : Option (List V × List (Nat × Nat × Arg)) :=
  match op with
  | .build t parts => bnd (zeroT P t) fun z => bnd (trVals z.cells.toList) fun cs =>
    match P.underlying t with
    | some (.struct fs) => bnd (sizesT P fs.toList) fun _ => bnd (partsS P t parts.toList) fun ps => some (cs, ps)
    | _ => none
  | _ => none
def trBoxo (op : Op) : Option (Nat × Arg) :=
  match op with
  | .box e x => bnd (sizeT P e) fun n => bnd (trArg x) fun a => some (n, a)
  | _ => none
def trIsnil (op : Op) : Option Arg :=
  match op with
  | .binOp .eql t x (.const c) _ => match P.underlying t, c with
    | some (.slice _), .slice none 0 0 => trArg x
    | _, _ => none
  | _ => none
def trBstr (op : Op) : Option Arg :=
  match op with
  | .convert s d x =>
    match P.underlying s, P.underlying d with
    | some .string, some (.slice e) => cnd (byteT P e) (trArg x) none
    | _, _ => none
  | _ => none
def trBsll (op : Op) : Option (V × Nat × Nat × List (Nat × Arg)) :=
  match op with
  | .buildSlice t n parts => bnd (sliceT P t) fun e => bnd (zeroT P e) fun z => bnd (trConst z) fun v => bnd (sizeT P e) fun k => bnd (partsE parts.toList) fun ps =>
    if 0 < k ∧ n * k ≤ 65536 ∧ z.cells.size = k then some (v, k, n, ps) else none
  | _ => none
def trMrk (op : Op) : Option Arg :=
  match op with
  | .convert s d x => cnd (decide (s = d)) (bnd (sliceT P s) fun e => cnd (byteT P e) (trArg x) none) none
  | _ => none
def trClr (op : Op) : Option (List V × Arg) :=
  match op with
  | .call c =>
    match c.callee, c.args.toList, c.argTypes.toList with
    | .builtin .clear, [x], [t] => bnd (sliceT P t) fun e => bnd (zeroT P e) fun z => bnd (trVals z.cells.toList) fun zs => bnd (trArg x) fun a => some (zs, a)
    | _, _, _ => none
  | _ => none
def trMkm (op : Op) : Option (Nat × List V × Arg) :=
  match op with
  | .makeSlice t (.tmp i) (.tmp j) => bnd (sliceT P t) fun e => bnd (P.info? e) fun f => bnd f.zero fun z => bnd (trVals z.cells.toList) fun zs => cnd (decide (i = j ∧ f.size = z.cells.size)) (some (f.bytes, zs, .r i)) none
  | _ => none
def nilA : Arg → Arg
  | .c (.sl []) => .c .nsl
  | a => a
def trOpL (op : Op) (g : VOp) : Option VOp :=
  match g with
  | .newl z => bnd (trNewl op) fun _ => some (.newl z)
  | .appl p _ _ _ _ => bnd (trAppl P op) fun r => some (.appl p r.1 r.2.1 r.2.2.1 r.2.2.2)
  | .lenl p _ => bnd (trLenl P op) fun a => some (.lenl p a)
  | .slf p _ _ _ _ => bnd (trSlf P op) fun r => some (.slf p r.1 r.2.1 r.2.2.1 r.2.2.2)
  | .calll _ p z F _ _ => bnd (trCalll op) fun r => some (.calll r.1 p z F r.2.1 r.2.2)
  | .bld gs _ offs => bnd (trBld P op) fun r => some (.bld (fixN r.1 gs) r.2 offs)
  | .boxo _ _ own => bnd (trBoxo P op) fun r => some (.boxo r.1 r.2 own)
  | .bstr _ => bnd (trBstr P op) fun a => some (.bstr a)
  | .isnil _ => bnd (trIsnil P op) fun a => some (.isnil a)
  | .mvn => bnd (trNewl op) fun _ => some .mvn
  | .bad => bnd (some ()) fun _ => some .bad
  | .bsll _ _ _ _ => bnd (trBsll P op) fun r => some (.bsll r.1 r.2.1 r.2.2.1 r.2.2.2)
  | .appm _ _ _ _ => bnd (trAppl P op) fun r => some (.appm r.1 r.2.1 (nilA r.2.2.1) r.2.2.2)
  | .mrk p _ => bnd (trMrk P op) fun a => some (.mrk p a)
  | .clr _ _ => bnd (trClr P op) fun r => some (.clr r.1 r.2)
  | .mkm _ _ _ => bnd (trMkm P op) fun r => some (.mkm r.1 r.2.1 r.2.2)
  | _ => none
def trOpA (op : Op) (ty : TypeId) (g : VOp) : Option VOp := cnd (linOp g) (trOpL P op g) (trOp P op ty g)

def trGuard (ops : Array Oper) : Option (Nat × Bool) → Option (Option (Nat × Bool))
  | none => some none
  | some (j, b) =>
    match (ops[j]?).bind (·.dst) with
    | some t => some (some (t, b))
    | none => none

def trI (ops : Array Oper) (o : Oper) (g : VI) : Option VI :=
  bnd (trGuard ops o.guard) fun gd => bnd (trOpA P o.op o.type g.op) fun op => some ⟨o.dst, gd, op⟩
def trIs (ops : Array Oper) : List Oper → List VI → Option (List VI)
  | [], [] => some []
  | o :: os, g :: gs => bnd (trI P ops o g) fun i => bnd (trIs ops os gs) fun l => some (i :: l)
  | _, _ => none

def trGs (ops : Array Oper) : List Oper → List VI → Option (List VI)
  | [], [] => some []
  | _ :: _, [] => none
  | os, g :: gs => cnd (ghost g.op) (bnd (trGs ops os gs) fun l => some (⟨gdst g.op, none, g.op⟩ :: l)) (match os with
    | [] => none
    | o :: os' => bnd (trI P ops o g) fun i => bnd (trGs ops os' gs) fun l => some (i :: l))

def trG : List VI → Option (List VI)
  | [] => some []
  | g :: gs => cnd (ghost g.op) (bnd (trG gs) fun l => some (⟨gdst g.op, none, g.op⟩ :: l)) none
def trCode : Code → VCode → Option VCode
  | c, .gop gs y => bnd (trG gs) fun l => bnd (trCode c y) fun y => some (.gop l y)
  | .skip, .skip => some .skip
  | .ret, .ret => some .ret
  | .exit j, .exit _ => some (.exit j)
  | .region _ ops false, .ops is live => bnd (trGs P ops ops.toList is) fun l => some (.ops l live)
  | .region _ ops true, .xops c x chk is live => bnd (trIs P ops ops.toList is) fun l => some (.xops c x chk l live)
  | .region _ ops true, .dops c is live => bnd (trIs P ops ops.toList is) fun l => some (.dops c l live)
  | .seq a b, .seq x y => bnd (trCode a x) fun a => bnd (trCode b y) fun b => some (.seq a b)
  | .cond c a b, .cond _ x y => bnd (trArg c) fun c => bnd (trCode a x) fun a => bnd (trCode b y) fun b => some (.cond c a b)
  | .block id b, .block _ x => bnd (trCode b x) fun b => some (.block id b)
  | .loop b, .loop live own x => bnd (trCode b x) fun b => some (.loop live own b)
  | .seq (.seq o (.cond c a b)) z, .amb vo _ va vb vz => bnd (trCode o vo) fun o => bnd (trArg c) fun c => bnd (trCode a va) fun a => bnd (trCode b vb) fun b => bnd (trCode z vz) fun z => some (.amb o c a b z)
  | _, _ => none
def trRes : List ResultVar → Option (List Res)
  | [] => some []
  | .tmp t :: rs => bnd (trRes rs) fun l => some (.r t :: l)
  | .cell a t :: rs => bnd (aggT P t) fun b => bnd (sizeT P t) fun n => bnd (trRes rs) fun l => if b = true ∨ n = 1 then some (.cell a b n :: l) else none
end
end Go.Vm

/- How the V-machine's values stand to the model's: what reads as what. -/
set_option linter.unusedVariables false
set_option linter.unusedSimpArgs false
namespace Go.Vm
attribute [local simp] evalOps_nil evalOps_cons evalOps_consg evalOp_mv evalOp_asg evalOp_pick evalOp_build evalOp_bslice evalOp_load evalOp_nilck evalOp_bin evalOp_un evalOp_conv evalOp_mkfn evalOp_slice evalOp_faddr evalOp_field evalOp_iaddr evalOp_index evalOp_lookup evalOp_extract evalOp_app evalOp_len evalOp_mn evalOp_mx evalOp_alloc evalOp_box evalOp_mkmap evalOp_store evalOp_mapupd evalOp_delete evalOp_sliceArr evalOp_call evalOp_callv evalOp_appc code_skip code_ops code_dops code_seq code_cond code_block code_exit code_ret finish_normal finish_ret
attribute [local simp] V.lt V.ltL V.flat V.pureCell V.pure V.isCell cellEq cellsEq eqV intV shV strV isShift binV unV byteV convV minV maxV foldV foldV1 fillV fillE findV putV delV isKey natOf natOr cut cellsAt mapAt mapOf loadV pickV nilckV sizeOk allSize sliceV faddrV fieldV iaddrV indexV found extractV allPure appV lenV ownHas ownOk storeC storeV samePtr appcV boxable mapupdV deleteV sliceArrV callV allLt clean bodyEnd resV one finishV runV initR

abbrev Imm := Nat → Nat → Option Value
structure Gh where
  mu : Nat → Option Nat
  imm : Imm
  siz : Nat → Nat
  em : Nat → Bool

mutual
inductive CR (m : Imm) : Value → V → Prop
  | bool (b : Bool) : CR m (.bool b) (.bool b)
  | int (k : IntKind) (n : Int) : CR m (.int k n) (.int k n)
  | str (s : ByteArray) : CR m (.string s) (.str s.data.toList)
  | nilp : CR m (.pointer none) (.ptr none)
  | nilm : CR m (.map none) (.map none)
  | nofn : CR m .nilFunc .nofn
  | fn (f : Nat) : CR m (.func (.func f) #[] #[]) (.fn f [] [])
  | nils : CR m (.slice none 0 0) (.sl [])
  | sl0 {a : Addr} {cap : Nat} : CR m (.slice (some a) 0 cap) (.sl [])
  | bb (b : Bool) : CR m (.bool b) .bb
  | sl {b o cap sz n : Nat} {us : List Value} {xs : List V} : n = xs.length → n ≤ cap → (∀ x ∈ xs, x.flat.length = sz) →
      (∀ j u, us[j]? = some u → m b (o + j) = some u) → CRs m us (xs.flatMap V.flat) → CR m (.slice (some ⟨b, o, none⟩) n cap) (.sl xs)
inductive CRs (m : Imm) : List Value → List V → Prop
  | nil : CRs m [] []
  | cons {u : Value} {us : List Value} {v : V} {vs : List V} : CR m u v → CRs m us vs → CRs m (u :: us) (v :: vs)
end

mutual
inductive VR (g : Gh) : Value → V → Prop
  | cell {u : Value} {v : V} : CR g.imm u v → VR g u v
  | ptr {i b o : Nat} : g.mu i = some b → VR g (.pointer (some ⟨b, o, none⟩)) (.ptr (some (i, o)))
  | ro {b o : Nat} {us : List Value} {cs : List V} : (∀ j u, us[j]? = some u → g.imm b (o + j) = some u) → CRs g.imm us cs → VR g (.pointer (some ⟨b, o, none⟩)) (.ro cs)
  | map {i b : Nat} : g.mu i = some b → VR g (.map (some b)) (.map (some i))
  | fn {f : Nat} {us vs : List Value} {as cs : List V} : VRs g us as → VRs g vs cs → VR g (.func (.func f) us.toArray vs.toArray) (.fn f as cs)
  | agg {us : List Value} {cs : List V} : VRs g us cs → cs.all V.isCell = true → VR g (.agg us.toArray) (.agg cs)
  | tup {us : List Value} {vs : List V} : VRs g us vs → VR g (.tuple us.toArray) (.tup vs)
  | undef : VR g Go.undef .undef
  | lst {u : Value} {xs : List V} : VR g u (.lst xs)
  | top {u : Value} : VR g u .top
  | cel {u : Value} : u.oneCell' = true → VR g u .cel
  | msl {i b o n cap z : Nat} : g.mu i = some b → n ≤ cap → o + cap * z ≤ g.siz b → VR g (.slice (some ⟨b, o, none⟩) n cap) (.msl i o n z)
  | nsl : VR g (.slice none 0 0) .nsl
  | eml0 {i z : Nat} : g.em i = true → VR g (.slice none 0 0) (.eml i z)
  | eml {i b cap z : Nat} : g.mu i = some b → cap * z ≤ g.siz b → VR g (.slice (some ⟨b, 0, none⟩) 0 cap) (.eml i z)
  | own {u : Value} {xs : List V} : u.oneCell' = true → VR g u (.own xs)
inductive VRs (g : Gh) : List Value → List V → Prop
  | nil : VRs g [] []
  | cons {u : Value} {us : List Value} {v : V} {vs : List V} : VR g u v → VRs g us vs → VRs g (u :: us) (v :: vs)
end

def ImmLe (m m' : Imm) : Prop := ∀ b o u, m b o = some u → m' b o = some u
structure GLe (g g' : Gh) : Prop where
  mu : ∀ i b, g.mu i = some b → g'.mu i = some b
  imm : ImmLe g.imm g'.imm
  siz : ∀ b, g.siz b ≤ g'.siz b
  em : ∀ i, g.em i = true → g'.em i = true
theorem ImmLe.refl (m : Imm) : ImmLe m m := fun _ _ _ h => h
theorem GLe.refl (g : Gh) : GLe g g := ⟨fun _ _ h => h, ImmLe.refl _, fun _ => Nat.le_refl _, fun _ h => h⟩
theorem GLe.trans {a b c : Gh} (h : GLe a b) (k : GLe b c) : GLe a c := ⟨fun i x e => k.mu i x (h.mu i x e), fun x o u e => k.imm x o u (h.imm x o u e), fun b => Nat.le_trans (h.siz b) (k.siz b), fun i e => k.em i (h.em i e)⟩

mutual
theorem CR.mono {m m' : Imm} (h : ImmLe m m') : ∀ {u : Value} {v : V}, CR m u v → CR m' u v
  | _, _, .bool b => .bool b
  | _, _, .int k n => .int k n
  | _, _, .str s => .str s
  | _, _, .nilp => .nilp
  | _, _, .nilm => .nilm
  | _, _, .nofn => .nofn
  | _, _, .fn f => .fn f
  | _, _, .nils => .nils
  | _, _, .sl0 => .sl0
  | _, _, .bb b => .bb b
  | _, _, .sl a b c d e => .sl a b c (fun j u hu => h _ _ _ (d j u hu)) (CRs.mono h e)
theorem CRs.mono {m m' : Imm} (h : ImmLe m m') : ∀ {us : List Value} {vs : List V}, CRs m us vs → CRs m' us vs
  | _, _, .nil => .nil
  | _, _, .cons a b => .cons (CR.mono h a) (CRs.mono h b)
end
mutual
theorem VR.mono {g g' : Gh} (h : GLe g g') : ∀ {u : Value} {v : V}, VR g u v → VR g' u v
  | _, _, .cell a => .cell (a.mono h.imm)
  | _, _, .ptr a => .ptr (h.mu _ _ a)
  | _, _, .ro a b => .ro (fun j u hu => h.imm _ _ _ (a j u hu)) (b.mono h.imm)
  | _, _, .map a => .map (h.mu _ _ a)
  | _, _, .fn a b => .fn (VRs.mono h a) (VRs.mono h b)
  | _, _, .agg a b => .agg (VRs.mono h a) b
  | _, _, .tup a => .tup (VRs.mono h a)
  | _, _, .undef => .undef
  | _, _, .lst => .lst
  | _, _, .top => .top
  | _, _, .cel a => .cel a
  | _, _, .msl a b c => .msl (h.mu _ _ a) b (Nat.le_trans c (h.siz _))
  | _, _, .nsl => .nsl
  | _, _, .eml0 a => .eml0 (h.em _ a)
  | _, _, .eml a c => .eml (h.mu _ _ a) (Nat.le_trans c (h.siz _))
  | _, _, .own a => .own a
theorem VRs.mono {g g' : Gh} (h : GLe g g') : ∀ {us : List Value} {vs : List V}, VRs g us vs → VRs g' us vs
  | _, _, .nil => .nil
  | _, _, .cons a b => .cons (VR.mono h a) (VRs.mono h b)
end

def Gh.trim (g : Gh) (n : Nat) : Gh := ⟨fun i => if i < n then g.mu i else none, g.imm, g.siz, fun i => decide (i < n) && g.em i⟩
mutual
theorem VR.trim {g : Gh} {n : Nat} : ∀ {u : Value} {v : V}, VR g u v → v.lt n = true → VR (g.trim n) u v
  | _, _, .cell a, _ => .cell a
  | _, _, .ptr (i := i) a, h => .ptr (by have : i < n := (by simpa using h); simp [Gh.trim, this, a])
  | _, _, .ro a b, _ => .ro a b
  | _, _, .map (i := i) a, h => .map (by have : i < n := (by simpa using h); simp [Gh.trim, this, a])
  | _, _, .fn a b, h => by
    simp only [V.lt, Bool.and_eq_true] at h
    exact .fn (VRs.trim a h.1) (VRs.trim b h.2)
  | _, _, .agg a b, h => .agg (VRs.trim a h) b
  | _, _, .tup a, h => .tup (VRs.trim a h)
  | _, _, .undef, _ => .undef
  | _, _, .lst, _ => .lst
  | _, _, .top, _ => .top
  | _, _, .cel a, _ => .cel a
  | _, _, .msl (i := i) a b c, h => .msl (by have : i < n := (by simpa using h); simp [Gh.trim, this, a]) b c
  | _, _, .nsl, _ => .nsl
  | _, _, .eml0 (i := i) a, h => .eml0 (by have : i < n := (by simpa using h); simp [Gh.trim, this, a])
  | _, _, .eml (i := i) a c, h => .eml (by have : i < n := (by simpa using h); simp [Gh.trim, this, a]) c
  | _, _, .own a, _ => .own a
theorem VRs.trim {g : Gh} {n : Nat} : ∀ {us : List Value} {vs : List V}, VRs g us vs → V.ltL n vs = true → VRs (g.trim n) us vs
  | _, _, .nil, _ => .nil
  | _, _, .cons a b, h => by
    simp only [V.ltL, Bool.and_eq_true] at h
    exact .cons (VR.trim a h.1) (VRs.trim b h.2)
end
mutual
theorem VR.lt {g : Gh} {n : Nat} (hd : ∀ i b, g.mu i = some b → i < n) (he : ∀ i, g.em i = true → i < n) : ∀ {u : Value} {v : V}, VR g u v → v.lt n = true
  | _, _, .cell a => by cases a <;> simp
  | _, _, .ptr a => by simpa using hd _ _ a
  | _, _, .ro a b => by simp
  | _, _, .map a => by simpa using hd _ _ a
  | _, _, .fn a b => by simp [VRs.lt hd he a, VRs.lt hd he b]
  | _, _, .agg a b => by simp [VRs.lt hd he a]
  | _, _, .tup a => by simp [VRs.lt hd he a]
  | _, _, .undef => by simp
  | _, _, .lst => by simp
  | _, _, .top => by simp
  | _, _, .cel a => by simp
  | _, _, .msl a b c => by simpa using hd _ _ a
  | _, _, .nsl => by simp
  | _, _, .eml0 a => by simpa using he _ a
  | _, _, .eml a c => by simpa using hd _ _ a
  | _, _, .own a => by simp
theorem VRs.lt {g : Gh} {n : Nat} (hd : ∀ i b, g.mu i = some b → i < n) (he : ∀ i, g.em i = true → i < n) : ∀ {us : List Value} {vs : List V}, VRs g us vs → V.ltL n vs = true
  | _, _, .nil => by simp
  | _, _, .cons a b => by simp [VR.lt hd he a, VRs.lt hd he b]
end
mutual
theorem V.lt_mono {n m : Nat} (h : n ≤ m) : ∀ (v : V), v.lt n = true → v.lt m = true
  | .ptr (some (i, _)), hv => by simp at hv ⊢; omega
  | .map (some i), hv => by simp at hv ⊢; omega
  | .msl i _ _ _, hv => by simp at hv ⊢; omega
  | .eml i _, hv => by simp at hv ⊢; omega
  | .fn _ a b, hv => by
    simp only [V.lt, Bool.and_eq_true] at hv ⊢
    exact ⟨V.ltL_mono h a hv.1, V.ltL_mono h b hv.2⟩
  | .agg cs, hv => V.ltL_mono h cs hv
  | .tup vs, hv => V.ltL_mono h vs hv
  | .bool _, _ | .int _ _, _ | .str _, _ | .ptr none, _ | .ro _, _ | .sl _, _ | .map none, _ | .nofn, _ | .undef, _ | .top, _ | .lst _, _ | .bb, _ | .cel, _ | .nsl, _ | .own _, _ => by simp
theorem V.ltL_mono {n m : Nat} (h : n ≤ m) : ∀ (vs : List V), V.ltL n vs = true → V.ltL m vs = true
  | [], _ => by simp
  | v :: vs, hv => by
    simp only [V.ltL, Bool.and_eq_true] at hv ⊢
    exact ⟨V.lt_mono h v hv.1, V.ltL_mono h vs hv.2⟩
end

theorem CRs.length {m : Imm} : ∀ {us : List Value} {vs : List V}, CRs m us vs → us.length = vs.length
  | _, _, .nil => rfl
  | _, _, .cons _ b => by simp [CRs.length b]
theorem VRs.length {g : Gh} : ∀ {us : List Value} {vs : List V}, VRs g us vs → us.length = vs.length
  | _, _, .nil => rfl
  | _, _, .cons _ b => by simp [VRs.length b]
theorem CRs.get {m : Imm} : ∀ {us : List Value} {vs : List V}, CRs m us vs → ∀ (j : Nat) (v : V), vs[j]? = some v → ∃ u, us[j]? = some u ∧ CR m u v
  | _, _, .nil, j, v, h => by simp at h
  | _, _, .cons a b, 0, v, h => by simp at h; subst h; exact ⟨_, rfl, a⟩
  | _, _, .cons a b, j + 1, v, h => by simpa using CRs.get b j v (by simpa using h)
theorem VRs.get {g : Gh} : ∀ {us : List Value} {vs : List V}, VRs g us vs → ∀ (j : Nat) (v : V), vs[j]? = some v → ∃ u, us[j]? = some u ∧ VR g u v
  | _, _, .nil, j, v, h => by simp at h
  | _, _, .cons a b, 0, v, h => by simp at h; subst h; exact ⟨_, rfl, a⟩
  | _, _, .cons a b, j + 1, v, h => by simpa using VRs.get b j v (by simpa using h)
theorem CRs.append {m : Imm} {us us' : List Value} {vs vs' : List V} (h : CRs m us vs) (h' : CRs m us' vs') : CRs m (us ++ us') (vs ++ vs') := by
  match us, vs, h with
  | _, _, .nil => exact h'
  | _, _, .cons a b => exact .cons a (b.append h')
theorem VRs.append {g : Gh} {us us' : List Value} {vs vs' : List V} (h : VRs g us vs) (h' : VRs g us' vs') : VRs g (us ++ us') (vs ++ vs') := by
  match us, vs, h with
  | _, _, .nil => exact h'
  | _, _, .cons a b => exact .cons a (b.append h')
theorem CRs.drop {m : Imm} : ∀ (n : Nat) {us : List Value} {vs : List V}, CRs m us vs → CRs m (us.drop n) (vs.drop n)
  | 0, _, _, h => by simpa using h
  | n + 1, _, _, .nil => by simpa using CRs.nil
  | n + 1, _, _, .cons _ b => by simpa using b.drop n
theorem CRs.take {m : Imm} : ∀ (n : Nat) {us : List Value} {vs : List V}, CRs m us vs → CRs m (us.take n) (vs.take n)
  | 0, _, _, _ => by simpa using CRs.nil
  | n + 1, _, _, .nil => by simpa using CRs.nil
  | n + 1, _, _, .cons a b => by simpa using CRs.cons a (b.take n)
theorem VRs.drop {g : Gh} : ∀ (n : Nat) {us : List Value} {vs : List V}, VRs g us vs → VRs g (us.drop n) (vs.drop n)
  | 0, _, _, h => by simpa using h
  | n + 1, _, _, .nil => by simpa using VRs.nil
  | n + 1, _, _, .cons _ b => by simpa using b.drop n
theorem VRs.take {g : Gh} : ∀ (n : Nat) {us : List Value} {vs : List V}, VRs g us vs → VRs g (us.take n) (vs.take n)
  | 0, _, _, _ => by simpa using VRs.nil
  | n + 1, _, _, .nil => by simpa using VRs.nil
  | n + 1, _, _, .cons a b => by simpa using VRs.cons a (b.take n)
theorem CRs.vrs {g : Gh} : ∀ {us : List Value} {vs : List V}, CRs g.imm us vs → VRs g us vs
  | _, _, .nil => .nil
  | _, _, .cons a b => .cons (.cell a) b.vrs

theorem VR.oneCell {g : Gh} {u : Value} {v : V} (h : VR g u v) (hv : v.isCell = true) : u.oneCell' = true := by
  cases h with
  | cell a => cases a <;> rfl
  | ptr a => rfl
  | ro a b => rfl
  | map a => rfl
  | fn a b => rfl
  | agg a b => simp at hv
  | tup a => simp at hv
  | undef => simp at hv
  | lst => simp at hv
  | top => simp at hv
  | cel a => exact a
  | msl a b c => rfl
  | nsl => rfl
  | eml0 a => rfl
  | eml a c => rfl
  | own a => exact a
theorem VR.cells {g : Gh} {u : Value} {v : V} (h : VR g u v) (hv : v.flat.all V.isCell = true) : VRs g u.cells.toList v.flat := by
  cases h with
  | agg a b => simpa [Value.cells] using a
  | cell a =>
    have e : u.cells = #[u] ∧ v.flat = [v] := by cases a <;> exact ⟨rfl, rfl⟩
    rw [e.1, e.2]
    exact .cons (.cell a) .nil
  | ptr a => exact .cons (.ptr a) .nil
  | ro a b => exact .cons (.ro a b) .nil
  | map a => exact .cons (.map a) .nil
  | fn a b => exact .cons (.fn a b) .nil
  | tup a => simp at hv
  | undef => simp at hv
  | lst => simp at hv
  | top => simp at hv
  | cel a =>
    have e : u.cells = #[u] := by cases u <;> first | rfl | cases a
    rw [e]
    exact .cons (.cel a) .nil
  | msl a b c => exact .cons (.msl a b c) .nil
  | nsl => exact .cons .nsl .nil
  | eml0 a => exact .cons (.eml0 a) .nil
  | eml a c => exact .cons (.eml a c) .nil
  | own a =>
    have e : u.cells = #[u] := by cases u <;> first | rfl | cases a
    rw [e]
    exact .cons (.own a) .nil
theorem VRs.oneCells {g : Gh} : ∀ {us : List Value} {vs : List V}, VRs g us vs → vs.all V.isCell = true → ∀ u ∈ us, u.oneCell' = true
  | _, _, .nil, _, u, hu => by simp at hu
  | _, _, .cons a b, hv, u, hu => by
    simp only [List.all_cons, Bool.and_eq_true] at hv
    rcases List.mem_cons.1 hu with rfl | hu
    · exact a.oneCell hv.1
    · exact b.oneCells hv.2 u hu
theorem VR.pureCell {g : Gh} {u : Value} {v : V} (h : VR g u v) (hv : v.pureCell = true) : CR g.imm u v := by
  cases h with
  | cell a => exact a
  | ptr a => simp at hv
  | ro a b => simp at hv
  | map a => simp at hv
  | fn a b =>
    rename_i as cs
    match as, cs, a, b, hv with
    | [], [], .nil, .nil, _ => exact .fn _
  | agg a b => simp at hv
  | tup a => simp at hv
  | undef => simp at hv
  | lst => simp at hv
  | top => simp at hv
  | cel a => simp at hv
  | msl a b c => simp at hv
  | nsl => simp at hv
  | eml0 a => simp at hv
  | eml a c => simp at hv
  | own a => simp at hv
theorem VRs.pureCells {g : Gh} : ∀ {us : List Value} {vs : List V}, VRs g us vs → vs.all V.pureCell = true → CRs g.imm us vs
  | _, _, .nil, _ => .nil
  | _, _, .cons a b, hv => by
    simp only [List.all_cons, Bool.and_eq_true] at hv
    exact .cons (a.pureCell hv.1) (b.pureCells hv.2)
theorem V.pureCell_isCell {v : V} (h : v.pureCell = true) : v.isCell = true := by
  cases v <;> simp at h ⊢
theorem VR.pure {g : Gh} {u : Value} {v : V} (h : VR g u v) (hv : v.pure = true) : CRs g.imm u.cells.toList v.flat := by
  cases v with
  | agg cs =>
    have hc : cs.all V.pureCell = true := by simpa using hv
    have : VRs g u.cells.toList (V.agg cs).flat := h.cells (by
      simp only [V.flat, List.all_eq_true] at hc ⊢
      exact fun x hx => V.pureCell_isCell (hc x hx))
    exact this.pureCells hc
  | _ => first
    | (cases hv; done)
    | exact (h.cells (by simp)).pureCells (by simp only [V.flat, List.all_cons, List.all_nil, Bool.and_true]; exact hv)
theorem allPure_mem : ∀ {xs : List V}, allPure xs = true → ∀ x ∈ xs, x.pure = true
  | [], _, x, hx => by simp at hx
  | y :: ys, h, x, hx => by
    simp only [allPure, Bool.and_eq_true] at h
    rcases List.mem_cons.1 hx with rfl | hx
    · exact h.1
    · exact allPure_mem h.2 x hx
theorem allSize_mem {n : Nat} : ∀ {xs : List V}, allSize n xs = true → ∀ x ∈ xs, x.flat.length = n
  | [], _, x, hx => by simp at hx
  | y :: ys, h, x, hx => by
    simp only [allSize, Bool.and_eq_true, beq_iff_eq] at h
    rcases List.mem_cons.1 hx with rfl | hx
    · exact h.1
    · exact allSize_mem h.2 x hx

theorem flatMap_length {sz : Nat} : ∀ {xs : List V}, (∀ x ∈ xs, x.flat.length = sz) → (xs.flatMap V.flat).length = xs.length * sz
  | [], _ => by simp
  | x :: xs, h => by
    have := flatMap_length (xs := xs) fun y hy => h y (by simp [hy])
    simp only [List.flatMap_cons, List.length_append, List.length_cons, this, h x (by simp), Nat.add_mul, Nat.one_mul]
    omega
theorem flatMap_drop {sz : Nat} : ∀ (j : Nat) {xs : List V}, (∀ x ∈ xs, x.flat.length = sz) → (xs.flatMap V.flat).drop (j * sz) = (xs.drop j).flatMap V.flat
  | 0, xs, _ => by simp
  | j + 1, [], _ => by simp
  | j + 1, x :: xs, h => by
    have ih := flatMap_drop j (xs := xs) fun y hy => h y (by simp [hy])
    have hx := h x (by simp)
    simp only [List.flatMap_cons, List.drop_succ_cons, Nat.add_mul, Nat.one_mul]
    rw [← ih, Nat.add_comm (j * sz) sz, ← List.drop_drop]
    congr 1
    rw [← hx, List.drop_left]
theorem flatMap_take {sz : Nat} : ∀ (j : Nat) {xs : List V}, (∀ x ∈ xs, x.flat.length = sz) → (xs.flatMap V.flat).take (j * sz) = (xs.take j).flatMap V.flat
  | 0, xs, _ => by simp
  | j + 1, [], _ => by simp
  | j + 1, x :: xs, h => by
    have ih := flatMap_take j (xs := xs) fun y hy => h y (by simp [hy])
    have hx := h x (by simp)
    simp only [List.flatMap_cons, List.take_succ_cons, Nat.add_mul, Nat.one_mul]
    rw [← ih, Nat.add_comm (j * sz) sz, ← hx, List.take_length_add_append]
end Go.Vm

/- What the model's operations yield where they leave memory alone. -/
set_option linter.unusedVariables false
set_option linter.unusedSimpArgs false
namespace Go.Vm
attribute [local simp] evalOps_nil evalOps_cons evalOps_consg evalOp_mv evalOp_asg evalOp_pick evalOp_build evalOp_bslice evalOp_load evalOp_nilck evalOp_bin evalOp_un evalOp_conv evalOp_mkfn evalOp_slice evalOp_faddr evalOp_field evalOp_iaddr evalOp_index evalOp_lookup evalOp_extract evalOp_app evalOp_len evalOp_mn evalOp_mx evalOp_alloc evalOp_box evalOp_mkmap evalOp_store evalOp_mapupd evalOp_delete evalOp_sliceArr evalOp_call evalOp_callv evalOp_appc code_skip code_ops code_dops code_seq code_cond code_block code_exit code_ret finish_normal finish_ret
attribute [local simp] V.lt V.ltL V.flat V.pureCell V.pure V.isCell cellEq cellsEq eqV intV shV strV isShift binV unV byteV convV minV maxV foldV foldV1 fillV fillE findV putV delV isKey natOf natOr cut cellsAt mapAt mapOf loadV pickV nilckV sizeOk allSize sliceV faddrV fieldV iaddrV indexV found extractV allPure appV lenV ownHas ownOk storeC storeV samePtr appcV boxable mapupdV deleteV sliceArrV callV allLt clean bodyEnd resV one finishV runV initR

def ERel (g : Gh) (e : MapEntry) (p : V × V) : Prop := CR g.imm e.key p.1 ∧ VR g e.val p.2
def ERels (g : Gh) : List MapEntry → List (V × V) → Prop
  | [], [] => True
  | e :: es, p :: ps => ERel g e p ∧ ERels g es ps
  | _, _ => False
def ObjR (g : Gh) (w : World) (b : Nat) : Obj → Prop
  | .cells cs _ => ∃ us t l r, w.heap[b]? = some (.cells us t (0, 0)) ∧ us.toList = l ++ r ∧ VRs g l cs ∧ cs.all V.isCell = true
  | .map es => ∃ rs clock, w.heap[b]? = some (.map rs clock) ∧ ERels g rs.toList es ∧ MapKept.Stamped rs clock
  | .emp => ∃ us t, w.heap[b]? = some (.cells us t (0, 0))
  | .dead => True
def Obj.live : Obj → Bool
  | .dead => false
  | _ => true
def Obj.blk : Obj → Bool
  | .dead | .emp => false
  | _ => true
theorem Obj.live_of_blk {o : Obj} (h : o.blk = true) : o.live = true := by cases o <;> first | rfl | cases h
theorem pre_get {us : Array Value} {l r : List Value} (h : us.toList = l ++ r) {j : Nat} {u : Value} (hj : l[j]? = some u) : us[j]? = some u := by
  rw [← Array.getElem?_toList, h, List.getElem?_append_left (List.getElem?_eq_some_iff.1 hj).1]; exact hj
theorem pre_size {us : Array Value} {l r : List Value} (h : us.toList = l ++ r) : l.length ≤ us.size := by
  have := congrArg List.length h
  simp only [Array.length_toList, List.length_append] at this; omega
structure HRead (g : Gh) (h : Heap) (w : World) : Prop where
  obj : ∀ i o, h[i]? = some o → o.blk = true → ∃ b, g.mu i = some b ∧ ObjR g w b o
  imm : ∀ b o u, g.imm b o = some u → w.cell? ⟨b, o, none⟩ = some u
  emp : ∀ i b, h[i]? = some .emp → g.mu i = some b → ObjR g w b .emp
  siz : ∀ b, 0 < g.siz b → ∃ us t fr, w.heap[b]? = some (.cells us t fr) ∧ g.siz b ≤ us.size

section
variable {P : Program} {g : Gh} {h : Heap} {w : World} {a : Act} {rs : Regs}

theorem trVal_sound {m : Imm} {u : Value} {v : V} (h : trVal u = some v) : CR m u v := by
  unfold trVal at h
  split at h <;> simp only [Option.some.injEq, reduceCtorEq] at h <;> subst h <;> constructor
theorem trVals_sound {m : Imm} : ∀ {us : List Value} {vs : List V}, trVals us = some vs → CRs m us vs
  | [], vs, h => by simp [trVals] at h; subst h; exact .nil
  | u :: us, vs, h => by
    simp only [trVals] at h
    obtain ⟨v, hv, h⟩ := bnd_eq_some h
    obtain ⟨l, hl, h⟩ := bnd_eq_some h
    cases h
    exact .cons (trVal_sound hv) (trVals_sound hl)
theorem CR.isCell {m : Imm} {u : Value} {v : V} (h : CR m u v) : v.isCell = true := by cases h <;> rfl
theorem CRs.isCells {m : Imm} : ∀ {us : List Value} {vs : List V}, CRs m us vs → vs.all V.isCell = true
  | _, _, .nil => rfl
  | _, _, .cons a b => by rw [List.all_cons, a.isCell, b.isCells]; rfl
theorem trConst_sound {u : Value} {v : V} (h : trConst u = some v) : VR g u v := by
  unfold trConst at h
  split at h
  · obtain ⟨l, hl, h⟩ := bnd_eq_some h
    cases h
    have := trVals_sound (m := g.imm) hl
    simpa using VR.agg this.vrs this.isCells
  · exact .cell (trVal_sound h)

def RR (g : Gh) (a : Act) (rs : Regs) : Prop := ∀ r, VR g (a.tmps.getD r Go.undef) (get rs r)

theorem trArg_sound (hr : RR g a rs) {o : Operand} {x : Arg} (h : trArg o = some x) : VR g (a.eval o) (x.val rs) := by
  cases o with
  | tmp t => simp only [trArg, Option.some.injEq] at h; subst h; exact hr t
  | const u =>
    simp only [trArg] at h
    obtain ⟨v, hv, h⟩ := bnd_eq_some h
    cases h
    exact trConst_sound hv
  | func f =>
    simp only [trArg, Option.some.injEq] at h; subst h
    exact .cell (.fn f)
  | global _ => cases h
theorem trArgs_sound (hr : RR g a rs) : ∀ {os : List Operand} {xs : List Arg}, trArgs os = some xs → VRs g (os.map a.eval) (vals rs xs)
  | [], xs, h => by simp [trArgs] at h; subst h; exact .nil
  | o :: os, xs, h => by
    simp only [trArgs] at h
    obtain ⟨x, hx, h⟩ := bnd_eq_some h
    obtain ⟨l, hl, h⟩ := bnd_eq_some h
    cases h
    exact .cons (trArg_sound hr hx) (trArgs_sound hr hl)

theorem VR.bool_inv {u : Value} {b : Bool} (h : VR g u (.bool b)) : u = .bool b := by cases h with | cell a => cases a; rfl
theorem VR.int_inv {u : Value} {k : IntKind} {n : Int} (h : VR g u (.int k n)) : u = .int k n := by cases h with | cell a => cases a; rfl
theorem VR.str_inv {u : Value} {l : List UInt8} (h : VR g u (.str l)) : ∃ s : ByteArray, u = .string s ∧ s.data.toList = l := by
  cases h with | cell a => cases a; exact ⟨_, rfl, rfl⟩
theorem VR.nilp_inv {u : Value} (h : VR g u (.ptr none)) : u = .pointer none := by cases h with | cell a => cases a; rfl
theorem VR.nilm_inv {u : Value} (h : VR g u (.map none)) : u = .map none := by cases h with | cell a => cases a; rfl
theorem VR.nofn_inv {u : Value} (h : VR g u .nofn) : u = .nilFunc := by cases h with | cell a => cases a; rfl
theorem VR.ptr_inv {u : Value} {i o : Nat} (h : VR g u (.ptr (some (i, o)))) : ∃ b, g.mu i = some b ∧ u = .pointer (some ⟨b, o, none⟩) := by
  cases h with
  | cell a => cases a
  | ptr a => exact ⟨_, a, rfl⟩
theorem VR.msl_inv {u : Value} {i o n z : Nat} (h : VR g u (.msl i o n z)) : ∃ b c, g.mu i = some b ∧ n ≤ c ∧ u = .slice (some ⟨b, o, none⟩) n c ∧ o + c * z ≤ g.siz b := by
  cases h with
  | cell a => cases a
  | msl a b c => exact ⟨_, _, a, b, rfl, c⟩
theorem VR.eml_inv {u : Value} {i z : Nat} (h : VR g u (.eml i z)) : ∃ a c, u = .slice a 0 c ∧ ((g.em i = true ∧ a = none ∧ c = 0) ∨ ∃ b, a = some ⟨b, 0, none⟩ ∧ g.mu i = some b ∧ c * z ≤ g.siz b) := by
  cases h with
  | cell a => cases a
  | eml0 a => exact ⟨_, _, rfl, .inl ⟨a, rfl, rfl⟩⟩
  | eml a c => exact ⟨_, _, rfl, .inr ⟨_, rfl, a, c⟩⟩
theorem VR.nsl_inv {u : Value} (h : VR g u .nsl) : u = .slice none 0 0 := by
  cases h with
  | cell a => cases a
  | nsl => rfl
theorem VR.map_inv {u : Value} {i : Nat} (h : VR g u (.map (some i))) : ∃ b, g.mu i = some b ∧ u = .map (some b) := by
  cases h with
  | cell a => cases a
  | map a => exact ⟨_, a, rfl⟩
theorem VR.ro_inv {u : Value} {cs : List V} (h : VR g u (.ro cs)) : ∃ b o us, u = .pointer (some ⟨b, o, none⟩) ∧ (∀ j x, us[j]? = some x → g.imm b (o + j) = some x) ∧ CRs g.imm us cs := by
  cases h with
  | cell a => cases a
  | ro a b => exact ⟨_, _, _, rfl, a, b⟩
theorem VR.agg_inv {u : Value} {cs : List V} (h : VR g u (.agg cs)) : ∃ us : List Value, u = .agg us.toArray ∧ VRs g us cs ∧ cs.all V.isCell = true := by
  cases h with
  | cell a => cases a
  | agg a b => exact ⟨_, rfl, a, b⟩
theorem VR.tup_inv {u : Value} {vs : List V} (h : VR g u (.tup vs)) : ∃ us : List Value, u = .tuple us.toArray ∧ VRs g us vs := by
  cases h with
  | cell a => cases a
  | tup a => exact ⟨_, rfl, a⟩
theorem VR.fn_inv {u : Value} {f : Nat} {as cs : List V} (h : VR g u (.fn f as cs)) : ∃ us vs : List Value, u = .func (.func f) us.toArray vs.toArray ∧ VRs g us as ∧ VRs g vs cs := by
  cases h with
  | cell a => cases a; exact ⟨[], [], rfl, .nil, .nil⟩
  | fn a b => exact ⟨_, _, rfl, a, b⟩
theorem VR.sl_inv {u : Value} {xs : List V} (h : VR g u (.sl xs)) : CR g.imm u (.sl xs) := by cases h with | cell a => exact a
theorem CR.sl_inv {m : Imm} {u : Value} {xs : List V} (h : CR m u (.sl xs)) : (u = .slice none 0 0 ∧ xs = []) ∨ (∃ a cap, u = .slice (some a) 0 cap ∧ xs = []) ∨
    ∃ b o cap sz us, u = .slice (some ⟨b, o, none⟩) xs.length cap ∧ xs.length ≤ cap ∧ (∀ x ∈ xs, x.flat.length = sz) ∧ (∀ j x, us[j]? = some x → m b (o + j) = some x) ∧ CRs m us (xs.flatMap V.flat) := by
  cases h with
  | nils => exact .inl ⟨rfl, rfl⟩
  | sl0 => exact .inr (.inl ⟨_, _, rfl, rfl⟩)
  | sl a b c d e => subst a; exact .inr (.inr ⟨_, _, _, _, _, rfl, b, c, d, e⟩)

theorem add_lit (b o n : Nat) : Addr.add ⟨b, o, none⟩ n = ⟨b, o + n, none⟩ := Addr.add_lit b o n
theorem run_loadVar {t : TypeId} {b : Bool} {n : Nat} (hb : aggT P t = some b) (hn : sizeT P t = some n) (h1 : b = true ∨ n = 1) (bl o : Nat) {us : List Value} (hl : us.length = n)
    (hc : ∀ j u, us[j]? = some u → w.cell? ⟨bl, o + j, none⟩ = some u) :
    (loadVar t ⟨bl, o, none⟩).run P w = .ok (if b = true then .agg us.toArray else us.getD 0 Go.undef) w := by
  unfold aggT at hb
  unfold sizeT at hn
  obtain ⟨i, hi, hn⟩ := bnd_eq_some hn
  cases hn
  have hcell : ∀ j v, us[j]? = some v → w.cell? ((⟨bl, o, none⟩ : Addr).add j) = some v := fun j v hj => by rw [add_lit]; exact hc j v hj
  have hload := run_loadCells_list (P := P) w ⟨bl, o, none⟩ us hcell
  rw [hl] at hload
  split at hb
  · rename_i fs hu
    cases hb
    simp [loadVar, isAgg, run_underlying hu, sizeOf, typeInfo, hi, hload]
  · rename_i k e hu
    cases hb
    simp [loadVar, isAgg, run_underlying hu, sizeOf, typeInfo, hi, hload]
  · rename_i d hu h2 h3
    cases hb
    have h1' : i.size = 1 := by simpa using h1
    obtain ⟨x, rfl⟩ : ∃ x, us = [x] := by
      match us, hl.trans h1' with
      | [x], _ => exact ⟨x, rfl⟩
    have hx := hc 0 x rfl
    have hu' : (isAgg t).run P w = .ok false w := by
      simp only [isAgg, Sem.run_bind, run_underlying h3, Result.andThen_ok]
      rfl
    simp [loadVar, hu', show w.cell? ⟨bl, o, none⟩ = some x by simpa using hx]
  · cases hb

theorem cut_sound {b : Bool} {n off : Nat} {cs : List V} {v : V} (hv : cut b n off cs = some v) (h1 : b = true ∨ n = 1) {us : List Value} (hus : VRs g us cs) (hc : cs.all V.isCell = true) :
    VR g (if b = true then .agg ((us.drop off).take n).toArray else ((us.drop off).take n).getD 0 Go.undef) v ∧ ((us.drop off).take n).length = n := by
  unfold cut at hv
  have hlen := hus.length
  by_cases hle : off + n ≤ cs.length
  · rw [decide_eq_true hle, cnd_true] at hv
    have hl : ((us.drop off).take n).length = n := by simp; omega
    refine ⟨?_, hl⟩
    cases b
    · simp only [Bool.false_eq_true, false_or] at h1
      subst h1
      simp only [cnd_false, decide_true, cnd_true] at hv
      obtain ⟨u, hu, hr⟩ := hus.get off v hv
      have : ((us.drop off).take 1).getD 0 Go.undef = u := by
        simp [List.getD, List.getElem?_take, List.getElem?_drop, hu]
      rw [this]
      exact hr
    · simp only [cnd_true, Option.some.injEq] at hv
      subst hv
      simp only [if_true]
      refine .agg ((hus.drop off).take n) ?_
      simp only [List.all_eq_true] at hc ⊢
      exact fun x hx => hc x (List.mem_of_mem_drop (List.mem_of_mem_take hx))
  · rw [decide_eq_false hle] at hv
    cases hv

theorem cellsAt_inv {i : Nat} {c : List V × List (Nat × Nat)} (hc : cellsAt h i = some c) : h[i]? = some (.cells c.1 c.2) := by
  unfold cellsAt hget at hc
  split at hc
  · rename_i cs own hh; cases hc; exact hh
  · cases hc
theorem HRead.cells (hi : HRead g h w) {i : Nat} {c : List V × List (Nat × Nat)} (hc : cellsAt h i = some c) :
    ∃ b us t l r, g.mu i = some b ∧ w.heap[b]? = some (.cells us t (0, 0)) ∧ us.toList = l ++ r ∧ VRs g l c.1 ∧ c.1.all V.isCell = true := by
  obtain ⟨b, hb, us, t, l, r, h1, h0, h2, h3⟩ := hi.obj i _ (cellsAt_inv hc) rfl
  exact ⟨b, us, t, l, r, hb, h1, h0, h2, h3⟩
theorem cell_of_heap {b : Nat} {us : Array Value} {t : TypeId} {fr : Nat × Nat} (hh : w.heap[b]? = some (.cells us t fr)) (o : Nat) : w.cell? ⟨b, o, none⟩ = us[o]? := by
  simp [World.cell?, hh]

theorem loadV_sound (hi : HRead g h w) {t : TypeId} {b : Bool} {n : Nat} (hb : aggT P t = some b) (hn : sizeT P t = some n) (h1 : b = true ∨ n = 1) {u : Value} {x v : V} (hx : VR g u x) (hv : loadV b n h x = some v) :
    ∃ r, (Instr.loadAt t u).run P w = .ok r w ∧ VR g r v := by
  unfold loadV at hv
  split at hv
  · rename_i i o
    obtain ⟨c, hc, hv⟩ := bnd_eq_some hv
    obtain ⟨bl, hbl, rfl⟩ := hx.ptr_inv
    obtain ⟨b', us, tt, lu, ru, hb', hheap, hlr, hus, hcell⟩ := hi.cells hc
    rw [hbl] at hb'; cases hb'
    obtain ⟨hr, hl⟩ := cut_sound hv h1 hus hcell
    refine ⟨_, ?_, hr⟩
    have := run_loadVar (w := w) hb hn h1 bl o hl (fun j u hj => by
      rw [cell_of_heap hheap]
      rw [List.getElem?_take] at hj
      split at hj
      · rw [List.getElem?_drop] at hj; exact pre_get hlr hj
      · cases hj)
    simp [Instr.loadAt, Instr.sureAddr, this]
  · rename_i cs
    obtain ⟨bl, o, us, rfl, himm, hus⟩ := hx.ro_inv
    obtain ⟨hr, hl⟩ := cut_sound hv h1 hus.vrs hus.isCells
    refine ⟨_, ?_, hr⟩
    have := run_loadVar (w := w) hb hn h1 bl o hl (fun j u hj => by
      rw [List.getElem?_take] at hj
      split at hj
      · rw [List.getElem?_drop] at hj
        exact hi.imm _ _ _ (himm j u (by simpa using hj))
      · cases hj)
    simp [Instr.loadAt, Instr.sureAddr, this]
  · cases hv
theorem VR.cellEq_iff {k : SK} {u u' : Value} {v v' : V} {r : Bool} (h : VR g u v) (h' : VR g u' v') (he : cellEq k v v' = some r) :
    (k = .b ∧ ∃ a b, u = .bool a ∧ u' = .bool b ∧ r = (a == b)) ∨ (k = .i ∧ ∃ q a b, u = .int q a ∧ u' = .int q b ∧ r = (a == b)) ∨ (k = .s ∧ ∃ a b : ByteArray, u = .string a ∧ u' = .string b ∧ r = (a.data.toList == b.data.toList)) := by
  cases k <;> cases v <;> cases v' <;> simp only [cellEq, Option.some.injEq, reduceCtorEq] at he
  · exact .inl ⟨rfl, _, _, h.bool_inv, h'.bool_inv, he.symm⟩
  · rename_i q a q' b
    cases hq : decide (q = q') <;> rw [hq] at he
    · cases he
    · have := of_decide_eq_true hq
      subst this
      cases he
      exact .inr (.inl ⟨rfl, _, _, _, h.int_inv, h'.int_inv, rfl⟩)
  · obtain ⟨s, hs, rfl⟩ := h.str_inv
    obtain ⟨s', hs', rfl⟩ := h'.str_inv
    exact .inr (.inr ⟨rfl, _, _, hs, hs', he.symm⟩)

def valOf (b : Bool) (us : List Value) : Value := if b = true then .agg us.toArray else us.getD 0 Go.undef
theorem run_part {t : TypeId} {b : Bool} {n : Nat} (hb : aggT P t = some b) (hn : sizeT P t = some n) (h1 : b = true ∨ n = 1) (us : List Value) (off : Nat) (hl : off + n ≤ us.length) :
    (part t us.toArray off).run P w = .ok (valOf b ((us.drop off).take n)) w := by
  unfold aggT at hb
  unfold sizeT at hn
  obtain ⟨i, hi, hn⟩ := bnd_eq_some hn
  cases hn
  split at hb
  · rename_i fs hu
    cases hb
    simp [part, isAgg, run_underlying hu, sizeOf, typeInfo, hi, valOf]
  · rename_i k e hu
    cases hb
    simp [part, isAgg, run_underlying hu, sizeOf, typeInfo, hi, valOf]
  · rename_i d hu h2 h3
    cases hb
    have h1' : i.size = 1 := by simpa using h1
    have hu' : (isAgg t).run P w = .ok false w := by
      simp only [isAgg, Sem.run_bind, run_underlying h3, Result.andThen_ok]
      rfl
    have hoff : off < us.length := by omega
    simp [part, hu', valOf, h1', hoff]
  · cases hb

theorem cellsEq_length : ∀ {ks : List SK} {xs ys : List V} {r : Bool}, cellsEq ks xs ys = some r → xs.length = ks.length ∧ ys.length = ks.length
  | [], [], [], _, _ => ⟨rfl, rfl⟩
  | k :: ks, x :: xs, y :: ys, r, h => by
    simp only [cellsEq] at h
    obtain ⟨b, hb, h⟩ := bnd_eq_some h
    obtain ⟨c, hc, h⟩ := bnd_eq_some h
    have := cellsEq_length hc
    simp [this.1, this.2]
theorem cellsEq_split : ∀ {ks ks' : List SK} {xs ys : List V} {r : Bool}, cellsEq (ks ++ ks') xs ys = some r →
    ∃ p q, cellsEq ks (xs.take ks.length) (ys.take ks.length) = some p ∧ cellsEq ks' (xs.drop ks.length) (ys.drop ks.length) = some q ∧ r = (p && q)
  | [], ks', xs, ys, r, h => ⟨true, r, by simp [cellsEq], by simpa using h, rfl⟩
  | k :: ks, ks', x :: xs, y :: ys, r, h => by
    simp only [List.cons_append, cellsEq] at h
    obtain ⟨b, hb, h⟩ := bnd_eq_some h
    obtain ⟨c, hc, h⟩ := bnd_eq_some h
    obtain ⟨p, q, hp, hq, rfl⟩ := cellsEq_split hc
    cases h
    exact ⟨b && p, q, by simp only [List.length_cons, List.take_succ_cons, cellsEq]; rw [hb, bnd_some, hp, bnd_some], by simpa using hq, by rw [Bool.and_assoc]⟩
  | k :: ks, ks', [], ys, r, h => by simp [cellsEq] at h
  | k :: ks, ks', x :: xs, [], r, h => by simp [cellsEq] at h

def EqOk (P : Program) (d : Nat) (t : TypeId) (ks : List SK) : Prop :=
  ∀ (g : Gh) (w : World) (xs ys : List Value) (vx vy : List V) (r : Bool) (b : Bool), aggT P t = some b → VRs g xs vx → VRs g ys vy → cellsEq ks vx vy = some r →
    (Op.equalIn d t (valOf b xs) (valOf b ys)).run P w = .ok r w
theorem eqFields_ok {d : Nat} {ft : TypeId → Option (List SK)} (ih : ∀ t ks, ft t = some ks → EqOk P d t ks ∧ ∃ b, aggT P t = some b ∧ (b = true ∨ ks.length = 1)) (xs ys : List Value) (vx vy : List V) (hx : VRs g xs vx) (hy : VRs g ys vy) :
    ∀ (fs : List Field) (o : Nat) (ks : List SK) (r : Bool), flatFs P ft fs o = some ks → cellsEq ks (vx.drop o) (vy.drop o) = some r → (Op.eqFields d xs.toArray ys.toArray fs).run P w = .ok r w
  | [], o, ks, r, h, he => by
    simp only [flatFs, Option.some.injEq] at h
    subst h
    have : r = true := by
      revert he
      cases vx.drop o <;> cases vy.drop o <;> simp [cellsEq]
    subst this
    rfl
  | f :: fs, o, ks, r, h, he => by
    simp only [flatFs] at h
    obtain ⟨k, hk, h⟩ := bnd_eq_some h
    split at h
    · rename_i hf
      obtain ⟨l, hl, h⟩ := bnd_eq_some h
      cases h
      obtain ⟨hname, hoff, hpos, hsz⟩ := hf
      have h1 := hx.length
      have h2 := hy.length
      have h3 := cellsEq_length he
      simp only [List.length_drop, List.length_append] at h3
      obtain ⟨p, q, hp, hq, rfl⟩ := cellsEq_split he
      obtain ⟨heq, b, hb, hb1⟩ := ih f.type k hk
      have e1 := run_part (w := w) hb hsz hb1 xs o (by omega)
      have e2 := run_part (w := w) hb hsz hb1 ys o (by omega)
      have e3 := heq g w _ _ _ _ p b hb ((hx.drop o).take k.length) ((hy.drop o).take k.length) hp
      rw [List.drop_drop, List.drop_drop] at hq
      have e4 := eqFields_ok ih xs ys vx vy hx hy fs (o + k.length) l q hl hq
      simp only [Op.eqFields, hname, ne_eq, not_false_eq_true, if_true, Sem.run_bind, hoff, e1, e2, e3, Result.andThen_ok, Sem.run_ite, e4]
      cases p <;> simp
    · cases h
theorem eqItems_ok {d : Nat} {e : TypeId} {ks : List SK} (ih : EqOk P d e ks) {b : Bool} (hb : aggT P e = some b) (hk : sizeT P e = some ks.length) (hb1 : b = true ∨ ks.length = 1) (hpos : 0 < ks.length) (xs ys : List Value) (vx vy : List V) (hx : VRs g xs vx) (hy : VRs g ys vy) :
    ∀ (m j : Nat) (r : Bool), cellsEq (reps m ks) (vx.drop (j * ks.length)) (vy.drop (j * ks.length)) = some r → (Op.eqItems d e ks.length xs.toArray ys.toArray (List.range' j m)).run P w = .ok r w
  | 0, j, r, he => by
    have : r = true := by
      revert he
      cases vx.drop (j * ks.length) <;> cases vy.drop (j * ks.length) <;> simp [reps, cellsEq]
    subst this
    rfl
  | m + 1, j, r, he => by
    have h1 := hx.length
    have h2 := hy.length
    have h3 := cellsEq_length he
    simp only [reps, List.length_drop, List.length_append] at h3
    obtain ⟨p, q, hp, hq, rfl⟩ := cellsEq_split he
    have e1 := run_part (w := w) hb hk hb1 xs (j * ks.length) (by omega)
    have e2 := run_part (w := w) hb hk hb1 ys (j * ks.length) (by omega)
    have e3 := ih g w _ _ _ _ p b hb ((hx.drop (j * ks.length)).take ks.length) ((hy.drop (j * ks.length)).take ks.length) hp
    rw [List.drop_drop, List.drop_drop, ← Nat.succ_mul] at hq
    have e4 := eqItems_ok ih hb hk hb1 hpos xs ys vx vy hx hy m (j + 1) q hq
    simp only [List.range'_succ, Op.eqItems, Sem.run_bind, e1, e2, e3, Result.andThen_ok, Sem.run_ite, e4]
    cases p <;> simp
theorem flat_agg {d : Nat} {t : TypeId} {ks : List SK} (h : flatT P d t = some ks) : ∃ b, aggT P t = some b ∧ (b = true ∨ ks.length = 1) := by
  match d, h with
  | d + 1, h =>
    simp only [flatT] at h
    unfold aggT
    split at h <;> rename_i hu <;> (try rw [hu])
    · cases h; exact ⟨false, rfl, .inr rfl⟩
    · cases h; exact ⟨false, rfl, .inr rfl⟩
    · cases h; exact ⟨false, rfl, .inr rfl⟩
    · exact ⟨true, rfl, .inl rfl⟩
    · exact ⟨true, rfl, .inl rfl⟩
    · cases h
theorem cells_one {g : Gh} {xs : List Value} {v : V} (h : VRs g xs [v]) : ∃ u, xs = [u] ∧ VR g u v := by
  cases h with | cons a b => cases b; exact ⟨_, rfl, a⟩
theorem cellsEq_one {k : SK} {vx vy : List V} {r : Bool} (h : cellsEq [k] vx vy = some r) : ∃ v v', vx = [v] ∧ vy = [v'] ∧ cellEq k v v' = some r := by
  have hl := cellsEq_length h
  match vx, vy, hl with
  | [v], [v'], _ =>
    refine ⟨v, v', rfl, rfl, ?_⟩
    simp only [cellsEq] at h
    obtain ⟨b, hb, h⟩ := bnd_eq_some h
    simp at h
    rw [hb, h]
theorem flatT_ok : ∀ (d : Nat) (t : TypeId) (ks : List SK), flatT P d t = some ks → ∀ m, EqOk P (d + m) t ks
  | 0, _, _, h, _ => by cases h
  | d + 1, t, ks, h, m => by
    intro g w xs ys vx vy r b hb hx hy he
    rw [show d + 1 + m = (d + m) + 1 by omega]
    simp only [flatT] at h
    unfold aggT at hb
    split at h <;> rename_i hu <;> (try rw [hu] at hb)
    · cases h
      cases hb
      obtain ⟨v, v', rfl, rfl, he1⟩ := cellsEq_one he
      obtain ⟨u, rfl, hx1⟩ := cells_one hx
      obtain ⟨u', rfl, hy1⟩ := cells_one hy
      rcases hx1.cellEq_iff hy1 he1 with ⟨_, a, b, rfl, rfl, rfl⟩ | ⟨h, _⟩ | ⟨h, _⟩
      · exact run_equalIn_bool' w (d + m) t a b hu
      · cases h
      · cases h
    · cases h
      cases hb
      obtain ⟨v, v', rfl, rfl, he1⟩ := cellsEq_one he
      obtain ⟨u, rfl, hx1⟩ := cells_one hx
      obtain ⟨u', rfl, hy1⟩ := cells_one hy
      rcases hx1.cellEq_iff hy1 he1 with ⟨h, _⟩ | ⟨_, q, a, b, rfl, rfl, rfl⟩ | ⟨h, _⟩
      · cases h
      · exact run_equalIn_int w (d + m) t q _ a b hu
      · cases h
    · cases h
      cases hb
      obtain ⟨v, v', rfl, rfl, he1⟩ := cellsEq_one he
      obtain ⟨u, rfl, hx1⟩ := cells_one hx
      obtain ⟨u', rfl, hy1⟩ := cells_one hy
      rcases hx1.cellEq_iff hy1 he1 with ⟨h, _⟩ | ⟨h, _⟩ | ⟨_, a, b, rfl, rfl, rfl⟩
      · cases h
      · cases h
      · have := run_equalIn_string w (d + m) t a b hu
        rw [ByteArray.toList_eq, ByteArray.toList_eq] at this
        exact this
    · rename_i n e
      cases hb
      obtain ⟨l, hl, h⟩ := bnd_eq_some h
      split at h
      · rename_i hc
        cases h
        obtain ⟨b, hb, hb1⟩ := flat_agg hl
        have hs := hc.2
        unfold sizeT at hs
        obtain ⟨i, hi, hs⟩ := bnd_eq_some hs
        have hce : P.cellsOf e = l.length := by rw [← Option.some.inj hs]; simp [Program.cellsOf, hi]
        simp only [valOf, if_true]
        rw [run_equalIn_array w (d + m) xs.toArray ys.toArray hu hi, hce, List.range_eq_range']
        exact eqItems_ok (flatT_ok d e l hl m) hb hc.2 hb1 hc.1 xs ys vx vy hx hy n 0 r (by simpa using he)
      · cases h
    · rename_i fs
      cases hb
      cases hst : P.stoodInHeld t <;> rw [hst] at h
      · simp only [cnd_false] at h
        have hf : P.fieldsOf t = fs := by simp [Program.fieldsOf, hu]
        simp only [valOf, if_true]
        rw [run_equalIn_struct w (d + m) t xs.toArray ys.toArray (by rw [hf]; exact hu) hst, hf]
        exact eqFields_ok (ft := flatT P d) (fun t ks hk => ⟨flatT_ok d t ks hk m, flat_agg hk⟩) xs ys vx vy hx hy fs.toList 0 ks r h (by simpa using he)
      · cases h
    · cases h
end
end Go.Vm

/- Arithmetic, comparisons, conversions. -/
set_option linter.unusedVariables false
set_option linter.unusedSimpArgs false
namespace Go.Vm
attribute [local simp] evalOps_nil evalOps_cons evalOps_consg evalOp_mv evalOp_asg evalOp_pick evalOp_build evalOp_bslice evalOp_load evalOp_nilck evalOp_bin evalOp_un evalOp_conv evalOp_mkfn evalOp_slice evalOp_faddr evalOp_field evalOp_iaddr evalOp_index evalOp_lookup evalOp_extract evalOp_app evalOp_len evalOp_mn evalOp_mx evalOp_alloc evalOp_box evalOp_mkmap evalOp_store evalOp_mapupd evalOp_delete evalOp_sliceArr evalOp_call evalOp_callv evalOp_appc code_skip code_ops code_dops code_seq code_cond code_block code_exit code_ret finish_normal finish_ret
attribute [local simp] V.lt V.ltL V.flat V.pureCell V.pure V.isCell cellEq cellsEq eqV intV shV strV isShift binV unV byteV convV minV maxV foldV foldV1 fillV fillE findV putV delV isKey natOf natOr cut cellsAt mapAt mapOf loadV pickV nilckV sizeOk allSize sliceV faddrV fieldV iaddrV indexV found extractV allPure appV lenV ownHas ownOk storeC storeV samePtr appcV boxable mapupdV deleteV sliceArrV callV allLt clean bodyEnd resV one finishV runV initR
section
variable {P : Program} {g : Gh} {h : Heap} {w : World} {a : Act} {rs : Regs}

theorem VR.b (b : Bool) : VR g (.bool b) (.bool b) := .cell (.bool b)
theorem VR.i (k : IntKind) (n : Int) : VR g (.int k n) (.int k n) := .cell (.int k n)

theorem bytesLess_eq : ∀ (x y : List UInt8), Op.bytesLess x y = bytesLess x y
  | _, [] => by simp [Op.bytesLess, bytesLess]
  | [], _ :: _ => rfl
  | a :: x, b :: y => by simp only [Op.bytesLess, bytesLess, bytesLess_eq x y]

theorem intV_sound {op : BinOp} {k : IntKind} {x y : Int} {v : V} (hv : intV op k x y = some v) (hs : isShift op = false) (t : TypeId) :
    ∃ u, (binOp op t (.int k x) (.int k y)).run P w = .ok u w ∧ VR g u v := by
  cases op <;> simp only [isShift, Bool.true_eq_false, reduceCtorEq] at hs <;> simp only [intV] at hv
  case quo =>
    cases hb : (y == 0) <;> rw [hb] at hv
    · simp only [cnd_false, Option.some.injEq] at hv
      subst hv
      have : y ≠ 0 := by simpa using hb
      exact ⟨_, by simp [binOp_quo, Op.intDiv, this], .i _ _⟩
    · cases hv
  case rem =>
    cases hb : (y == 0) <;> rw [hb] at hv
    · simp only [cnd_false, Option.some.injEq] at hv
      subst hv
      have : y ≠ 0 := by simpa using hb
      exact ⟨_, by simp [binOp_rem, Op.intDiv, this], .i _ _⟩
    · cases hv
  all_goals
    simp only [Option.some.injEq, reduceCtorEq] at hv
  all_goals
    subst hv
  case add => exact ⟨_, by rw [binOp_add]; rfl, .i _ _⟩
  case sub => exact ⟨_, by rw [binOp_sub]; rfl, .i _ _⟩
  case mul => exact ⟨_, by rw [binOp_mul]; rfl, .i _ _⟩
  case and => exact ⟨_, by rw [binOp_and]; rfl, .i _ _⟩
  case or => exact ⟨_, by rw [binOp_or]; rfl, .i _ _⟩
  case xor => exact ⟨_, by rw [binOp_xor]; rfl, .i _ _⟩
  case andNot => exact ⟨_, by rw [binOp_andNot]; rfl, .i _ _⟩
  case eql => exact ⟨_, by rw [binOp_eql]; rfl, .b _⟩
  case neq => exact ⟨_, by rw [binOp_neq]; rfl, .b _⟩
  case lss => exact ⟨_, by rw [binOp_lss]; rfl, .b _⟩
  case leq => exact ⟨_, by rw [binOp_leq]; rfl, .b _⟩
  case gtr => exact ⟨_, by rw [binOp_gtr]; rfl, .b _⟩
  case geq => exact ⟨_, by rw [binOp_geq]; rfl, .b _⟩

theorem shV_sound {op : BinOp} {k k' : IntKind} {x y : Int} {v : V} (hv : shV op k x y = some v) (t : TypeId) :
    ∃ u, (binOp op t (.int k x) (.int k' y)).run P w = .ok u w ∧ VR g u v := by
  cases op <;> simp only [shV, reduceCtorEq] at hv
  case shl =>
    cases hb : decide (y < 0) <;> rw [hb] at hv
    · simp only [cnd_false, Option.some.injEq] at hv
      subst hv
      have : ¬ y < 0 := by simpa using hb
      exact ⟨_, by simp [binOp_shl, Op.shift, this], .i _ _⟩
    · cases hv
  case shr =>
    cases hb : decide (y < 0) <;> rw [hb] at hv
    · simp only [cnd_false, Option.some.injEq] at hv
      subst hv
      have : ¬ y < 0 := by simpa using hb
      exact ⟨_, by simp [binOp_shr, Op.shift, this], .i _ _⟩
    · cases hv

theorem strV_sound {op : BinOp} {x y : ByteArray} {v : V} (hv : strV op x.data.toList y.data.toList = some v) (t : TypeId) :
    ∃ u, (binOp op t (.string x) (.string y)).run P w = .ok u w ∧ VR g u v := by
  have hx := ByteArray.toList_eq x
  have hy := ByteArray.toList_eq y
  have hl := bytesLess_eq x.data.toList y.data.toList
  cases op <;> simp only [strV, reduceCtorEq] at hv
  case add =>
    cases hb : decide (x.data.toList.length + y.data.toList.length ≤ 140737488351232) <;> rw [hb] at hv
    · cases hv
    · simp only [cnd_true, Option.some.injEq] at hv
      subst hv
      have hb := of_decide_eq_true hb
      have e1 : x.size = x.data.toList.length := by rw [Array.length_toList]; rfl
      have e2 : y.size = y.data.toList.length := by rw [Array.length_toList]; rfl
      refine ⟨.string (x ++ y), ?_, ?_⟩
      · have : binOp .add t (.string x) (.string y) = Op.stringOp .add x y := rfl
        rw [this]
        exact run_string_add_sum w x y (by omega)
      · have : (x ++ y).data.toList = x.data.toList ++ y.data.toList := by simp
        rw [← this]
        exact .cell (.str _)
  all_goals
    simp only [Option.some.injEq] at hv
    subst hv
    refine ⟨_, ?_, .b _⟩
    simp only [binOp, Op.stringOp, Sem.run_pure, hx, hy, hl]

theorem run_eq_ptr (d : Nat) {t e : TypeId} (ht : P.underlying t = some (.pointer e)) (q : Option Addr) : (Op.equalIn (d + 1) t (.pointer q) (.pointer none)).run P w = .ok q.isNone w ∧ (Op.equalIn (d + 1) t (.pointer none) (.pointer q)).run P w = .ok q.isNone w := by
  cases q <;> simp [Op.equalIn, run_underlying ht]
theorem run_eq_map (d : Nat) {t k e : TypeId} (ht : P.underlying t = some (.map k e)) (q : Option Nat) : (Op.equalIn (d + 1) t (.map q) (.map none)).run P w = .ok q.isNone w := by
  cases q <;> simp [Op.equalIn, run_underlying ht]
theorem run_eq_fn (d : Nat) {t : TypeId} {p q : Array TypeId} {s : Bool} (ht : P.underlying t = some (.func p q s)) : (Op.equalIn (d + 1) t .nilFunc .nilFunc).run P w = .ok true w := by
  simp [Op.equalIn, run_underlying ht]
theorem run_neq_fn (d : Nat) {t : TypeId} {p q : Array TypeId} {s : Bool} (ht : P.underlying t = some (.func p q s)) (f : Fn) (x y : Array Value) : (Op.equalIn (d + 1) t (.func f x y) .nilFunc).run P w = .ok false w := by
  simp [Op.equalIn, run_underlying ht]

theorem eqV_sound {op : BinOp} {t : TypeId} {x y : Operand} {u u' : Value} {v v' : V} {r : Bool} (hu : VR g u v) (hu' : VR g u' v') (he : eqV (eqK P t) v v' = some r) :
    (eqGuard op t x y u u').run P w = .ok () w ∧ (Op.equal t u u').run P w = .ok r w ∧ binOp .eql t u u' = (do pure (.bool (← Op.equal t u u'))) ∧ binOp .neq t u u' = (do pure (.bool (!(← Op.equal t u u')))) := by
  have ek : (P.underlying t = some .bool ∧ eqK P t = .bool) ∨ ((∃ e, P.underlying t = some (.pointer e)) ∧ eqK P t = .ptr) ∨ ((∃ k e, P.underlying t = some (.map k e)) ∧ eqK P t = .map) ∨
      ((∃ p q s, P.underlying t = some (.func p q s)) ∧ eqK P t = .fn) ∨ eqK P t = .no ∨ ∃ ks, eqK P t = .agg ks ∧ flatT P 8 t = some ks ∧ P.eqGuardType P.depth t = false ∧ aggT P t = some true := by
    have agg : (∀ (q : aggT P t = some true), (match flatT P 8 t with | some ks => cnd (P.eqGuardType P.depth t) EK.no (.agg ks) | none => .no) = .no ∨ ∃ ks, (match flatT P 8 t with | some ks => cnd (P.eqGuardType P.depth t) EK.no (.agg ks) | none => .no) = .agg ks ∧ flatT P 8 t = some ks ∧ P.eqGuardType P.depth t = false ∧ aggT P t = some true) := by
      intro q
      cases hf : flatT P 8 t with
      | none => exact .inl rfl
      | some ks =>
        cases hg : P.eqGuardType P.depth t
        · exact .inr ⟨ks, rfl, rfl, rfl, q⟩
        · exact .inl rfl
    unfold eqK
    split <;> rename_i hk
    · exact .inl ⟨hk, rfl⟩
    · exact .inr (.inl ⟨⟨_, hk⟩, rfl⟩)
    · exact .inr (.inr (.inl ⟨⟨_, _, hk⟩, rfl⟩))
    · exact .inr (.inr (.inr (.inl ⟨⟨_, _, _, hk⟩, rfl⟩)))
    · exact .inr (.inr (.inr (.inr (agg (by unfold aggT; rw [hk])))))
    · exact .inr (.inr (.inr (.inr (agg (by unfold aggT; rw [hk])))))
    · exact .inr (.inr (.inr (.inr (.inl rfl))))
  rcases ek with ⟨ht, e⟩ | ⟨⟨e', ht⟩, e⟩ | ⟨⟨k, e', ht⟩, e⟩ | ⟨⟨p, q, s, ht⟩, e⟩ | e | ⟨ks, e, hf, hg, ha⟩ <;> rw [e] at he
  · cases v <;> cases v' <;> simp only [eqV, Option.some.injEq, reduceCtorEq] at he
    cases hu.bool_inv
    cases hu'.bool_inv
    subst he
    exact ⟨by rw [eqGuard_at_bool]; rfl, run_equal_bool w t _ _ ht, rfl, rfl⟩
  · have nilR : ∀ {x : Value}, VR g x v → v' = .ptr none → eqV .ptr v v' = some r → ∃ q, x = .pointer q ∧ r = q.isNone := by
      intro x hx hv' he
      subst hv'
      cases v with
      | ptr z =>
        simp only [eqV, Option.some.injEq] at he
        subst he
        cases z with
        | none => exact ⟨none, hx.nilp_inv, rfl⟩
        | some z => obtain ⟨i, o⟩ := z; obtain ⟨b, _, rfl⟩ := hx.ptr_inv; exact ⟨_, rfl, rfl⟩
      | ro cs =>
        simp only [eqV, Option.some.injEq] at he
        subst he
        obtain ⟨b, o, us, rfl, _, _⟩ := hx.ro_inv
        exact ⟨_, rfl, rfl⟩
      | _ => simp [eqV] at he
    have fin : ∃ q q', u = .pointer q ∧ u' = .pointer q' ∧ ((q' = none ∧ r = q.isNone) ∨ (q = none ∧ r = q'.isNone)) := by
      cases hv' : v' with
      | ptr z =>
        cases z with
        | none =>
          obtain ⟨q, rfl, hr⟩ := nilR hu hv' he
          rw [hv'] at hu'
          exact ⟨q, none, rfl, hu'.nilp_inv, .inl ⟨rfl, hr⟩⟩
        | some z =>
          rw [hv'] at he hu'
          obtain ⟨i, o⟩ := z
          obtain ⟨b, _, rfl⟩ := hu'.ptr_inv
          cases v with
          | ptr z' =>
            cases z' with
            | none =>
              simp only [eqV, Option.some.injEq] at he
              exact ⟨none, _, hu.nilp_inv, rfl, .inr ⟨rfl, he.symm⟩⟩
            | some _ => simp [eqV] at he
          | _ => simp [eqV] at he
      | _ => rw [hv'] at he; cases v <;> simp [eqV] at he
    obtain ⟨q, q', rfl, rfl, hr⟩ := fin
    refine ⟨by rw [eqGuard_at_pointer]; rfl, ?_, rfl, rfl⟩
    rcases hr with ⟨rfl, rfl⟩ | ⟨rfl, rfl⟩
    · exact (run_eq_ptr 9999 ht q).1
    · exact (run_eq_ptr 9999 ht q').2
  · cases v <;> cases v' <;> simp only [eqV, Option.some.injEq, reduceCtorEq] at he
    rename_i z z'
    cases z' with
    | some _ => simp [eqV] at he
    | none =>
      simp only [eqV, Option.some.injEq] at he
      subst he
      have : ∃ q, u = .map q ∧ q.isNone = z.isNone := by
        cases z with
        | none => exact ⟨none, hu.nilm_inv, rfl⟩
        | some z => obtain ⟨b, _, rfl⟩ := hu.map_inv; exact ⟨_, rfl, rfl⟩
      obtain ⟨q, rfl, hq⟩ := this
      cases hu'.nilm_inv
      refine ⟨by rw [eqGuard_at_map]; rfl, ?_, rfl, rfl⟩
      rw [← hq]
      exact run_eq_map 9999 ht q
  · cases v' with
    | nofn =>
      cases hu'.nofn_inv
      cases v with
      | nofn =>
        simp only [eqV, Option.some.injEq] at he
        subst he
        cases hu.nofn_inv
        exact ⟨by rw [eqGuard_at_nilFunc]; rfl, run_eq_fn 9999 ht, rfl, rfl⟩
      | fn f as cs =>
        simp only [eqV, Option.some.injEq] at he
        subst he
        obtain ⟨us, vs, rfl, _, _⟩ := hu.fn_inv
        exact ⟨by rw [eqGuard_at_func]; rfl, run_neq_fn 9999 ht _ _ _, rfl, rfl⟩
      | _ => simp [eqV] at he
    | _ => cases v <;> simp [eqV] at he
  · cases v <;> cases v' <;> simp [eqV] at he
  · cases v <;> cases v' <;> simp only [eqV, reduceCtorEq] at he
    obtain ⟨us, rfl, hus, _⟩ := hu.agg_inv
    obtain ⟨us', rfl, hus', _⟩ := hu'.agg_inv
    refine ⟨run_eqGuard_agg w op t x y _ _ hg, ?_, rfl, rfl⟩
    have := flatT_ok 8 t ks hf 9992 g w us us' _ _ r true ha hus hus' he
    exact this

theorem binV_sound {op : BinOp} {t : TypeId} {x y : Operand} {u u' : Value} {v v' r : V} (hu : VR g u v) (hu' : VR g u' v') (he : binV op (eqK P t) v v' = some r) :
    ∃ z, (do eqGuard op t x y u u'; binOp op t u u').run P w = .ok z w ∧ VR g z r := by
  unfold binV at he
  split at he
  · rename_i k p k' q
    cases hu.int_inv
    cases hu'.int_inv
    simp only [Sem.run_bind, eqGuard_at_int, Sem.run_pure, Result.andThen_ok]
    cases hs : isShift op <;> rw [hs] at he
    · simp only [cnd_false] at he
      cases hk : decide (k = k') <;> rw [hk] at he
      · cases he
      · have := of_decide_eq_true hk
        subst this
        exact intV_sound he hs t
    · exact shV_sound he t
  · obtain ⟨s, rfl, rfl⟩ := hu.str_inv
    obtain ⟨s', rfl, rfl⟩ := hu'.str_inv
    simp only [Sem.run_bind, eqGuard_at_string, Sem.run_pure, Result.andThen_ok]
    exact strV_sound he t
  · split at he
    · obtain ⟨b, hb, he⟩ := bnd_eq_some he
      cases he
      obtain ⟨h1, h2, h3, h4⟩ := eqV_sound (w := w) (op := .eql) (x := x) (y := y) hu hu' hb
      exact ⟨_, by simp only [Sem.run_bind, h1, Result.andThen_ok, h3, h2, Sem.run_pure], .b _⟩
    · obtain ⟨b, hb, he⟩ := bnd_eq_some he
      cases he
      obtain ⟨h1, h2, h3, h4⟩ := eqV_sound (w := w) (op := .neq) (x := x) (y := y) hu hu' hb
      exact ⟨_, by simp only [Sem.run_bind, h1, Result.andThen_ok, h4, h2, Sem.run_pure], .b _⟩
    · cases he

theorem unV_sound {op : UnOp} {u : Value} {v r : V} (hu : VR g u v) (he : unV op v = some r) : ∃ z, (Op.unary op u).run P w = .ok z w ∧ VR g z r := by
  unfold unV at he
  split at he <;> simp only [Option.some.injEq, reduceCtorEq] at he <;> subst he
  · cases hu.bool_inv; exact ⟨_, rfl, .b _⟩
  · cases hu.int_inv; exact ⟨_, rfl, .i _ _⟩
  · cases hu.int_inv; exact ⟨_, rfl, .i _ _⟩

theorem minV_sound {u u' : Value} {v v' r : V} (hu : VR g u v) (hu' : VR g u' v') (he : minV v v' = some r) : ∃ z, (Builtin.min2 u u').run P w = .ok z w ∧ VR g z r := by
  unfold minV at he
  split at he
  · rename_i k x k' y
    cases hu.int_inv
    cases hu'.int_inv
    cases hk : decide (k = k') <;> rw [hk] at he
    · cases he
    · cases he
      exact ⟨_, rfl, .i _ _⟩
  · cases he
theorem maxV_sound {u u' : Value} {v v' r : V} (hu : VR g u v) (hu' : VR g u' v') (he : maxV v v' = some r) : ∃ z, (Builtin.max2 u u').run P w = .ok z w ∧ VR g z r := by
  unfold maxV at he
  split at he
  · rename_i k x k' y
    cases hu.int_inv
    cases hu'.int_inv
    cases hk : decide (k = k') <;> rw [hk] at he
    · cases he
    · cases he
      exact ⟨_, rfl, .i _ _⟩
  · cases he
theorem foldV_sound {f : V → V → Option V} {F : Value → Value → Sem Value} (hf : ∀ {u u' : Value} {v v' r : V}, VR g u v → VR g u' v' → f v v' = some r → ∃ z, (F u u').run P w = .ok z w ∧ VR g z r) :
    ∀ {us : List Value} {vs : List V} {u : Value} {v r : V}, VR g u v → VRs g us vs → foldV f v vs = some r → ∃ z, (us.foldlM F u).run P w = .ok z w ∧ VR g z r
  | _, _, u, v, r, hu, .nil, he => by simp [foldV] at he; subst he; exact ⟨u, rfl, hu⟩
  | _, _, u, v, r, hu, .cons a b, he => by
    simp only [foldV] at he
    obtain ⟨q, hq, he⟩ := bnd_eq_some he
    obtain ⟨z, hz, hzr⟩ := hf hu a hq
    obtain ⟨z', hz', hr⟩ := foldV_sound hf hzr b he
    exact ⟨z', by simp only [List.foldlM_cons, Sem.run_bind, hz, Result.andThen_ok, hz'], hr⟩
end
end Go.Vm

/- Operations that leave memory alone: each yields what the V-machine says. -/
set_option linter.unusedVariables false
set_option linter.unusedSimpArgs false
namespace Go.Vm
attribute [local simp] evalOps_nil evalOps_cons evalOps_consg evalOp_mv evalOp_asg evalOp_pick evalOp_build evalOp_bslice evalOp_load evalOp_nilck evalOp_bin evalOp_un evalOp_conv evalOp_mkfn evalOp_slice evalOp_faddr evalOp_field evalOp_iaddr evalOp_index evalOp_lookup evalOp_extract evalOp_app evalOp_len evalOp_mn evalOp_mx evalOp_alloc evalOp_box evalOp_mkmap evalOp_store evalOp_mapupd evalOp_delete evalOp_sliceArr evalOp_call evalOp_callv evalOp_appc code_skip code_ops code_dops code_seq code_cond code_block code_exit code_ret finish_normal finish_ret
attribute [local simp] V.lt V.ltL V.flat V.pureCell V.pure V.isCell cellEq cellsEq eqV intV shV strV isShift binV unV byteV convV minV maxV foldV foldV1 fillV fillE findV putV delV isKey natOf natOr cut cellsAt mapAt mapOf loadV pickV nilckV sizeOk allSize sliceV faddrV fieldV iaddrV indexV found extractV allPure appV lenV ownHas ownOk storeC storeV samePtr appcV boxable mapupdV deleteV sliceArrV callV allLt clean bodyEnd resV one finishV runV initR
section
variable {P : Program} {g : Gh} {h : Heap} {w : World} {a : Act} {rs : Regs}

theorem foldl_set (off : Nat) : ∀ (vs : List Value) (k : Nat) (cs : Array Value), off + k + vs.length ≤ cs.size →
    ((vs.zipIdx k).foldl (fun (cs : Array Value) (x : Value × Nat) => cs.setIfInBounds (off + x.2) x.1) cs).toList = cs.toList.take (off + k) ++ (vs ++ cs.toList.drop (off + k + vs.length))
  | [], k, cs, _ => by simp
  | v :: vs, k, cs, hl => by
    simp only [List.length_cons] at hl
    simp only [List.zipIdx_cons, List.foldl_cons]
    rw [foldl_set off vs (k + 1) (cs.setIfInBounds (off + k) v) (by simp; omega)]
    have := list_seg_step cs.toList (off + k) v vs (by simp; omega)
    simp only [Array.toList_setIfInBounds, List.length_cons]
    rw [← List.append_assoc, ← Nat.add_assoc, this, Nat.add_assoc, List.append_assoc]
theorem VRs.set {us us' : List Value} {vs vs' : List V} (hu : VRs g us vs) (hv : VRs g us' vs') (off : Nat) : VRs g (us.take off ++ (us' ++ us.drop (off + us'.length))) (vs.take off ++ (vs' ++ vs.drop (off + vs'.length))) := by
  rw [hv.length]
  exact (hu.take off).append (hv.append (hu.drop _))

def realParts (a : Act) (parts : List (Nat × Operand)) : List (Nat × Value) := parts.map fun p => (p.1, a.eval p.2)
theorem fill_one {place : Nat → Option (Nat × Nat)} {i off size : Nat} (hp : place i = some (off, size)) {u : Value} {v : V} (hu : VR g u v) (hc : v.flat.all V.isCell = true) (hl : v.flat.length = size) {us : Array Value} {vs : List V} (hus : VRs g us.toList vs) (hle : off + size ≤ vs.length) (rest : List (Nat × Value)) :
    ∃ us' : Array Value, Instr.fill place us ((i, u) :: rest) = Instr.fill place us' rest ∧ VRs g us'.toList (vs.take off ++ (v.flat ++ vs.drop (off + size))) := by
  have hcells := hu.cells hc
  have h1 := hcells.length
  have h2 := hus.length
  have hsz : u.cells.size = size := by rw [← Array.length_toList, h1, hl]
  refine ⟨(u.cells.zipIdx.foldl (fun cs (x : Value × Nat) => cs.setIfInBounds (off + x.2) x.1) us), ?_, ?_⟩
  · have hle' : off + u.cells.size ≤ us.size := by rw [hsz]; simp only [Array.length_toList] at h2; omega
    simp only [Instr.fill, hp]
    rw [if_neg]
    simp [hsz]
    omega
  · have e : (u.cells.zipIdx.foldl (fun cs (x : Value × Nat) => cs.setIfInBounds (off + x.2) x.1) us) = ((u.cells.toList.zipIdx 0).foldl (fun (cs : Array Value) (x : Value × Nat) => cs.setIfInBounds (off + x.2) x.1) us) := by
      rw [← Array.foldl_toList]
      simp
    rw [e, foldl_set off u.cells.toList 0 us (by simp only [Array.length_toList] at h2 ⊢; omega)]
    have := VRs.set hus hcells off
    rw [hl] at this
    simpa using this

theorem fillS_sound (hr : RR g a rs) {t : TypeId} {fs : Array Field} (hu : P.underlying t = some (.struct fs)) {places : List (Nat × Nat)} (hpl : fs.toList.mapM (fun f => (P.info? f.type).map fun i => (f.offset, i.size)) = some places) :
    ∀ (parts : List (Nat × Operand)) (ps : List (Nat × Nat × Arg)) (us : Array Value) (vs vs' : List V), partsS P t parts = some ps → VRs g us.toList vs → fillV rs vs ps = some vs' →
      ∃ us' : Array Value, Instr.fill (places.toArray[·]?) us (realParts a parts) = some us' ∧ VRs g us'.toList vs'
  | [], ps, us, vs, vs', hp, hus, hv => by
    simp only [partsS, Option.some.injEq] at hp
    subst hp
    simp only [fillV, Option.some.injEq] at hv
    subst hv
    exact ⟨us, rfl, hus⟩
  | (i, o) :: parts, ps, us, vs, vs', hp, hus, hv => by
    simp only [partsS] at hp
    obtain ⟨f, hf, hp⟩ := bnd_eq_some hp
    obtain ⟨z, hz, hp⟩ := bnd_eq_some hp
    obtain ⟨x, hx, hp⟩ := bnd_eq_some hp
    obtain ⟨l, hl, hp⟩ := bnd_eq_some hp
    cases hp
    simp only [fillV] at hv
    cases hd : decide (((x.val rs).flat.length = z ∧ f.1 + z ≤ vs.length) ∧ (x.val rs).flat.all V.isCell = true) <;> rw [hd] at hv
    · cases hv
    · simp only [cnd_true] at hv
      have hd := of_decide_eq_true hd
      have hplace : (places.toArray[·]?) i = some (f.1, z) := by
        unfold fieldT at hf
        rw [hu] at hf
        simp only at hf
        unfold sizeT at hz
        obtain ⟨info, hi, hz⟩ := bnd_eq_some hz
        cases hz
        cases hfi : fs[i]? with
        | none => simp [hfi] at hf
        | some fd =>
          simp only [hfi, Option.some.injEq] at hf
          subst hf
          have : ∀ (l : List Field) (pl : List (Nat × Nat)) (k : Nat), l.mapM (fun f => (P.info? f.type).map fun i => (f.offset, i.size)) = some pl → l[k]? = some fd → pl[k]? = some (fd.offset, info.size) := by
            intro l
            induction l with
            | nil => intro pl k _ hk; simp at hk
            | cons f0 l ih =>
              intro pl k hm hk
              simp only [List.mapM_cons, Option.bind_eq_bind, Option.pure_def] at hm
              cases h0 : (P.info? f0.type).map (fun i => (f0.offset, i.size)) with
              | none => simp [h0] at hm
              | some q =>
                cases h1 : l.mapM (fun f => (P.info? f.type).map fun i => (f.offset, i.size)) with
                | none => simp [h0, h1] at hm
                | some r =>
                  simp [h0, h1] at hm
                  subst hm
                  cases k with
                  | zero =>
                    simp only [List.getElem?_cons_zero, Option.some.injEq] at hk ⊢
                    subst hk
                    simp [hi] at h0
                    exact h0.symm
                  | succ k => simpa using ih r k h1 (by simpa using hk)
          simpa using this fs.toList places i hpl (by simpa using hfi)
      obtain ⟨us1, e1, h1⟩ := fill_one hplace (trArg_sound hr hx) hd.2 hd.1.1 hus hd.1.2 (realParts a parts)
      obtain ⟨us', e2, h2⟩ := fillS_sound hr hu hpl parts l us1 _ vs' hl h1 hv
      exact ⟨us', by show Instr.fill _ us ((i, a.eval o) :: realParts a parts) = _; rw [e1, e2], h2⟩
theorem fillA_sound (hr : RR g a rs) {size : Nat} :
    ∀ (parts : List (Nat × Operand)) (ps : List (Nat × Nat × Arg)) (us : Array Value) (vs vs' : List V), partsA size parts = some ps → VRs g us.toList vs → fillV rs vs ps = some vs' →
      ∃ us' : Array Value, Instr.fill (fun i => some (i * size, size)) us (realParts a parts) = some us' ∧ VRs g us'.toList vs'
  | [], ps, us, vs, vs', hp, hus, hv => by
    simp only [partsA, Option.some.injEq] at hp
    subst hp
    simp only [fillV, Option.some.injEq] at hv
    subst hv
    exact ⟨us, rfl, hus⟩
  | (i, o) :: parts, ps, us, vs, vs', hp, hus, hv => by
    simp only [partsA] at hp
    obtain ⟨x, hx, hp⟩ := bnd_eq_some hp
    obtain ⟨l, hl, hp⟩ := bnd_eq_some hp
    cases hp
    simp only [fillV] at hv
    cases hd : decide (((x.val rs).flat.length = size ∧ i * size + size ≤ vs.length) ∧ (x.val rs).flat.all V.isCell = true) <;> rw [hd] at hv
    · cases hv
    · simp only [cnd_true] at hv
      have hd := of_decide_eq_true hd
      obtain ⟨us1, e1, h1⟩ := fill_one (place := fun i => some (i * size, size)) (i := i) rfl (trArg_sound hr hx) hd.2 hd.1.1 hus hd.1.2 (realParts a parts)
      obtain ⟨us', e2, h2⟩ := fillA_sound hr parts l us1 _ vs' hl h1 hv
      exact ⟨us', by show Instr.fill _ us ((i, a.eval o) :: realParts a parts) = _; rw [e1, e2], h2⟩

theorem fillV_cells : ∀ {ps : List (Nat × Nat × Arg)} {vs vs' : List V}, vs.all V.isCell = true → fillV rs vs ps = some vs' → vs'.all V.isCell = true
  | [], vs, vs', hc, hv => by simp only [fillV, Option.some.injEq] at hv; subst hv; exact hc
  | (off, size, x) :: ps, vs, vs', hc, hv => by
    simp only [fillV] at hv
    cases hd : decide (((x.val rs).flat.length = size ∧ off + size ≤ vs.length) ∧ (x.val rs).flat.all V.isCell = true) <;> rw [hd] at hv
    · cases hv
    · simp only [cnd_true] at hv
      have hd := of_decide_eq_true hd
      refine fillV_cells ?_ hv
      simp only [List.all_append, Bool.and_eq_true]
      simp only [List.all_eq_true] at hc ⊢
      exact ⟨fun y hy => hc y (List.mem_of_mem_take hy), by simpa using hd.2, fun y hy => hc y (List.mem_of_mem_drop hy)⟩

theorem places_some (t : TypeId) (fs : Array Field) (places : List (Nat × Nat)) (hz : sizesT P fs.toList = some places) : fs.toList.mapM (fun f => (P.info? f.type).map fun i => (f.offset, i.size)) = some places := by
  have : ∀ (l : List Field) (pl : List (Nat × Nat)), sizesT P l = some pl → l.mapM (fun f => (P.info? f.type).map fun i => (f.offset, i.size)) = some pl := by
    intro l
    induction l with
    | nil => intro pl h; simp only [sizesT, Option.some.injEq] at h; subst h; rfl
    | cons f l ih =>
      intro pl h
      simp only [sizesT] at h
      obtain ⟨i, hi, h⟩ := bnd_eq_some h
      obtain ⟨r, hr, h⟩ := bnd_eq_some h
      cases h
      simp [List.mapM_cons, hi, ih r hr]
  exact this fs.toList places hz

theorem build_sound (hr : RR g a rs) {t : TypeId} {parts : Array (Nat × Operand)} {vop : VOp} (htr : trOp P (.build t parts) 0 (.build [] []) = some vop) {v : V} (hv : valOp h rs vop = some v) :
    ∃ u, (Instr.build t (parts.map fun (i, x) => (i, a.eval x))).run P w = .ok u w ∧ VR g u v := by
  simp only [trOp] at htr
  obtain ⟨z, hz, htr⟩ := bnd_eq_some htr
  obtain ⟨cs, hcs, htr⟩ := bnd_eq_some htr
  have hz0 : VRs g z.cells.toList cs := (trVals_sound hcs).vrs
  have hzc : cs.all V.isCell = true := (trVals_sound (m := g.imm) hcs).isCells
  unfold zeroT at hz
  obtain ⟨it, hit, hz⟩ := bnd_eq_some hz
  have hparts : (parts.map fun (i, x) => (i, a.eval x)).toList = realParts a parts.toList := by simp [realParts]
  split at htr
  · rename_i fs hu
    obtain ⟨places, hpl, htr⟩ := bnd_eq_some htr
    obtain ⟨ps, hps, htr⟩ := bnd_eq_some htr
    cases htr
    simp only [valOp] at hv
    obtain ⟨vs, hvs, hv⟩ := bnd_eq_some hv
    cases hv
    have hpl' := places_some t fs places hpl
    obtain ⟨us', e, hus'⟩ := fillS_sound hr hu hpl' parts.toList ps z.cells cs vs hps hz0 hvs
    refine ⟨.agg us', ?_, by simpa using VR.agg hus' (fillV_cells hzc hvs)⟩
    refine run_build w t _ us' ?_
    simp only [Program.built, hit, hu, hz, hpl', hparts, e]
  · rename_i n e' hu
    obtain ⟨k, hk, htr⟩ := bnd_eq_some htr
    obtain ⟨ps, hps, htr⟩ := bnd_eq_some htr
    cases htr
    simp only [valOp] at hv
    obtain ⟨vs, hvs, hv⟩ := bnd_eq_some hv
    cases hv
    unfold sizeT at hk
    obtain ⟨ie, hie, hk⟩ := bnd_eq_some hk
    cases hk
    obtain ⟨us', e, hus'⟩ := fillA_sound hr parts.toList ps z.cells cs vs hps hz0 hvs
    refine ⟨.agg us', ?_, by simpa using VR.agg hus' (fillV_cells hzc hvs)⟩
    refine run_build w t _ us' ?_
    simp only [Program.built, hit, hu, hz, hie, hparts, e]
  · cases htr

theorem natOf_inv {u : Value} {v : V} {n : Nat} (hu : VR g u v) (hn : natOf v = some n) : ∃ k, u = .int k n := by
  unfold natOf at hn
  split at hn
  · rename_i k i
    cases hu.int_inv
    cases hi : decide (0 ≤ i) <;> rw [hi] at hn
    · cases hn
    · have := of_decide_eq_true hi
      cases hn
      exact ⟨k, by rw [Int.toNat_of_nonneg this]⟩
  · cases hn
theorem run_bound {u : Value} {k : IntKind} {n y : Nat} (hu : u = .int k n) (hn : n ≤ y) (c : BoundsCode) : (Instr.sliceBound u y c).run P w = .ok n w := by
  subst hu
  simp [Instr.sliceBound, asIntOf, hn]
theorem run_bounds (hr : RR g a rs) {lo hi mx : Option Operand} {lo' hi' mx' : Option Arg} (h1 : trOpt lo = some lo') (h2 : trOpt hi = some hi') (h3 : trOpt mx = some mx') {isS : Bool} {len cap l u m : Nat}
    (hl : natOr rs 0 lo' = some l) (hu : natOr rs len hi' = some u) (hm : natOr rs u mx' = some m) (hlu : l ≤ u) (hum : u ≤ m) (hcap : m ≤ cap) (hlen : len ≤ cap) (hmx : (hi'.isSome || mx'.isNone) = true) :
    ∃ M, (Instr.sliceBounds isS len cap (lo.map a.eval) (hi.map a.eval) (mx.map a.eval)).run P w = .ok (l, u, M) w ∧ u ≤ M ∧ M ≤ cap ∧ (mx = none → M = cap) := by
  have one : ∀ {o : Option Operand} {o' : Option Arg} {d n : Nat}, trOpt o = some o' → natOr rs d o' = some n → (o = none ∧ o' = none ∧ n = d) ∨ ∃ x x' k, o = some x ∧ o' = some x' ∧ a.eval x = .int k n := by
    intro o o' d n ho hn
    cases o with
    | none => simp only [trOpt, Option.some.injEq] at ho; subst ho; simp only [natOr, Option.some.injEq] at hn; exact .inl ⟨rfl, rfl, hn.symm⟩
    | some x =>
      simp only [trOpt] at ho
      obtain ⟨x', hx', ho⟩ := bnd_eq_some ho
      cases ho
      obtain ⟨k, hk⟩ := natOf_inv (trArg_sound hr hx') hn
      exact .inr ⟨x, x', k, rfl, rfl, hk⟩
  unfold Instr.sliceBounds
  rcases one h3 hm with ⟨rfl, rfl, rfl⟩ | ⟨x, x', k, rfl, rfl, hk⟩
  · refine ⟨cap, ?_, by omega, Nat.le_refl _, fun _ => rfl⟩
    rcases one h2 hu with ⟨rfl, rfl, rfl⟩ | ⟨y, y', k', rfl, rfl, hk'⟩
    · rcases one h1 hl with ⟨rfl, rfl, rfl⟩ | ⟨z, z', k'', rfl, rfl, hk''⟩
      · simp
      · simp [run_bound (w := w) (P := P) hk'' hlu]
    · have e := fun c => run_bound (w := w) (P := P) hk' (show m ≤ cap by omega) c
      rcases one h1 hl with ⟨rfl, rfl, rfl⟩ | ⟨z, z', k'', rfl, rfl, hk''⟩
      · simp [e]
      · simp [e, run_bound (w := w) (P := P) hk'' hlu]
  · refine ⟨m, ?_, hum, hcap, fun h => by cases h⟩
    have e := fun c => run_bound (w := w) (P := P) hk hcap c
    rcases one h2 hu with ⟨rfl, rfl, rfl⟩ | ⟨y, y', k', rfl, rfl, hk'⟩
    · simp at hmx
    · have e' := fun c => run_bound (w := w) (P := P) hk' hum c
      rcases one h1 hl with ⟨rfl, rfl, rfl⟩ | ⟨z, z', k'', rfl, rfl, hk''⟩
      · simp [e, e']
      · simp [e, e', run_bound (w := w) (P := P) hk'' hlu]

theorem sizeOk_eq {size sz : Nat} {xs : List V} (h : sizeOk size xs = true) (hs : ∀ x ∈ xs, x.flat.length = sz) (hne : xs ≠ []) : sz = size := by
  cases xs with
  | nil => exact absurd rfl hne
  | cons x xs =>
    have h1 : x.flat.length = size := by simpa [sizeOk] using h
    rw [← hs x (by simp), h1]
theorem CR.cut {m : Imm} {b o cap size : Nat} {xs : List V} {us : List Value} {sz : Nat} (hcap : xs.length ≤ cap) (hsz : ∀ x ∈ xs, x.flat.length = sz) (himm : ∀ j u, us[j]? = some u → m b (o + j) = some u) (hus : CRs m us (xs.flatMap V.flat))
    (hok : sizeOk size xs = true) {l u M : Nat} (hlu : l ≤ u) (hul : u ≤ xs.length) (huM : u ≤ M) :
    CR m (.slice (some (if M = l then ⟨b, o, none⟩ else Addr.add ⟨b, o, none⟩ (l * size))) (u - l) (M - l)) (.sl ((xs.take u).drop l)) := by
  by_cases hM : M = l
  · rw [if_pos hM]
    have hu : u = l := by omega
    subst hu
    have : (xs.take u).drop u = [] := List.drop_eq_nil_of_le (by simp; omega)
    rw [this]
    exact .sl (sz := 0) (us := []) (by simp) (by omega) (by simp) (by simp) .nil
  · rw [if_neg hM, add_lit]
    by_cases hne : xs = []
    · subst hne
      simp only [List.length_nil] at hul
      have : u = 0 := by omega
      subst this
      have : l = 0 := by omega
      subst this
      exact .sl (sz := 0) (us := []) (by simp) (by omega) (by simp) (by simp) .nil
    · have := sizeOk_eq hok hsz hne
      subst this
      refine .sl (sz := sz) (us := (us.take (u * sz)).drop (l * sz)) (by simp; omega) (by omega) (fun x hx => hsz x (List.mem_of_mem_take (List.mem_of_mem_drop hx))) (fun j x hj => ?_) ?_
      · rw [List.getElem?_drop, List.getElem?_take] at hj
        split at hj
        · rw [Nat.add_assoc]; exact himm _ _ hj
        · cases hj
      · rw [← flatMap_drop l (fun x hx => hsz x (List.mem_of_mem_take hx)), ← flatMap_take u hsz]
        exact (hus.take _).drop _

theorem slice_sound (hr : RR g a rs) {t e : TypeId} {n : Nat} (ht : P.underlying t = some (.slice e)) (hn : sizeT P e = some n) {u : Value} {x v : V} (hx : VR g u x) {lo hi mx : Option Operand} {lo' hi' mx' : Option Arg} (h1 : trOpt lo = some lo') (h2 : trOpt hi = some hi') (h3 : trOpt mx = some mx')
    (hv : sliceV n rs lo' hi' mx' false x = some v) : ∃ z, (Instr.sliceAt t u (lo.map a.eval) (hi.map a.eval) (mx.map a.eval)).run P w = .ok z w ∧ VR g z v := by
  unfold sliceV at hv
  split at hv
  · rename_i hb; cases hb
  · rename_i xs _
    obtain ⟨l, hl, hv⟩ := bnd_eq_some hv
    obtain ⟨q, hq, hv⟩ := bnd_eq_some hv
    obtain ⟨m, hm, hv⟩ := bnd_eq_some hv
    cases hd : (decide (l ≤ q ∧ q ≤ m ∧ m ≤ xs.length) && ((hi'.isSome || mx'.isNone) && sizeOk n xs)) <;> rw [hd] at hv
    · cases hv
    · simp only [cnd_true, Option.some.injEq] at hv
      subst hv
      simp only [Bool.and_eq_true, decide_eq_true_eq] at hd
      obtain ⟨⟨hlq, hqm, hmx⟩, hmm, hok⟩ := hd
      unfold sizeT at hn
      obtain ⟨i, hi', hn⟩ := bnd_eq_some hn
      cases hn
      have hsz : (sizeOf e).run P w = .ok i.size w := by simp [sizeOf, typeInfo, hi']
      rcases hx.sl_inv.sl_inv with ⟨rfl, rfl⟩ | ⟨ad, cap, rfl, rfl⟩ | ⟨b, o, cap, sz, us, rfl, hcap, hs, himm, hus⟩
      · simp only [List.length_nil] at hmx hq
        have e0 : q = 0 := by omega
        have e1 : l = 0 := by omega
        have e2 : m = 0 := by omega
        subst e0 e1 e2
        obtain ⟨M, hM, _, hMc, _⟩ := run_bounds (w := w) (P := P) hr h1 h2 h3 (isS := true) (len := 0) (cap := 0) hl hq hm (Nat.le_refl _) (Nat.le_refl _) (Nat.le_refl _) (Nat.le_refl _) hmm
        have : M = 0 := by omega
        subst this
        refine ⟨.slice none 0 0, ?_, .cell .nils⟩
        simp [Instr.sliceAt, Instr.slice, run_underlying ht, hM, hsz]
      · simp only [List.length_nil] at hmx hq
        have e0 : q = 0 := by omega
        have e1 : l = 0 := by omega
        have e2 : m = 0 := by omega
        subst e0 e1 e2
        obtain ⟨M, hM, _, hMc, _⟩ := run_bounds (w := w) (P := P) hr h1 h2 h3 (isS := true) (len := 0) (cap := cap) hl hq hm (Nat.le_refl _) (Nat.le_refl _) (Nat.zero_le _) (Nat.zero_le _) hmm
        refine ⟨.slice (some ad) 0 M, ?_, .cell .sl0⟩
        simp only [Instr.sliceAt, Instr.slice, Sem.run_bind, run_underlying ht, Result.andThen_ok, hM, hsz, Sem.run_pure]
        congr 2
        simp [Addr.add]
      · obtain ⟨M, hM, huM, hMc, _⟩ := run_bounds (w := w) (P := P) hr h1 h2 h3 (isS := true) (len := xs.length) (cap := cap) hl hq hm hlq hqm (by omega) hcap hmm
        refine ⟨_, ?_, .cell (CR.cut hcap hs himm hus hok hlq (by omega) huM)⟩
        simp only [Instr.sliceAt, Instr.slice, Sem.run_bind, run_underlying ht, Result.andThen_ok, hM, hsz, Sem.run_pure]
        congr 2
        split <;> rfl
  · rename_i i o k z _
    obtain ⟨l, hl, hv⟩ := bnd_eq_some hv
    obtain ⟨q, hq, hv⟩ := bnd_eq_some hv
    cases hd : (decide (l ≤ q ∧ q ≤ k ∧ z = n) && mx'.isNone) <;> rw [hd] at hv
    · cases hv
    · simp only [cnd_true, Option.some.injEq] at hv
      subst hv
      simp only [Bool.and_eq_true, decide_eq_true_eq, Option.isNone_iff_eq_none] at hd
      obtain ⟨⟨hlq, hqk, rfl⟩, rfl⟩ := hd
      unfold sizeT at hn
      obtain ⟨inf, hi', hn⟩ := bnd_eq_some hn
      cases hn
      have hsz : (sizeOf e).run P w = .ok inf.size w := by simp [sizeOf, typeInfo, hi']
      obtain ⟨b, cap, hmu, hcap, rfl, hsiz⟩ := hx.msl_inv
      obtain ⟨M, hM, huM, hMc, _⟩ := run_bounds (w := w) (P := P) hr h1 h2 h3 (isS := true) (len := k) (cap := cap) (m := q) hl hq rfl hlq (Nat.le_refl _) (by omega) hcap (by simp)
      by_cases hlt : l < q
      · rw [decide_eq_true hlt, cnd_true]
        refine ⟨.slice (some ⟨b, o + l * inf.size, none⟩) (q - l) (M - l), ?_, .msl hmu (by omega) ?_⟩
        · simp only [Instr.sliceAt, Instr.slice, Sem.run_bind, run_underlying ht, Result.andThen_ok, hM, hsz, Sem.run_pure]
          congr 2
          rw [if_neg (by omega), Option.map_some, add_lit]
        · have e1 : l * inf.size + (M - l) * inf.size = M * inf.size := by rw [← Nat.add_mul]; congr 1; omega
          have e2 : M * inf.size ≤ cap * inf.size := Nat.mul_le_mul_right _ hMc
          omega
      · rw [decide_eq_false hlt, cnd_false]
        have e : q - l = 0 := by omega
        refine ⟨.slice (some (if M = l then ⟨b, o, none⟩ else ⟨b, o + l * inf.size, none⟩)) 0 (M - l), ?_, .cell .sl0⟩
        simp only [Instr.sliceAt, Instr.slice, Sem.run_bind, run_underlying ht, Result.andThen_ok, hM, hsz, Sem.run_pure, e]
        congr 2
        by_cases h0 : M = l
        · rw [if_pos h0, if_pos h0]
        · rw [if_neg h0, if_neg h0, Option.map_some, add_lit]
  · cases hv

theorem sliceS_sound (hr : RR g a rs) {t : TypeId} (ht : P.underlying t = some .string) {u : Value} {x v : V} (hx : VR g u x) {lo hi mx : Option Operand} {lo' hi' mx' : Option Arg} (h1 : trOpt lo = some lo') (h2 : trOpt hi = some hi') (h3 : trOpt mx = some mx')
    (hv : sliceV 1 rs lo' hi' mx' true x = some v) : ∃ z, (Instr.sliceAt t u (lo.map a.eval) (hi.map a.eval) (mx.map a.eval)).run P w = .ok z w ∧ VR g z v := by
  unfold sliceV at hv
  split at hv
  · rename_i s _
    obtain ⟨l, hl, hv⟩ := bnd_eq_some hv
    obtain ⟨q, hq, hv⟩ := bnd_eq_some hv
    cases hd : (decide (l ≤ q ∧ q ≤ s.length) && mx'.isNone) <;> rw [hd] at hv
    · cases hv
    · simp only [cnd_true, Option.some.injEq] at hv
      subst hv
      simp only [Bool.and_eq_true, decide_eq_true_eq, Option.isNone_iff_eq_none] at hd
      obtain ⟨⟨hlq, hqs⟩, rfl⟩ := hd
      have hmx : mx = none := by
        cases mx with
        | none => rfl
        | some y => simp only [trOpt] at h3; obtain ⟨y', _, h3⟩ := bnd_eq_some h3; cases h3
      subst hmx
      obtain ⟨str, rfl, rfl⟩ := hx.str_inv
      have es : str.size = str.data.toList.length := by rw [Array.length_toList]; rfl
      obtain ⟨M, hM, _, _, _⟩ := run_bounds (w := w) (P := P) hr h1 h2 h3 (isS := false) (len := str.size) (cap := str.size) (m := q) hl (by rw [es]; exact hq) rfl hlq (Nat.le_refl _) (by rw [es]; exact hqs) (Nat.le_refl _) (by simp)
      refine ⟨.string (str.extract l q), ?_, ?_⟩
      · simp only [Option.map_none] at hM ⊢
        simp [Instr.sliceAt, Instr.slice, run_underlying ht, hM]
      · have : (str.extract l q).data.toList = (str.data.toList.take q).drop l := by
          simp [ByteArray.data_extract, List.drop_take]
        rw [← this]
        exact .cell (.str _)
  · rename_i hb; cases hb
  · rename_i hb; cases hb
  · cases hv
end
end Go.Vm

/- Every operation that leaves memory alone yields what the V-machine says. -/
set_option linter.unusedVariables false
set_option linter.unusedSimpArgs false
namespace Go.Vm
attribute [local simp] evalOps_nil evalOps_cons evalOps_consg evalOp_mv evalOp_asg evalOp_pick evalOp_build evalOp_bslice evalOp_load evalOp_nilck evalOp_bin evalOp_un evalOp_conv evalOp_mkfn evalOp_slice evalOp_faddr evalOp_field evalOp_iaddr evalOp_index evalOp_lookup evalOp_extract evalOp_app evalOp_len evalOp_mn evalOp_mx evalOp_alloc evalOp_box evalOp_mkmap evalOp_store evalOp_mapupd evalOp_delete evalOp_sliceArr evalOp_call evalOp_callv evalOp_appc code_skip code_ops code_dops code_seq code_cond code_block code_exit code_ret finish_normal finish_ret
attribute [local simp] V.lt V.ltL V.flat V.pureCell V.pure V.isCell cellEq cellsEq eqV intV shV strV isShift binV unV byteV convV minV maxV foldV foldV1 fillV fillE findV putV delV isKey natOf natOr cut cellsAt mapAt mapOf loadV pickV nilckV sizeOk allSize sliceV faddrV fieldV iaddrV indexV found extractV allPure appV lenV ownHas ownOk storeC storeV samePtr appcV boxable mapupdV deleteV sliceArrV callV allLt clean bodyEnd resV one finishV runV initR
section
variable {P : Program} {g : Gh} {h : Heap} {w : World} {a : Act} {rs : Regs}

theorem sizeT_run {t : TypeId} {n : Nat} (hn : sizeT P t = some n) : (sizeOf t).run P w = .ok n w := by
  unfold sizeT at hn
  obtain ⟨i, hi, hn⟩ := bnd_eq_some hn
  cases hn
  simp [sizeOf, typeInfo, hi]
theorem faddr_sound {t : TypeId} {f : Nat} {fd : Nat × TypeId} {n : Nat} (hf : fieldT P t f = some fd) (hn : sizeT P fd.2 = some n) (hpos : 0 < n) {u : Value} {x v : V} (hx : VR g u x) (hv : faddrV fd.1 x = some v) :
    ∃ z, (Instr.fieldAt t u f).run P w = .ok z w ∧ VR g z v := by
  unfold fieldT at hf
  split at hf
  · rename_i fs hu
    split at hf
    · rename_i fl hfl
      cases hf
      have hne : n ≠ 0 := by omega
      unfold faddrV at hv
      split at hv <;> cases hv
      · obtain ⟨b, hb, rfl⟩ := hx.ptr_inv
        refine ⟨_, ?_, .ptr hb⟩
        simp [Instr.fieldAt, run_underlying hu, hfl, Instr.sureAddr, fieldPlace, sizeT_run hn, hne, add_lit]
      · obtain ⟨b, o, us, rfl, himm, hus⟩ := hx.ro_inv
        refine ⟨.pointer (some ⟨b, o + fl.offset, none⟩), ?_, .ro (us := us.drop fl.offset) (fun j x hj => ?_) (hus.drop _)⟩
        · simp [Instr.fieldAt, run_underlying hu, hfl, Instr.sureAddr, fieldPlace, sizeT_run hn, hne, add_lit]
        · rw [List.getElem?_drop] at hj
          rw [Nat.add_assoc]
          exact himm _ _ hj
    · cases hf
  · cases hf
theorem field_sound {t : TypeId} {f : Nat} {fd : Nat × TypeId} {n : Nat} {b : Bool} (hf : fieldT P t f = some fd) (hb : aggT P fd.2 = some b) (hn : sizeT P fd.2 = some n) (h1 : b = true ∨ n = 1) {u : Value} {x v : V} (hx : VR g u x) (hv : fieldV fd.1 n b x = some v) :
    ∃ z, (Instr.field t u f).run P w = .ok z w ∧ VR g z v := by
  unfold fieldT at hf
  split at hf
  · rename_i fs hu
    split at hf
    · rename_i fl hfl
      cases hf
      unfold fieldV at hv
      split at hv
      · rename_i cs
        obtain ⟨us, rfl, hus, hc⟩ := hx.agg_inv
        obtain ⟨hr, hl⟩ := cut_sound hv h1 hus hc
        have hle : fl.offset + n ≤ us.length := by
          unfold cut at hv
          have := hus.length
          cases hd : decide (fl.offset + n ≤ cs.length) <;> rw [hd] at hv
          · cases hv
          · have := of_decide_eq_true hd; omega
        refine ⟨_, ?_, hr⟩
        simp only [Instr.field, Sem.run_bind, run_underlying hu, Result.andThen_ok, hfl, asAgg, Sem.run_pure]
        exact run_part hb hn h1 us fl.offset hle
      · cases hv
    · cases hf
  · cases hf
theorem iaddrS_sound {t e : TypeId} {n : Nat} (ht : P.underlying t = some (.slice e)) (hn : sizeT P e = some n) {u ui : Value} {x i v : V} {j : Nat} (hx : VR g u x) (hi : VR g ui i) (hj : natOf i = some j) (hv : iaddrV n j none x = some v) :
    ∃ z, (Instr.indexAt t u ui).run P w = .ok z w ∧ VR g z v := by
  obtain ⟨k, rfl⟩ := natOf_inv hi hj
  cases x with
  | sl xs =>
    simp only [iaddrV] at hv
    obtain ⟨y, hy, hv⟩ := bnd_eq_some hv
    cases hd : (y.flat.length == n) <;> rw [hd] at hv
    · cases hv
    · cases hv
      have hd : y.flat.length = n := by simpa using hd
      have hlt : j < xs.length := (List.getElem?_eq_some_iff.1 hy).1
      rcases hx.sl_inv.sl_inv with ⟨rfl, rfl⟩ | ⟨ad, cap, rfl, rfl⟩ | ⟨b, o, cap, sz, us, rfl, hcap, hs, himm, hus⟩
      · simp at hlt
      · simp at hlt
      · have hmem : y ∈ xs := List.mem_of_getElem? hy
        have := hs y hmem
        have hsz : sz = n := by omega
        subst hsz
        refine ⟨.pointer (some ⟨b, o + j * sz, none⟩), ?_, .ro (us := (us.drop (j * sz)).take sz) (fun q x hq => ?_) ?_⟩
        · have := run_indexAt_slice (P := P) w t ⟨b, o, none⟩ xs.length cap k j (by rw [ht]; simp [Program.elem, ht])
          rw [this, if_pos ⟨by omega, by omega⟩]
          have he : P.elem t = e := by simp [Program.elem, ht]
          rw [he, sizeT_run hn]
          simp [add_lit]
        · rw [List.getElem?_take] at hq
          split at hq
          · rw [List.getElem?_drop] at hq
            rw [Nat.add_assoc]
            exact himm _ _ hq
          · cases hq
        · have h1 := (hus.drop (j * sz)).take sz
          rw [flatMap_drop j hs] at h1
          have h2 : (xs.drop j).flatMap V.flat = y.flat ++ (xs.drop (j + 1)).flatMap V.flat := by
            rw [List.drop_eq_getElem_cons hlt]
            have : xs[j] = y := (List.getElem?_eq_some_iff.1 hy).2
            rw [this, List.flatMap_cons]
          have e : (y.flat ++ (xs.drop (j + 1)).flatMap V.flat).take sz = y.flat := by rw [← hd]; exact List.take_left
          rw [h2, e] at h1
          exact h1
  | msl k' off m cap =>
    simp only [iaddrV] at hv
    cases hdl : decide (j < m) <;> rw [hdl] at hv
    · cases hv
    cases hv
    have hlt := of_decide_eq_true hdl
    obtain ⟨b, c, hmu, hcap, rfl, _⟩ := hx.msl_inv
    refine ⟨.pointer (some ⟨b, off + j * n, none⟩), ?_, .ptr hmu⟩
    have := run_indexAt_slice (P := P) w t ⟨b, off, none⟩ m c k j (by rw [ht]; simp [Program.elem, ht])
    rw [this, if_pos ⟨by omega, by omega⟩]
    have he : P.elem t = e := by simp [Program.elem, ht]
    rw [he, sizeT_run hn]
    simp [add_lit]
  | _ => simp [iaddrV] at hv
theorem iaddrA_sound {t e : TypeId} {m n : Nat} (ht : P.underlying t = some (.array m e)) (hn : sizeT P e = some n) {u ui : Value} {x i v : V} {j : Nat} (hx : VR g u x) (hi : VR g ui i) (hj : natOf i = some j) (hv : iaddrV n j (some m) x = some v) :
    ∃ z, (Instr.indexAt t u ui).run P w = .ok z w ∧ VR g z v := by
  obtain ⟨k, rfl⟩ := natOf_inv hi hj
  have run : ∀ ad : Addr, j < m → (Instr.indexAt t (.pointer (some ad)) (.int k j)).run P w = .ok (.pointer (some (ad.add (j * n)))) w := by
    intro ad hlt
    have := run_indexAt_array (P := P) w t ad k j (by rw [ht]; simp [Program.arrayLen, Program.elem, ht])
    have hm : P.arrayLen t = m := by simp [Program.arrayLen, ht]
    have he : P.elem t = e := by simp [Program.elem, ht]
    rw [this, hm, he, if_pos ⟨by omega, by omega⟩, sizeT_run hn]
    simp
  cases x with
  | ptr z =>
    cases z with
    | none => simp [iaddrV] at hv
    | some z =>
      obtain ⟨i, o⟩ := z
      simp only [iaddrV] at hv
      cases hd : decide (j < m) <;> rw [hd] at hv
      · cases hv
      · cases hv
        obtain ⟨b, hb, rfl⟩ := hx.ptr_inv
        exact ⟨_, by rw [run _ (of_decide_eq_true hd), add_lit], .ptr hb⟩
  | ro cs =>
    simp only [iaddrV] at hv
    cases hd : decide (j < m) <;> rw [hd] at hv
    · cases hv
    · cases hv
      obtain ⟨b, o, us, rfl, himm, hus⟩ := hx.ro_inv
      refine ⟨_, by rw [run _ (of_decide_eq_true hd), add_lit], .ro (us := us.drop (j * n)) (fun q x hq => ?_) (hus.drop _)⟩
      rw [List.getElem?_drop] at hq
      rw [Nat.add_assoc]
      exact himm _ _ hq
  | _ => simp [iaddrV] at hv
theorem indexA_sound {t e : TypeId} {m n : Nat} {b : Bool} (ht : P.underlying t = some (.array m e)) (hb : aggT P e = some b) (hn : sizeT P e = some n) (h1 : b = true ∨ n = 1) {u ui : Value} {x i v : V} {j : Nat} (hx : VR g u x) (hi : VR g ui i) (hj : natOf i = some j) (hv : indexV m n b j false x = some v) :
    ∃ z, (Instr.index t u ui).run P w = .ok z w ∧ VR g z v := by
  obtain ⟨k, rfl⟩ := natOf_inv hi hj
  unfold indexV at hv
  split at hv
  · rename_i hq; cases hq
  · rename_i cs _
    cases hd : decide (j < m) <;> rw [hd] at hv
    · cases hv
    · simp only [cnd_true] at hv
      have hlt := of_decide_eq_true hd
      obtain ⟨us, rfl, hus, hc⟩ := hx.agg_inv
      obtain ⟨hr, hl⟩ := cut_sound hv h1 hus hc
      have hle : j * n + n ≤ us.length := by
        unfold cut at hv
        have := hus.length
        cases hd : decide (j * n + n ≤ cs.length) <;> rw [hd] at hv
        · cases hv
        · have := of_decide_eq_true hd; omega
      refine ⟨_, ?_, hr⟩
      simp only [Instr.index, Sem.run_bind, asIntOf, Sem.run_pure, Result.andThen_ok, run_underlying ht]
      rw [if_pos ⟨by omega, by omega⟩]
      simp only [Sem.run_bind, sizeT_run hn, Result.andThen_ok, Int.toNat_natCast]
      exact run_part hb hn h1 us (j * n) hle
  · cases hv
theorem indexS_sound {t : TypeId} (ht : P.underlying t = some .string) {u ui : Value} {x i v : V} {j m n : Nat} {b : Bool} (hx : VR g u x) (hi : VR g ui i) (hj : natOf i = some j) (hv : indexV m n b j true x = some v) :
    ∃ z, (Instr.index t u ui).run P w = .ok z w ∧ VR g z v := by
  obtain ⟨k, rfl⟩ := natOf_inv hi hj
  unfold indexV at hv
  split at hv
  · rename_i s _
    obtain ⟨c, hc, hv⟩ := bnd_eq_some hv
    cases hv
    obtain ⟨str, rfl, rfl⟩ := hx.str_inv
    have hlt : j < str.data.toList.length := (List.getElem?_eq_some_iff.1 hc).1
    have hsz : j < str.size := by rw [Array.length_toList] at hlt; exact hlt
    have hget : str[j]? = some c := by
      rw [getElem?_pos str j hsz]
      have := (List.getElem?_eq_some_iff.1 hc).2
      rw [← this]
      rfl
    refine ⟨_, ?_, .i _ _⟩
    simp only [Instr.index, Sem.run_bind, asIntOf, Sem.run_pure, Result.andThen_ok, run_underlying ht]
    rw [if_pos (by omega), Int.toNat_natCast, hget]
    rfl
  · rename_i hq; cases hq
  · cases hv

theorem bytes_sound {m : Imm} : ∀ {us : List Value} {xs : List V} {l : List UInt8}, CRs m us (xs.flatMap V.flat) → bytesOf xs = some l → ∃ ns : List Int, us = ns.map (Value.int .u8) ∧ ns.length = xs.length ∧ l = ns.map fun n => UInt8.ofNat n.toNat
  | us, [], l, hus, h => by
    simp only [bytesOf, Option.some.injEq] at h
    subst h
    cases hus
    exact ⟨[], rfl, rfl, rfl⟩
  | us, x :: xs, l, hus, h => by
    unfold bytesOf at h
    split at h
    · rename_i he; cases he
    · rename_i n ys he
      cases he
      obtain ⟨l', hl', h⟩ := bnd_eq_some h
      cases h
      simp only [List.flatMap_cons, V.flat, List.cons_append, List.nil_append] at hus
      cases hus with
      | cons a b =>
        cases a
        obtain ⟨ns, rfl, h2, rfl⟩ := bytes_sound b hl'
        exact ⟨n :: ns, rfl, by simp [h2], rfl⟩
    · cases h
theorem fold_push : ∀ (ns : List Int) (s : ByteArray), (ns.foldl (fun (r : ByteArray) n => r.push (UInt8.ofNat n.toNat)) s).data.toList = s.data.toList ++ ns.map fun n => UInt8.ofNat n.toNat
  | [], s => by simp
  | n :: ns, s => by rw [List.foldl_cons, fold_push ns]; simp
theorem strOf_sound {s d e : TypeId} (hs : P.underlying s = some (.slice e)) (hd : P.underlying d = some .string) (he : byteT P e = true) (hi : HRead g h w) {u : Value} {x v : V} (hx : VR g u x) (hv : convV .strOfBytes x = some v) :
    ∃ z, (convert s d u).run P w = .ok z w ∧ VR g z v := by
  have he' : P.underlying e = some (.int .u8) := by
    unfold byteT at he
    split at he
    · assumption
    · cases he
  cases x with
  | sl xs =>
    simp only [convV] at hv
    obtain ⟨l, hl, hv⟩ := bnd_eq_some hv
    cases hv
    rcases hx.sl_inv.sl_inv with ⟨rfl, rfl⟩ | ⟨ad, cap, rfl, rfl⟩ | ⟨b, o, cap, sz, us, rfl, hcap, hss, himm, hus⟩
    · cases hl
      refine ⟨.string .empty, ?_, .cell (.str .empty)⟩
      rw [run_convert_bytes_string w s d e none 0 0 hs he' hd]
      simp [Conv.bytesToString]
    · cases hl
      refine ⟨.string .empty, ?_, .cell (.str .empty)⟩
      rw [run_convert_bytes_string w s d e (some ad) 0 cap hs he' hd]
      exact run_bytesToString w ad 0 cap [] (run_loadCells_list (P := P) w ad [] (fun j v hj => by simp at hj))
    · obtain ⟨ns, rfl, hlen, rfl⟩ := bytes_sound hus hl
      have hcells : ∀ j v, (ns.map (Value.int .u8))[j]? = some v → w.cell? ((⟨b, o, none⟩ : Addr).add j) = some v := fun j v hj => by rw [add_lit]; exact hi.imm _ _ _ (himm j v hj)
      have hload := run_loadCells_list (P := P) w ⟨b, o, none⟩ _ hcells
      rw [List.length_map, hlen] at hload
      refine ⟨_, by rw [run_convert_bytes_string w s d e _ _ _ hs he' hd]; exact run_bytesToString w ⟨b, o, none⟩ xs.length cap ns hload, ?_⟩
      have := fold_push ns ByteArray.empty
      simp only [ByteArray.empty, ByteArray.emptyWithCapacity] at this
      have e2 : (ns.map fun n => UInt8.ofNat n.toNat) = (ns.foldl (fun (r : ByteArray) n => r.push (UInt8.ofNat n.toNat)) ByteArray.empty).data.toList := by
        rw [fold_push]; rfl
      rw [e2]
      exact .cell (.str _)
  | _ => simp [convV] at hv
theorem toInt_sound {s d : TypeId} {k k' : IntKind} (hs : P.underlying s = some (.int k')) (hd : P.underlying d = some (.int k)) {u : Value} {x v : V} (hx : VR g u x) (hv : convV (.toInt k) x = some v) :
    ∃ z, (convert s d u).run P w = .ok z w ∧ VR g z v := by
  cases x with
  | int q n =>
    simp only [convV, Option.some.injEq] at hv
    subst hv
    cases hx.int_inv
    exact ⟨_, by simp [convert, run_underlying hs, run_underlying hd, Conv.intToInt], .i _ _⟩
  | _ => simp [convV] at hv
theorem sameStr_sound {s d : TypeId} (hs : P.underlying s = some .string) (hd : P.underlying d = some .string) {u : Value} {x v : V} (hx : VR g u x) (hv : convV .same x = some v) :
    ∃ z, (convert s d u).run P w = .ok z w ∧ VR g z v := by
  cases x with
  | str l =>
    simp only [convV, Option.some.injEq] at hv
    subst hv
    obtain ⟨str, rfl, rfl⟩ := hx.str_inv
    exact ⟨_, by simp [convert, run_underlying hs, run_underlying hd], hx⟩
  | _ => simp [convV] at hv

theorem keyK_inv {t : TypeId} {q : SK} (h : keyK P t = some q) : (q = .i ∧ ∃ k, P.underlying t = some (.int k)) ∨ (q = .s ∧ P.underlying t = some .string) := by
  unfold keyK at h
  split at h <;> cases h
  · rename_i k hk; exact .inl ⟨rfl, k, hk⟩
  · rename_i hk; exact .inr ⟨rfl, hk⟩
theorem sameNow_of {t : TypeId} {q : SK} (hq : keyK P t = some q) {d : TypeDesc} (hd : P.underlying t = some d) {u u' : Value} {x x' : V} {r : Bool} (hx : VR g u x) (hx' : CR g.imm u' x') (he : cellEq q x x' = some r) : Instr.sameNow d u u' = some r := by
  rcases hx.cellEq_iff (.cell hx') he with ⟨rfl, _⟩ | ⟨rfl, k, a, b, rfl, rfl, rfl⟩ | ⟨rfl, a, b, rfl, rfl, rfl⟩
  · rcases keyK_inv hq with ⟨h, _⟩ | ⟨h, _⟩ <;> cases h
  · rcases keyK_inv hq with ⟨_, k', hk⟩ | ⟨h, _⟩
    · rw [hk] at hd; cases hd; simp [Instr.sameNow]
    · cases h
  · rcases keyK_inv hq with ⟨h, _⟩ | ⟨_, hk⟩
    · cases h
    · rw [hk] at hd; cases hd
      simp only [Instr.sameNow, Option.some.injEq]
      rw [beq_toListBytes, ByteArray.toList_eq, ByteArray.toList_eq]
theorem checkKey_run {t : TypeId} {q : SK} (hq : keyK P t = some q) {u : Value} {x : V} (hx : VR g u x) (hk : isKey q x = true) (em : Bool) : (Instr.checkKey em 10000 t u).run P w = .ok () w := by
  have key : ∀ d, (Instr.checkKey em (d + 1) t u).run P w = .ok () w := by
    intro d
    rcases keyK_inv hq with ⟨rfl, k, hu⟩ | ⟨rfl, hu⟩
    · cases x <;> simp only [isKey, Bool.false_eq_true] at hk
      cases hx.int_inv
      simp [Instr.checkKey, run_underlying hu]
    · cases x <;> simp only [isKey, Bool.false_eq_true] at hk
      obtain ⟨s, rfl, rfl⟩ := hx.str_inv
      simp [Instr.checkKey, run_underlying hu]
  exact key 9999
theorem findNow_of {t : TypeId} {q : SK} (hq : keyK P t = some q) {d : TypeDesc} (hd : P.underlying t = some d) {u : Value} {x : V} (hx : VR g u x) :
    ∀ (es : List MapEntry) (ps : List (V × V)) (r : Option V) (k : Nat), ERels g es ps → findV q x ps = some r →
      (r = none → Instr.findNow d u es k = some none) ∧ (∀ v, r = some v → ∃ i e, es[i]? = some e ∧ Instr.findNow d u es k = some (some (k + i, e.val)) ∧ VR g e.val v)
  | [], [], r, k, _, h => by simp only [findV, Option.some.injEq] at h; subst h; exact ⟨fun _ => rfl, fun v hv => (by cases hv)⟩
  | e :: es, p :: ps, r, k, hrel, h => by
    obtain ⟨k', v'⟩ := p
    simp only [ERels] at hrel
    simp only [findV] at h
    obtain ⟨b, hb, h⟩ := bnd_eq_some h
    have hs := sameNow_of hq hd hx hrel.1.1 hb
    cases b
    · simp only [cnd_false] at h
      have ih := findNow_of hq hd hx es ps r (k + 1) hrel.2 h
      refine ⟨fun hr => by simp only [Instr.findNow, hs]; exact ih.1 hr, fun v hv => ?_⟩
      obtain ⟨i, e', h1, h2, h3⟩ := ih.2 v hv
      exact ⟨i + 1, e', by simpa using h1, by simp only [Instr.findNow, hs, h2]; congr 3; omega, h3⟩
    · simp only [cnd_true, Option.some.injEq] at h
      subst h
      refine ⟨fun hr => (by cases hr), fun v hv => ?_⟩
      cases hv
      exact ⟨0, e, rfl, by simp only [Instr.findNow, hs]; rfl, hrel.1.2⟩
theorem mapOf_run (hi : HRead g h w) {u : Value} {x : V} {es : List (V × V)} (hx : VR g u x) (hm : mapOf h x = some es) :
    (u = .map none ∧ es = []) ∨ ∃ b rs clock, u = .map (some b) ∧ w.heap[b]? = some (.map rs clock) ∧ ERels g rs.toList es := by
  cases x with
  | map z =>
    cases z with
    | none =>
      simp only [mapOf, Option.some.injEq] at hm
      exact .inl ⟨hx.nilm_inv, hm.symm⟩
    | some i =>
      simp only [mapOf, mapAt, hget] at hm
      split at hm
      · rename_i es' hh
        cases hm
        obtain ⟨b, hb, rfl⟩ := hx.map_inv
        obtain ⟨b', hb', rs, clock, h1, h2⟩ := hi.obj i _ hh rfl
        rw [hb] at hb'; cases hb'
        exact .inr ⟨b, rs, clock, rfl, h1, h2.1⟩
      · cases hm
  | _ => simp [mapOf] at hm
theorem ERels.length : ∀ {es : List MapEntry} {ps : List (V × V)}, ERels g es ps → es.length = ps.length
  | [], [], _ => rfl
  | _ :: _, _ :: _, h => by simp only [ERels] at h; simp [h.2.length]
theorem lookup_sound (hi : HRead g h w) {t kt e : TypeId} {q : SK} {z : Value} {zv : V} (ht : P.underlying t = some (.map kt e)) (hq : keyK P kt = some q) (hz : zeroT P e = some z) (hzv : trConst z = some zv)
    {um uk : Value} {m k v : V} {ok : Bool} (hm : VR g um m) (hk : VR g uk k) {es : List (V × V)} (hes : mapOf h m = some es) (hkey : isKey q k = true) {r : Option V} (hr : findV q k es = some r) (hv : found zv ok r = v) :
    ∃ y, (Instr.lookup t um uk ok).run P w = .ok y w ∧ VR g y v := by
  have hzero : (zeroValue e).run P w = .ok z w := by
    unfold zeroT at hz
    obtain ⟨i, hinf, hz⟩ := bnd_eq_some hz
    simp [zeroValue, typeInfo, hinf, hz]
  have hzr : VR g z zv := trConst_sound hzv
  have hd : ∃ d, P.underlying kt = some d := by
    rcases keyK_inv hq with ⟨_, k, h⟩ | ⟨_, h⟩ <;> exact ⟨_, h⟩
  obtain ⟨d, hd⟩ := hd
  have fin : ∀ (rs : Array MapEntry), ERels g rs.toList es → ∃ y : Value, ((do
      Instr.checkKey rs.isEmpty 10000 kt uk
      let (v, o) ← match ← Instr.findKey kt uk rs.toList with
        | some (_, v) => pure (v, true)
        | none => do pure (← zeroValue e, false)
      pure (if ok then .tuple #[v, .bool o] else v) : Sem Value)).run P w = .ok y w ∧ VR g y v := by
    intro rs hrel
    have hf := findNow_of hq hd hk rs.toList es r 0 hrel hr
    have hck := checkKey_run (w := w) hq hk hkey rs.isEmpty
    cases r with
    | none =>
      have h1 := hf.1 rfl
      have hfk : (Instr.findKey kt uk rs.toList).run P w = .ok none w := by simp only [Instr.findKey, Sem.run_bind, run_underlying hd, Result.andThen_ok, h1]; rfl
      simp only [Sem.run_bind, hck, Result.andThen_ok, hfk, hzero, Sem.run_pure]
      cases ok <;> subst hv
      · exact ⟨_, rfl, hzr⟩
      · exact ⟨_, rfl, .tup (us := [z, .bool false]) (.cons hzr (.cons (.b _) .nil))⟩
    | some x =>
      obtain ⟨i, en, _, h1, h2⟩ := hf.2 x rfl
      have hfk : (Instr.findKey kt uk rs.toList).run P w = .ok (some (0 + i, en.val)) w := by simp only [Instr.findKey, Sem.run_bind, run_underlying hd, Result.andThen_ok, h1]; rfl
      simp only [Sem.run_bind, hck, Result.andThen_ok, hfk, Sem.run_pure]
      cases ok <;> subst hv
      · exact ⟨_, rfl, h2⟩
      · exact ⟨_, rfl, .tup (us := [en.val, .bool true]) (.cons h2 (.cons (.b _) .nil))⟩
  rcases mapOf_run hi hm hes with ⟨rfl, rfl⟩ | ⟨b, rs, clock, rfl, hheap, hrel⟩
  · obtain ⟨y, hy, hyr⟩ := fin #[] trivial
    refine ⟨y, ?_, hyr⟩
    rw [← hy]
    simp only [Instr.lookup, Sem.run_bind, run_underlying ht, Result.andThen_ok, Sem.run_pure]
    rfl
  · obtain ⟨y, hy, hyr⟩ := fin rs hrel
    refine ⟨y, ?_, hyr⟩
    rw [← hy]
    have hobj : (getObj b).run P w = .ok (.map rs clock) w := by simp [getObj, Sem.run, hheap]
    simp only [Instr.lookup, Sem.run_bind, run_underlying ht, Result.andThen_ok, hobj, Sem.run_pure]
    rfl

theorem lenV_sound (hi : HRead g h w) {u : Value} {x v : V} {k : LK} {t ty : TypeId} (hx : VR g u x) (hv : lenV h k x = some v)
    (hk : (k = .str ∧ P.underlying t = some .string) ∨ (k = .sl ∧ ∃ e, P.underlying t = some (.slice e)) ∨ (k = .map ∧ ∃ a b, P.underlying t = some (.map a b)) ∨ (∃ n, k = .arr n ∧ ((∃ e, P.underlying t = some (.array n e)) ∨ ∃ r e, P.underlying t = some (.pointer r) ∧ P.underlying r = some (.array n e)))) :
    ∃ z, (Builtin.len_ #[t] ty #[u]).run P w = .ok z w ∧ VR g z v := by
  rcases hk with ⟨rfl, ht⟩ | ⟨rfl, e, ht⟩ | ⟨rfl, k', e, ht⟩ | ⟨n, rfl, ht⟩
  · cases x with
    | str l =>
      simp only [lenV, Option.some.injEq] at hv
      subst hv
      obtain ⟨s, rfl, rfl⟩ := hx.str_inv
      refine ⟨_, by simp [Builtin.len_, run_underlying ht]; rfl, ?_⟩
      have : s.size = s.data.toList.length := by rw [Array.length_toList]; rfl
      rw [this]
      exact .i _ _
    | _ => simp [lenV] at hv
  · cases x with
    | sl xs =>
      simp only [lenV, Option.some.injEq] at hv
      subst hv
      rcases hx.sl_inv.sl_inv with ⟨rfl, rfl⟩ | ⟨ad, cap, rfl, rfl⟩ | ⟨b, o, cap, sz, us, rfl, _, _, _, _⟩
      · exact ⟨_, by simp [Builtin.len_, run_underlying ht]; rfl, .i _ _⟩
      · exact ⟨_, by simp [Builtin.len_, run_underlying ht]; rfl, .i _ _⟩
      · exact ⟨_, by simp [Builtin.len_, run_underlying ht]; rfl, .i _ _⟩
    | nsl =>
      simp only [lenV, Option.some.injEq] at hv
      subst hv
      cases hx.nsl_inv
      exact ⟨_, by simp [Builtin.len_, run_underlying ht]; rfl, .i _ _⟩
    | msl k' off m cap =>
      simp only [lenV, Option.some.injEq] at hv
      subst hv
      obtain ⟨b, c, hmu, hcap, rfl, _⟩ := hx.msl_inv
      exact ⟨_, by simp [Builtin.len_, run_underlying ht]; rfl, .i _ _⟩
    | eml k' z' =>
      simp only [lenV, Option.some.injEq] at hv
      subst hv
      obtain ⟨b, c, rfl, _⟩ := hx.eml_inv
      exact ⟨_, by simp [Builtin.len_, run_underlying ht]; rfl, .i _ _⟩
    | _ => simp [lenV] at hv
  · cases x with
    | map z =>
      simp only [lenV] at hv
      obtain ⟨es, hes, hv⟩ := bnd_eq_some hv
      cases hv
      rcases mapOf_run hi hx hes with ⟨rfl, rfl⟩ | ⟨b, rs, clock, rfl, hheap, hrel⟩
      · exact ⟨_, by simp [Builtin.len_, run_underlying ht]; rfl, .i _ _⟩
      · have hobj : (getObj b).run P w = .ok (.map rs clock) w := by simp [getObj, Sem.run, hheap]
        refine ⟨.int .i64 rs.size, by simp [Builtin.len_, run_underlying ht, hobj, goInt], ?_⟩
        have := hrel.length
        rw [Array.length_toList] at this
        rw [this]
        exact .i _ _
    | _ => simp [lenV] at hv
  · have hv : v = .int .i64 n := by cases x <;> simp only [lenV, Option.some.injEq] at hv <;> exact hv.symm
    subst hv
    rcases ht with ⟨e, ht⟩ | ⟨r, e, ht, hr⟩
    · exact ⟨_, by simp [Builtin.len_, run_underlying ht]; rfl, .i _ _⟩
    · exact ⟨_, by simp [Builtin.len_, run_underlying ht, run_underlying hr]; rfl, .i _ _⟩
theorem nilck_sound {u : Value} {x v : V} (hx : VR g u x) (hv : nilckV x = some v) : VR g u v ∧ ((∃ ad, u = .pointer (some ad)) ∨ ∃ f p q, u = .func (.func f) p q) := by
  unfold nilckV at hv
  split at hv <;> cases hv
  · rename_i z
    obtain ⟨i, o⟩ := z
    obtain ⟨b, _, rfl⟩ := hx.ptr_inv
    exact ⟨hx, .inl ⟨_, rfl⟩⟩
  · obtain ⟨b, o, us, rfl, _, _⟩ := hx.ro_inv
    exact ⟨hx, .inl ⟨_, rfl⟩⟩
  · obtain ⟨us, vs, rfl, _, _⟩ := hx.fn_inv
    exact ⟨hx, .inr ⟨_, _, _, rfl⟩⟩
end
end Go.Vm

/- Every operation that leaves memory alone: one theorem. -/
set_option linter.unusedVariables false
set_option linter.unusedSimpArgs false
namespace Go.Vm
attribute [local simp] evalOps_nil evalOps_cons evalOps_consg evalOp_mv evalOp_asg evalOp_pick evalOp_build evalOp_bslice evalOp_load evalOp_nilck evalOp_bin evalOp_un evalOp_conv evalOp_mkfn evalOp_slice evalOp_faddr evalOp_field evalOp_iaddr evalOp_index evalOp_lookup evalOp_extract evalOp_app evalOp_len evalOp_mn evalOp_mx evalOp_alloc evalOp_box evalOp_mkmap evalOp_store evalOp_mapupd evalOp_delete evalOp_sliceArr evalOp_call evalOp_callv evalOp_appc code_skip code_ops code_dops code_seq code_cond code_block code_exit code_ret finish_normal finish_ret
attribute [local simp] V.lt V.ltL V.flat V.pureCell V.pure V.isCell cellEq cellsEq eqV intV shV strV isShift binV unV byteV convV minV maxV foldV foldV1 fillV fillE findV putV delV isKey natOf natOr cut cellsAt mapAt mapOf loadV pickV nilckV sizeOk allSize sliceV faddrV fieldV iaddrV indexV found extractV allPure appV lenV ownHas ownOk storeC storeV samePtr appcV boxable mapupdV deleteV sliceArrV callV allLt clean bodyEnd resV one finishV runV initR
def quietOp : VOp → Bool
  | .alloc _ _ | .box _ _ | .store _ _ _ _ _ | .bslice _ _ _ _ | .conv .bytesOfStr _ | .mkmap | .sliceArr _ _ _ | .mapupd _ _ _ _ | .delete _ _ _ | .call _ _ _ | .callv _ _ _ | .app _ _ _ _ _ | .appc _ _ _ _ _ | .newl _ | .appl _ _ _ _ _ | .lenl _ _ | .slf _ _ _ _ _ | .calll _ _ _ _ _ _ | .bld _ _ _ | .boxo _ _ _ | .bstr _ | .isnil _ | .mvn | .bsll _ _ _ _ | .appm _ _ _ _ | .thwr _ _ | .thwc _ _ _ | .setc _ _ _ _ | .frzr _ _ _ | .frzc _ _ _ _ | .frzl _ _ | .mrk _ _ | .clr _ _ | .mkm _ _ _ | .bad => false
  | _ => true
section
variable {P : Program} {g : Gh} {h : Heap} {w : World} {a : Act} {rs : Regs}

theorem run_v {s : Sem Value} {u : Value} {w' : World} (hs : s.run P w = .ok u w') : (do pure (Next.value (← s)) : Sem Next).run P w = .ok (.value u) w' := by
  simp only [Sem.run_bind, hs, Result.andThen_ok, Sem.run_pure]
theorem foldV1_sound {f : V → V → Option V} {F : Value → Value → Sem Value} (hf : ∀ {u u' : Value} {v v' r : V}, VR g u v → VR g u' v' → f v v' = some r → ∃ z, (F u u').run P w = .ok z w ∧ VR g z r)
    {us : List Value} {vs : List V} {r : V} (hu : VRs g us vs) (he : foldV1 f vs = some r) : ∃ u us', us = u :: us' ∧ ∃ z, (us'.foldlM F u).run P w = .ok z w ∧ VR g z r := by
  cases hu with
  | nil => simp [foldV1] at he
  | cons x y => exact ⟨_, _, rfl, foldV_sound hf x y he⟩

set_option maxHeartbeats 1000000 in
theorem quiet_sound (hi : HRead g h w) (hr : RR g a rs) {o : Oper} {gd vop : VOp} (htr : trOp P o.op o.type gd = some vop) (hq : quietOp vop = true) {v : V} (hv : valOp h rs vop = some v) :
    ∃ u, (execOp a.eval o).run P w = .ok (.value u) w ∧ VR g u v := by
  obtain ⟨dst, op, ty, pos, after, guard⟩ := o
  cases op <;> simp only [trOp, reduceCtorEq] at htr
  case move x =>
    obtain ⟨x', hx, htr⟩ := bnd_eq_some htr
    cases htr
    cases hv
    exact ⟨_, rfl, trArg_sound hr hx⟩
  case assign x =>
    split at htr
    · obtain ⟨x', hx, htr⟩ := bnd_eq_some htr
      cases htr
      cases hv
      exact ⟨_, rfl, trArg_sound hr hx⟩
    · obtain ⟨x', hx, htr⟩ := bnd_eq_some htr
      cases htr
      cases hv
      exact ⟨_, rfl, trArg_sound hr hx⟩
  case pick c x y =>
    obtain ⟨c', hc, htr⟩ := bnd_eq_some htr
    obtain ⟨x', hx, htr⟩ := bnd_eq_some htr
    obtain ⟨y', hy, htr⟩ := bnd_eq_some htr
    cases htr
    simp only [valOp] at hv
    have hc := trArg_sound hr hc
    cases hcv : c'.val rs <;> rw [hcv] at hv hc <;> simp only [pickV, Option.some.injEq, reduceCtorEq] at hv
    rename_i t
    have hcb := hc.bool_inv
    subst hv
    refine ⟨if t then a.eval x else a.eval y, ?_, ?_⟩
    · simp [execOp, hcb, asBool]
    · cases t
      · exact trArg_sound hr hy
      · exact trArg_sound hr hx
  case alloc e => split at htr <;> (try cases htr; done); obtain ⟨z, _, htr⟩ := bnd_eq_some htr; obtain ⟨cs, _, htr⟩ := bnd_eq_some htr; cases htr; cases hq
  case box e x => obtain ⟨z, _, htr⟩ := bnd_eq_some htr; obtain ⟨cs, _, htr⟩ := bnd_eq_some htr; cases htr; cases hq
  case build t parts => 
    obtain ⟨u, hu, hur⟩ := build_sound (w := w) (t := t) (parts := parts) hr htr hv
    exact ⟨u, run_v hu, hur⟩
  case buildSlice t n parts =>
    obtain ⟨_, _, htr⟩ := bnd_eq_some htr; obtain ⟨_, _, htr⟩ := bnd_eq_some htr; obtain ⟨_, _, htr⟩ := bnd_eq_some htr; obtain ⟨_, _, htr⟩ := bnd_eq_some htr; obtain ⟨_, _, htr⟩ := bnd_eq_some htr
    split at htr <;> cases htr
    cases hq
  case load t x =>
    obtain ⟨b, hb, htr⟩ := bnd_eq_some htr
    obtain ⟨n, hn, htr⟩ := bnd_eq_some htr
    obtain ⟨x', hx, htr⟩ := bnd_eq_some htr
    split at htr <;> cases htr
    have h1 : b = true ∨ n = 1 := by assumption
    obtain ⟨u, hu, hur⟩ := loadV_sound (P := P) hi hb hn h1 (trArg_sound hr hx) hv
    exact ⟨u, run_v hu, hur⟩
  case store t x y => split at htr <;> (try cases htr; done); obtain ⟨z, _, htr⟩ := bnd_eq_some htr; obtain ⟨cs, _, htr⟩ := bnd_eq_some htr; obtain ⟨_, _, htr⟩ := bnd_eq_some htr; cases htr; cases hq
  case nilCheck x =>
    obtain ⟨x', hx, htr⟩ := bnd_eq_some htr
    cases htr
    obtain ⟨h1, h2⟩ := nilck_sound (trArg_sound hr hx) hv
    refine ⟨_, ?_, h1⟩
    rcases h2 with ⟨ad, h2⟩ | ⟨f, p, q, h2⟩
    · simp [execOp, h2]
    · simp [execOp, h2]
  case binOp o t x y yt =>
    obtain ⟨x', hx, htr⟩ := bnd_eq_some htr
    obtain ⟨y', hy, htr⟩ := bnd_eq_some htr
    cases htr
    obtain ⟨u, hu, hur⟩ := binV_sound (w := w) (x := x) (y := y) (trArg_sound hr hx) (trArg_sound hr hy) hv
    exact ⟨u, run_v hu, hur⟩
  case unOp o t x =>
    obtain ⟨x', hx, htr⟩ := bnd_eq_some htr
    cases htr
    obtain ⟨u, hu, hur⟩ := unV_sound (P := P) (w := w) (trArg_sound hr hx) hv
    exact ⟨u, run_v hu, hur⟩
  case convert s d x =>
    obtain ⟨x', hx, htr⟩ := bnd_eq_some htr
    split at htr
    · rename_i h1 h2
      cases htr
      obtain ⟨u, hu, hur⟩ := toInt_sound (w := w) h1 h2 (trArg_sound hr hx) hv
      exact ⟨u, run_v hu, hur⟩
    · rename_i h1 h2
      cases htr
      obtain ⟨u, hu, hur⟩ := sameStr_sound (w := w) h1 h2 (trArg_sound hr hx) hv
      exact ⟨u, run_v hu, hur⟩
    · rename_i e h1 h2
      cases he : byteT P e <;> rw [he] at htr <;> cases htr
      obtain ⟨u, hu, hur⟩ := strOf_sound (w := w) h1 h2 he hi (trArg_sound hr hx) hv
      exact ⟨u, run_v hu, hur⟩
    · rename_i e h1 h2
      cases he : byteT P e <;> rw [he] at htr <;> cases htr
      cases hq
    · cases htr
  case makeFunc f first caps =>
    split at htr
    · obtain ⟨p, hp, htr⟩ := bnd_eq_some htr
      obtain ⟨q, hq', htr⟩ := bnd_eq_some htr
      cases htr
      cases hv
      refine ⟨.func (.func _) (first.map a.eval) (caps.map a.eval), rfl, ?_⟩
      have h1 := trArgs_sound hr hp
      have h2 := trArgs_sound hr hq'
      have := VR.fn (f := by assumption) h1 h2
      have e1 : first.map a.eval = (first.toList.map a.eval).toArray := by apply Array.ext'; simp
      have e2 : caps.map a.eval = (caps.toList.map a.eval).toArray := by apply Array.ext'; simp
      rw [e1, e2]
      exact this
    · cases htr
  case makeMap t r => split at htr <;> cases htr; cases hq
  case slice t x lo hi' mx =>
    obtain ⟨x', hx, htr⟩ := bnd_eq_some htr
    obtain ⟨l, hl, htr⟩ := bnd_eq_some htr
    obtain ⟨u, hu, htr⟩ := bnd_eq_some htr
    obtain ⟨m, hm, htr⟩ := bnd_eq_some htr
    split at htr
    · rename_i ht
      cases htr
      obtain ⟨z, hz, hzr⟩ := sliceS_sound (w := w) hr ht (trArg_sound hr hx) hl hu hm hv
      exact ⟨z, run_v hz, hzr⟩
    · rename_i e ht
      obtain ⟨n, hn, htr⟩ := bnd_eq_some htr
      cases htr
      obtain ⟨z, hz, hzr⟩ := slice_sound (w := w) hr ht hn (trArg_sound hr hx) hl hu hm hv
      exact ⟨z, run_v hz, hzr⟩
    · split at htr
      · obtain ⟨n, hn, htr⟩ := bnd_eq_some htr
        cases htr
        cases hq
      · cases htr
    · cases htr
  case fieldAddr t x f =>
    obtain ⟨fd, hf, htr⟩ := bnd_eq_some htr
    obtain ⟨n, hn, htr⟩ := bnd_eq_some htr
    obtain ⟨x', hx, htr⟩ := bnd_eq_some htr
    split at htr <;> cases htr
    have hpos : 0 < n := by assumption
    obtain ⟨z, hz, hzr⟩ := faddr_sound (w := w) hf hn hpos (trArg_sound hr hx) hv
    exact ⟨z, run_v hz, hzr⟩
  case field t x f =>
    obtain ⟨fd, hf, htr⟩ := bnd_eq_some htr
    obtain ⟨b, hb, htr⟩ := bnd_eq_some htr
    obtain ⟨n, hn, htr⟩ := bnd_eq_some htr
    obtain ⟨x', hx, htr⟩ := bnd_eq_some htr
    split at htr <;> cases htr
    have h1 : b = true ∨ n = 1 := by assumption
    obtain ⟨z, hz, hzr⟩ := field_sound (w := w) hf hb hn h1 (trArg_sound hr hx) hv
    exact ⟨z, run_v hz, hzr⟩
  case indexAddr t x i =>
    obtain ⟨x', hx, htr⟩ := bnd_eq_some htr
    obtain ⟨i', hi', htr⟩ := bnd_eq_some htr
    split at htr
    · rename_i e ht
      obtain ⟨n, hn, htr⟩ := bnd_eq_some htr
      cases htr
      simp only [valOp] at hv
      obtain ⟨j, hj, hv⟩ := bnd_eq_some hv
      obtain ⟨z, hz, hzr⟩ := iaddrS_sound (w := w) ht hn (trArg_sound hr hx) (trArg_sound hr hi') hj hv
      exact ⟨z, run_v hz, hzr⟩
    · rename_i m e ht
      obtain ⟨n, hn, htr⟩ := bnd_eq_some htr
      cases htr
      simp only [valOp] at hv
      obtain ⟨j, hj, hv⟩ := bnd_eq_some hv
      obtain ⟨z, hz, hzr⟩ := iaddrA_sound (w := w) ht hn (trArg_sound hr hx) (trArg_sound hr hi') hj hv
      exact ⟨z, run_v hz, hzr⟩
    · cases htr
  case index t x i =>
    obtain ⟨x', hx, htr⟩ := bnd_eq_some htr
    obtain ⟨i', hi', htr⟩ := bnd_eq_some htr
    split at htr
    · rename_i ht
      cases htr
      simp only [valOp] at hv
      obtain ⟨j, hj, hv⟩ := bnd_eq_some hv
      obtain ⟨z, hz, hzr⟩ := indexS_sound (w := w) ht (trArg_sound hr hx) (trArg_sound hr hi') hj hv
      exact ⟨z, run_v hz, hzr⟩
    · rename_i m e ht
      obtain ⟨b, hb, htr⟩ := bnd_eq_some htr
      obtain ⟨n, hn, htr⟩ := bnd_eq_some htr
      split at htr <;> cases htr
      have h1 : b = true ∨ n = 1 := by assumption
      simp only [valOp] at hv
      obtain ⟨j, hj, hv⟩ := bnd_eq_some hv
      obtain ⟨z, hz, hzr⟩ := indexA_sound (w := w) ht hb hn h1 (trArg_sound hr hx) (trArg_sound hr hi') hj hv
      exact ⟨z, run_v hz, hzr⟩
    · cases htr
  case lookup t x i ok =>
    obtain ⟨x', hx, htr⟩ := bnd_eq_some htr
    obtain ⟨i', hi', htr⟩ := bnd_eq_some htr
    split at htr
    · rename_i kt e ht
      obtain ⟨q, hqq, htr⟩ := bnd_eq_some htr
      obtain ⟨z, hz, htr⟩ := bnd_eq_some htr
      obtain ⟨zv, hzv, htr⟩ := bnd_eq_some htr
      cases htr
      simp only [valOp] at hv
      obtain ⟨es, hes, hv⟩ := bnd_eq_some hv
      cases hkey : isKey q (i'.val rs) <;> rw [hkey] at hv
      · cases hv
      · simp only [cnd_true] at hv
        obtain ⟨r, hrr, hv⟩ := bnd_eq_some hv
        obtain ⟨z, hz, hzr⟩ := lookup_sound (w := w) hi ht hqq hz hzv (trArg_sound hr hx) (trArg_sound hr hi') hes hkey hrr (Option.some.inj hv)
        exact ⟨z, run_v hz, hzr⟩
    · cases htr
  case mapUpdate t m k x =>
    split at htr <;> (try cases htr; done)
    obtain ⟨_, _, htr⟩ := bnd_eq_some htr; obtain ⟨_, _, htr⟩ := bnd_eq_some htr; obtain ⟨_, _, htr⟩ := bnd_eq_some htr; obtain ⟨_, _, htr⟩ := bnd_eq_some htr
    cases htr; cases hq
  case insert t m k x =>
    split at htr <;> (try cases htr; done)
    obtain ⟨_, _, htr⟩ := bnd_eq_some htr; obtain ⟨_, _, htr⟩ := bnd_eq_some htr; obtain ⟨_, _, htr⟩ := bnd_eq_some htr; obtain ⟨_, _, htr⟩ := bnd_eq_some htr
    cases htr; cases hq
  case extract x i =>
    obtain ⟨x', hx, htr⟩ := bnd_eq_some htr
    cases htr
    simp only [valOp] at hv
    have hx := trArg_sound hr hx
    cases hxv : x'.val rs <;> rw [hxv] at hv hx <;> simp only [extractV, reduceCtorEq] at hv
    rename_i vs
    obtain ⟨us, hus, hrel⟩ := hx.tup_inv
    obtain ⟨u, hu, hur⟩ := hrel.get i v hv
    refine ⟨u, run_v ?_, hur⟩
    simp [Instr.extract, hus, hu]
  case call c =>
    obtain ⟨callee, args, argTypes⟩ := c
    cases callee with
    | value f =>
      cases f <;> simp only at htr <;> split at htr <;> (try cases htr; done) <;> first
        | (obtain ⟨_, _, htr⟩ := bnd_eq_some htr; cases htr; cases hq; done)
        | (obtain ⟨_, _, htr⟩ := bnd_eq_some htr; obtain ⟨_, _, htr⟩ := bnd_eq_some htr; cases htr; cases hq; done)
    | invoke r m => simp only [reduceCtorEq] at htr
    | builtin b =>
      cases b <;> simp only [reduceCtorEq] at htr
      case append =>
        split at htr <;> (try cases htr; done)
        obtain ⟨_, _, htr⟩ := bnd_eq_some htr; obtain ⟨_, _, htr⟩ := bnd_eq_some htr; obtain ⟨_, _, htr⟩ := bnd_eq_some htr; obtain ⟨_, _, htr⟩ := bnd_eq_some htr
        split at htr <;> (try cases htr; done)
        split at htr <;> (try cases htr; done)
        split at htr <;> cases htr <;> cases hq
      case delete =>
        split at htr <;> (try cases htr; done)
        split at htr <;> (try cases htr; done)
        obtain ⟨_, _, htr⟩ := bnd_eq_some htr; obtain ⟨_, _, htr⟩ := bnd_eq_some htr; obtain ⟨_, _, htr⟩ := bnd_eq_some htr
        cases htr; cases hq
      case len =>
        split at htr
        · rename_i x t hargs htys
          have ea : args = #[x] := by apply Array.ext'; simpa using hargs
          have et : argTypes = #[t] := by apply Array.ext'; simpa using htys
          subst ea et
          obtain ⟨x', hx, htr⟩ := bnd_eq_some htr
          have fin : ∀ k, vop = .len k x' → ((k = .str ∧ P.underlying t = some .string) ∨ (k = .sl ∧ ∃ e, P.underlying t = some (.slice e)) ∨ (k = .map ∧ ∃ a b, P.underlying t = some (.map a b)) ∨ (∃ n, k = .arr n ∧ ((∃ e, P.underlying t = some (.array n e)) ∨ ∃ r e, P.underlying t = some (.pointer r) ∧ P.underlying r = some (.array n e)))) →
              ∃ u, (execOp a.eval { dst, op := .call { callee := .builtin .len, args := #[x], argTypes := #[t] }, type := ty, pos, after, guard }).run P w = .ok (.value u) w ∧ VR g u v := by
            intro k hk hcase
            subst hk
            obtain ⟨z, hz, hzr⟩ := lenV_sound (w := w) (ty := ty) hi (trArg_sound hr hx) hv hcase
            refine ⟨z, ?_, hzr⟩
            simp only [execOp, resolve, invoke, builtin, Sem.run_bind, Sem.run_pure, Result.andThen_ok]
            have : (#[x].map a.eval) = #[a.eval x] := by simp
            rw [this, hz]
            rfl
          split at htr
          · rename_i ht; cases htr; exact fin _ rfl (.inl ⟨rfl, ht⟩)
          · rename_i e ht; cases htr; exact fin _ rfl (.inr (.inl ⟨rfl, _, ht⟩))
          · rename_i p q ht; cases htr; exact fin _ rfl (.inr (.inr (.inl ⟨rfl, _, _, ht⟩)))
          · rename_i n e ht; cases htr; exact fin _ rfl (.inr (.inr (.inr ⟨_, rfl, .inl ⟨_, ht⟩⟩)))
          · rename_i r ht
            obtain ⟨ar, har, htr⟩ := bnd_eq_some htr
            cases htr
            unfold arrayT at har
            split at har
            · rename_i n e hr'
              cases har
              exact fin _ rfl (.inr (.inr (.inr ⟨_, rfl, .inr ⟨_, _, ht, hr'⟩⟩)))
            · cases har
          · cases htr
        · cases htr
      case min =>
        obtain ⟨as, has, htr⟩ := bnd_eq_some htr
        cases htr
        obtain ⟨u, us', hus, z, hz, hzr⟩ := foldV1_sound (P := P) (w := w) (F := Builtin.min2) minV_sound (trArgs_sound hr has) hv
        refine ⟨z, ?_, hzr⟩
        have : (args.map a.eval).toList = u :: us' := by simpa using hus
        simp only [execOp, resolve, invoke, builtin, Builtin.min_, this, Sem.run_bind, Sem.run_pure, Result.andThen_ok, hz]
      case max =>
        obtain ⟨as, has, htr⟩ := bnd_eq_some htr
        cases htr
        obtain ⟨u, us', hus, z, hz, hzr⟩ := foldV1_sound (P := P) (w := w) (F := Builtin.max2) maxV_sound (trArgs_sound hr has) hv
        refine ⟨z, ?_, hzr⟩
        have : (args.map a.eval).toList = u :: us' := by simpa using hus
        simp only [execOp, resolve, invoke, builtin, Builtin.max_, this, Sem.run_bind, Sem.run_pure, Result.andThen_ok, hz]
end
end Go.Vm

