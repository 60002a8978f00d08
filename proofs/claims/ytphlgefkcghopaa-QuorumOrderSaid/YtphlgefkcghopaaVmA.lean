/- The V-machine: an interpreter of the model's operations over plain values. No program in sight. -/
import GoSem.Core.View
set_option linter.unusedVariables false
set_option linter.unusedSimpArgs false
namespace Go.Vm

/-- 'bind' that simp enters by its first part alone; 'if' that simp enters by its condition alone. -/
def bnd {α β : Type} (x : Option α) (f : α → Option β) : Option β :=
  match x with
  | some a => f a
  | none => none
@[simp] theorem bnd_some {α β : Type} (a : α) (f : α → Option β) : bnd (some a) f = f a := rfl
@[simp] theorem bnd_none {α β : Type} (f : α → Option β) : bnd none f = none := rfl
@[congr] theorem bnd_congr {α β : Type} {x y : Option α} {f : α → Option β} (h : x = y) : bnd x f = bnd y f := by rw [h]
def cnd {α : Type} (b : Bool) (x y : α) : α :=
  match b with
  | true => x
  | false => y
@[simp] theorem cnd_true {α : Type} (x y : α) : cnd true x y = x := rfl
@[simp] theorem cnd_false {α : Type} (x y : α) : cnd false x y = y := rfl
@[congr] theorem cnd_congr {α : Type} {b c : Bool} {x y : α} (h : b = c) : cnd b x y = cnd c x y := by rw [h]
theorem bnd_eq_some {α β : Type} {x : Option α} {f : α → Option β} {r : β} (h : bnd x f = some r) : ∃ a, x = some a ∧ f a = some r := by
  cases x with
  | none => cases h
  | some a => exact ⟨a, rfl, h⟩
theorem cnd_cases {α : Type} {b : Bool} {x y : α} {P : α → Prop} (h1 : b = true → P x) (h2 : b = false → P y) : P (cnd b x y) := by
  cases b
  · exact h2 rfl
  · exact h1 rfl

/-- Values as the reasoning sees them: slices by their contents; addresses are numbers of an abstract heap. -/
inductive V where
  | bool (b : Bool)
  | int (k : IntKind) (n : Int)
  | str (s : List UInt8)
  | ptr (a : Option (Nat × Nat))
  | ro (cs : List V)
  | sl (xs : List V)
  | map (m : Option Nat)
  | fn (f : Nat) (first caps : List V)
  | nofn
  | agg (cs : List V)
  | tup (vs : List V)
  | undef
  | top

mutual
/-- Does a value name a place of the abstract heap from number n on? -/
def V.lt (n : Nat) : V → Bool
  | .ptr (some (i, _)) => decide (i < n)
  | .map (some i) => decide (i < n)
  | .fn _ a b => V.ltL n a && V.ltL n b
  | .agg cs => V.ltL n cs
  | .tup vs => V.ltL n vs
  | _ => true
def V.ltL (n : Nat) : List V → Bool
  | [] => true
  | v :: vs => V.lt n v && V.ltL n vs
end

def V.flat : V → List V
  | .agg cs => cs
  | v => [v]

/-- One cell that names no place of the heap. -/
def V.pureCell : V → Bool
  | .bool _ | .int _ _ | .str _ | .sl _ | .ptr none | .map none | .nofn | .fn _ [] [] => true
  | _ => false
/-- One cell of memory can hold it. -/
def V.isCell : V → Bool
  | .agg _ | .tup _ | .undef | .top => false
  | _ => true
def V.pure : V → Bool
  | .agg cs => cs.all V.pureCell
  | v => v.pureCell

/-- Has older memory been written; has a place's name been stored in it? -/
structure Fl where
  wr : Bool
  esc : Bool
abbrev Fl.no : Fl := ⟨false, false⟩
def Fl.or (a b : Fl) : Fl := ⟨a.wr || b.wr, a.esc || b.esc⟩

inductive Obj where
  | cells (cs : List V) (own : List (Nat × Nat))
  | map (es : List (V × V))
  | dead

abbrev Heap := List Obj
abbrev Regs := List (Nat × V)

def get : Regs → Nat → V
  | [], _ => .top
  | (k, v) :: t, r => cnd (decide (r = k)) v (get t r)

inductive Arg where
  | r (n : Nat)
  | c (v : V)

def Arg.val (rs : Regs) : Arg → V
  | .r n => get rs n
  | .c v => v
def vals (rs : Regs) : List Arg → List V
  | [] => []
  | a :: as => a.val rs :: vals rs as

/-- How an append's operand came to be: nil, or a register's own. -/
inductive Place where
  | fresh
  | reg (p : Nat)

inductive CK where
  | toInt (k : IntKind)
  | strOfBytes
  | bytesOfStr
  | same

/-- What kind of values '==' is asked of (numbers and texts tell themselves); what 'len' is asked of. -/
inductive SK where
  | b | i | s
inductive EK where
  | bool | ptr | map | fn | no
  | agg (ks : List SK)
inductive LK where
  | arr (n : Nat)
  | str | sl | map

inductive VOp where
  | mv (x : Arg)
  | asg (x : Arg)
  | pick (c a b : Arg)
  | alloc (cs : List V) (own : List (Nat × Nat))
  | box (size : Nat) (x : Arg)
  | build (zero : List V) (parts : List (Nat × Nat × Arg))
  | bslice (zero : V) (size n : Nat) (parts : List (Nat × Arg))
  | load (agg : Bool) (size : Nat) (a : Arg)
  | store (size : Nat) (a x : Arg) (own : List (Nat × Nat)) (pend : Option Nat)
  | nilck (x : Arg)
  | bin (op : BinOp) (k : EK) (x y : Arg)
  | un (op : UnOp) (x : Arg)
  | conv (k : CK) (x : Arg)
  | mkfn (f : Nat) (first caps : List Arg)
  | mkmap
  | slice (str : Bool) (size : Nat) (x : Arg) (lo hi mx : Option Arg)
  | sliceArr (n size : Nat) (x : Arg)
  | faddr (off : Nat) (x : Arg)
  | field (off size : Nat) (agg : Bool) (x : Arg)
  | iaddr (arr : Option Nat) (size : Nat) (x i : Arg)
  | index (str : Bool) (n size : Nat) (agg : Bool) (x i : Arg)
  | lookup (kk : SK) (zero : V) (ok : Bool) (m k : Arg)
  | mapupd (kk : SK) (m k v : Arg)
  | delete (kk : SK) (m k : Arg)
  | extract (i : Nat) (x : Arg)
  | call (q : Bool) (f : Nat) (args : List Arg)
  | callv (q : Bool) (x : Arg) (args : List Arg)
  | app (p : Place) (size bytes : Nat) (s x : Arg)
  | appc (a size bytes : Nat) (s x : Arg)
  | len (k : LK) (x : Arg)
  | mn (xs : List Arg)
  | mx (xs : List Arg)

structure VI where
  dst : Option Nat
  guard : Option (Nat × Bool)
  op : VOp

inductive VCode where
  | skip
  | ops (is : List VI) (live : List Nat)
  | dops (c : Nat) (is : List VI) (live : List Nat)
  | seq (a b : VCode)
  | cond (c : Arg) (a b : VCode)
  | block (id : Nat) (b : VCode)
  | loop (live : List Nat) (own : List (Nat × Nat × Nat)) (b : VCode)
  | exit (id : Nat)
  | ret

inductive Res where
  | r (n : Nat)
  | cell (a : Nat) (agg : Bool) (size : Nat)

structure VFun where
  params : Nat
  body : VCode
  res : List Res
  own : Option Nat

/-! ### plain operations -/
def bitsV (k : IntKind) (r : BitVec k.bits) : V := .int k (k.wrap r.toNat)

def bytesLess : List UInt8 → List UInt8 → Bool
  | _, [] => false
  | [], _ :: _ => true
  | a :: x, b :: y => a < b || (a == b && bytesLess x y)

/-- Two cells that '==' compares: numbers, truths or texts. -/
def cellEq : SK → V → V → Option Bool
  | .b, .bool a, .bool b => some (a == b)
  | .i, .int k a, .int k' b => cnd (decide (k = k')) (some (a == b)) none
  | .s, .str a, .str b => some (a == b)
  | _, _, _ => none
def cellsEq : List SK → List V → List V → Option Bool
  | [], [], [] => some true
  | k :: ks, x :: xs, y :: ys => bnd (cellEq k x y) fun b => bnd (cellsEq ks xs ys) fun c => some (b && c)
  | _, _, _ => none

def eqV : EK → V → V → Option Bool
  | .bool, .bool a, .bool b => some (a == b)
  | .ptr, .ptr a, .ptr none => some a.isNone
  | .ptr, .ro _, .ptr none => some false
  | .ptr, .ptr none, .ptr (some _) => some false
  | .map, .map a, .map none => some a.isNone
  | .fn, .nofn, .nofn => some true
  | .fn, .fn _ _ _, .nofn => some false
  | .agg ks, .agg xs, .agg ys => cellsEq ks xs ys
  | _, _, _ => none

def intV (op : BinOp) (k : IntKind) (a b : Int) : Option V :=
  match op with
  | .add => some (.int k (k.wrap (a + b)))
  | .sub => some (.int k (k.wrap (a - b)))
  | .mul => some (.int k (k.wrap (a * b)))
  | .quo => cnd (b == 0) none (some (.int k (k.wrap (a.tdiv b))))
  | .rem => cnd (b == 0) none (some (.int k (a.tmod b)))
  | .and => some (bitsV k (BitVec.ofInt k.bits a &&& BitVec.ofInt k.bits b))
  | .or => some (bitsV k (BitVec.ofInt k.bits a ||| BitVec.ofInt k.bits b))
  | .xor => some (bitsV k (BitVec.ofInt k.bits a ^^^ BitVec.ofInt k.bits b))
  | .andNot => some (bitsV k (BitVec.ofInt k.bits a &&& ~~~(BitVec.ofInt k.bits b)))
  | .eql => some (.bool (a == b))
  | .neq => some (.bool (!(a == b)))
  | .lss => some (.bool (decide (a < b)))
  | .leq => some (.bool (decide (a ≤ b)))
  | .gtr => some (.bool (decide (b < a)))
  | .geq => some (.bool (decide (b ≤ a)))
  | _ => none
def shV (op : BinOp) (k : IntKind) (a b : Int) : Option V :=
  match op with
  | .shl => cnd (decide (b < 0)) none (some (.int k (k.wrap (a * 2 ^ (min b.toNat k.bits)))))
  | .shr => cnd (decide (b < 0)) none (some (.int k (a.fdiv (2 ^ (min b.toNat k.bits)))))
  | _ => none
def strV (op : BinOp) (a b : List UInt8) : Option V :=
  match op with
  | .add => cnd (decide (a.length + b.length ≤ 140737488351232)) (some (.str (a ++ b))) none
  | .eql => some (.bool (a == b))
  | .neq => some (.bool (!(a == b)))
  | .lss => some (.bool (bytesLess a b))
  | .leq => some (.bool (bytesLess a b || a == b))
  | .gtr => some (.bool (!(bytesLess a b || a == b)))
  | .geq => some (.bool (!bytesLess a b))
  | _ => none

def isShift : BinOp → Bool
  | .shl | .shr => true
  | _ => false
def binV (op : BinOp) (ek : EK) : V → V → Option V
  | .int k a, .int k' b => cnd (isShift op) (shV op k a b) (cnd (decide (k = k')) (intV op k a b) none)
  | .str a, .str b => strV op a b
  | x, y =>
    match op with
    | .eql => bnd (eqV ek x y) fun b => some (.bool b)
    | .neq => bnd (eqV ek x y) fun b => some (.bool (!b))
    | _ => none

def unV : UnOp → V → Option V
  | .not, .bool b => some (.bool (!b))
  | .neg, .int k n => some (.int k (k.wrap (0 - n)))
  | .xor, .int k n => some (bitsV k (BitVec.ofInt k.bits (if k.signed then -1 else k.max) ^^^ BitVec.ofInt k.bits n))
  | _, _ => none

def bytesOf : List V → Option (List UInt8)
  | [] => some []
  | .int .u8 n :: xs => bnd (bytesOf xs) fun l => some (UInt8.ofNat n.toNat :: l)
  | _ :: _ => none

def byteV (b : UInt8) : V := .int .u8 b.toNat

def convV : CK → V → Option V
  | .toInt k, .int _ n => some (.int k (k.wrap n))
  | .strOfBytes, .sl xs => bnd (bytesOf xs) fun l => some (.str l)
  | .bytesOfStr, .str s => some (.sl (s.map byteV))
  | .same, .str s => some (.str s)
  | _, _ => none

def minV : V → V → Option V
  | .int k x, .int k' y => cnd (decide (k = k')) (some (.int k (if y < x then y else x))) none
  | _, _ => none
def maxV : V → V → Option V
  | .int k x, .int k' y => cnd (decide (k = k')) (some (.int k (if y > x then y else x))) none
  | _, _ => none
def foldV (f : V → V → Option V) : V → List V → Option V
  | x, [] => some x
  | x, y :: ys => bnd (f x y) fun z => foldV f z ys
def foldV1 (f : V → V → Option V) : List V → Option V
  | [] => none
  | x :: xs => foldV f x xs

def fillV (rs : Regs) (cells : List V) : List (Nat × Nat × Arg) → Option (List V)
  | [] => some cells
  | (off, size, a) :: rest =>
    cnd (decide (((a.val rs).flat.length = size ∧ off + size ≤ cells.length) ∧ (a.val rs).flat.all V.isCell = true)) (fillV rs (cells.take off ++ ((a.val rs).flat ++ cells.drop (off + size))) rest) none

def fillE (rs : Regs) (cells : List V) : List (Nat × Arg) → Option (List V)
  | [] => some cells
  | (i, a) :: rest => cnd (decide (i < cells.length)) (fillE rs (cells.set i (a.val rs)) rest) none

def findV (q : SK) (k : V) : List (V × V) → Option (Option V)
  | [] => some none
  | (k', v) :: es => bnd (cellEq q k k') fun b => cnd b (some (some v)) (findV q k es)
def putV (q : SK) (k v : V) : List (V × V) → Option (List (V × V))
  | [] => some [(k, v)]
  | (k', v') :: es => bnd (cellEq q k k') fun b => cnd b (some ((k, v) :: es)) (bnd (putV q k v es) fun l => some ((k', v') :: l))
def delV (q : SK) (k : V) : List (V × V) → Option (List (V × V))
  | [] => some []
  | (k', v') :: es => bnd (cellEq q k k') fun b => cnd b (some es) (bnd (delV q k es) fun l => some ((k', v') :: l))
/-- A key: a number or a text. -/
def isKey : SK → V → Bool
  | .i, .int _ _ => true
  | .s, .str _ => true
  | _, _ => false

def natOf : V → Option Nat
  | .int _ n => cnd (decide (0 ≤ n)) (some n.toNat) none
  | _ => none
def natOr (rs : Regs) (d : Nat) : Option Arg → Option Nat
  | none => some d
  | some a => natOf (a.val rs)

def cut (agg : Bool) (size off : Nat) (cs : List V) : Option V :=
  cnd (decide (off + size ≤ cs.length)) (cnd agg (some (.agg ((cs.drop off).take size))) (cnd (decide (size = 1)) cs[off]? none)) none

/-! ### operations that leave the abstract heap alone -/
def hget (h : Heap) (i : Nat) : Option Obj := h[i]?
def cellsAt (h : Heap) (i : Nat) : Option (List V × List (Nat × Nat)) :=
  match hget h i with
  | some (.cells cs own) => some (cs, own)
  | _ => none
def mapAt (h : Heap) (i : Nat) : Option (List (V × V)) :=
  match hget h i with
  | some (.map es) => some es
  | _ => none
def mapOf (h : Heap) : V → Option (List (V × V))
  | .map none => some []
  | .map (some i) => mapAt h i
  | _ => none

def loadV (agg : Bool) (size : Nat) (h : Heap) : V → Option V
  | .ptr (some (i, o)) => bnd (cellsAt h i) fun c => cut agg size o c.1
  | .ro cs => cut agg size 0 cs
  | _ => none
def pickV : V → V → V → Option V
  | .bool t, a, b => some (cnd t a b)
  | _, _, _ => none
def nilckV : V → Option V
  | .ptr (some a) => some (.ptr (some a))
  | .ro cs => some (.ro cs)
  | .fn f a b => some (.fn f a b)
  | _ => none
/-- The elements have so many cells. -/
def sizeOk (size : Nat) : List V → Bool
  | [] => true
  | x :: _ => x.flat.length == size
def allSize (size : Nat) : List V → Bool
  | [] => true
  | x :: xs => x.flat.length == size && allSize size xs
def sliceV (size : Nat) (rs : Regs) (lo hi mx : Option Arg) : Bool → V → Option V
  | true, .str s => bnd (natOr rs 0 lo) fun l => bnd (natOr rs s.length hi) fun u => cnd (decide (l ≤ u ∧ u ≤ s.length) && mx.isNone) (some (.str ((s.take u).drop l))) none
  | false, .sl xs => bnd (natOr rs 0 lo) fun l => bnd (natOr rs xs.length hi) fun u => bnd (natOr rs u mx) fun m =>
      cnd (decide (l ≤ u ∧ u ≤ m ∧ m ≤ xs.length) && ((hi.isSome || mx.isNone) && sizeOk size xs)) (some (.sl ((xs.take u).drop l))) none
  | _, _ => none
def faddrV (off : Nat) : V → Option V
  | .ptr (some (i, o)) => some (.ptr (some (i, o + off)))
  | .ro cs => some (.ro (cs.drop off))
  | _ => none
def fieldV (off size : Nat) (agg : Bool) : V → Option V
  | .agg cs => cut agg size off cs
  | _ => none
def iaddrV (size j : Nat) : Option Nat → V → Option V
  | none, .sl xs => bnd (xs[j]?) fun v => cnd (v.flat.length == size) (some (.ro v.flat)) none
  | some n, .ptr (some (k, o)) => cnd (decide (j < n)) (some (.ptr (some (k, o + j * size)))) none
  | some n, .ro cs => cnd (decide (j < n)) (some (.ro (cs.drop (j * size)))) none
  | _, _ => none
def indexV (n size : Nat) (agg : Bool) (j : Nat) : Bool → V → Option V
  | true, .str s => bnd (s[j]?) fun b => some (byteV b)
  | false, .agg cs => cnd (decide (j < n)) (cut agg size (j * size) cs) none
  | _, _ => none
def found (zero : V) : Bool → Option V → V
  | true, some v => .tup [v, .bool true]
  | true, none => .tup [zero, .bool false]
  | false, some v => v
  | false, none => zero
def extractV (i : Nat) : V → Option V
  | .tup vs => vs[i]?
  | _ => none
def allPure : List V → Bool
  | [] => true
  | v :: vs => v.pure && allPure vs
def appV (size bytes : Nat) : V → V → Option V
  | .sl xs, .sl ys => cnd (decide ((xs.length + ys.length) * bytes ≤ 140737488355328) && (sizeOk size xs && sizeOk size ys)) (some (.sl (xs ++ ys))) none
  | _, _ => none
def lenV (h : Heap) : LK → V → Option V
  | .arr n, _ => some (.int .i64 n)
  | .str, .str s => some (.int .i64 s.length)
  | .sl, .sl xs => some (.int .i64 xs.length)
  | .map, .map m => bnd (mapOf h (.map m)) fun es => some (.int .i64 es.length)
  | _, _ => none

/-- What an operation that leaves the heap alone yields; none: it is another one, or it falls. -/
def valOp (h : Heap) (rs : Regs) : VOp → Option V
  | .mv x => some (x.val rs)
  | .asg x => some (x.val rs)
  | .pick c a b => pickV (c.val rs) (a.val rs) (b.val rs)
  | .build zero parts => bnd (fillV rs zero parts) fun cs => some (.agg cs)
  | .bslice zero size n parts => bnd (fillE rs (List.replicate n zero) parts) fun xs => cnd (allPure xs && allSize size xs) (some (.sl xs)) none
  | .load agg size a => loadV agg size h (a.val rs)
  | .nilck x => nilckV (x.val rs)
  | .bin op k x y => binV op k (x.val rs) (y.val rs)
  | .un op x => unV op (x.val rs)
  | .conv k x => convV k (x.val rs)
  | .mkfn f first caps => some (.fn f (vals rs first) (vals rs caps))
  | .slice str size x lo hi mx => sliceV size rs lo hi mx str (x.val rs)
  | .faddr off x => faddrV off (x.val rs)
  | .field off size agg x => fieldV off size agg (x.val rs)
  | .iaddr arr size x i => bnd (natOf (i.val rs)) fun j => iaddrV size j arr (x.val rs)
  | .index str n size agg x i => bnd (natOf (i.val rs)) fun j => indexV n size agg j str (x.val rs)
  | .lookup q zero ok m k => bnd (mapOf h (m.val rs)) fun es => cnd (isKey q (k.val rs)) (bnd (findV q (k.val rs) es) fun r => some (found zero ok r)) none
  | .extract i x => extractV i (x.val rs)
  | .app _ size bytes s x => appV size bytes (s.val rs) (x.val rs)
  | .len k x => lenV h k (x.val rs)
  | .mn xs => foldV1 minV (vals rs xs)
  | .mx xs => foldV1 maxV (vals rs xs)
  | _ => none

/-! ### operations that turn the heap; the third of what they yield: has a place's name been stored in older memory? -/
def hset (h : Heap) (i : Nat) (o : Obj) : Heap := h.set i o
def ownHas (own : List (Nat × Nat)) (j sz : Nat) : Bool :=
  match own with
  | [] => false
  | (k, z) :: l => (decide (k = j) && decide (z = sz)) || ownHas l j sz
/-- Where an object's own slices would be written, the value bears own ones. -/
def ownOk (o size : Nat) (own : List (Nat × Nat)) : List (Nat × Nat) → Bool
  | [] => true
  | (j, sz) :: js => (!(decide (o ≤ j) && decide (j < o + size)) || ownHas own (j - o) sz) && ownOk o size own js
def storeC (fb lb size : Nat) (own : List (Nat × Nat)) (h : Heap) (i o : Nat) (v : V) (c : List V × List (Nat × Nat)) : Option (Heap × Fl) :=
  cnd (decide (v.flat.length = size ∧ o + size ≤ c.1.length) && (ownOk o size own c.2 && v.flat.all V.isCell))
    (some (hset h i (.cells (c.1.take o ++ (v.flat ++ c.1.drop (o + size))) c.2), ⟨decide (i < fb), decide (i < lb) && !v.lt 0⟩)) none
def storeV (fb lb size : Nat) (own : List (Nat × Nat)) (h : Heap) (v : V) : V → Option (Heap × Fl)
  | .ptr (some (i, o)) => bnd (cellsAt h i) (storeC fb lb size own h i o v)
  | _ => none
/-- Two addresses, the same? (The second: that a register was loaded from, if it counts.) -/
def samePtr (rs : Regs) (v : V) : Option Nat → Bool
  | none => true
  | some p =>
    match get rs p, v with
    | .ptr (some (i, o)), .ptr (some (j, u)) => decide (i = j) && decide (o = u)
    | _, _ => false
/-- An append to what a cell holds: the cell's own. -/
def appcV (fb size : Nat) (h : Heap) : V → Option Bool
  | .ptr (some (i, o)) => bnd (cellsAt h i) fun c => cnd (ownHas c.2 o size) (some (decide (i < fb))) none
  | _ => none

abbrev Callee := Nat → List V → Heap → Option (V × Heap × Fl)

def boxable (size : Nat) (v : V) : Bool := v.flat.length == size && v.flat.all V.isCell

def mapupdV (fb lb : Nat) (h : Heap) (q : SK) (k v : V) : V → Option (V × Heap × Fl)
  | .map (some i) => bnd (mapAt h i) fun es => cnd (isKey q k) (bnd (putV q k v es) fun es' => some (.undef, hset h i (.map es'), ⟨decide (i < fb), decide (i < lb) && !v.lt 0⟩)) none
  | _ => none
def deleteV (fb : Nat) (h : Heap) (q : SK) (k : V) : V → Option (V × Heap × Fl)
  | .map none => cnd (isKey q k) (some (.undef, h, .no)) none
  | .map (some i) => bnd (mapAt h i) fun es => cnd (isKey q k) (bnd (delV q k es) fun es' => some (.undef, hset h i (.map es'), ⟨decide (i < fb), false⟩)) none
  | _ => none
def sliceArrV (fb n size : Nat) (h : Heap) : V → Option (V × Heap × Fl)
  | .ptr (some (i, 0)) => bnd (cellsAt h i) fun c =>
      cnd (decide (c.1.length = n ∧ size = 1 ∧ fb ≤ i) && (c.1.all V.pureCell && c.2.isEmpty)) (some (.sl c.1, hset h i .dead, .no)) none
  | _ => none

def callV (C : Callee) (h : Heap) (args : List V) : V → Option (V × Heap × Fl)
  | .fn f first caps => C f (first ++ (args ++ caps)) h
  | _ => none

open Classical in
/-- A call that has left the heap as it was. -/
noncomputable def still (h : Heap) (r : V × Heap × Fl) : Option V := if r.2.1 = h ∧ r.2.2 = .no then some r.1 else none
noncomputable def quiet (q : Bool) (h : Heap) (r : V × Heap × Fl) : Option (V × Heap × Fl) := cnd q (bnd (still h r) fun v => some (v, h, .no)) (some r)

noncomputable def evalOp (C : Callee) (fb lb : Nat) (rs : Regs) (h : Heap) : VOp → Option (V × Heap × Fl)
  | .alloc cs own => some (.ptr (some (h.length, 0)), h ++ [.cells cs own], .no)
  | .box size x => cnd (boxable size (x.val rs)) (some (.ptr (some (h.length, 0)), h ++ [.cells (x.val rs).flat []], .no)) none
  | .mkmap => some (.map (some h.length), h ++ [.map []], .no)
  | .store size a x own p => cnd (samePtr rs (a.val rs) p) (bnd (storeV fb lb size own h (x.val rs) (a.val rs)) fun r => some (.undef, r.1, r.2)) none
  | .mapupd q m k v => mapupdV fb lb h q (k.val rs) (v.val rs) (m.val rs)
  | .delete q m k => deleteV fb h q (k.val rs) (m.val rs)
  | .sliceArr n size x => sliceArrV fb n size h (x.val rs)
  | .call q f args => bnd (C f (vals rs args) h) (quiet q h)
  | .callv q x args => bnd (callV C h (vals rs args) (x.val rs)) (quiet q h)
  | .appc a size bytes s x => bnd (appcV fb size h (get rs a)) fun w => bnd (appV size bytes (s.val rs) (x.val rs)) fun v => some (v, h, ⟨w, false⟩)
  | op => bnd (valOp h rs op) fun v => some (v, h, .no)

/-- Is a guarded operation carried out? -/
def wantedV (b : Bool) : V → Option Bool
  | .bool c => some (c == b)
  | .undef => some false
  | _ => none
def wanted (rs : Regs) : Option (Nat × Bool) → Option Bool
  | none => some true
  | some (g, b) => wantedV b (get rs g)

def putR (d : Option Nat) (v : V) (rs : Regs) : Regs :=
  match d with
  | none => rs
  | some r => (r, v) :: rs

noncomputable def evalOps (C : Callee) (fb lb : Nat) : List VI → Regs → Heap → Fl → Option (Regs × Heap × Fl)
  | [], rs, h, fl => some (rs, h, fl)
  | i :: is, rs, h, fl =>
    bnd (wanted rs i.guard) fun b =>
      cnd b (bnd (evalOp C fb lb rs h i.op) fun r => evalOps C fb lb is (putR i.dst r.1 rs) r.2.1 (fl.or r.2.2))
        (evalOps C fb lb is (putR i.dst .undef rs) h fl)

/-! ### code -/
inductive Ex where
  | normal
  | exit (id : Nat)
  | ret

def condV : V → Option Bool
  | .bool t => some t
  | _ => none

def Ex.isNormal : Ex → Bool
  | .normal => true
  | _ => false
def Ex.isExit (id : Nat) : Ex → Bool
  | .exit j => decide (j = id)
  | _ => false

structure St where
  rs : Regs
  h : Heap
  fl : Fl

def keep (rs : Regs) : List Nat → Regs
  | [] => []
  | r :: live => (r, get rs r) :: keep rs live

def allLt (n : Nat) : Regs → Bool
  | [] => true
  | (_, v) :: rs => v.lt n && allLt n rs

/-- Behind a round: what is not needed goes, and the objects that were made, if nothing names them. -/
def clean (n : Nat) (esc : Bool) (rs : Regs) (st : St) : St :=
  cnd (!st.fl.esc && allLt n rs) ⟨rs, st.h.take n, ⟨st.fl.wr, esc⟩⟩ ⟨rs, st.h, ⟨st.fl.wr, esc || st.fl.esc⟩⟩

abbrev Looper := (St → Option (Ex × St)) → St → Option (Ex × St)

def bodyEnd (n : Nat) (live : List Nat) (esc : Bool) (r : Ex × St) : Option (Ex × St) :=
  cnd r.1.isNormal (some (.normal, clean n esc (keep r.2.rs live) r.2)) (some (r.1, ⟨r.2.rs, r.2.h, ⟨r.2.fl.wr, esc || r.2.fl.esc⟩⟩))

noncomputable def evalCode (C : Callee) (L : Looper) (fb : Nat) : VCode → Nat → St → Option (Ex × St)
  | .skip, _, st => some (.normal, st)
  | .ops is live, lb, st => bnd (evalOps C fb lb is st.rs st.h st.fl) fun r => some (.normal, ⟨keep r.1 live, r.2.1, r.2.2⟩)
  | .dops _ is live, lb, st => bnd (evalOps C fb lb is st.rs st.h st.fl) fun r => some (.normal, ⟨keep r.1 live, r.2.1, r.2.2⟩)
  | .seq a b, lb, st => bnd (evalCode C L fb a lb st) fun r => cnd r.1.isNormal (evalCode C L fb b lb r.2) (some r)
  | .cond c a b, lb, st =>
    bnd (condV (c.val st.rs)) fun t => cnd t (evalCode C L fb a lb st) (evalCode C L fb b lb st)
  | .block id b, lb, st => bnd (evalCode C L fb b lb st) fun r => some (cnd (r.1.isExit id) (.normal, r.2) r)
  | .loop live _ b, _, st => L (fun s => bnd (evalCode C L fb b s.h.length ⟨s.rs, s.h, ⟨s.fl.wr, false⟩⟩) (bodyEnd s.h.length live s.fl.esc)) st
  | .exit id, _, st => some (.exit id, st)
  | .ret, _, st => some (.ret, st)

def resV (rs : Regs) (h : Heap) : List Res → Option (List V)
  | [] => some []
  | .r n :: rest => bnd (resV rs h rest) fun l => some (get rs n :: l)
  | .cell a agg size :: rest => bnd (loadV agg size h (get rs a)) fun v => bnd (resV rs h rest) fun l => some (v :: l)

def one : List V → V
  | [v] => v
  | vs => .tup vs

def finishV (n : Nat) (st : St) (v : V) : V × Heap × Fl :=
  cnd (!st.fl.esc && v.lt n) (v, st.h.take n, ⟨st.fl.wr, false⟩) (v, st.h, st.fl)
def finish (n : Nat) (res : List Res) (r : Ex × St) : Option (V × Heap × Fl) :=
  match r.1 with
  | .exit _ => none
  | _ => bnd (resV r.2.rs r.2.h res) fun vs => some (finishV n r.2 (one vs))

structure Env where
  fn : Nat → Option VFun
  prim : Nat → Option (List V → Heap → Option (V × Heap × Fl))

def initR : List V → Nat → Regs
  | [], _ => []
  | v :: vs, k => (k, v) :: initR vs (k + 1)

noncomputable def runV (C : Callee) (L : Looper) (fn : VFun) (args : List V) (h : Heap) : Option (V × Heap × Fl) :=
  cnd (decide (args.length = fn.params)) (bnd (evalCode C L h.length fn.body h.length ⟨initR args 0, h, .no⟩) (finish h.length fn.res)) none

noncomputable def runFn (E : Env) (C : Callee) (L : Looper) (f : Nat) (args : List V) (h : Heap) : Option (V × Heap × Fl) :=
  match E.prim f with
  | some p => p args h
  | none =>
    match E.fn f with
    | none => none
    | some fn => runV C L fn args h

def iterN : Nat → Looper
  | 0, _, _ => none
  | n + 1, b, st => bnd (b st) fun r => cnd r.1.isNormal (iterN n b r.2) (some r)

noncomputable def evalFn (E : Env) : Nat → Callee
  | 0 => fun _ _ _ => none
  | n + 1 => runFn E (evalFn E n) (iterN n)

/-! ### the steps as equations, for simp -/
section
variable (C : Callee) (L : Looper) (fb lb n : Nat) (rs : Regs) (h : Heap) (e : Option Nat) (b : Bool) (fl : Fl)
theorem evalOps_nil : evalOps C fb lb [] rs h fl = some (rs, h, fl) := rfl
theorem evalOps_cons (o : VOp) (is : List VI) : evalOps C fb lb (⟨e, none, o⟩ :: is) rs h fl =
    bnd (evalOp C fb lb rs h o) fun r => evalOps C fb lb is (putR e r.1 rs) r.2.1 (fl.or r.2.2) := rfl
theorem evalOps_consg (g : Nat) (o : VOp) (is : List VI) : evalOps C fb lb (⟨e, some (g, b), o⟩ :: is) rs h fl =
    bnd (wantedV b (get rs g)) fun t => cnd t (bnd (evalOp C fb lb rs h o) fun r => evalOps C fb lb is (putR e r.1 rs) r.2.1 (fl.or r.2.2)) (evalOps C fb lb is (putR e .undef rs) h fl) := rfl
@[simp] theorem Fl.no_or : Fl.or .no fl = fl := by cases fl; rfl
@[simp] theorem Fl.or_no : Fl.or fl .no = fl := by cases fl; simp [Fl.or]
@[simp] theorem Fl.or_mk (p q r s : Bool) : Fl.or ⟨p, q⟩ ⟨r, s⟩ = ⟨p || r, q || s⟩ := rfl
theorem evalOp_mv {x} : evalOp C fb lb rs h (.mv x) = bnd (some (x.val rs)) fun v => some (v, h, .no) := rfl
theorem evalOp_asg {x} : evalOp C fb lb rs h (.asg x) = bnd (some (x.val rs)) fun v => some (v, h, .no) := rfl
theorem evalOp_pick {c x y} : evalOp C fb lb rs h (.pick c x y) = bnd (pickV (c.val rs) (x.val rs) (y.val rs)) fun v => some (v, h, .no) := rfl
theorem evalOp_build {z ps} : evalOp C fb lb rs h (.build z ps) = bnd (bnd (fillV rs z ps) fun cs => some (.agg cs)) fun v => some (v, h, .no) := rfl
theorem evalOp_bslice {z k m ps} : evalOp C fb lb rs h (.bslice z k m ps) = bnd (bnd (fillE rs (List.replicate m z) ps) fun xs => cnd (allPure xs && allSize k xs) (some (.sl xs)) none) fun v => some (v, h, .no) := rfl
theorem evalOp_load {g k a} : evalOp C fb lb rs h (.load g k a) = bnd (loadV g k h (a.val rs)) fun v => some (v, h, .no) := rfl
theorem evalOp_nilck {x} : evalOp C fb lb rs h (.nilck x) = bnd (nilckV (x.val rs)) fun v => some (v, h, .no) := rfl
theorem evalOp_bin {o k x y} : evalOp C fb lb rs h (.bin o k x y) = bnd (binV o k (x.val rs) (y.val rs)) fun v => some (v, h, .no) := rfl
theorem evalOp_un {o x} : evalOp C fb lb rs h (.un o x) = bnd (unV o (x.val rs)) fun v => some (v, h, .no) := rfl
theorem evalOp_conv {k x} : evalOp C fb lb rs h (.conv k x) = bnd (convV k (x.val rs)) fun v => some (v, h, .no) := rfl
theorem evalOp_mkfn {f x y} : evalOp C fb lb rs h (.mkfn f x y) = bnd (some (.fn f (vals rs x) (vals rs y))) fun v => some (v, h, .no) := rfl
theorem evalOp_slice {t k x l u m} : evalOp C fb lb rs h (.slice t k x l u m) = bnd (sliceV k rs l u m t (x.val rs)) fun v => some (v, h, .no) := rfl
theorem evalOp_faddr {o x} : evalOp C fb lb rs h (.faddr o x) = bnd (faddrV o (x.val rs)) fun v => some (v, h, .no) := rfl
theorem evalOp_field {o k g x} : evalOp C fb lb rs h (.field o k g x) = bnd (fieldV o k g (x.val rs)) fun v => some (v, h, .no) := rfl
theorem evalOp_iaddr {r k x i} : evalOp C fb lb rs h (.iaddr r k x i) = bnd (bnd (natOf (i.val rs)) fun j => iaddrV k j r (x.val rs)) fun v => some (v, h, .no) := rfl
theorem evalOp_index {t m z g x i} : evalOp C fb lb rs h (.index t m z g x i) = bnd (bnd (natOf (i.val rs)) fun j => indexV m z g j t (x.val rs)) fun v => some (v, h, .no) := rfl
theorem evalOp_lookup {q z k m x} : evalOp C fb lb rs h (.lookup q z k m x) = bnd (bnd (mapOf h (m.val rs)) fun es => cnd (isKey q (x.val rs)) (bnd (findV q (x.val rs) es) fun r => some (found z k r)) none) fun v => some (v, h, .no) := rfl
theorem evalOp_extract {i x} : evalOp C fb lb rs h (.extract i x) = bnd (extractV i (x.val rs)) fun v => some (v, h, .no) := rfl
theorem evalOp_app {p k m s x} : evalOp C fb lb rs h (.app p k m s x) = bnd (appV k m (s.val rs) (x.val rs)) fun v => some (v, h, .no) := rfl
theorem evalOp_len {r x} : evalOp C fb lb rs h (.len r x) = bnd (lenV h r (x.val rs)) fun v => some (v, h, .no) := rfl
theorem evalOp_mn {xs} : evalOp C fb lb rs h (.mn xs) = bnd (foldV1 minV (vals rs xs)) fun v => some (v, h, .no) := rfl
theorem evalOp_mx {xs} : evalOp C fb lb rs h (.mx xs) = bnd (foldV1 maxV (vals rs xs)) fun v => some (v, h, .no) := rfl
theorem evalOp_alloc {cs w} : evalOp C fb lb rs h (.alloc cs w) = some (.ptr (some (h.length, 0)), h ++ [.cells cs w], .no) := rfl
theorem evalOp_box {k x} : evalOp C fb lb rs h (.box k x) = cnd (boxable k (x.val rs)) (some (.ptr (some (h.length, 0)), h ++ [.cells (x.val rs).flat []], .no)) none := rfl
theorem evalOp_mkmap : evalOp C fb lb rs h (.mkmap ) = some (.map (some h.length), h ++ [.map []], .no) := rfl
theorem evalOp_store {z a x w p} : evalOp C fb lb rs h (.store z a x w p) = cnd (samePtr rs (a.val rs) p) (bnd (storeV fb lb z w h (x.val rs) (a.val rs)) fun r => some (.undef, r.1, r.2)) none := rfl
theorem evalOp_mapupd {q m k v} : evalOp C fb lb rs h (.mapupd q m k v) = mapupdV fb lb h q (k.val rs) (v.val rs) (m.val rs) := rfl
theorem evalOp_delete {q m k} : evalOp C fb lb rs h (.delete q m k) = deleteV fb h q (k.val rs) (m.val rs) := rfl
theorem evalOp_sliceArr {k z x} : evalOp C fb lb rs h (.sliceArr k z x) = sliceArrV fb k z h (x.val rs) := rfl
theorem evalOp_call {q f as} : evalOp C fb lb rs h (.call q f as) = bnd (C f (vals rs as) h) (quiet q h) := rfl
theorem evalOp_callv {q x as} : evalOp C fb lb rs h (.callv q x as) = bnd (callV C h (vals rs as) (x.val rs)) (quiet q h) := rfl
theorem evalOp_appc {a k m s x} : evalOp C fb lb rs h (.appc a k m s x) = bnd (appcV fb k h (get rs a)) fun w => bnd (appV k m (s.val rs) (x.val rs)) fun v => some (v, h, ⟨w, false⟩) := rfl
@[simp] theorem still_same (v : V) : still h (v, h, .no) = some v := by simp [still]
@[simp] theorem quiet_true (r : V × Heap × Fl) : quiet true h r = bnd (still h r) fun v => some (v, h, .no) := rfl
@[simp] theorem quiet_false (r : V × Heap × Fl) : quiet false h r = some r := rfl
@[simp] theorem keep_nil : keep rs [] = [] := rfl
@[simp] theorem keep_cons (r : Nat) (l : List Nat) : keep rs (r :: l) = (r, get rs r) :: keep rs l := rfl
@[simp] theorem get_nil (r : Nat) : get [] r = .top := rfl
@[simp] theorem get_cons (k r : Nat) (v : V) : get ((k, v) :: rs) r = cnd (decide (r = k)) v (get rs r) := rfl
@[simp] theorem putR_none (v : V) : putR none v rs = rs := rfl
@[simp] theorem putR_some (r : Nat) (v : V) : putR (some r) v rs = (r, v) :: rs := rfl
@[simp] theorem val_r (r : Nat) : (Arg.r r).val rs = get rs r := rfl
@[simp] theorem val_c (v : V) : (Arg.c v).val rs = v := rfl
@[simp] theorem vals_nil : vals rs [] = [] := rfl
@[simp] theorem vals_cons (a : Arg) (l : List Arg) : vals rs (a :: l) = a.val rs :: vals rs l := rfl
@[congr] theorem evalOps_congr {is is' : List VI} (h1 : is = is') : evalOps C fb lb is rs h fl = evalOps C fb lb is' rs h fl := by rw [h1]
variable (st : St) (live : List Nat)
theorem code_skip : evalCode C L fb .skip lb st = some (.normal, st) := rfl
theorem code_ops (is : List VI) : evalCode C L fb (.ops is live) lb st = bnd (evalOps C fb lb is st.rs st.h st.fl) fun r => some (.normal, ⟨keep r.1 live, r.2.1, r.2.2⟩) := rfl
theorem code_dops (c : Nat) (is : List VI) : evalCode C L fb (.dops c is live) lb st = bnd (evalOps C fb lb is st.rs st.h st.fl) fun r => some (.normal, ⟨keep r.1 live, r.2.1, r.2.2⟩) := rfl
theorem code_seq (x y : VCode) : evalCode C L fb (.seq x y) lb st = bnd (evalCode C L fb x lb st) fun r => cnd r.1.isNormal (evalCode C L fb y lb r.2) (some r) := rfl
theorem code_cond (c : Arg) (x y : VCode) : evalCode C L fb (.cond c x y) lb st = bnd (condV (c.val st.rs)) fun t => cnd t (evalCode C L fb x lb st) (evalCode C L fb y lb st) := rfl
theorem code_block (id : Nat) (x : VCode) : evalCode C L fb (.block id x) lb st = bnd (evalCode C L fb x lb st) fun r => some (cnd (r.1.isExit id) (.normal, r.2) r) := rfl
theorem code_exit (id : Nat) : evalCode C L fb (.exit id) lb st = some (.exit id, st) := rfl
theorem code_ret : evalCode C L fb .ret lb st = some (.ret, st) := rfl
@[simp] theorem isNormal_normal : Ex.isNormal .normal = true := rfl
@[simp] theorem isNormal_exit (id : Nat) : Ex.isNormal (.exit id) = false := rfl
@[simp] theorem isNormal_ret : Ex.isNormal .ret = false := rfl
@[simp] theorem isExit_normal (id : Nat) : Ex.isExit id .normal = false := rfl
@[simp] theorem isExit_ret (id : Nat) : Ex.isExit id .ret = false := rfl
@[simp] theorem isExit_exit (id j : Nat) : Ex.isExit id (.exit j) = decide (j = id) := rfl
@[simp] theorem condV_bool (t : Bool) : condV (.bool t) = some t := rfl
@[simp] theorem wantedV_bool (t c : Bool) : wantedV t (.bool c) = some (c == t) := rfl
@[simp] theorem wantedV_undef (t : Bool) : wantedV t .undef = some false := rfl
theorem finish_normal (n : Nat) (res : List Res) : finish n res (.normal, st) = bnd (resV st.rs st.h res) fun vs => some (finishV n st (one vs)) := rfl
theorem finish_ret (n : Nat) (res : List Res) : finish n res (.ret, st) = bnd (resV st.rs st.h res) fun vs => some (finishV n st (one vs)) := rfl
@[congr] theorem code_congr {x y : VCode} (h1 : x = y) : evalCode C L fb x lb st = evalCode C L fb y lb st := by rw [h1]
end
attribute [local simp] evalOps_nil evalOps_cons evalOps_consg evalOp_mv evalOp_asg evalOp_pick evalOp_build evalOp_bslice evalOp_load evalOp_nilck evalOp_bin evalOp_un evalOp_conv evalOp_mkfn evalOp_slice evalOp_faddr evalOp_field evalOp_iaddr evalOp_index evalOp_lookup evalOp_extract evalOp_app evalOp_len evalOp_mn evalOp_mx evalOp_alloc evalOp_box evalOp_mkmap evalOp_store evalOp_mapupd evalOp_delete evalOp_sliceArr evalOp_call evalOp_callv evalOp_appc code_skip code_ops code_dops code_seq code_cond code_block code_exit code_ret finish_normal finish_ret
attribute [local simp] V.lt V.ltL V.flat V.pureCell V.pure V.isCell cellEq cellsEq eqV intV shV strV isShift binV unV byteV convV minV maxV foldV foldV1 fillV fillE findV putV delV isKey natOf natOr cut cellsAt mapAt mapOf
  loadV pickV nilckV sizeOk allSize sliceV faddrV fieldV iaddrV indexV found extractV allPure appV lenV ownHas ownOk storeC storeV samePtr appcV boxable mapupdV deleteV sliceArrV callV allLt clean bodyEnd resV one finishV runV initR
@[simp] theorem hget_local (h l : Heap) (k : Nat) : hget (h ++ l) (h.length + k) = l[k]? := by unfold hget; rw [List.getElem?_append_right (by omega)]; simp
@[simp] theorem hget_local0 (h l : Heap) : hget (h ++ l) h.length = l[0]? := hget_local h l 0
@[simp] theorem hset_local (h l : Heap) (k : Nat) (o : Obj) : hset (h ++ l) (h.length + k) o = h ++ l.set k o := by simp [hset, List.set_append_right]
@[simp] theorem hset_local0 (h l : Heap) (o : Obj) : hset (h ++ l) h.length o = h ++ l.set 0 o := by simp [hset, List.set_append_right]

end Go.Vm
