/-
  Ev, part A: an abstract machine for calls that make memory of their own: values with ids of blocks, no tape, no draws. Definitions alone.
-/
import Derived.Calls
namespace Go.Ev
noncomputable section

inductive AV where
  | bad
  | bool (b : Bool)
  | int (k : IntKind) (n : Int)
  | str (s : List UInt8)
  | ptr (id off : Nat)
  | nilp
  | slice (id off len cap es : Nat) (op : Bool)
  | nils
  | fn (f : FuncId) (caps : List AV)
  | nilf
  | iface (t : TypeId) (v : AV)
  | nili
  | agg (cs : List AV)
  | tup (vs : List AV)
instance : Inhabited AV := ⟨.bad⟩

/-- A tree of places, by the bits of a number. -/
inductive T (α : Type) where
  | leaf (v : α)
  | node (l r : T α)

def T.get {α : Type} (t : T α) : Nat → α → α :=
  T.rec (fun v n d => Nat.rec v (fun _ _ => d) n) (fun _ _ gl gr n d => Bool.rec (gr (Nat.div n (nat_lit 2)) d) (gl (Nat.div n (nat_lit 2)) d) (Nat.beq (Nat.mod n (nat_lit 2)) (nat_lit 0))) t

def T.set {α : Type} (t : T α) : Nat → α → T α :=
  T.rec (fun v n x => Nat.rec (.leaf x) (fun _ _ => .leaf v) n) (fun l r sl sr n x => Bool.rec (.node l (sr (Nat.div n (nat_lit 2)) x)) (.node (sl (Nat.div n (nat_lit 2)) x) r) (Nat.beq (Nat.mod n (nat_lit 2)) (nat_lit 0))) t

def T.mk {α : Type} (v : α) (d : Nat) : T α := Nat.rec (.leaf v) (fun _ t => .node t t) d

inductive Blk where
  | none
  | dead
  | cells (cs : List AV)

structure Heap where
  next : Nat
  m : T Blk

def Heap.get (h : Heap) (i : Nat) : Blk := h.m.get i .none
def Heap.put (h : Heap) (i : Nat) (b : Blk) : Heap := ⟨h.next, h.m.set i b⟩
def Heap.alloc (h : Heap) (cs : List AV) : Heap := ⟨h.next + 1, h.m.set h.next (.cells cs)⟩

/-- What an operation gives. -/
inductive OR where
  | val (v : AV) (h : Heap)
  | pan (v : AV) (h : Heap)
  | dfr (f : FuncId) (args : List AV)
  | fail (n : Nat)

structure St where
  tm : T AV
  h : Heap
  ds : List (FuncId × List AV)

inductive R where
  | norm (s : St)
  | exit (id : Nat) (s : St)
  | ret (s : St)
  | pan (v : AV) (s : St)
  | fail (n : Nat)

/-- What a call gives. -/
inductive CR where
  | ret (v : AV) (h : Heap)
  | pan (v : AV) (h : Heap)
  | fail (n : Nat)

def getT (tm : T AV) (t : Nat) : AV := tm.get t .bad

def ofV1 : Value → AV
  | .bool b => .bool b
  | .int k n => .int k n
  | .string s => .str s.data.toList
  | .pointer none => .nilp
  | .slice none 0 0 => .nils
  | .nilFunc => .nilf
  | .nilIface => .nili
  | _ => .bad

def ofVs (l : List Value) : List AV := List.rec [] (fun v _ r => ofV1 v :: r) l

def ofV : Value → AV
  | .agg cs => .agg (ofVs cs.toList)
  | .tuple cs => .tup (ofVs cs.toList)
  | .iface t v => .iface t (ofV1 v)
  | v => ofV1 v

def ev (tm : T AV) : Operand → AV
  | .tmp t => getT tm t
  | .const v => ofV v
  | .func f => .fn f []
  | .global _ => .bad

def evs (tm : T AV) (l : List Operand) : List AV := List.rec [] (fun x _ r => ev tm x :: r) l

def acells : AV → List AV
  | .agg cs => cs
  | v => [v]

def nb : AV → Bool
  | .bad => false
  | _ => true

/-- Fit for one cell. -/
def one : AV → Bool
  | .agg _ | .tup _ | .bad => false
  | _ => true

def ones (l : List AV) : Bool := List.rec true (fun x _ r => cond (one x) r false) l

def len (l : List AV) : Nat := List.rec 0 (fun _ _ r => r + 1) l
def lenB (l : List UInt8) : Nat := List.rec 0 (fun _ _ r => r + 1) l

def nth (l : List AV) : Nat → Option AV := List.rec (fun _ => none) (fun x _ ih n => Nat.casesOn n (some x) ih) l
def nthB (l : List UInt8) : Nat → Option UInt8 := List.rec (fun _ => none) (fun x _ ih n => Nat.casesOn n (some x) ih) l

/-- The first n, if there are so many. -/
def takeN (l : List AV) : Nat → Option (List AV) :=
  List.rec (fun n => Nat.casesOn n (some []) (fun _ => none)) (fun x _ ih n => Nat.casesOn n (some []) (fun m => (ih m).map (x :: ·))) l

def slc (l : List AV) : Nat → Nat → Option (List AV) :=
  List.rec (fun off n => Nat.casesOn off (Nat.casesOn n (some []) (fun _ => none)) (fun _ => none))
    (fun x xs ih off n => Nat.casesOn off (takeN (x :: xs) n) (fun m => ih m n)) l

/-- The first cells written over. -/
def over (vs : List AV) : List AV → Option (List AV) :=
  List.rec (fun l => some l) (fun v _ ih l => List.casesOn l none (fun _ xs => (ih xs).map (v :: ·))) vs

def spl (vs : List AV) (l : List AV) : Nat → Option (List AV) :=
  List.rec (fun off => Nat.casesOn off (over vs []) (fun _ => none)) (fun x xs ih off => Nat.casesOn off (over vs (x :: xs)) (fun m => (ih m).map (x :: ·))) l

/-- A list as often as said. -/
def reps (l : List AV) (n : Nat) : List AV := Nat.rec [] (fun _ r => l ++ r) n

/- The program's types, as the machine asks for them: closed facts. -/
inductive Ld where
  | one | many (n : Nat) | no

def sizeA (P : Program) (t : TypeId) : Option Nat := (P.info? t).map (·.size)
def bytesA (P : Program) (t : TypeId) : Option Nat := (P.info? t).map (·.bytes)
def zeroA (P : Program) (t : TypeId) : Option AV := ((P.info? t).bind (·.zero)).map ofV

def ldk (P : Program) (t : TypeId) : Ld :=
  match P.underlying t with
  | some (.struct _) | some (.array _ _) => match sizeA P t with | some n => .many n | none => .no
  | some _ => .one
  | none => .no

/-- A field: its place and its type. -/
def fld (P : Program) (s : TypeId) (f : Nat) : Option (Nat × TypeId) :=
  match P.underlying s with
  | some (.struct fields) => match fields[f]? with
    | some fd => match sizeA P fd.type with | some (_ + 1) => some (fd.offset, fd.type) | _ => none
    | none => none
  | _ => none

def slElem (P : Program) (t : TypeId) : Option (TypeId × Nat) :=
  match P.underlying t with
  | some (.slice e) => (sizeA P e).map fun n => (e, n)
  | _ => none

def arElem (P : Program) (t : TypeId) : Option (Nat × TypeId × Nat) :=
  match P.underlying t with
  | some (.array n e) => (sizeA P e).map fun k => (n, e, k)
  | _ => none

def partA (P : Program) (t : TypeId) (cs : List AV) (off : Nat) : Option AV :=
  match ldk P t with
  | .many n => (slc cs off n).map .agg
  | .one => nth cs off
  | .no => none

def natOf : Int → Option Nat
  | .ofNat n => some n
  | .negSucc _ => none

def ieq : Int → Int → Bool
  | .ofNat a, .ofNat b => Nat.beq a b
  | .negSucc a, .negSucc b => Nat.beq a b
  | _, _ => false
def ilt : Int → Int → Bool
  | .ofNat a, .ofNat b => Nat.blt a b
  | .negSucc _, .ofNat _ => true
  | .negSucc a, .negSucc b => Nat.blt b a
  | .ofNat _, .negSucc _ => false
def iadd : Int → Int → Int
  | .ofNat a, .ofNat b => .ofNat (Nat.add a b)
  | a, b => a + b
def isub : Int → Int → Int
  | .ofNat a, .ofNat b => cond (Nat.ble b a) (.ofNat (Nat.sub a b)) (Int.ofNat a - Int.ofNat b)
  | a, b => a - b

def wrapF : IntKind → Int → Int
  | .i64, .ofNat m => cond (Nat.ble m (nat_lit 9223372036854775807)) (.ofNat m) (IntKind.wrap .i64 (.ofNat m))
  | .i64, .negSucc m => cond (Nat.ble m (nat_lit 9223372036854775807)) (.negSucc m) (IntKind.wrap .i64 (.negSucc m))
  | .u8, .ofNat m => .ofNat (Nat.mod m (nat_lit 256))
  | .u64, .ofNat m => .ofNat (Nat.mod m (nat_lit 18446744073709551616))
  | .u32, .ofNat m => .ofNat (Nat.mod m (nat_lit 4294967296))
  | k, n => k.wrap n

def bytesEq (x y : List UInt8) : Bool := x == y

def strBin (op : BinOp) (x y : List UInt8) : Option AV :=
  match op with
  | .eql => some (.bool (bytesEq x y))
  | .neq => some (.bool (!(bytesEq x y)))
  | .add => cond (Nat.ble (lenB x + lenB y) (nat_lit 1000000)) (some (.str (x ++ y))) none
  | .lss => some (.bool (Op.bytesLess x y))
  | .leq => some (.bool (Op.bytesLess x y || bytesEq x y))
  | .gtr => some (.bool (!(Op.bytesLess x y || bytesEq x y)))
  | .geq => some (.bool (!(Op.bytesLess x y)))
  | _ => none

def bitsA (op : BinOp) (k : IntKind) (x y : Int) : Option AV :=
  match op, x, y with
  | .and, .ofNat a, .ofNat b => some (.int k (wrapF k (.ofNat (Nat.land (Nat.mod a (2 ^ k.bits)) (Nat.mod b (2 ^ k.bits))))))
  | .or, .ofNat a, .ofNat b => some (.int k (wrapF k (.ofNat (Nat.lor (Nat.mod a (2 ^ k.bits)) (Nat.mod b (2 ^ k.bits))))))
  | .xor, .ofNat a, .ofNat b => some (.int k (wrapF k (.ofNat (Nat.xor (Nat.mod a (2 ^ k.bits)) (Nat.mod b (2 ^ k.bits))))))
  | .and, x, y => some (.int k (k.wrap ((BitVec.ofInt k.bits x &&& BitVec.ofInt k.bits y).toNat : Nat)))
  | .or, x, y => some (.int k (k.wrap ((BitVec.ofInt k.bits x ||| BitVec.ofInt k.bits y).toNat : Nat)))
  | .xor, x, y => some (.int k (k.wrap ((BitVec.ofInt k.bits x ^^^ BitVec.ofInt k.bits y).toNat : Nat)))
  | .andNot, x, y => some (.int k (k.wrap ((BitVec.ofInt k.bits x &&& ~~~(BitVec.ofInt k.bits y)).toNat : Nat)))
  | _, _, _ => none

def shiftA (op : BinOp) (k : IntKind) (x y : Int) : Option AV :=
  match op, x, y with
  | .shl, .ofNat a, .ofNat n => some (.int k (wrapF k (.ofNat (Nat.mul a (Nat.pow (nat_lit 2) (Nat.min n k.bits))))))
  | .shr, .ofNat a, .ofNat n => some (.int k (.ofNat (Nat.div a (Nat.pow (nat_lit 2) (Nat.min n k.bits)))))
  | .shl, x, .ofNat n => some (.int k (k.wrap (x * 2 ^ (min n k.bits))))
  | .shr, x, .ofNat n => some (.int k (x.fdiv (2 ^ (min n k.bits))))
  | _, _, _ => none

def divA (op : BinOp) (k : IntKind) (x y : Int) : Option AV :=
  match op, x, y with
  | .quo, .ofNat a, .ofNat (b + 1) => some (.int k (wrapF k (.ofNat (Nat.div a (b + 1)))))
  | .rem, .ofNat a, .ofNat (b + 1) => some (.int k (.ofNat (Nat.mod a (b + 1))))
  | .quo, x, y => cond (ieq y 0) none (some (.int k (k.wrap (x.tdiv y))))
  | .rem, x, y => cond (ieq y 0) none (some (.int k (x.tmod y)))
  | _, _, _ => none

def intBin (op : BinOp) (k : IntKind) (x y : Int) : Option AV :=
  match op with
  | .add => some (.int k (wrapF k (iadd x y)))
  | .sub => some (.int k (wrapF k (isub x y)))
  | .mul => some (.int k (wrapF k (x * y)))
  | .eql => some (.bool (ieq x y))
  | .neq => some (.bool (!(ieq x y)))
  | .lss => some (.bool (ilt x y))
  | .leq => some (.bool (!(ilt y x)))
  | .gtr => some (.bool (ilt y x))
  | .geq => some (.bool (!(ilt x y)))
  | .and | .or | .xor | .andNot => bitsA op k x y
  | .quo | .rem => divA op k x y
  | _ => none

/-- One field of two structs held against another: fields of one cell alone. -/
def eq1 : TypeDesc → AV → AV → Option Bool
  | .bool, .bool a, .bool b => some (a == b)
  | .int _, .int k a, .int k' b => if k = k' then some (ieq a b) else none
  | .string, .str a, .str b => some (bytesEq a b)
  | _, _, _ => none

def eqFields (P : Program) (xs ys : List AV) (fs : List Field) : Option Bool :=
  List.rec (some true) (fun f _ r =>
    if f.name = "_" then none else
    match P.underlying f.type, nth xs f.offset, nth ys f.offset with
    | some d, some x, some y => match eq1 d x y with | some true => r | some false => some false | none => none
    | _, _, _ => none) fs

def eqA (P : Program) (t : TypeId) (x y : AV) : Option Bool :=
  match x, y with
  | .bool a, .bool b => match P.underlying t with | some .bool => some (a == b) | _ => none
  | .nilp, .nilp => match P.underlying t with | some (.pointer _) => some true | _ => none
  | .ptr _ _, .nilp | .nilp, .ptr _ _ => match P.underlying t with | some (.pointer _) => some false | _ => none
  | .nils, .nils => match P.underlying t with | some (.slice _) => some true | _ => none
  | .slice .., .nils | .nils, .slice .. => match P.underlying t with | some (.slice _) => some false | _ => none
  | .nilf, .nilf => match P.underlying t with | some (.func ..) => some true | _ => none
  | .fn .., .nilf | .nilf, .fn .. => match P.underlying t with | some (.func ..) => some false | _ => none
  | .iface .., .nili | .nili, .iface .. => match P.underlying t with | some (.interface _) => some false | _ => none
  | .agg xs, .agg ys => match P.underlying t with
    | some (.struct fs) => cond (P.stoodInHeld t) none (cond (P.eqGuardType P.depth t) none (eqFields P xs ys fs.toList))
    | _ => none
  | _, _ => none

def isNilConst : Operand → Bool
  | .const .nilIface => true
  | _ => false

def binA (P : Program) (op : BinOp) (t : TypeId) (ox oy : Operand) (x y : AV) : Option AV :=
  match x, y with
  | .int k a, .int k' b => match op with
    | .shl | .shr => shiftA op k a b
    | _ => if k = k' then intBin op k a b else none
  | .str a, .str b => strBin op a b
  | .nili, .nili => cond (isNilConst ox || isNilConst oy) (match P.underlying t with | some (.interface _) => (match op with | .eql => some (.bool true) | .neq => some (.bool false) | _ => none) | _ => none) none
  | x, y => match op with
    | .eql => (eqA P t x y).map .bool
    | .neq => (eqA P t x y).map fun b => .bool (!b)
    | _ => none

def unA (op : UnOp) (x : AV) : Option AV :=
  match op, x with
  | .not, .bool b => some (.bool (!b))
  | .neg, .int k n => some (.int k (wrapF k (isub 0 n)))
  | .xor, .int k n => some (.int k (k.wrap ((BitVec.ofInt k.bits (if k.signed then -1 else k.max) ^^^ BitVec.ofInt k.bits n).toNat : Nat)))
  | _, _ => none

def toBytes (l : List AV) : Option (List UInt8) :=
  List.rec (some []) (fun v _ r => match v with | .int .u8 (.ofNat n) => r.map (UInt8.ofNat n :: ·) | _ => none) l
def ofBytes (l : List UInt8) : List AV := List.rec [] (fun b _ r => .int .u8 (.ofNat b.toNat) :: r) l

def convA (P : Program) (src dst : TypeId) (x : AV) (h : Heap) : Option AV :=
  match x with
  | .int _ n => match P.underlying dst with | some (.int k) => some (.int k (wrapF k n)) | _ => none
  | .str s => match P.underlying dst with | some .string => some (.str s) | _ => none
  | .slice id off n _ _ _ => match P.underlying src, P.underlying dst with
    | some (.slice e), some .string => match P.underlying e with
      | some (.int .u8) => match h.get id with
        | .cells cs => ((slc cs off n).bind toBytes).map .str
        | _ => cond (Nat.beq n 0) (some (.str [])) none
      | _ => none
    | _, _ => none
  | .nils => match P.underlying src, P.underlying dst with
    | some (.slice e), some .string => match P.underlying e with | some (.int .u8) => some (.str []) | _ => none
    | _, _ => none
  | _ => none

def intArg : Option AV → Option (Option Nat)
  | none => some none
  | some (.int _ (.ofNat n)) => some (some n)
  | some _ => none

def dropB (l : List UInt8) (n : Nat) : List UInt8 := l.drop n

def sliceA (P : Program) (t : TypeId) (x : AV) (lo hi mx : Option AV) : Option AV :=
  match x, intArg lo, intArg hi, mx with
  | .str s, some l, some h, none => match P.underlying t with
    | some .string => cond (Nat.ble (h.getD (lenB s)) (lenB s) && Nat.ble (l.getD 0) (h.getD (lenB s))) (some (.str ((s.take (h.getD (lenB s))).drop (l.getD 0)))) none
    | _ => none
  | .slice id off n cap es op, some l, some h, none => match slElem P t with
    | some (_, sz) => cond (Nat.beq sz es && Nat.ble (h.getD n) cap && Nat.ble (l.getD 0) (h.getD n)) (some (.slice id (off + l.getD 0 * es) (h.getD n - l.getD 0) (cap - l.getD 0) es op)) none
    | none => none
  | .nils, some l, some h, none => match slElem P t with
    | some _ => cond (Nat.beq (l.getD 0) 0 && Nat.beq (h.getD 0) 0) (some .nils) none
    | none => none
  | _, _, _, _ => none

def idxAddrA (P : Program) (t : TypeId) (x i : AV) : Option AV :=
  match i with
  | .int _ (.ofNat n) => match x with
    | .slice id off l _ _ _ => match slElem P t with
      | some (_, sz) => cond (Nat.blt n l) (some (.ptr id (off + n * sz))) none
      | none => none
    | .ptr id off => match arElem P t with
      | some (l, _, sz) => cond (Nat.blt n l) (some (.ptr id (off + n * sz))) none
      | none => none
    | _ => none
  | _ => none

def idxA (P : Program) (t : TypeId) (x i : AV) : Option AV :=
  match i with
  | .int _ (.ofNat n) => match x with
    | .str s => match P.underlying t with
      | some .string => (nthB s n).map fun b => .int .u8 (.ofNat b.toNat)
      | _ => none
    | .agg cs => match arElem P t with
      | some (l, e, sz) => cond (Nat.blt n l) (partA P e cs (n * sz)) none
      | none => none
    | _ => none
  | _ => none

def loadA (P : Program) (t : TypeId) (x : AV) (h : Heap) : Option AV :=
  match x with
  | .ptr id off => match h.get id with
    | .cells cs => partA P t cs off
    | _ => none
  | _ => none

def fillA (place : Nat → Option (Nat × Nat)) (ps : List (Nat × AV)) : List AV → Option (List AV) :=
  List.rec (fun cs => some cs) (fun p _ ih cs => match place p.1 with
    | some (off, size) => cond (Nat.beq (len (acells p.2)) size && nb p.2) ((spl (acells p.2) cs off).bind ih) none
    | none => none) ps

def evps (tm : T AV) (l : List (Nat × Operand)) : List (Nat × AV) := List.rec [] (fun p _ r => (p.1, ev tm p.2) :: r) l

def placesS (P : Program) (t : TypeId) : Option (Nat → Option (Nat × Nat)) :=
  match P.underlying t with
  | some (.struct fs) => some fun i => (fs[i]?).bind fun f => (sizeA P f.type).map fun n => (f.offset, n)
  | some (.array _ e) => (sizeA P e).map fun n => fun i => some (i * n, n)
  | _ => none

/-- The struct's fields have types. -/
def fieldsOk (P : Program) (t : TypeId) : Bool :=
  match P.underlying t with
  | some (.struct fs) => fs.toList.all fun f => (sizeA P f.type).isSome
  | _ => true

def buildA (P : Program) (t : TypeId) (ps : List (Nat × AV)) : Option AV :=
  cond (fieldsOk P t) (match placesS P t, zeroA P t with
  | some pl, some (.agg z) => (fillA pl ps z).map .agg
  | _, _ => none) none

def assertA (P : Program) (x : AV) (t : TypeId) (ok : Bool) : Option AV :=
  match P.underlying t with
  | some (.interface _) | none => none
  | some _ => match x with
    | .iface u v => if u = t then some (cond ok (.tup [v, .bool true]) v) else cond ok ((zeroA P t).map fun z => .tup [z, .bool false]) none
    | .nili => cond ok ((zeroA P t).map fun z => .tup [z, .bool false]) none
    | _ => none

def mkIfaceA (P : Program) (t : TypeId) (x : AV) : Option AV :=
  match P.underlying t with
  | some (.interface _) | none => none
  | some _ => some (.iface t x)

def nilA : AV → Option AV
  | .ptr i o => some (.ptr i o)
  | .fn f cs => some (.fn f cs)
  | .iface t v => some (.iface t v)
  | _ => none

def pickA (c a b : AV) : Option AV :=
  match c with
  | .bool true => some a
  | .bool false => some b
  | _ => none

def extractA (x : AV) (i : Nat) : Option AV :=
  match x with
  | .tup vs => nth vs i
  | _ => none

def lenA (P : Program) (t : Option TypeId) (x : AV) : Option AV :=
  match t.bind (P.underlying ·), x with
  | some .string, .str s => some (.int .i64 (.ofNat (lenB s)))
  | some (.slice _), .slice _ _ n _ _ _ => some (.int .i64 (.ofNat n))
  | some (.slice _), .nils => some (.int .i64 0)
  | _, _ => none

def capA (P : Program) (t : Option TypeId) (x : AV) : Option AV :=
  match t.bind (P.underlying ·), x with
  | some (.slice _), .slice _ _ _ c _ false => some (.int .i64 (.ofNat c))
  | some (.slice _), .nils => some (.int .i64 0)
  | _, _ => none

def builtinL (P : Program) (b : Builtin) (ts : Array TypeId) (xs : List AV) : Option AV :=
  match b, xs with
  | .len, [x] => lenA P ts[0]? x
  | .cap, [x] => capA P ts[0]? x
  | .min, [.int k x, .int _ y] => some (.int k (cond (ilt y x) y x))
  | .max, [.int k x, .int _ y] => some (.int k (cond (ilt x y) y x))
  | _, _ => none

/-- Operations that only read. -/
def lightE (P : Program) (o : Oper) (tm : T AV) (h : Heap) : Option AV :=
  match o.op with
  | .move x | .assign x => some (ev tm x)
  | .pick c a b => pickA (ev tm c) (ev tm a) (ev tm b)
  | .build t ps => buildA P t (evps tm ps.toList)
  | .load t x => loadA P t (ev tm x) h
  | .nilCheck x => nilA (ev tm x)
  | .binOp op t x y _ => binA P op t x y (ev tm x) (ev tm y)
  | .unOp op _ x => unA op (ev tm x)
  | .convert s d x => cond (P.underlying s).isSome (convA P s d (ev tm x) h) none
  | .makeInterface t x => mkIfaceA P t (ev tm x)
  | .makeFunc (.func f) first caps => cond (Nat.beq first.size 0) (some (.fn f (evs tm caps.toList))) none
  | .slice t x lo hi mx => sliceA P t (ev tm x) (lo.map (ev tm)) (hi.map (ev tm)) (mx.map (ev tm))
  | .fieldAddr s x f => match ev tm x with
    | .ptr id off => (fld P s f).map fun p => .ptr id (off + p.1)
    | _ => none
  | .field s x f => match ev tm x with
    | .agg cs => (fld P s f).bind fun p => partA P p.2 cs p.1
    | _ => none
  | .indexAddr t x i => idxAddrA P t (ev tm x) (ev tm i)
  | .index t x i => idxA P t (ev tm x) (ev tm i)
  | .typeAssert x _ t ok => assertA P (ev tm x) t ok
  | .extract x i => extractA (ev tm x) i
  | .call { callee := .builtin b, args, argTypes } => builtinL P b argTypes (evs tm args.toList)
  | _ => none

/-- Operations that make one block: its cells, and the value at an id. -/
inductive Mk where
  | ptr | slice (len cap es : Nat)

def Mk.at : Mk → Nat → AV
  | .ptr, i => .ptr i 0
  | .slice l c e, i => .slice i 0 l c e false

def allocE (P : Program) (o : Oper) (tm : T AV) : Option (List AV × Mk) :=
  match o.op with
  | .alloc t => (zeroA P t).bind fun z => cond (nb z) (some (acells z, .ptr)) none
  | .box _ x => cond (nb (ev tm x)) (some (acells (ev tm x), .ptr)) none
  | .buildSlice t n ps => match slElem P t with
    | some (e, sz) => match zeroA P e with
      | some z => cond (nb z && Nat.beq (len (acells z)) sz && Nat.ble (n * sz) (nat_lit 65536)) ((fillA (fun i => some (i * sz, sz)) (evps tm ps.toList) (reps (acells z) n)).map fun cs => (cs, .slice n n sz)) none
      | none => none
    | none => none
  | .makeSlice t l c => match slElem P t, ev tm l, ev tm c with
    | some (e, sz), .int _ (.ofNat l), .int _ (.ofNat c) => match zeroA P e, bytesA P e with
      | some z, some by_ => cond (nb z && Nat.beq (len (acells z)) sz && Nat.ble l c && Nat.ble c (nat_lit 65536) && Nat.ble by_ (nat_lit 65536)) (some (reps (acells z) c, .slice l c sz)) none
      | _, _ => none
    | _, _, _ => none
  | _ => none

/-- The cells that append and copy take of a value. -/
def srcCells (x : AV) (sz : Nat) (n : Nat) (h : Heap) : Option (List AV) :=
  match x with
  | .nils => cond (Nat.beq n 0) (some []) none
  | .slice id off _ _ _ _ => match h.get id with
    | .cells cs => slc cs off (n * sz)
    | _ => cond (Nat.beq (n * sz) 0) (some []) none
  | .str s => cond (Nat.beq sz 1) (takeN (ofBytes s) n) none
  | _ => none

def lenOfA : AV → Option Nat
  | .nils => some 0
  | .slice _ _ n _ _ _ => some n
  | .str s => some (lenB s)
  | _ => none

def growA (cs : List AV) (need es : Nat) (h : Heap) : OR := .val (.slice h.next 0 need need es true) (h.alloc cs)

/-- append, where the cells are known. -/
def appA (s : AV) (n sz : Nat) (new : List AV) (h : Heap) : OR :=
  match s with
  | .nils => cond (Nat.beq n 0) (.val .nils h) (growA new n sz h)
  | .slice id off l cap es op =>
    cond (Nat.beq es sz && ones new && Nat.ble (l + n) (nat_lit 1000000)) (match h.get id with
      | .cells cs => cond (Nat.ble (l + n) cap)
          (match spl new cs (off + l * sz) with
            | some cs' => .val (.slice id off (l + n) cap es op) (h.put id (.cells cs'))
            | none => .fail 101)
          (match slc cs off (l * sz) with
            | some old => growA (old ++ new) (l + n) sz (cond op (h.put id .dead) h)
            | none => .fail 102)
      | _ => .fail 103) (.fail 104)
  | _ => .fail 105

def isIntT (P : Program) (t : Option TypeId) : Bool :=
  match t with
  | some t => match P.underlying t with | some (.int _) => true | _ => false
  | none => false
def typedT (P : Program) (t : Option TypeId) : Bool :=
  match t with
  | some t => (P.underlying t).isSome
  | none => true

def appendA (P : Program) (ts : Array TypeId) (s x : AV) (h : Heap) : OR :=
  match ts[0]? with
  | some t => match slElem P t with
    | some (e, sz) => match zeroA P e, bytesA P e with
      | some z, some by_ => cond (nb z && Nat.beq (len (acells z)) sz && Nat.ble by_ (nat_lit 65536) && Nat.blt 0 by_ && typedT P ts[1]?)
        (cond (isIntT P ts[1]?)
          (match x with
            | .int _ (.ofNat n) => cond (Nat.ble n (nat_lit 65536)) (appA s n sz (reps (acells z) n) h) (.fail 111)
            | _ => .fail 112)
          (match lenOfA x with
            | some n => match srcCells x sz n h with
              | some new => cond (Nat.ble n (nat_lit 65536)) (appA s n sz new h) (.fail 113)
              | none => .fail 114
            | none => .fail 115)) (.fail 116)
      | _, _ => .fail 117
    | none => .fail 118
  | none => .fail 119

def copyA (P : Program) (ts : Array TypeId) (d x : AV) (h : Heap) : OR :=
  match ts[0]? with
  | some t => match slElem P t, lenOfA x with
    | some (_, sz), some m => match d with
      | .nils => .val (.int .i64 0) h
      | .slice id off l _ _ _ => match srcCells x sz (Nat.min m l) h, h.get id with
        | some new, .cells cs => cond (ones new) (match spl new cs off with
          | some cs' => .val (.int .i64 (.ofNat (Nat.min m l))) (h.put id (.cells cs'))
          | none => .fail 121) (.fail 126)
        | _, _ => .fail 122
      | _ => .fail 123
    | _, _ => .fail 124
  | none => .fail 125

def storeA (P : Program) (t : TypeId) (p x : AV) (h : Heap) : OR :=
  match p with
  | .ptr id off => match h.get id with
    | .cells cs => match sizeA P t with
      | some sz => cond (Nat.beq (len (acells x)) sz && ones (acells x)) (match spl (acells x) cs off with
        | some cs' => .val (.tup []) (h.put id (.cells cs'))
        | none => .fail 131) (.fail 132)
      | none => .fail 133
    | _ => .fail 134
  | _ => .fail 135

/-- A value, or nothing. -/
def OR.v : OR → OR
  | .val v h => .val v h
  | .fail n => .fail n
  | _ => .fail 999

def CR.op : CR → OR
  | .ret v h => .val v h
  | .pan v h => .pan v h
  | .fail n => .fail n

def callV (call : FuncId → List AV → Heap → CR) (f : AV) (args : List AV) (h : Heap) : OR :=
  match f with
  | .fn k caps => (call k (args ++ caps) h).op
  | _ => .fail 141

def str2sl (P : Program) (t : TypeId) (s : List UInt8) (h : Heap) : OR :=
  match slElem P t with
  | some (e, sz) => match P.underlying e with
    | some (.int .u8) => cond (Nat.beq sz 1 && Nat.ble (lenB s) (nat_lit 65536)) (growA (ofBytes s) (lenB s) 1 h) (.fail 151)
    | _ => .fail 152
  | none => .fail 153

def heavyE (P : Program) (call : FuncId → List AV → Heap → CR) (o : Oper) (tm : T AV) (h : Heap) : OR :=
  match o.op with
  | .store t p x => (storeA P t (ev tm p) (ev tm x) h).v
  | .call { callee := .value f, args, .. } => callV call (ev tm f) (evs tm args.toList) h
  | .call { callee := .builtin .append, args, argTypes } => match evs tm args.toList with
    | [s, x] => (appendA P argTypes s x h).v
    | _ => .fail 201
  | .call { callee := .builtin .copy, args, argTypes } => match evs tm args.toList with
    | [d, x] => (copyA P argTypes d x h).v
    | _ => .fail 202
  | .convert sr d x => match P.underlying sr, ev tm x with
    | some .string, .str s => (str2sl P d s h).v
    | _, _ => .fail 203
  | .panic x => match ev tm x with
    | .iface t v => .pan (.iface t v) h
    | _ => .fail 204
  | .defer { callee := .value f, args, .. } => match ev tm f with
    | .fn k caps => .dfr k (evs tm args.toList ++ caps)
    | _ => .fail 205
  | _ => .fail 206

/-- 0: reads; 1: makes a block; 2: the others. -/
def kind (P : Program) (o : Oper) : Nat :=
  match o.op with
  | .alloc _ | .box .. | .buildSlice .. | .makeSlice .. => 1
  | .store .. | .panic _ | .defer _ | .mapUpdate .. | .insert .. => 2
  | .call { callee := .builtin b, .. } => match b with | .len | .cap | .min | .max => 0 | _ => 2
  | .call _ => 2
  | .convert _ d _ => match P.underlying d with | some (.slice _) => 2 | _ => 0
  | _ => 0

def wrapL (r : Option AV) (h : Heap) : OR :=
  match r with
  | some v => .val v h
  | none => .fail 301
def wrapM (r : Option (List AV × Mk)) (h : Heap) : OR :=
  match r with
  | some (cs, m) => .val (m.at h.next) (h.alloc cs)
  | none => .fail 302

def opE (P : Program) (call : FuncId → List AV → Heap → CR) (o : Oper) (tm : T AV) (h : Heap) : OR :=
  match kind P o with
  | 0 => wrapL (lightE P o tm h) h
  | 1 => wrapM (allocE P o tm) h
  | _ => heavyE P call o tm h

end
end Go.Ev
