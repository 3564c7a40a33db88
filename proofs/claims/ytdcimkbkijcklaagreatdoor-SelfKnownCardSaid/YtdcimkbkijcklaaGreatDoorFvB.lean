/-
  Ev, part B: regions, code, calls, deferred calls. Definitions alone.
-/
import Derived.Test.YtdcimkbkijcklaaGreatDoorFvA
namespace Go.Fv
noncomputable section

def putA (N : Nat) (tm : Tm) (dst : Option Tmp) (v : AV) : Option (Tm) :=
  match dst with
  | none => some tm
  | some d => cond (Nat.blt d N) (some (tm.set d v)) none

/-- Is an operation wanted? none: it can't be told. -/
def want (ops : Array Oper) (o : Oper) (tm : Tm) : Option Bool :=
  match o.guard with
  | none => some true
  | some (j, w) => match (ops[j]?).bind (·.dst) with
    | none => some false
    | some d => match getT tm d with
      | .bool b => some (b == w)
      | .tup [] => some false
      | _ => none

def OR.fin (N : Nat) (o : Oper) (st : St) (r : OR) : R :=
  match r with
  | .val v h => match putA N st.tm o.dst v with
    | some tm => .norm ⟨tm, h, st.ds⟩
    | none => .fail 401
  | .pan v h => .pan v ⟨st.tm, h, st.ds⟩
  | .dfr f args => match putA N st.tm o.dst (.tup []) with
    | some tm => .norm ⟨tm, st.h, (f, args) :: st.ds⟩
    | none => .fail 402
  | .fail n => .fail n

def stepO (P : Program) (call : FuncId → List AV → Heap → CR) (N : Nat) (ops : Array Oper) (o : Oper) (st : St) : R :=
  match want ops o st.tm with
  | some true => (opE P call o st.tm st.h).fin N o st
  | some false => OR.fin N o st (.val (.tup []) st.h)
  | none => .fail 403

def R.bind (r : R) (k : St → R) : R :=
  match r with
  | .norm s => k s
  | r => r

def regL (P : Program) (call : FuncId → List AV → Heap → CR) (N : Nat) (ops : Array Oper) (l : List Oper) : St → R :=
  List.rec (fun st => .norm st) (fun o _ ih st => (stepO P call N ops o st).bind ih) l

/- A region that draws its order. -/

/-- The operations that stand directly ahead. -/
def dirs (o : Oper) : List Nat := (o.after.toList.filter (Region.binds .any)).map (·.on)

def bit (m j : Nat) : Bool := Nat.beq (Nat.land (Nat.shiftRight m j) 1) 1

/-- The next operation: the first light one that is ready, else the first heavy one that is. -/
def nextOp (P : Program) (ops : List Oper) (bs : List Nat) (done : Nat) : Option Nat :=
  let rs := (List.range ops.length).filter fun i => !(bit done i) && (Nat.land (bs.getD i 0) done == bs.getD i 0)
  match rs.find? fun i => ((ops[i]?).map (kind P)).getD 2 != 2 with
  | some i => some i
  | none => rs.head?

def order (P : Program) (ops : List Oper) (bs : List Nat) : Nat → Nat → List Nat
  | 0, _ => []
  | n + 1, done => match nextOp P ops bs done with
    | some i => i :: order P ops bs n (done ||| 2 ^ i)
    | none => []

/-- The order in which the machine takes the operations. -/
def ordOf (P : Program) (ops : Array Oper) : List Nat := order P ops.toList (ops.toList.map fun o => (dirs o).foldl (fun m j => m ||| 2 ^ j) 0) ops.size 0

/-- The numbers of all that stand ahead, as bits, operation by operation. -/
def bitsOf (P : Program) (ops : Array Oper) : List Nat :=
  (ordOf P ops).foldl (fun acc i => acc.set i (match ops[i]? with | some o => (dirs o).foldl (fun m j => m ||| 2 ^ j ||| acc.getD j 0) 0 | none => 0)) (List.replicate ops.size 0)

def dstOf (ops : Array Oper) (i : Nat) : Option Tmp := (ops[i]?).bind (·.dst)

/-- The temporaries that an operation looks at. -/
def looks (ops : Array Oper) (o : Oper) : List Tmp :=
  (o.op.operands.toList.filterMap fun | .tmp t => some t | _ => none) ++ (match o.guard with | some (j, _) => (dstOf ops j).toList | none => [])

/-- Does it write what an operation of a smaller number looks at? -/
def overW (ops : Array Oper) (i : Nat) : Bool :=
  match dstOf ops i with
  | none => false
  | some t => (List.range i).any fun k => match ops[k]? with | some o => (looks ops o).contains t | none => false

def isHeavy (P : Program) (ops : Array Oper) (i : Nat) : Bool := ((ops[i]?).map fun o => Nat.beq (kind P o) 2 || overW ops i).getD true

/-- Static: along the order each operation is new, stands behind what stands ahead of it, and behind no heavy one that does not stand ahead. -/
def okOrd (P : Program) (ops : Array Oper) (bs : List Nat) : List Nat → List Nat → Bool
  | _, [] => true
  | ds, i :: rest => (match ops[i]? with | some o => (dirs o).all (ds.contains ·) | none => false) && !(ds.contains i) &&
      ds.all (fun g => !(isHeavy P ops g) || bit (bs.getD i 0) g) && okOrd P ops bs (i :: ds) rest

/-- Static: the order holds all; what the bits say stands ahead; each temporary is written once, and looked at behind its writing. -/
def okReg (P : Program) (ops : Array Oper) (bs ord : List Nat) : Bool :=
  okOrd P ops bs [] ord && (List.range ops.size).all (fun i => ord.contains i) &&
  (List.range ops.size).all (fun i => (List.range ops.size).all fun j =>
    !(bit (bs.getD i 0) j) || (match ops[i]? with | some o => (dirs o).any (fun d => d == j || bit (bs.getD d 0) j) | none => false)) &&
  (List.range ops.size).all (fun i => (List.range ops.size).all fun j => i == j || dstOf ops i == none || dstOf ops i != dstOf ops j) &&
  (List.range ops.size).all (fun i => match ops[i]? with
    | some o => (looks ops o).all fun t => (List.range ops.size).all fun j => dstOf ops j != some t || bit (bs.getD i 0) j || isHeavy P ops j
    | none => false)

mutual
def same : AV → AV → Bool
  | .bool a, .bool b => a == b
  | .int k a, .int l b => k == l && ieq a b
  | .str a, .str b => bytesEq a b
  | .ptr i o, .ptr j p => Nat.beq i j && Nat.beq o p
  | .nilp, .nilp => true
  | .slice i o l c e x, .slice i' o' l' c' e' x' => Nat.beq i i' && Nat.beq o o' && Nat.beq l l' && Nat.beq c c' && Nat.beq e e' && x == x'
  | .nils, .nils => true
  | .fn f cs, .fn g ds => Nat.beq f g && sames cs ds
  | .nilf, .nilf => true
  | .iface t v, .iface u w => Nat.beq t u && same v w
  | .nili, .nili => true
  | .map i, .map j => Nat.beq i j
  | .nilm, .nilm => true
  | .agg cs, .agg ds => sames cs ds
  | .tup cs, .tup ds => sames cs ds
  | _, _ => false
def sames : List AV → List AV → Bool
  | [], [] => true
  | x :: xs, y :: ys => same x y && sames xs ys
  | _, _ => false
end

def idOf : AV → Option Nat
  | .ptr k _ => some k
  | .slice k .. => some k
  | _ => none

/-- A light operation gives now what it gave. -/
def stable1 (P : Program) (ops : Array Oper) (st : St) (j : Nat) : Bool :=
  match ops[j]? with
  | some o => cond (isHeavy P ops j) true (match want ops o st.tm with
    | some true => cond (Nat.beq (kind P o) 0)
        (match lightE P o st.tm st.h with
          | some v => match o.dst with
            | some d => same (getT st.tm d) v
            | none => true
          | none => false)
        (match o.dst, allocE P o st.tm with
          | some d, some (cs, m) => match idOf (getT st.tm d) with
            | some k => same (getT st.tm d) (m.at k) && (match st.h.get k with | .cells ds => sames cs ds | _ => false)
            | none => false
          | _, _ => false)
    | some false => match o.dst with
      | some d => same (getT st.tm d) (.tup [])
      | none => true
    | none => false)
  | none => false

def stable (P : Program) (ops : Array Oper) (bs : List Nat) (done : List Nat) (g : Option Nat) (st : St) : Bool :=
  match g with
  | none => done.all fun j => stable1 P ops st j
  | some g => done.all fun j => bit (bs.getD g 0) j || stable1 P ops st j

/-- Behind a panic the region's temporaries are unknown. -/
def poison (ops : List Oper) (tm : Tm) : Tm := ops.foldl (fun t o => match o.dst with | some d => t.set d .bad | none => t) tm

def drawL (P : Program) (call : FuncId → List AV → Heap → CR) (N : Nat) (ops : Array Oper) (bs : List Nat) : List Nat → List Nat → Option Nat → St → R
  | [], done, g, st => cond (stable P ops bs done g st) (.norm st) (.fail 501)
  | i :: rest, done, g, st =>
    match ops[i]? with
    | none => .fail 502
    | some o =>
      cond (isHeavy P ops i)
        (cond (stable P ops bs done g st)
          (match stepO P call N ops o st with
            | .norm st' => drawL P call N ops bs rest (i :: done) (some i) st'
            | .pan v st' => .pan v ⟨poison ops.toList st'.tm, st'.h, st'.ds⟩
            | .fail n => .fail n
            | _ => .fail 503) (.fail 504))
        (match stepO P call N ops o st with
          | .norm st' => drawL P call N ops bs rest (i :: done) g st'
          | .fail n => .fail n
          | _ => .fail 505)

def drawn (P : Program) (call : FuncId → List AV → Heap → CR) (N : Nat) (ops : Array Oper) (st : St) : R :=
  cond (okReg P ops (bitsOf P ops) (ordOf P ops)) (drawL P call N ops (bitsOf P ops) (ordOf P ops) [] none st) (.fail 506)

/- Code. -/
def R.blk (id : Nat) (r : R) : R :=
  match r with
  | .exit i s => cond (Nat.beq i id) (.norm s) (.exit i s)
  | r => r

def goCond (ih : Nat → Code → St → R) (N : Nat) (v : AV) (a b : Code) (st : St) : R :=
  match v with
  | .bool true => ih N a st
  | .bool false => ih N b st
  | _ => .fail 601

/- Calls. -/
def initT (_N : Nat) (args : List AV) : Tm :=
  List.rec (motive := fun _ => Nat → Tm → Tm) (fun _ t => t) (fun x _ ih i t => ih (i + 1) (t.set i x)) args 0 Tm.init

def resOne (P : Program) (tm : Tm) (h : Heap) (r : ResultVar) : Option AV :=
  match r with
  | .tmp t => some (getT tm t)
  | .cell a t => loadA P t (getT tm a) h

def resL (P : Program) (tm : Tm) (h : Heap) (l : List ResultVar) : Option (List AV) :=
  List.rec (some []) (fun r _ ih => (resOne P tm h r).bind fun v => ih.map (v :: ·)) l

def oneOf (l : List AV) : AV :=
  match l with
  | [v] => v
  | l => .tup l

def resV (P : Program) (fn : Func) (tm : Tm) (h : Heap) : Option AV := (resL P tm h fn.results.toList).map oneOf

/-- How a frame stands whose deferred calls run. -/
inductive Md where
  | ret
  | pan (v : AV)
  | recd (v : AV)

def isRec (o : Oper) : Bool :=
  match o.op with
  | .call { callee := .builtin .recover, .. } => true
  | _ => false

def usesRec : Code → Bool
  | .region _ ops _ => ops.toList.any isRec
  | .seq a b => usesRec a || usesRec b
  | .cond _ a b => usesRec a || usesRec b
  | .block _ b | .loop b | .scope b => usesRec b
  | .rangeFunc _ _ a b => usesRec a || usesRec b
  | _ => false

inductive RS where
  | ok (r : R) (u : Md)

def recov : Md → AV × Md
  | .pan v => (v, .recd v)
  | u => (.nili, u)

def regS (P : Program) (call : FuncId → List AV → Heap → CR) (N : Nat) (ops : Array Oper) : List Oper → St → Md → RS
  | [], st, u => .ok (.norm st) u
  | o :: rest, st, u =>
    match isRec o, o.guard with
    | true, none => match OR.fin N o st (.val (recov u).1 st.h) with
      | .norm st' => regS P call N ops rest st' (recov u).2
      | r => .ok r u
    | true, some _ => .ok (.fail 701) u
    | false, _ => match stepO P call N ops o st with
      | .norm st' => regS P call N ops rest st' u
      | r => .ok r u

/-- The code of a deferred function. -/
def runS (P : Program) (ih : Nat → Code → St → R) (call : FuncId → List AV → Heap → CR) (N : Nat) : Code → St → Md → RS
  | c, st, u => match usesRec c with
    | false => .ok (ih N c st) u
    | true => match c with
      | .seq a b => match runS P ih call N a st u with
        | .ok (.norm st') u' => runS P ih call N b st' u'
        | r => r
      | .region _ ops false => regS P call N ops ops.toList st u
      | _ => .ok (.fail 702) u

def settleA : Md → Md
  | .recd _ => .ret
  | u => u

/-- The deferred calls of a frame. -/
inductive LR where
  | ok (u : Md) (h : Heap)
  | fail (n : Nat)

def def1 (P : Program) (ih : Nat → Code → St → R) (call : FuncId → List AV → Heap → CR) (d : FuncId × List AV) (u : Md) (h : Heap) : LR :=
  match P.funcs[d.1]? with
  | some fn => match fn.body with
    | some c => match runS P ih call fn.ntmps c ⟨initT fn.ntmps d.2, h, []⟩ u with
      | .ok (.norm st) u' | .ok (.ret st) u' => match st.ds, resV P fn st.tm st.h with
        | [], some _ => .ok (settleA u') st.h
        | _, _ => .fail 801
      | .ok (.fail n) _ => .fail n
      | _ => .fail 802
    | none => .fail 803
  | none => .fail 804

def defs (P : Program) (ih : Nat → Code → St → R) (call : FuncId → List AV → Heap → CR) (l : List (FuncId × List AV)) : Md → Heap → LR :=
  List.rec (fun u h => .ok u h) (fun d _ r u h => match def1 P ih call d u h with
    | .ok u' h' => r u' h'
    | .fail n => .fail n) l

def endV (P : Program) (fn : Func) (tm : Tm) (h : Heap) : CR :=
  match resV P fn tm h with
  | some v => .ret v h
  | none => .fail 805

def leaveD (P : Program) (fn : Func) (tm : Tm) (r : LR) : CR :=
  match r with
  | .ok .ret h => endV P fn tm h
  | .ok (.pan v) h => .pan v h
  | .ok (.recd _) _ => .fail 806
  | .fail n => .fail n

def leave (P : Program) (ih : Nat → Code → St → R) (call : FuncId → List AV → Heap → CR) (fn : Func) (r : R) : CR :=
  match r with
  | .norm s | .ret s => match s.ds with
    | [] => endV P fn s.tm s.h
    | ds => leaveD P fn s.tm (defs P ih call ds .ret s.h)
  | .pan v s => match s.ds with
    | [] => .pan v s.h
    | ds => leaveD P fn s.tm (defs P ih call ds (.pan v) s.h)
  | .fail n => .fail n
  | .exit _ _ => .fail 807

/-- A call, by the machine of one fuel less. -/
def callE (P : Program) (ih : Nat → Code → St → R) (call : FuncId → List AV → Heap → CR) (f : FuncId) (args : List AV) (h : Heap) : CR :=
  match P.funcs[f]? with
  | some fn => match fn.body with
    | some c => leave P ih call fn (ih fn.ntmps c ⟨initT fn.ntmps args, h, []⟩)
    | none => .fail 808
  | none => .fail 809

structure Mach where
  run : Nat → Code → St → R
  call : FuncId → List AV → Heap → CR

def node (P : Program) (m : Mach) (N : Nat) (c : Code) (st : St) : R :=
  match c with
  | .skip | .label _ => .norm st
  | .region _ ops d => cond d (drawn P m.call N ops st) (regL P m.call N ops ops.toList st)
  | .seq a b => (m.run N a st).bind (m.run N b)
  | .cond x a b => goCond m.run N (ev st.tm x) a b st
  | .block id b => (m.run N b st).blk id
  | .loop b => (m.run N b st).bind (m.run N (.loop b))
  | .exit id => .exit id st
  | .ret => .ret st
  | .goto _ => .fail 602
  | .scope b => m.run N b st
  | .rangeFunc .. => .fail 604
  | .refuse _ => .fail 605

def mach (P : Program) (n : Nat) : Mach :=
  Nat.rec ⟨fun _ _ _ => .fail 0, fun _ _ _ => .fail 0⟩ (fun _ m => ⟨node P m, callE P m.run m.call⟩) n

/-- An empty heap, of 2^d places. -/
def Heap.empty (d : Nat) : Heap := ⟨0, T.mk .none d⟩

def okBool (r : CR) : Bool :=
  match r with
  | .ret (.bool b) _ => b
  | _ => false

end
end Go.Fv
