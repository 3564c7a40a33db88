/-
  Ev, part F: the same machine in a form that the kernel reckons quickly: what depends on the program's text alone is closed.
-/
import Derived.Test.YtdcimkbkijcklaaGreatDoorEvB
namespace Go.Ev
noncomputable section

structure OpF where
  f : (FuncId → List AV → Heap → CR) → T AV → Heap → OR

def opF (P : Program) (o : Oper) : OpF :=
  match o.op with
  | .move x | .assign x => ⟨fun _ tm h => .val (ev tm x) h⟩
  | .pick c a b => ⟨fun _ tm h => wrapL (pickA (ev tm c) (ev tm a) (ev tm b)) h⟩
  | .load t x => ⟨fun _ tm h => wrapL (loadA P t (ev tm x) h) h⟩
  | .nilCheck x => ⟨fun _ tm h => wrapL (nilA (ev tm x)) h⟩
  | .binOp op t x y _ => ⟨fun _ tm h => wrapL (binA P op t x y (ev tm x) (ev tm y)) h⟩
  | .unOp op _ x => ⟨fun _ tm h => wrapL (unA op (ev tm x)) h⟩
  | .fieldAddr s x f => ⟨fun _ tm h => wrapL (match ev tm x with
    | .ptr id off => (fld P s f).map fun p => .ptr id (off + p.1)
    | _ => none) h⟩
  | .indexAddr t x i => ⟨fun _ tm h => wrapL (idxAddrA P t (ev tm x) (ev tm i)) h⟩
  | .extract x i => ⟨fun _ tm h => wrapL (extractA (ev tm x) i) h⟩
  | .store t p x => ⟨fun _ tm h => (storeA P t (ev tm p) (ev tm x) h).v⟩
  | .call { callee := .value f, args, .. } => ⟨fun call tm h => callV call (ev tm f) (evs tm args.toList) h⟩
  | _ => ⟨fun call tm h => opE P call o tm h⟩

theorem opF_eq (P : Program) (o : Oper) (call : FuncId → List AV → Heap → CR) (tm : T AV) (h : Heap) : (opF P o).f call tm h = opE P call o tm h := by
  obtain ⟨dst, op, type, pos, after, guard⟩ := o
  cases op <;> try rfl
  case call c =>
    obtain ⟨callee, args, ts⟩ := c
    cases callee <;> rfl

structure StepF where
  f : (FuncId → List AV → Heap → CR) → Nat → St → R

def finD (N : Nat) (d : Tmp) (st : St) (r : OR) : R :=
  match r with
  | .val v h => cond (Nat.blt d N) (.norm ⟨st.tm.set d v, h, st.ds⟩) (.fail 401)
  | .pan v h => .pan v ⟨st.tm, h, st.ds⟩
  | .dfr f args => cond (Nat.blt d N) (.norm ⟨st.tm.set d (.tup []), st.h, (f, args) :: st.ds⟩) (.fail 402)
  | .fail n => .fail n

def stepF (P : Program) (ops : Array Oper) (o : Oper) : StepF :=
  match o.guard, o.dst with
  | none, some d => ⟨fun call N st => finD N d st ((opF P o).f call st.tm st.h)⟩
  | _, _ => ⟨fun call N st => stepO P call N ops o st⟩

theorem stepF_eq (P : Program) (ops : Array Oper) (o : Oper) (call : FuncId → List AV → Heap → CR) (N : Nat) (st : St) : (stepF P ops o).f call N st = stepO P call N ops o st := by
  obtain ⟨dst, op, type, pos, after, guard⟩ := o
  cases guard with
  | some g => rfl
  | none => cases dst with
    | none => rfl
    | some d =>
      show finD N d st ((opF P ⟨some d, op, type, pos, after, none⟩).f call st.tm st.h) = OR.fin N ⟨some d, op, type, pos, after, none⟩ st (opE P call ⟨some d, op, type, pos, after, none⟩ st.tm st.h)
      rw [opF_eq]
      generalize opE P call ⟨some d, op, type, pos, after, none⟩ st.tm st.h = r
      cases r with
      | val v h => simp only [finD, OR.fin, putA]; cases Nat.blt d N <;> rfl
      | pan v h => rfl
      | dfr f args => simp only [finD, OR.fin, putA]; cases Nat.blt d N <;> rfl
      | fail n => rfl

def regF (P : Program) (call : FuncId → List AV → Heap → CR) (N : Nat) (ops : Array Oper) (l : List Oper) : St → R :=
  List.rec (fun st => .norm st) (fun o _ ih st => ((stepF P ops o).f call N st).bind ih) l

theorem regF_eq (P : Program) (call : FuncId → List AV → Heap → CR) (N : Nat) (ops : Array Oper) (l : List Oper) : regF P call N ops l = regL P call N ops l := by
  induction l with
  | nil => rfl
  | cons o l ih =>
    funext st
    show ((stepF P ops o).f call N st).bind (regF P call N ops l) = (stepO P call N ops o st).bind (regL P call N ops l)
    rw [stepF_eq, ih]

structure NodeF where
  f : Mach → Nat → St → R

def nodeF (P : Program) (c : Code) : NodeF :=
  match c with
  | .skip | .label _ => ⟨fun _ _ st => .norm st⟩
  | .region _ ops true => ⟨fun m N st => drawn P m.call N ops st⟩
  | .region _ ops false => ⟨fun m N st => regF P m.call N ops ops.toList st⟩
  | .seq a b => ⟨fun m N st => (m.run N a st).bind (m.run N b)⟩
  | .cond x a b => ⟨fun m N st => goCond m.run N (ev st.tm x) a b st⟩
  | .block id b => ⟨fun m N st => (m.run N b st).blk id⟩
  | .loop b => ⟨fun m N st => (m.run N b st).bind (m.run N (.loop b))⟩
  | .scope b => ⟨fun m N st => m.run N b st⟩
  | .exit id => ⟨fun _ _ st => .exit id st⟩
  | .ret => ⟨fun _ _ st => .ret st⟩
  | c => ⟨fun m N st => node P m N c st⟩

theorem nodeF_eq (P : Program) (c : Code) (m : Mach) (N : Nat) (st : St) : (nodeF P c).f m N st = node P m N c st := by
  cases c <;> try rfl
  case region id ops d =>
    cases d with
    | true => rfl
    | false => show regF P m.call N ops ops.toList st = regL P m.call N ops ops.toList st; rw [regF_eq]

/-- The function's body, closed. -/
structure FunF where
  f : Mach → List AV → Heap → CR

def funF (P : Program) (f : FuncId) : FunF :=
  match P.funcs[f]? with
  | some fn => match fn.body with
    | some c => ⟨fun m args h => leave P m.run m.call fn (m.run fn.ntmps c ⟨initT fn.ntmps args, h, []⟩)⟩
    | none => ⟨fun _ _ _ => .fail 808⟩
  | none => ⟨fun _ _ _ => .fail 809⟩

theorem funF_eq (P : Program) (f : FuncId) (m : Mach) (args : List AV) (h : Heap) : (funF P f).f m args h = callE P m.run m.call f args h := by
  unfold funF callE
  split
  · split <;> simp only [*]
  · simp only [*]

def machF (P : Program) (n : Nat) : Mach :=
  Nat.rec ⟨fun _ _ _ => .fail 0, fun _ _ _ => .fail 0⟩ (fun _ m => ⟨fun N c st => (nodeF P c).f m N st, fun f args h => (funF P f).f m args h⟩) n

theorem machF_eq (P : Program) (n : Nat) : machF P n = mach P n := by
  induction n with
  | zero => rfl
  | succ n ih =>
    show (⟨fun N c st => (nodeF P c).f (machF P n) N st, fun f args h => (funF P f).f (machF P n) args h⟩ : Mach) = ⟨node P (mach P n), callE P (mach P n).run (mach P n).call⟩
    rw [ih]
    congr 1
    · funext N c st; exact nodeF_eq P c _ N st
    · funext f args h; exact funF_eq P f _ args h
end
end Go.Ev
