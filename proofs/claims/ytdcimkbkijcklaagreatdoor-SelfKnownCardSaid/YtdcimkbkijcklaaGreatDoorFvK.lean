/-
  Ev, part K: the same machine, its code turned into closed closures: what the kernel reckons quickly.
-/
import Derived.Test.YtdcimkbkijcklaaGreatDoorFvB
namespace Go.Fv
noncomputable section

/- Temporaries, by paths that are closed. -/
structure GT where
  f : Tm → AV
def getK (i : Nat) : GT := cond (Nat.blt i 256) ⟨fun t => (Hx.sel (Nat.mod i 16)).f ((Hx.sel (α := Hx AV) (Nat.div i 16)).f t)⟩ ⟨fun _ => .bad⟩
structure ST where
  f : Tm → AV → Tm
def setK (i : Nat) : ST := cond (Nat.blt i 256) ⟨fun t y => (Hx.put (α := Hx AV) (Nat.div i 16)).f t (fun x => (Hx.put (Nat.mod i 16)).f x (fun _ => y))⟩ ⟨fun t _ => t⟩
theorem getK_eq (t : Nat) (tm : Tm) : (getK t).f tm = getT tm t := by
  unfold getK getT Tm.get rget
  cases Nat.blt t 256 <;> rfl
theorem setK_eq (t : Nat) (tm : Tm) (v : AV) : (setK t).f tm v = tm.set t v := by
  unfold setK Tm.set rset
  cases Nat.blt t 256 <;> rfl

/- Operands. -/
def opV (x : Operand) : GT :=
  match x with
  | .tmp t => ⟨(getK t).f⟩
  | .const v => ⟨fun _ => ofV v⟩
  | .func f => ⟨fun _ => .fn f []⟩
  | .global _ => ⟨fun _ => .bad⟩
theorem opV_eq (x : Operand) (tm : Tm) : (opV x).f tm = ev tm x := by
  cases x with
  | tmp t => exact getK_eq t tm
  | _ => rfl
structure LT where
  f : Tm → List AV
def opsV (l : List Operand) : LT := List.rec ⟨fun _ => []⟩ (fun x _ ih => ⟨fun tm => (opV x).f tm :: ih.f tm⟩) l
theorem opsV_eq (l : List Operand) (tm : Tm) : (opsV l).f tm = evs tm l := by
  induction l with
  | nil => rfl
  | cons x l ih =>
    show (opV x).f tm :: (opsV l).f tm = ev tm x :: evs tm l
    rw [opV_eq, ih]

/- What only reads. -/
structure LF where
  f : Tm → Heap → Option AV

structure RF where
  f : AV → Heap → Option AV
def loadK (P : Program) (t : TypeId) : RF :=
  match ldk P t with
  | .many n => ⟨fun x h => match x with
    | .ptr id off => match h.get id with
      | .cells cs => (slc cs off n).map .agg
      | _ => none
    | _ => none⟩
  | .one => ⟨fun x h => match x with
    | .ptr id off => match h.get id with
      | .cells cs => nth cs off
      | _ => none
    | _ => none⟩
  | .no => ⟨fun _ _ => none⟩
theorem loadK_eq (P : Program) (t : TypeId) (x : AV) (h : Heap) : (loadK P t).f x h = loadA P t x h := by
  unfold loadK loadA partA
  cases ldk P t with
  | many n => cases x <;> rfl
  | one => cases x <;> rfl
  | no =>
    cases x with
    | ptr id off => simp only; cases h.get id <;> rfl
    | _ => rfl

structure BF where
  f : AV → AV → Option AV
structure IB where
  f : IntKind → Int → Int → Option AV
def intK (op : BinOp) : IB :=
  match op with
  | .add => ⟨fun k x y => some (.int k (wrapF k (iadd x y)))⟩
  | .sub => ⟨fun k x y => some (.int k (wrapF k (isub x y)))⟩
  | .eql => ⟨fun _ x y => some (.bool (ieq x y))⟩
  | .neq => ⟨fun _ x y => some (.bool (!(ieq x y)))⟩
  | .lss => ⟨fun _ x y => some (.bool (ilt x y))⟩
  | .leq => ⟨fun _ x y => some (.bool (!(ilt y x)))⟩
  | .gtr => ⟨fun _ x y => some (.bool (ilt y x))⟩
  | .geq => ⟨fun _ x y => some (.bool (!(ilt x y)))⟩
  | .shl | .shr => ⟨fun k x y => shiftA op k x y⟩
  | op => ⟨fun k x y => intBin op k x y⟩

def kNum : IntKind → Nat := fun k => IntKind.rec (motive := fun _ => Nat) 0 1 2 3 4 5 6 7 k
def kEq (a b : IntKind) : Bool := Nat.beq (kNum a) (kNum b)
theorem kEq_eq (a b : IntKind) : kEq a b = decide (a = b) := by cases a <;> cases b <;> rfl

def binK (P : Program) (op : BinOp) (t : TypeId) (ox oy : Operand) : BF :=
  match op with
  | .shl | .shr => ⟨fun x y => match x, y with
    | .int k a, .int _ b => (intK op).f k a b
    | x, y => binA P op t ox oy x y⟩
  | op => ⟨fun x y => match x, y with
    | .int k a, .int k' b => cond (kEq k k') ((intK op).f k a b) none
    | x, y => binA P op t ox oy x y⟩
theorem binK_eq (P : Program) (op : BinOp) (t : TypeId) (ox oy : Operand) (x y : AV) : (binK P op t ox oy).f x y = binA P op t ox oy x y := by
  have key : ∀ (k k' : IntKind) (r : Option AV), cond (kEq k k') r none = if k = k' then r else none := fun k k' r => by
    rw [kEq_eq]; by_cases h : k = k' <;> simp [h]
  cases x <;> cases y <;> cases op <;> first | rfl | (simp only [binK, binA, intK, intBin]; exact key _ _ _)

def lightK (P : Program) (o : Oper) : LF :=
  match o.op with
  | .move x | .assign x => ⟨fun tm _ => some ((opV x).f tm)⟩
  | .pick c a b => ⟨fun tm _ => pickA ((opV c).f tm) ((opV a).f tm) ((opV b).f tm)⟩
  | .load t x => ⟨fun tm h => (loadK P t).f ((opV x).f tm) h⟩
  | .nilCheck x => ⟨fun tm _ => nilA ((opV x).f tm)⟩
  | .binOp op t x y _ => ⟨fun tm _ => (binK P op t x y).f ((opV x).f tm) ((opV y).f tm)⟩
  | .unOp op _ x => ⟨fun tm _ => unA op ((opV x).f tm)⟩
  | .fieldAddr s x f => match fld P s f with
    | some p => ⟨fun tm _ => match (opV x).f tm with
      | .ptr id off => some (.ptr id (off + p.1))
      | _ => none⟩
    | none => ⟨fun _ _ => none⟩
  | .indexAddr t x i => ⟨fun tm _ => idxAddrA P t ((opV x).f tm) ((opV i).f tm)⟩
  | .index t x i => ⟨fun tm _ => idxA P t ((opV x).f tm) ((opV i).f tm)⟩
  | .extract x i => ⟨fun tm _ => extractA ((opV x).f tm) i⟩
  | _ => ⟨fun tm h => lightE P o tm h⟩
theorem lightK_eq (P : Program) (o : Oper) (tm : Tm) (h : Heap) : (lightK P o).f tm h = lightE P o tm h := by
  obtain ⟨dst, op, type, pos, after, guard⟩ := o
  cases op <;> try rfl
  case move x => exact congrArg some (opV_eq x tm)
  case assign x => exact congrArg some (opV_eq x tm)
  case pick c a b => show pickA ((opV c).f tm) ((opV a).f tm) ((opV b).f tm) = pickA (ev tm c) (ev tm a) (ev tm b); rw [opV_eq, opV_eq, opV_eq]
  case load t x => show (loadK P t).f ((opV x).f tm) h = loadA P t (ev tm x) h; rw [opV_eq, loadK_eq]
  case nilCheck x => show nilA ((opV x).f tm) = nilA (ev tm x); rw [opV_eq]
  case binOp op t x y yt => show (binK P op t x y).f ((opV x).f tm) ((opV y).f tm) = binA P op t x y (ev tm x) (ev tm y); rw [binK_eq, opV_eq, opV_eq]
  case unOp op t x => show unA op ((opV x).f tm) = unA op (ev tm x); rw [opV_eq]
  case fieldAddr s x f =>
    have e : lightE P ⟨dst, .fieldAddr s x f, type, pos, after, guard⟩ tm h = match ev tm x with
      | .ptr id off => (fld P s f).map fun p => .ptr id (off + p.1)
      | _ => none := rfl
    rw [e]
    unfold lightK
    simp only
    rw [← opV_eq]
    cases fld P s f with
    | none => simp only; cases (opV x).f tm <;> rfl
    | some p => simp only; cases (opV x).f tm <;> rfl
  case indexAddr t x i => show idxAddrA P t ((opV x).f tm) ((opV i).f tm) = idxAddrA P t (ev tm x) (ev tm i); rw [opV_eq, opV_eq]
  case index t x i => show idxA P t ((opV x).f tm) ((opV i).f tm) = idxA P t (ev tm x) (ev tm i); rw [opV_eq, opV_eq]
  case extract x i => show extractA ((opV x).f tm) i = extractA (ev tm x) i; rw [opV_eq]

/- Steps, with what comes behind them. -/
structure KF where
  f : (FuncId → List AV → Heap → CR) → Tm → Heap → List (FuncId × List AV) → R

def orK (d : ST) (tm : Tm) (h : Heap) (ds : List (FuncId × List AV)) (k : Tm → Heap → List (FuncId × List AV) → R) (r : OR) : R :=
  match r with
  | .val v h => k (d.f tm v) h ds
  | .pan v h => .pan v ⟨tm, h, ds⟩
  | .dfr f args => k (d.f tm (.tup [])) h ((f, args) :: ds)
  | .fail n => .fail n

/-- The heavy ones that are met most. -/
structure HF where
  f : (FuncId → List AV → Heap → CR) → Tm → Heap → OR
def heavyK (P : Program) (o : Oper) : HF :=
  match o.op with
  | .store t p x => ⟨fun _ tm h => (storeA P t ((opV p).f tm) ((opV x).f tm) h).v⟩
  | .call { callee := .value f, args, .. } => ⟨fun call tm h => callV P call ((opV f).f tm) ((opsV args.toList).f tm) h⟩
  | _ => ⟨fun call tm h => opE P call o tm h⟩
theorem heavyK_eq (P : Program) (o : Oper) (call : FuncId → List AV → Heap → CR) (tm : Tm) (h : Heap) : (heavyK P o).f call tm h = opE P call o tm h := by
  obtain ⟨dst, op, type, pos, after, guard⟩ := o
  cases op <;> try rfl
  case store t p x => show (storeA P t ((opV p).f tm) ((opV x).f tm) h).v = (storeA P t (ev tm p) (ev tm x) h).v; rw [opV_eq, opV_eq]
  case call c =>
    obtain ⟨callee, args, ts⟩ := c
    cases callee <;> try rfl
    case value f => show callV P call ((opV f).f tm) ((opsV args.toList).f tm) h = callV P call (ev tm f) (evs tm args.toList) h; rw [opV_eq, opsV_eq]

def noDst : ST := ⟨fun tm _ => tm⟩

def failK (n : Nat) : KF := ⟨fun _ _ _ _ => .fail n⟩
def normK : KF := ⟨fun _ tm h ds => .norm ⟨tm, h, ds⟩⟩

/-- An operation that is wanted. -/
def bodyK (P : Program) (N : Nat) (o : Oper) (k : KF) : KF :=
  match o.dst with
  | some d => cond (Nat.blt d N)
    (match kind P o with
      | 0 => ⟨fun call tm h ds => Option.rec (.fail 301) (fun v => k.f call ((setK d).f tm v) h ds) ((lightK P o).f tm h)⟩
      | _ => ⟨fun call tm h ds => orK (setK d) tm h ds (k.f call) ((heavyK P o).f call tm h)⟩)
    ⟨fun call tm h ds => (OR.fin N o ⟨tm, h, ds⟩ (opE P call o tm h)).bind fun s => k.f call s.tm s.h s.ds⟩
  | none => ⟨fun call tm h ds => orK noDst tm h ds (k.f call) ((heavyK P o).f call tm h)⟩

/-- One that is not. -/
def skipK (N : Nat) (o : Oper) (k : KF) : KF :=
  match o.dst with
  | some d => cond (Nat.blt d N) ⟨fun call tm h ds => k.f call ((setK d).f tm (.tup [])) h ds⟩ (failK 401)
  | none => k

def stepK (P : Program) (N : Nat) (ops : Array Oper) (o : Oper) (k : KF) : KF :=
  match o.guard with
  | none => bodyK P N o k
  | some (j, w) => match (ops[j]?).bind (·.dst) with
    | none => skipK N o k
    | some d => ⟨fun call tm h ds => match (getK d).f tm with
      | .bool b => cond (b == w) ((bodyK P N o k).f call tm h ds) ((skipK N o k).f call tm h ds)
      | .tup [] => (skipK N o k).f call tm h ds
      | _ => .fail 403⟩

theorem orK_eq {N : Nat} {o : Oper} {d : ST} (hd : ∀ tm v, putA N tm o.dst v = some (d.f tm v)) (tm : Tm) (h : Heap) (ds : List (FuncId × List AV)) (k : Tm → Heap → List (FuncId × List AV) → R) (r : OR) :
    orK d tm h ds k r = (OR.fin N o ⟨tm, h, ds⟩ r).bind fun s => k s.tm s.h s.ds := by
  cases r with
  | val v h' => simp only [orK, OR.fin, hd]; rfl
  | pan v h' => rfl
  | dfr f args => simp only [orK, OR.fin, hd]; rfl
  | fail n => rfl

theorem bodyK_eq (P : Program) (N : Nat) (o : Oper) (k : KF) (call : FuncId → List AV → Heap → CR) (tm : Tm) (h : Heap) (ds : List (FuncId × List AV)) :
    (bodyK P N o k).f call tm h ds = (OR.fin N o ⟨tm, h, ds⟩ (opE P call o tm h)).bind fun s => k.f call s.tm s.h s.ds := by
  unfold bodyK
  split
  · rename_i d hd
    cases hN : Nat.blt d N with
    | false => rfl
    | true =>
      have hput : ∀ tm v, putA N tm o.dst v = some ((setK d).f tm v) := fun tm v => by
        rw [hd, setK_eq]; unfold putA; simp only [hN, cond_true]
      rw [cond_true]
      split
      · rename_i hk
        simp only
        rw [lightK_eq]
        unfold opE
        rw [hk]
        cases lightE P o tm h with
        | none => rfl
        | some v => simp only [wrapL, OR.fin, hput]; rfl
      · simp only
        rw [heavyK_eq, orK_eq hput]
  · rename_i hd
    simp only
    rw [heavyK_eq, orK_eq (N := N) (o := o) (fun tm v => by rw [hd]; rfl)]

theorem skipK_eq (N : Nat) (o : Oper) (k : KF) (call : FuncId → List AV → Heap → CR) (tm : Tm) (h : Heap) (ds : List (FuncId × List AV)) :
    (skipK N o k).f call tm h ds = (OR.fin N o ⟨tm, h, ds⟩ (.val (.tup []) h)).bind fun s => k.f call s.tm s.h s.ds := by
  unfold skipK
  split
  · rename_i d hd
    cases hN : Nat.blt d N with
    | false => simp only [OR.fin, hd, putA, hN, cond_false]; rfl
    | true => simp only [OR.fin, hd, putA, hN, cond_true, setK_eq]; rfl
  · rename_i hd
    simp only [OR.fin, hd, putA]; rfl

theorem stepK_eq (P : Program) (N : Nat) (ops : Array Oper) (o : Oper) (k : KF) (call : FuncId → List AV → Heap → CR) (tm : Tm) (h : Heap) (ds : List (FuncId × List AV)) :
    (stepK P N ops o k).f call tm h ds = (stepO P call N ops o ⟨tm, h, ds⟩).bind fun s => k.f call s.tm s.h s.ds := by
  unfold stepK stepO want
  split
  · rename_i hg
    simp only [hg]
    rw [bodyK_eq]
  · rename_i j w hg
    simp only [hg]
    cases hj : (ops[j]?).bind (·.dst) with
    | none => simp only; rw [skipK_eq]
    | some d =>
      simp only
      rw [getK_eq]
      cases getT tm d with
      | bool b =>
        simp only
        cases hb : b == w with
        | true => rw [cond_true, bodyK_eq]
        | false => rw [cond_false, skipK_eq]
      | tup vs =>
        cases vs with
        | nil => simp only; rw [skipK_eq]
        | cons x xs => rfl
      | _ => rfl

def regK (P : Program) (N : Nat) (ops : Array Oper) (l : List Oper) : KF :=
  List.rec ⟨fun _ tm h ds => .norm ⟨tm, h, ds⟩⟩ (fun o _ ih => stepK P N ops o ih) l

theorem regK_eq (P : Program) (N : Nat) (ops : Array Oper) (l : List Oper) (call : FuncId → List AV → Heap → CR) (st : St) : (regK P N ops l).f call st.tm st.h st.ds = regL P call N ops l st := by
  induction l generalizing st with
  | nil => rfl
  | cons o l ih =>
    show (stepK P N ops o (regK P N ops l)).f call st.tm st.h st.ds = (stepO P call N ops o st).bind (regL P call N ops l)
    rw [stepK_eq]
    congr 1
    funext s
    exact ih s

/- Regions that draw their order. -/
structure SB where
  f : Tm → Heap → Bool
def stab1K (P : Program) (ops : Array Oper) (j : Nat) : SB :=
  match ops[j]? with
  | some o => cond (isHeavy P ops j) ⟨fun _ _ => true⟩ (match o.guard, kind P o, o.dst with
    | none, 0, some d => ⟨fun tm h => Option.rec false (fun v => same ((getK d).f tm) v) ((lightK P o).f tm h)⟩
    | _, _, _ => ⟨fun tm h => stable1 P ops ⟨tm, h, []⟩ j⟩)
  | none => ⟨fun _ _ => false⟩
theorem stab1K_eq (P : Program) (ops : Array Oper) (j : Nat) (st : St) : (stab1K P ops j).f st.tm st.h = stable1 P ops st j := by
  obtain ⟨tm, h, ds⟩ := st
  unfold stab1K
  cases ho : ops[j]? with
  | none => simp only; unfold stable1; rw [ho]
  | some o =>
    simp only
    cases hh : isHeavy P ops j with
    | true => unfold stable1; rw [ho]; simp only [hh, cond_true]
    | false =>
      rw [cond_false]
      split
      · rename_i d hg hk hd
        unfold stable1 want
        rw [ho]
        simp only [hh, cond_false, hg, hk, hd]
        rw [lightK_eq, getK_eq]
        cases lightE P o tm h with
        | none => rfl
        | some v => rfl
      · unfold stable1; rw [ho]

def skipJ (bs : List Nat) (g : Option Nat) (j : Nat) : Bool :=
  match g with
  | none => false
  | some g => bit (bs.getD g 0) j
def stabK (P : Program) (ops : Array Oper) (bs : List Nat) (done : List Nat) (g : Option Nat) : SB :=
  List.rec ⟨fun _ _ => true⟩ (fun j _ ih => cond (skipJ bs g j || isHeavy P ops j && (ops[j]?).isSome) ih ⟨fun tm h => cond ((stab1K P ops j).f tm h) (ih.f tm h) false⟩) done
theorem stabK_eq (P : Program) (ops : Array Oper) (bs : List Nat) (done : List Nat) (g : Option Nat) (st : St) : (stabK P ops bs done g).f st.tm st.h = stable P ops bs done g st := by
  have e : stable P ops bs done g st = done.all fun j => skipJ bs g j || stable1 P ops st j := by
    unfold stable skipJ
    cases g with
    | none => simp
    | some g => rfl
  rw [e]
  clear e
  induction done with
  | nil => rfl
  | cons j l ih =>
    have e1 : stabK P ops bs (j :: l) g = cond (skipJ bs g j || isHeavy P ops j && (ops[j]?).isSome) (stabK P ops bs l g) ⟨fun tm h => cond ((stab1K P ops j).f tm h) ((stabK P ops bs l g).f tm h) false⟩ := rfl
    rw [e1, List.all_cons]
    cases hs : (skipJ bs g j || isHeavy P ops j && (ops[j]?).isSome) with
    | false =>
      rw [cond_false]
      simp only [Bool.or_eq_false_iff] at hs
      simp only [hs.1, Bool.false_or]
      rw [stab1K_eq, ih]
      cases stable1 P ops st j <;> rfl
    | true =>
      rw [cond_true, ih]
      have : (skipJ bs g j || stable1 P ops st j) = true := by
        cases h1 : skipJ bs g j with
        | true => rfl
        | false =>
          rw [h1, Bool.false_or, Bool.and_eq_true] at hs
          obtain ⟨o, ho⟩ := Option.isSome_iff_exists.1 hs.2
          unfold stable1; rw [ho]; simp [hs.1]
      rw [this, Bool.true_and]

def drawK (P : Program) (N : Nat) (ops : Array Oper) (bs : List Nat) (l : List Nat) : List Nat → Option Nat → KF :=
  List.rec (motive := fun _ => List Nat → Option Nat → KF)
    (fun done g => ⟨fun _ tm h ds => cond ((stabK P ops bs done g).f tm h) (.norm ⟨tm, h, ds⟩) (.fail 501)⟩)
    (fun i _ ih done g => match ops[i]? with
      | none => failK 502
      | some o => cond (isHeavy P ops i)
        ⟨fun call tm h ds => cond ((stabK P ops bs done g).f tm h) (match (stepK P N ops o normK).f call tm h ds with
            | .norm st' => (ih (i :: done) (some i)).f call st'.tm st'.h st'.ds
            | .pan v st' => .pan v ⟨poison ops.toList st'.tm, st'.h, st'.ds⟩
            | .fail n => .fail n
            | _ => .fail 503) (.fail 504)⟩
        ⟨fun call tm h ds => match (stepK P N ops o normK).f call tm h ds with
            | .norm st' => (ih (i :: done) g).f call st'.tm st'.h st'.ds
            | .fail n => .fail n
            | _ => .fail 505⟩) l
theorem bind_norm (r : R) : (r.bind fun s => normK.f (fun _ _ _ => .fail 0) s.tm s.h s.ds) = r := by cases r <;> rfl
theorem stepN_eq (P : Program) (N : Nat) (ops : Array Oper) (o : Oper) (call : FuncId → List AV → Heap → CR) (st : St) : (stepK P N ops o normK).f call st.tm st.h st.ds = stepO P call N ops o st := by
  rw [stepK_eq]; exact bind_norm _
theorem drawK_eq (P : Program) (N : Nat) (ops : Array Oper) (bs : List Nat) (l : List Nat) (call : FuncId → List AV → Heap → CR) : ∀ (done : List Nat) (g : Option Nat) (st : St), (drawK P N ops bs l done g).f call st.tm st.h st.ds = drawL P call N ops bs l done g st := by
  induction l with
  | nil =>
    intro done g st
    have e : (drawK P N ops bs [] done g).f call st.tm st.h st.ds = cond ((stabK P ops bs done g).f st.tm st.h) (.norm st) (.fail 501) := rfl
    rw [e, stabK_eq]; unfold drawL; rfl
  | cons i l ih =>
    intro done g st
    have e : drawK P N ops bs (i :: l) done g = match ops[i]? with
      | none => failK 502
      | some o => cond (isHeavy P ops i)
        ⟨fun call tm h ds => cond ((stabK P ops bs done g).f tm h) (match (stepK P N ops o normK).f call tm h ds with
            | .norm st' => (drawK P N ops bs l (i :: done) (some i)).f call st'.tm st'.h st'.ds
            | .pan v st' => .pan v ⟨poison ops.toList st'.tm, st'.h, st'.ds⟩
            | .fail n => .fail n
            | _ => .fail 503) (.fail 504)⟩
        ⟨fun call tm h ds => match (stepK P N ops o normK).f call tm h ds with
            | .norm st' => (drawK P N ops bs l (i :: done) g).f call st'.tm st'.h st'.ds
            | .fail n => .fail n
            | _ => .fail 505⟩ := rfl
    rw [e]
    unfold drawL
    cases ops[i]? with
    | none => rfl
    | some o =>
      simp only
      cases isHeavy P ops i with
      | true =>
        simp only [cond_true]
        rw [stabK_eq, stepN_eq]
        congr 1
        cases stepO P call N ops o st <;> first | rfl | exact ih _ _ _
      | false =>
        simp only [cond_false]
        rw [stepN_eq]
        cases stepO P call N ops o st <;> first | rfl | exact ih _ _ _
def drawnK (P : Program) (N : Nat) (ops : Array Oper) : KF := cond (okReg P ops (bitsOf P ops) (ordOf P ops)) (drawK P N ops (bitsOf P ops) (ordOf P ops) [] none) (failK 506)
theorem drawnK_eq (P : Program) (N : Nat) (ops : Array Oper) (call : FuncId → List AV → Heap → CR) (st : St) : (drawnK P N ops).f call st.tm st.h st.ds = drawn P call N ops st := by
  unfold drawnK drawn
  cases okReg P ops (bitsOf P ops) (ordOf P ops) with
  | true => exact drawK_eq P N ops _ _ call [] none st
  | false => rfl

structure NK where
  f : Mach → St → R
def nodeK (P : Program) (N : Nat) (c : Code) : NK :=
  match c with
  | .skip | .label _ => ⟨fun _ st => .norm st⟩
  | .region _ ops true => ⟨fun m st => (drawnK P N ops).f m.call st.tm st.h st.ds⟩
  | .region _ ops false => ⟨fun m st => (regK P N ops ops.toList).f m.call st.tm st.h st.ds⟩
  | .seq a b => ⟨fun m st => (m.run N a st).bind (m.run N b)⟩
  | .cond x a b => ⟨fun m st => goCond m.run N ((opV x).f st.tm) a b st⟩
  | .block id b => ⟨fun m st => (m.run N b st).blk id⟩
  | .loop b => ⟨fun m st => (m.run N b st).bind (m.run N (.loop b))⟩
  | .scope b => ⟨fun m st => m.run N b st⟩
  | .exit id => ⟨fun _ st => .exit id st⟩
  | .ret => ⟨fun _ st => .ret st⟩
  | c => ⟨fun m st => node P m N c st⟩
theorem nodeK_eq (P : Program) (N : Nat) (c : Code) (m : Mach) (st : St) : (nodeK P N c).f m st = node P m N c st := by
  cases c <;> try rfl
  case region id ops d =>
    cases d with
    | true => exact drawnK_eq P N ops m.call st
    | false => exact regK_eq P N ops ops.toList m.call st
  case cond x a b => show goCond m.run N ((opV x).f st.tm) a b st = goCond m.run N (ev st.tm x) a b st; rw [opV_eq]

structure FunK where
  f : Mach → List AV → Heap → CR
def funK (P : Program) (f : FuncId) : FunK :=
  match P.funcs[f]? with
  | some fn => match fn.body with
    | some c => ⟨fun m args h => leave P m.run m.call fn (m.run fn.ntmps c ⟨initT fn.ntmps args, h, []⟩)⟩
    | none => ⟨fun _ _ _ => .fail 808⟩
  | none => ⟨fun _ _ _ => .fail 809⟩
theorem funK_eq (P : Program) (f : FuncId) (m : Mach) (args : List AV) (h : Heap) : (funK P f).f m args h = callE P m.run m.call f args h := by
  unfold funK callE
  split
  · split <;> simp only [*]
  · simp only [*]

def machK (P : Program) (n : Nat) : Mach :=
  Nat.rec ⟨fun _ _ _ => .fail 0, fun _ _ _ => .fail 0⟩ (fun _ m => ⟨fun N c st => (nodeK P N c).f m st, fun f args h => (funK P f).f m args h⟩) n
theorem machK_eq (P : Program) (n : Nat) : machK P n = mach P n := by
  induction n with
  | zero => rfl
  | succ n ih =>
    show (⟨fun N c st => (nodeK P N c).f (machK P n) st, fun f args h => (funK P f).f (machK P n) args h⟩ : Mach) = ⟨node P (mach P n), callE P (mach P n).run (mach P n).call⟩
    rw [ih]
    congr 1
    · funext N c st; exact nodeK_eq P N c _ st
    · funext f args h; exact funK_eq P f _ args h
end
end Go.Fv
