/-
  Ev, part W: the operations that write or call, as the kit's 'wp' wants them.
-/
import Derived.Test.YtdcimkbkijcklaaGreatDoorFvMq
import Derived.Defers
namespace Go.Fv
open Go.RowKit

variable {P : Program} {w w0 : World} {ρ : Rho} {base : Nat}

/-- No function of this program is named as the one that the model counts goroutines by. -/
def NoNum (P : Program) : Prop := ∀ (f : FuncId) (fn : Func), P.funcs[f]? = some fn → (fn.name == "runtime.NumGoroutine") = false

theorem run_invoke (hnum : NoNum P) {f : FuncId} {caps as : Array Value} {fn : Func} {c : Code} (hf : P.funcs[f]? = some fn) (hb : fn.body = some c) (w : World) :
    (invoke (.fn (.func f) caps) as).run P w = .ok (.enter f (as ++ caps)) w := by
  have hn := hnum f fn hf
  simp only [invoke, callFunc, Sem.run_bind, run_program, Result.andThen_ok, hf, hn, Bool.false_eq_true, if_false, hb, Option.isNone_some]
  rfl

/-- What a call leaves behind. -/
def CRpost (ρ : Rho) (h : Heap) (base : Nat) (w0 : World) : CR → Ending → World → Prop
  | .ret v h', .returned u, w' => ∃ ρ', VRel ρ' v u ∧ Rel ρ' h'.next h'.get base w0 w' ∧ Ext ρ h ρ' h'
  | .pan v h', .panicked [e], w' => ∃ ρ', e.recovered = false ∧ e.goexit = false ∧ VRel ρ' v e.v ∧ Rel ρ' h'.next h'.get base w0 w' ∧ Ext ρ h ρ' h'
  | _, _, _ => False

def CallOk (P : Program) (call : FuncId → List AV → Heap → CR) (base : Nat) (w0 : World) : Prop :=
  ∀ f args h vs ρ w, (∀ n, call f args h ≠ .fail n) → Rel ρ h.next h.get base w0 w → LRel ρ args vs.toList →
    (∃ fn c, P.funcs[f]? = some fn ∧ fn.body = some c) ∧ Calls P f vs w (CRpost ρ h base w0 (call f args h))

/-- A deferred call. -/
def DRel (ρ : Rho) (d : FuncId × List AV) (e : Deferred) : Prop := ∃ caps as, e = { target := .fn (.func d.1) caps, args := as } ∧ LRel ρ d.2 (as ++ caps).toList

def ORpost (ρ : Rho) (h : Heap) (base : Nat) (w0 : World) (o : Oper) (a : Act) (w : World) (K : Act → World → Prop) (Q : Exit → Act → World → Prop) : OR → Prop
  | .val v h' => ∀ ρ' u w', VRel ρ' v u → Rel ρ' h'.next h'.get base w0 w' → Ext ρ h ρ' h' → K (a.put o.dst u) w'
  | .pan v h' => ∀ ρ' u w', VRel ρ' v u → Rel ρ' h'.next h'.get base w0 w' → Ext ρ h ρ' h' → Q (.panic [{ v := u, recovered := false }]) a w'
  | .dfr f args => ∀ d, DRel ρ (f, args) d → K ({ a with defers := d :: a.defers }.put o.dst undef) w
  | .fail _ => False

theorem str2sl_sound {src t : TypeId} {s : List UInt8} {h h' : Heap} {v : AV} (hsrc : P.underlying src = some .string) (hR : Rel ρ h.next h.get base w0 w) (hv : str2sl P t s h = .val v h') :
    ∃ w' u ρ', (convert src t (.string ⟨⟨s⟩⟩)).run P w = .ok u w' ∧ VRel ρ' v u ∧ Rel ρ' h'.next h'.get base w0 w' ∧ Ext ρ h ρ' h' := by
  unfold str2sl at hv
  split at hv
  · rename_i e sz hs
    obtain ⟨h1, h2⟩ := slElem_spec hs
    split at hv
    · rename_i he
      cases hq : (Nat.beq sz 1 && Nat.ble (lenB s) 65536) with
      | false => rw [hq] at hv; cases hv
      | true =>
        rw [hq, cond_true] at hv
        obtain ⟨rfl, rfl⟩ := OR.val.inj hv
        have hge := grownCap_ge w s.length 0 e
        have hrun := run_bytes_of_string (P := P) w src t e ⟨⟨s⟩⟩ hsrc h1 he
        have hsz : (bytesRow ⟨⟨s⟩⟩ (grownCap w s.length 0 e)).size = grownCap w s.length 0 e := by simp [bytesRow, bytes_size]; omega
        have hl : (ofBytes s).length = s.length := ofBytes_len s
        obtain ⟨ρ', k1, k2, k3⟩ := grow_new (w := w.drew) (h := h) (h1 := h) (cs := ofBytes s) (C := bytesRow ⟨⟨s⟩⟩ (grownCap w s.length 0 e)) (e := e) (need := s.length) (sz := 1) (nc := grownCap w s.length 0 e)
          (f := ((bytesRow ⟨⟨s⟩⟩ (grownCap w s.length 0 e)).size, (bytesRow ⟨⟨s⟩⟩ (grownCap w s.length 0 e)).size + 1)) (fun o ho => by simp; omega) hR.drew (Ext.refl _ _) (by
            have e1 : (bytesRow ⟨⟨s⟩⟩ (grownCap w s.length 0 e)).toList.take (ofBytes s).length = s.map fun b => Value.int .u8 b.toNat := by
              rw [hl]; simp only [bytesRow, Array.toList_append, Array.toList_map]
              rw [List.take_append_of_le_length (by simp)]
              exact List.take_of_length_le (by simp)
            rw [e1]; exact ofBytes_spec ρ s) (by simp [hl]) (by rw [hsz]; simp) hge
        rw [lenB_eq]
        exact ⟨_, _, ρ', hrun, k1, k2, k3⟩
    · cases hv
  · cases hv

theorem heavy_wp (hnum : NoNum P) {call : FuncId → List AV → Heap → CR} (hcall : CallOk P call base w0) {o : Oper} {tm : Tm} {h : Heap} {a : Act} {K : Act → World → Prop} {Q : Exit → Act → World → Prop}
    (hR : Rel ρ h.next h.get base w0 w) (ho : ∀ x ∈ o.op.operands.toList, VRel ρ (ev tm x) (a.eval x)) (hp : ORpost ρ h base w0 o a w K Q (heavyE P call o tm h)) : o.wp P a w K Q := by
  obtain ⟨dst, op, type, pos, after, guard⟩ := o
  unfold heavyE at hp
  simp only at hp ho
  split at hp
  · rename_i t p x
    have hpp := ho p (by simp [Op.operands])
    have hx := ho x (by simp [Op.operands])
    generalize hs : storeA P t (ev tm p) (ev tm x) h = r at hp
    cases r with
    | val v h' =>
      obtain ⟨w', e1, rfl, e2, e3⟩ := storeA_sound (P := P) hR hpp hx hs
      have e : (execOp a.eval { dst := dst, op := .store t p x, type := type, pos := pos, after := after, guard := guard }).run P w = .ok .skip w' := run_skp e1
      unfold Oper.wp
      rw [e]
      exact hp ρ undef w' (by simp only [VRel, LRel]; exact ⟨#[], rfl, rfl⟩) e2 e3
    | pan v h' => exact hp.elim
    | dfr f args => exact hp.elim
    | fail n => exact hp.elim
  · rename_i f args ts
    have hf := ho f (by simp [Op.operands, Call.operands])
    have hargs : LRel ρ (evs tm args.toList) (args.map a.eval).toList := by
      rw [Array.toList_map]
      exact evs_rel args.toList fun x hx => ho x (by simp only [Op.operands, Call.operands, Array.toList_append, List.mem_append]; exact .inr hx)
    unfold callV at hp
    split at hp
    · rename_i k caps hk
      rw [hk] at hf
      simp only [VRel] at hf
      obtain ⟨cv, ef, hcv⟩ := hf
      have hall : LRel ρ (evs tm args.toList ++ caps) ((args.map a.eval) ++ cv).toList := by rw [Array.toList_append]; exact hargs.append hcv
      cases hx : isExt P k with
      | some name =>
        rw [hx] at hp
        simp only at hp
        cases hv : extE name (evs tm args.toList ++ caps) with
        | none => rw [hv] at hp; exact hp.elim
        | some v =>
          rw [hv] at hp
          obtain ⟨u, e1, e2⟩ := ext_sound hnum hx hall hv w
          have e : (execOp a.eval { dst := dst, op := .call { callee := .value f, args := args, argTypes := ts }, type := type, pos := pos, after := after, guard := guard }).run P w = .ok (.value u) w := by
            have e1 : execOp a.eval { dst := dst, op := .call { callee := .value f, args := args, argTypes := ts }, type := type, pos := pos, after := after, guard := guard } = (do let d ← Deferred.ofValue (a.eval f) (args.map a.eval); invoke d.target d.args) := rfl
            rw [e1, ef]
            simp only [Deferred.ofValue, Sem.run_bind, Sem.run_pure, Result.andThen_ok, Array.empty_append, invoke]
            assumption
          unfold Oper.wp
          rw [e]
          exact hp ρ u w e2 hR (Ext.refl _ _)
      | none =>
      rw [hx] at hp
      simp only at hp
      generalize hcr : call k (evs tm args.toList ++ caps) h = cr at hp
      have hnf : ∀ n, call k (evs tm args.toList ++ caps) h ≠ .fail n := fun n q => by rw [hcr] at q; subst q; exact hp
      obtain ⟨⟨fn, c, hfn, hb⟩, hC⟩ := hcall k _ h _ ρ w hnf hR hall
      rw [hcr] at hC
      have e : (execOp a.eval { dst := dst, op := .call { callee := .value f, args := args, argTypes := ts }, type := type, pos := pos, after := after, guard := guard }).run P w = .ok (.enter k ((args.map a.eval) ++ cv)) w := by
        have e1 : execOp a.eval { dst := dst, op := .call { callee := .value f, args := args, argTypes := ts }, type := type, pos := pos, after := after, guard := guard } = (do let d ← Deferred.ofValue (a.eval f) (args.map a.eval); invoke d.target d.args) := rfl
        rw [e1, ef]
        simp only [Deferred.ofValue, Sem.run_bind, Sem.run_pure, Result.andThen_ok, Array.empty_append]
        exact run_invoke hnum hfn hb w
      unfold Oper.wp
      rw [e, Oper.upon_enter]
      refine hC.mono fun en w' hpost => ?_
      cases cr with
      | ret v h' =>
        cases en with
        | returned u => obtain ⟨ρ', k1, k2, k3⟩ := hpost; exact hp ρ' u w' k1 k2 k3
        | panicked ch => exact hpost.elim
        | outgrown => exact hpost.elim
      | pan v h' =>
        cases en with
        | returned u => exact hpost.elim
        | panicked ch =>
          cases ch with
          | nil => exact hpost.elim
          | cons e0 more =>
            cases more with
            | cons e1 more => exact hpost.elim
            | nil =>
              obtain ⟨u, r, g⟩ := e0
              obtain ⟨ρ', q1, q2, k1, k2, k3⟩ := hpost
              simp only at q1 q2
              subst q1; subst q2
              exact hp ρ' u w' k1 k2 k3
        | outgrown => exact hpost.elim
      | fail n => exact absurd hcr (hnf n)
    · exact hp.elim
  · rename_i args ts
    have hargs : LRel ρ (evs tm args.toList) (args.map a.eval).toList := by
      rw [Array.toList_map]
      exact evs_rel args.toList fun x hx => ho x (by simp only [Op.operands, Call.operands, Array.toList_append, List.mem_append]; exact .inr hx)
    split at hp
    · rename_i s x hsx
      rw [hsx] at hargs
      obtain ⟨s', x', e, hs, hx⟩ := hargs.two
      have e' : args.map a.eval = #[s', x'] := by
        apply Array.toList_inj.1; exact e
      generalize hv : appendA P ts s x h = r at hp
      cases r with
      | val v h' =>
        obtain ⟨w', u, ρ', e1, e2, e3, e4⟩ := appendA_sound (P := P) (ty := type) hR hs hx hv
        have er : (execOp a.eval { dst := dst, op := .call { callee := .builtin .append, args := args, argTypes := ts }, type := type, pos := pos, after := after, guard := guard }).run P w = .ok (.value u) w' := by
          show ((do let u ← Builtin.append_ ts type (args.map a.eval); pure (Next.value u)) : Sem Next).run P w = _
          rw [e']; exact run_val e1
        unfold Oper.wp
        rw [er]
        exact hp ρ' u w' e2 e3 e4
      | pan v h' => exact hp.elim
      | dfr f args => exact hp.elim
      | fail n => exact hp.elim
    · exact hp.elim
  · rename_i args ts
    have hargs : LRel ρ (evs tm args.toList) (args.map a.eval).toList := by
      rw [Array.toList_map]
      exact evs_rel args.toList fun x hx => ho x (by simp only [Op.operands, Call.operands, Array.toList_append, List.mem_append]; exact .inr hx)
    split at hp
    · rename_i d x hsx
      rw [hsx] at hargs
      obtain ⟨d', x', e, hd, hx⟩ := hargs.two
      have e' : args.map a.eval = #[d', x'] := by
        apply Array.toList_inj.1; exact e
      generalize hv : copyA P ts d x h = r at hp
      cases r with
      | val v h' =>
        obtain ⟨w', u, e1, e2, e3, e4⟩ := copyA_sound (P := P) (ty := type) hR hd hx hv
        have er : (execOp a.eval { dst := dst, op := .call { callee := .builtin .copy, args := args, argTypes := ts }, type := type, pos := pos, after := after, guard := guard }).run P w = .ok (.value u) w' := by
          show ((do let u ← Builtin.copy_ ts type (args.map a.eval); pure (Next.value u)) : Sem Next).run P w = _
          rw [e']; exact run_val e1
        unfold Oper.wp
        rw [er]
        exact hp ρ u w' e2 e3 e4
      | pan v h' => exact hp.elim
      | dfr f args => exact hp.elim
      | fail n => exact hp.elim
    · exact hp.elim
  · rename_i args ts
    have hargs : LRel ρ (evs tm args.toList) (args.map a.eval).toList := by
      rw [Array.toList_map]
      exact evs_rel args.toList fun x hx => ho x (by simp only [Op.operands, Call.operands, Array.toList_append, List.mem_append]; exact .inr hx)
    split at hp
    · rename_i x hsx
      rw [hsx] at hargs
      obtain ⟨x', e, hx⟩ := hargs.one
      have e' : args.map a.eval = #[x'] := by
        apply Array.toList_inj.1; exact e
      generalize hv : clearA P ts x h = r at hp
      cases r with
      | val v h' =>
        obtain ⟨w', e1, rfl, e3, e4⟩ := clearA_sound (P := P) (ty := type) hR hx hv
        have er : (execOp a.eval { dst := dst, op := .call { callee := .builtin .clear, args := args, argTypes := ts }, type := type, pos := pos, after := after, guard := guard }).run P w = .ok (.value (.tuple #[])) w' := by
          show ((do let u ← Builtin.clear_ ts type (args.map a.eval); pure (Next.value u)) : Sem Next).run P w = _
          rw [e']; exact run_val e1
        unfold Oper.wp
        rw [er]
        exact hp ρ _ w' (by simp only [VRel, LRel]; exact ⟨#[], rfl, rfl⟩) e3 e4
      | pan v h' => exact hp.elim
      | dfr f args => exact hp.elim
      | fail n => exact hp.elim
    · exact hp.elim
  · rename_i t
    obtain ⟨ρ', e1, e2, e3, e4⟩ := makeMap_sound (P := P) hR (t := t)
    have er : (execOp a.eval { dst := dst, op := .makeMap t none, type := type, pos := pos, after := after, guard := guard }).run P w = .ok (.value (.map (some w.heap.size))) (w.alloc (.map #[] 0)) := run_val e1
    unfold Oper.wp
    rw [er]
    exact hp ρ' _ _ e2 e3 e4
  · rename_i t m k x
    have hm := ho m (by simp [Op.operands])
    have hk := ho k (by simp [Op.operands])
    have hx := ho x (by simp [Op.operands])
    generalize hs : mapUpdA P t (ev tm m) (ev tm k) (ev tm x) h = r at hp
    cases r with
    | val v h' =>
      obtain ⟨w', e1, rfl, e2, e3⟩ := mapUpdA_sound (P := P) hR hm hk hx hs
      have e : (execOp a.eval { dst := dst, op := .mapUpdate t m k x, type := type, pos := pos, after := after, guard := guard }).run P w = .ok .skip w' := run_skp e1
      unfold Oper.wp
      rw [e]
      exact hp ρ undef w' (by simp only [VRel, LRel]; exact ⟨#[], rfl, rfl⟩) e2 e3
    | pan v h' => exact hp.elim
    | dfr f args => exact hp.elim
    | fail n => exact hp.elim
  · rename_i sr d x
    have hx := ho x (by simp [Op.operands])
    split at hp
    · rename_i s hsr hxs
      rw [hxs] at hx
      simp only [VRel] at hx
      generalize hv : str2sl P d s h = r at hp
      cases r with
      | val v h' =>
        obtain ⟨w', u, ρ', e1, e2, e3, e4⟩ := str2sl_sound (P := P) hsr hR hv
        have er : (execOp a.eval { dst := dst, op := .convert sr d x, type := type, pos := pos, after := after, guard := guard }).run P w = .ok (.value u) w' := by
          refine run_val ?_
          rw [hx]; exact e1
        unfold Oper.wp
        rw [er]
        exact hp ρ' u w' e2 e3 e4
      | pan v h' => exact hp.elim
      | dfr f args => exact hp.elim
      | fail n => exact hp.elim
    · exact hp.elim
  · rename_i x
    have hx := ho x (by simp [Op.operands])
    split at hp
    · rename_i t v hxs
      rw [hxs] at hx
      have hx2 := hx
      simp only [VRel] at hx2
      obtain ⟨y, e, hy⟩ := hx2
      have er : (execOp a.eval { dst := dst, op := .panic x, type := type, pos := pos, after := after, guard := guard }).run P w = .halt (.panic (.iface t y)) w := by
        show ((do let u ← Instr.panic (a.eval x); pure (Next.value u)) : Sem Next).run P w = _
        rw [e]; rfl
      unfold Oper.wp
      rw [er]
      exact hp ρ _ w (e ▸ hx) hR (Ext.refl _ _)
    · exact hp.elim
  · rename_i f args ts
    have hf := ho f (by simp [Op.operands, Call.operands])
    have hargs : LRel ρ (evs tm args.toList) (args.map a.eval).toList := by
      rw [Array.toList_map]
      exact evs_rel args.toList fun x hx => ho x (by simp only [Op.operands, Call.operands, Array.toList_append, List.mem_append]; exact .inr hx)
    split at hp
    · rename_i k caps hk
      rw [hk] at hf
      simp only [VRel] at hf
      obtain ⟨cv, ef, hcv⟩ := hf
      have er : (execOp a.eval { dst := dst, op := .defer { callee := .value f, args := args, argTypes := ts }, type := type, pos := pos, after := after, guard := guard }).run P w = .ok (.defer { target := .fn (.func k) cv, args := args.map a.eval }) w := by
        have e1 : execOp a.eval { dst := dst, op := .defer { callee := .value f, args := args, argTypes := ts }, type := type, pos := pos, after := after, guard := guard } = (do pure (.defer (← Deferred.ofValue (a.eval f) (args.map a.eval)))) := rfl
        rw [e1, ef]
        simp only [Deferred.ofValue, Sem.run_bind, Sem.run_pure, Result.andThen_ok, Array.empty_append]
      unfold Oper.wp
      rw [er]
      exact hp _ ⟨cv, args.map a.eval, rfl, by rw [Array.toList_append]; exact hargs.append hcv⟩
    · exact hp.elim
  · exact hp.elim
end Go.Fv
