/-
  Ev, part C: calls, deferred calls, and the whole machine.
-/
import Derived.Test.YtdcimkbkijcklaaGreatDoorFvD3
namespace Go.Fv
open Go.RowKit

variable {P : Program} {w w0 : World} {ρ : Rho} {base : Nat}

/- Loops. -/
def LoopP (P : Program) (body : Code) (Q : Exit → Act → World → Prop) (a : Act) (w : World) : Prop :=
  ∀ (b : Frame) (k : List Item) (cs : List Frame), ∃ e a' w', Q e a' w' ∧ Arrives P (lone (b.at a (.inLoop body :: k)) cs w) b k cs e a' w'

theorem loop_round {body : Code} {Q : Exit → Act → World → Prop} {a : Act} (h : body.wp P (Exit.then (LoopP P body Q) Q) a w) (b : Frame) (k : List Item) (cs : List Frame) :
    ∃ e a' w', Q e a' w' ∧ Arrives P (lone (b.at a (.code body :: .inLoop body :: k)) cs w) b k cs e a' w' := by
  obtain ⟨e, a₁, w₁, hq, harr⟩ := h b (.inLoop body :: k) cs
  cases e with
  | normal =>
    obtain ⟨e₂, a₂, w₂, hq₂, harr₂⟩ := hq b k cs
    exact ⟨e₂, a₂, w₂, hq₂, .of_steps harr harr₂⟩
  | exit id => exact ⟨_, a₁, w₁, hq, .pass (x := .inLoop body) rfl (fun _ _ => .inl (by simp)) harr⟩
  | goto l => exact ⟨_, a₁, w₁, hq, .pass (x := .inLoop body) rfl (fun _ _ => .inl (by simp)) harr⟩
  | ret => exact ⟨_, a₁, w₁, hq, .pass (x := .inLoop body) rfl (fun _ _ => .inl (by simp)) harr⟩
  | panic ch => exact ⟨_, a₁, w₁, hq, .pass (x := .inLoop body) rfl (fun _ _ => .inl (by simp)) harr⟩
  | outgrown => exact ⟨_, a₁, w₁, hq, .pass (x := .inLoop body) rfl (fun _ _ => .inl (by simp)) harr⟩

theorem loopP_of {body : Code} {Q : Exit → Act → World → Prop} {a : Act} (h : body.wp P (Exit.then (LoopP P body Q) Q) a w) : LoopP P body Q a w := fun b k cs => by
  obtain ⟨e, a', w', q, r⟩ := loop_round h b k cs
  exact ⟨e, a', w', q, .of_steps (.one step_inLoop) r⟩
theorem wp_loop_of {body : Code} {Q : Exit → Act → World → Prop} {a : Act} (h : body.wp P (Exit.then (LoopP P body Q) Q) a w) : (Code.loop body).wp P Q a w := fun b k cs => by
  obtain ⟨e, a', w', q, r⟩ := loop_round h b k cs
  exact ⟨e, a', w', q, .of_steps (.one step_loop) r⟩

def RunOk (P : Program) (run : Nat → Code → St → R) (base : Nat) (w0 : World) : Prop :=
  ∀ N c ρ st a w Q, RPost ρ N st.h base w0 Q (run N c st) → SRel ρ N st base w0 a w → c.wp P Q a w
def LoopOk (P : Program) (run : Nat → Code → St → R) (base : Nat) (w0 : World) : Prop :=
  ∀ N c ρ st a w Q, RPost ρ N st.h base w0 Q (run N (.loop c) st) → SRel ρ N st base w0 a w → LoopP P c Q a w

theorem bind_post {N : Nat} {h : Heap} {Q : Exit → Act → World → Prop} {r : R} {k : St → R} {K : Act → World → Prop} (hp : RPost ρ N h base w0 Q (r.bind k))
    (hK : ∀ st ρ' a w, SRel ρ' N st base w0 a w → RPost ρ' N st.h base w0 Q (k st) → K a w) : RPost ρ N h base w0 (Exit.then K Q) r := by
  cases r with
  | norm st => exact fun ρ' a w k1 k2 => hK st ρ' a w k1 (RPost.later hp k2)
  | exit id st => exact hp
  | ret st => exact hp
  | pan v st => exact hp
  | fail n => exact hp

theorem node_sound (hnum : NoNum P) (hmix : P.follows .mixedOrders = true) {m : Mach} (hr : RunOk P m.run base w0) (hl : LoopOk P m.run base w0) (hc : CallOk P m.call base w0) :
    RunOk P (node P m) base w0 ∧ LoopOk P (node P m) base w0 := by
  have body : ∀ N c ρ st a w Q, RPost ρ N st.h base w0 Q ((m.run N c st).bind (m.run N (.loop c))) → SRel ρ N st base w0 a w → c.wp P (Exit.then (LoopP P c Q) Q) a w := fun N c ρ st a w Q hp hS =>
    hr N c ρ st a w _ (bind_post hp fun st' ρ' a' w' k1 k2 => hl N c ρ' st' a' w' Q k2 k1) hS
  refine ⟨fun N c ρ st a w Q hp hS => ?_, fun N c ρ st a w Q hp hS => loopP_of (body N c ρ st a w Q hp hS)⟩
  cases c with
  | skip => exact wp_skip (hp ρ a w hS (Ext.refl _ _))
  | label l => exact wp_label (hp ρ a w hS (Ext.refl _ _))
  | region id ops d =>
    cases d with
    | true => exact drawn_sound hnum hmix hc hS hp
    | false =>
      refine wp_region ?_
      have := reg_sound hnum hc ops.toList 0 ρ st a w (by simp) hS hp
      simpa using this
  | seq x y => exact wp_seq (hr N x ρ st a w _ (bind_post hp fun st' ρ' a' w' k1 k2 => hr N y ρ' st' a' w' Q k2 k1) hS)
  | cond x c1 c2 =>
    have hx := hS.tm.ev x
    simp only [node, goCond] at hp
    split at hp
    · rename_i e; rw [e] at hx; simp only [VRel] at hx
      exact wp_cond_true hx (hr N c1 ρ st a w Q hp hS)
    · rename_i e; rw [e] at hx; simp only [VRel] at hx
      exact wp_cond_false hx (hr N c2 ρ st a w Q hp hS)
    · exact hp.elim
  | block id x =>
    refine wp_block (hr N x ρ st a w _ ?_ hS)
    have hp' : RPost ρ N st.h base w0 Q ((m.run N x st).blk id) := hp
    generalize m.run N x st = r at hp'
    cases r with
    | norm st => exact hp'
    | exit i st =>
      intro ρ' a' w' k1 k2
      show if i = id then Q .normal a' w' else Q (.exit i) a' w'
      simp only [R.blk] at hp'
      by_cases hi : i = id
      · rw [if_pos hi]
        have hb : Nat.beq i id = true := by rw [Nat.beq_eq]; exact hi
        rw [hb] at hp'
        exact hp' ρ' a' w' k1 k2
      · rw [if_neg hi]
        have hb : Nat.beq i id = false := by rw [← Bool.not_eq_true, Nat.beq_eq]; exact hi
        rw [hb] at hp'
        exact hp' ρ' a' w' k1 k2
    | ret st => exact hp'
    | pan v st => exact hp'
    | fail n => exact hp'
  | loop x => exact wp_loop_of (body N x ρ st a w Q hp hS)
  | scope x =>
    refine wp_scope_straight (hr N x ρ st a w _ ?_ hS)
    have hp' : RPost ρ N st.h base w0 Q (m.run N x st) := hp
    generalize m.run N x st = r at hp'
    cases r <;> exact hp'
  | exit id => exact wp_exit (hp ρ a w hS (Ext.refl _ _))
  | ret => exact wp_ret (hp ρ a w hS (Ext.refl _ _))
  | rangeFunc f p x y => exact hp.elim
  | goto l => exact hp.elim
  | refuse s => exact hp.elim

/- How a call begins. -/
theorem initT_get : ∀ (l : List AV) (i : Nat) (tm : Tm) (t : Nat),
    (∃ x, i ≤ t ∧ l[t - i]? = some x ∧ (getT (List.rec (motive := fun _ => Nat → Tm → Tm) (fun _ t => t) (fun x _ ih i t => ih (i + 1) (t.set i x)) l i tm) t = x ∨ getT (List.rec (motive := fun _ => Nat → Tm → Tm) (fun _ t => t) (fun x _ ih i t => ih (i + 1) (t.set i x)) l i tm) t = .bad)) ∨
    getT (List.rec (motive := fun _ => Nat → Tm → Tm) (fun _ t => t) (fun x _ ih i t => ih (i + 1) (t.set i x)) l i tm) t = getT tm t
  | [], i, tm, t => .inr rfl
  | x :: l, i, tm, t => by
    have e : (List.rec (motive := fun _ => Nat → Tm → Tm) (fun _ t => t) (fun x _ ih i t => ih (i + 1) (t.set i x)) (x :: l) i tm) = (List.rec (motive := fun _ => Nat → Tm → Tm) (fun _ t => t) (fun x _ ih i t => ih (i + 1) (t.set i x)) l (i + 1) (tm.set i x)) := rfl
    rw [e]
    rcases initT_get l (i + 1) (tm.set i x) t with ⟨y, h1, h2, h3⟩ | h
    · refine .inl ⟨y, by omega, ?_, h3⟩
      have e2 : t - i = (t - (i + 1)) + 1 := by omega
      rw [e2]; simpa using h2
    · rw [h]
      rcases getT_set tm i t x with q | ⟨rfl, q⟩
      · exact .inr q
      · exact .inl ⟨x, Nat.le_refl _, by simp, q⟩

theorem init_rel {N : Nat} {args : List AV} {vs : Array Value} (h : LRel ρ args vs.toList) : TRel ρ N (initT N args) (vs ++ Array.replicate (N - vs.size) undef) := by
  refine ⟨by simp; omega, fun t => ?_⟩
  unfold initT
  rcases initT_get args 0 Tm.init t with ⟨x, _, h2, h3⟩ | h3
  · rcases h3 with h3 | h3
    · rw [h3]
      obtain ⟨u, k1, k2⟩ := h.get h2
      have hlt : t < vs.size := by have := (List.getElem?_eq_some_iff.1 k1).1; simpa using this
      have e : (vs ++ Array.replicate (N - vs.size) undef).getD t undef = u := by
        rw [Array.getD_eq_getD_getElem?, Array.getElem?_append_left hlt]
        have k3 : vs[t]? = some u := by simpa using k1
        rw [k3]; rfl
      rw [e]; exact k2
    · rw [h3]; simp only [VRel]
  · rw [h3]
    have e : getT Tm.init t = .bad := Tm.get_init t
    rw [e]; simp only [VRel]

theorem resOne_sound {N : Nat} {tm : Tm} {h : Heap} {tmps : Array Value} (ht : TRel ρ N tm tmps) (hR : Rel ρ h.next h.get base w0 w) {r : ResultVar} {v : AV} (hv : resOne P tm h r = some v) :
    ∃ u, (match r with | .tmp t => (pure (tmps.getD t undef) : Sem Value) | .cell a t => do Go.loadVar t (← asAddr (tmps.getD a undef))).run P w = .ok u w ∧ VRel ρ v u := by
  cases r with
  | tmp t => obtain rfl := Option.some.inj hv; exact ⟨_, rfl, ht.get t⟩
  | cell a t =>
    obtain ⟨u, e1, e2, ad, e3, e4⟩ := loadA_sound (P := P) hR rfl (ht.get a) hv
    refine ⟨u, ?_, e2⟩
    simp only [e3, asAddr, Sem.run_bind, Sem.run_pure, Result.andThen_ok]
    exact e4

theorem resL_sound {N : Nat} {tm : Tm} {h : Heap} {tmps : Array Value} (ht : TRel ρ N tm tmps) (hR : Rel ρ h.next h.get base w0 w) : ∀ (l : List ResultVar) (vs : List AV), resL P tm h l = some vs →
    ∃ us, (l.mapM fun r : ResultVar => (match r with | .tmp t => (pure (tmps.getD t undef) : Sem Value) | .cell a t => do Go.loadVar t (← asAddr (tmps.getD a undef)))).run P w = .ok us w ∧ LRel ρ vs us
  | [], vs, hv => by
    have e : resL P tm h [] = some [] := rfl
    rw [e] at hv; obtain rfl := Option.some.inj hv
    exact ⟨[], rfl, by simp [LRel]⟩
  | r :: l, vs, hv => by
    have e : resL P tm h (r :: l) = (resOne P tm h r).bind fun v => (resL P tm h l).map (v :: ·) := rfl
    rw [e] at hv
    cases h1 : resOne P tm h r with
    | none => rw [h1] at hv; cases hv
    | some v =>
      rw [h1] at hv; simp only [Option.bind_some] at hv
      cases h2 : resL P tm h l with
      | none => rw [h2] at hv; cases hv
      | some vs' =>
        rw [h2] at hv; simp only [Option.map_some, Option.some.injEq] at hv; subst hv
        obtain ⟨u, e1, e2⟩ := resOne_sound ht hR h1
        obtain ⟨us, e3, e4⟩ := resL_sound ht hR l vs' h2
        refine ⟨u :: us, ?_, by simp only [LRel]; exact ⟨u, us, rfl, e2, e4⟩⟩
        rw [List.mapM_cons, Sem.run_bind, e1]
        simp only [Result.andThen_ok, Sem.run_bind, e3, Sem.run_pure]

theorem resV_sound {N : Nat} {tm : Tm} {h : Heap} {tmps : Array Value} {fn : Func} {v : AV} (ht : TRel ρ N tm tmps) (hR : Rel ρ h.next h.get base w0 w) (hv : resV P fn tm h = some v) :
    ∃ u, (results fn tmps).run P w = .ok u w ∧ VRel ρ v u := by
  unfold resV at hv
  cases hl : resL P tm h fn.results.toList with
  | none => rw [hl] at hv; cases hv
  | some vs =>
    rw [hl] at hv; simp only [Option.map_some, Option.some.injEq] at hv; subst hv
    obtain ⟨us, e1, e2⟩ := resL_sound ht hR _ _ hl
    have hm : (fn.results.mapM fun r : ResultVar => (match r with | .tmp t => (pure (tmps.getD t undef) : Sem Value) | .cell a t => do Go.loadVar t (← asAddr (tmps.getD a undef)))).run P w = .ok us.toArray w := by
      rw [Array.mapM_eq_mapM_toList, Sem.run_map, e1]; rfl
    have hr : (results fn tmps).run P w = .ok (if h : us.toArray.size = 1 then us.toArray[0] else .tuple us.toArray) w := by
      show ((fn.results.mapM fun r : ResultVar => (match r with | .tmp t => (pure (tmps.getD t undef) : Sem Value) | .cell a t => do Go.loadVar t (← asAddr (tmps.getD a undef)))) >>= fun vs => pure (if h : vs.size = 1 then vs[0] else .tuple vs)).run P w = _
      rw [Sem.run_bind, hm]; rfl
    refine ⟨_, hr, ?_⟩
    have hlen := e2.len
    unfold oneOf
    split
    · rename_i x
      obtain ⟨u, rfl, hu⟩ := e2.one
      simpa using hu
    · rename_i l hne
      have hs : ¬ us.toArray.size = 1 := fun q => by
        have : vs.length = 1 := by rw [← hlen]; simpa using q
        obtain ⟨x, hx⟩ := List.length_eq_one_iff.1 this
        exact hne x hx
      rw [dif_neg hs]
      simp only [VRel]
      exact ⟨us.toArray, rfl, e2⟩

/- Deferred calls. -/
def MdRel (ρ : Rho) : Md → FrameMode → Prop
  | .ret, m => m = .returning
  | .pan v, m => ∃ u, m = .panicking [{ v := u, recovered := false }] ∧ VRel ρ v u
  | .recd v, m => ∃ u, m = .panicking [{ v := u, recovered := true }] ∧ VRel ρ v u
theorem MdRel.mono {ρ' : Rho} (k : ρ.le ρ') {u : Md} {m : FrameMode} (h : MdRel ρ u m) : MdRel ρ' u m := by
  cases u with
  | ret => exact h
  | pan v => obtain ⟨x, h1, h2⟩ := h; exact ⟨x, h1, VRel.mono k _ _ h2⟩
  | recd v => obtain ⟨x, h1, h2⟩ := h; exact ⟨x, h1, VRel.mono k _ _ h2⟩

def SPost (ρ : Rho) (N : Nat) (h : Heap) (base : Nat) (w0 : World) (Q : Exit → Act → FrameMode → World → Prop) : RS → Prop
  | .ok (.norm st) u => ∀ ρ' a m w, SRel ρ' N st base w0 a w → Ext ρ h ρ' st.h → MdRel ρ' u m → Q .normal a m w
  | .ok (.exit id st) u => ∀ ρ' a m w, SRel ρ' N st base w0 a w → Ext ρ h ρ' st.h → MdRel ρ' u m → Q (.exit id) a m w
  | .ok (.ret st) u => ∀ ρ' a m w, SRel ρ' N st base w0 a w → Ext ρ h ρ' st.h → MdRel ρ' u m → Q .ret a m w
  | .ok (.pan v st) u => ∀ ρ' x a m w, VRel ρ' v x → SRel ρ' N st base w0 a w → Ext ρ h ρ' st.h → MdRel ρ' u m → Q (.panic [{ v := x, recovered := false }]) a m w
  | .ok (.fail _) _ => False

theorem SPost.later {ρ' : Rho} {N : Nat} {h h' : Heap} {Q : Exit → Act → FrameMode → World → Prop} {r : RS} (hr : SPost ρ N h base w0 Q r) (e : Ext ρ h ρ' h') : SPost ρ' N h' base w0 Q r := by
  obtain ⟨r, u⟩ := r
  cases r with
  | norm st => exact fun ρ'' a m w k1 k2 k3 => hr ρ'' a m w k1 (e.trans k2) k3
  | exit id st => exact fun ρ'' a m w k1 k2 k3 => hr ρ'' a m w k1 (e.trans k2) k3
  | ret st => exact fun ρ'' a m w k1 k2 k3 => hr ρ'' a m w k1 (e.trans k2) k3
  | pan v st => exact fun ρ'' x a m w k0 k1 k2 k3 => hr ρ'' x a m w k0 k1 (e.trans k2) k3
  | fail n => exact hr

/-- What does not recover leaves the caller's mode. -/
theorem SPost.plain {N : Nat} {h : Heap} {Q : Exit → Act → FrameMode → World → Prop} {r : R} {u : Md} {m : FrameMode} (hp : SPost ρ N h base w0 Q (.ok r u)) (hm : MdRel ρ u m) : RPost ρ N h base w0 (fun e a w => Q e a m w) r := by
  cases r with
  | norm st => exact fun ρ' a w k1 k2 => hp ρ' a m w k1 k2 (hm.mono k2.le)
  | exit id st => exact fun ρ' a w k1 k2 => hp ρ' a m w k1 k2 (hm.mono k2.le)
  | ret st => exact fun ρ' a w k1 k2 => hp ρ' a m w k1 k2 (hm.mono k2.le)
  | pan v st => exact fun ρ' x a w k0 k1 k2 => hp ρ' x a m w k0 k1 k2 (hm.mono k2.le)
  | fail n => exact hp

def OnTop (c₀ : Frame) (cs : List Frame) (Q : Exit → Act → FrameMode → World → Prop) : Exit → Act → List Frame → World → Prop := fun e a cs' w => ∃ m, cs' = { c₀ with mode := m } :: cs ∧ Q e a m w

theorem upon_not_rec {o : Oper} {a : Act} {K : Act → World → Prop} {Q : Exit → Act → World → Prop} {X : World → Prop} (h : o.wp P a w K Q) :
    (match (execOp a.eval o).run P w with | .ok .recover w' => X w' | r => o.upon P a K Q r) := by
  unfold Oper.wp at h
  generalize (execOp a.eval o).run P w = r at h
  cases r with
  | ok n w' => cases n <;> first | exact h | exact (show False from h).elim
  | halt x w' => exact h

theorem isRec_run {o : Oper} (h : isRec o = true) (a : Act) (w : World) : (execOp a.eval o).run P w = .ok .recover w := by
  obtain ⟨dst, op, type, pos, after, guard⟩ := o
  unfold isRec at h
  simp only at h
  split at h
  · rfl
  · cases h

theorem recov_sound {u : Md} {m : FrameMode} (h : MdRel ρ u m) (c₀ : Frame) (cs : List Frame) :
    ∃ x m', VRel ρ (recov u).1 x ∧ MdRel ρ (recov u).2 m' ∧ ((recoverD ({ c₀ with mode := m } :: cs) = some (x, { c₀ with mode := m' } :: cs)) ∨ (recoverD ({ c₀ with mode := m } :: cs) = none ∧ x = .nilIface ∧ m' = m)) := by
  cases u with
  | ret =>
    simp only [MdRel] at h; subst h
    exact ⟨.nilIface, .returning, by simp only [recov, VRel], by simp only [recov, MdRel], .inr ⟨rfl, rfl, rfl⟩⟩
  | pan v =>
    obtain ⟨x, rfl, hv⟩ := h
    exact ⟨x, .panicking [{ v := x, recovered := true }], hv, ⟨x, rfl, hv⟩, .inl rfl⟩
  | recd v =>
    have h' := h
    obtain ⟨x, rfl, hv⟩ := h
    exact ⟨.nilIface, _, by simp only [recov, VRel], h', .inr ⟨rfl, rfl, rfl⟩⟩

theorem step_sound' (hnum : NoNum P) {call : FuncId → List AV → Heap → CR} (hcall : CallOk P call base w0) {N : Nat} {ops : Array Oper} {o : Oper} {st : St} {a : Act} {K : Act → World → Prop} {Q : Exit → Act → World → Prop} (hS : SRel ρ N st base w0 a w)
    (hp : RPost ρ N st.h base w0 (Exit.then K Q) (stepO P call N ops o st)) : if Region.wanted o (yielded ops a.tmps) then o.wp P a w K Q else K (a.put o.dst undef) w := by
  unfold stepO at hp
  split at hp
  · rename_i hw
    have := want_sound (ρ := ρ) (tmps := a.tmps) (fun j v d _ _ => hS.tm.get d) hw
    rw [this, if_pos rfl]
    exact op_wp hnum hcall hS.h (fun x _ => hS.tm.ev x) (fin_sound hS hp)
  · rename_i hw
    have := want_sound (ρ := ρ) (tmps := a.tmps) (fun j v d _ _ => hS.tm.get d) hw
    rw [this]
    simp only [Bool.false_eq_true, if_false]
    have := fin_sound hS hp
    exact this ρ undef w (by simp only [VRel, LRel]; exact ⟨#[], rfl, rfl⟩) hS.h (Ext.refl _ _)
  · exact hp.elim

def exitThen (next : Act → FrameMode → World → Prop) (Q : Exit → Act → FrameMode → World → Prop) : Exit → Act → FrameMode → World → Prop
  | .normal, a, m, w => next a m w
  | e, a, m, w => Q e a m w

theorem regS_sound (hnum : NoNum P) {call : FuncId → List AV → Heap → CR} (hcall : CallOk P call base w0) {N : Nat} {ops : Array Oper} {Q : Exit → Act → FrameMode → World → Prop} (c₀ : Frame) (cs : List Frame) : ∀ (l : List Oper) (k : Nat) (ρ : Rho) (st : St) (a : Act) (w : World) (u : Md) (m : FrameMode), ops.toList.drop k = l → SRel ρ N st base w0 a w → MdRel ρ u m →
    SPost ρ N st.h base w0 Q (regS P call N ops l st u) → wpOpsS P ops (OnTop c₀ cs Q) ((List.range ops.size).drop k) a ({ c₀ with mode := m } :: cs) w
  | [], k, ρ, st, a, w, u, m, hl, hS, hm, hp => by
    have hk : ops.size ≤ k := by simpa using hl
    have e : (List.range ops.size).drop k = [] := by simpa using hk
    rw [e]
    exact ⟨m, rfl, hp ρ a m w hS (Ext.refl _ _) hm⟩
  | o :: l, k, ρ, st, a, w, u, m, hl, hS, hm, hp => by
    have hk : k < ops.toList.length := by
      rcases Nat.lt_or_ge k ops.toList.length with h | h
      · exact h
      · rw [List.drop_eq_nil_of_le h] at hl; cases hl
    have hk' : k < (List.range ops.size).length := by simpa using hk
    rw [List.drop_eq_getElem_cons hk] at hl
    injection hl with ho hl
    rw [List.drop_eq_getElem_cons hk']
    simp only [List.getElem_range]
    have hoi : ops[k]? = some o := by
      have hks : k < ops.size := by simpa using hk
      rw [Array.getElem?_eq_getElem hks]; simpa using ho
    simp only [wpOpsS, hoi]
    unfold regS at hp
    split at hp
    · rename_i hrec hgd
      have hw : Region.wanted o (yielded ops a.tmps) = true := by unfold Region.wanted; rw [hgd]
      rw [if_pos hw, isRec_run hrec]
      simp only
      obtain ⟨x, m', hx, hm', hD⟩ := recov_sound hm c₀ cs
      have fin : ∀ st', OR.fin N o st (.val (recov u).1 st.h) = .norm st' → SRel ρ N st' base w0 (a.put o.dst x) w ∧ st'.h = st.h := fun st' e => by
        simp only [OR.fin] at e
        split at e
        · rename_i tm hput
          injection e with e; subst e
          exact ⟨⟨hS.tm.put hx hput, hS.h, by rw [put_defers]; exact hS.ds⟩, rfl⟩
        · cases e
      generalize hfin : OR.fin N o st (.val (recov u).1 st.h) = r at hp
      cases r with
      | norm st' =>
        obtain ⟨hS', hh⟩ := fin st' hfin
        simp only at hp
        rw [← hh] at hp
        rcases hD with hD | ⟨hD, rfl, rfl⟩
        · rw [hD]; exact regS_sound hnum hcall c₀ cs l (k + 1) ρ st' _ w _ m' hl hS' hm' hp
        · rw [hD]; exact regS_sound hnum hcall c₀ cs l (k + 1) ρ st' _ w _ _ hl hS' hm' hp
      | exit id st' => simp only [OR.fin] at hfin; split at hfin <;> cases hfin
      | ret st' => simp only [OR.fin] at hfin; split at hfin <;> cases hfin
      | pan v st' => simp only [OR.fin] at hfin; split at hfin <;> cases hfin
      | fail n => exact hp.elim
    · exact hp.elim
    · have key : RPost ρ N st.h base w0 (Exit.then (fun a' w' => wpOpsS P ops (OnTop c₀ cs Q) ((List.range ops.size).drop (k + 1)) a' ({ c₀ with mode := m } :: cs) w') (fun e a' w' => OnTop c₀ cs Q e a' ({ c₀ with mode := m } :: cs) w')) (stepO P call N ops o st) := by
        generalize stepO P call N ops o st = r at hp
        cases r with
        | norm st' => exact fun ρ' a' w' k1 k2 => regS_sound hnum hcall c₀ cs l (k + 1) ρ' st' a' w' u m hl k1 (hm.mono k2.le) (SPost.later hp k2)
        | exit id st' => exact fun ρ' a' w' k1 k2 => ⟨m, rfl, hp ρ' a' m w' k1 k2 (hm.mono k2.le)⟩
        | ret st' => exact fun ρ' a' w' k1 k2 => ⟨m, rfl, hp ρ' a' m w' k1 k2 (hm.mono k2.le)⟩
        | pan v st' => exact fun ρ' x a' w' k0 k1 k2 => ⟨m, rfl, hp ρ' x a' m w' k0 k1 k2 (hm.mono k2.le)⟩
        | fail n => exact hp
      have hstep := step_sound' hnum hcall hS key
      split
      · rename_i hw
        rw [if_pos hw] at hstep
        exact upon_not_rec hstep
      · rename_i hw
        rw [if_neg hw] at hstep
        exact hstep

theorem runS_sound (hnum : NoNum P) {m0 : Mach} (hr : RunOk P m0.run base w0) (hc : CallOk P m0.call base w0) {N : Nat} (c₀ : Frame) (cs : List Frame) : ∀ (c : Code) (ρ : Rho) (st : St) (a : Act) (w : World) (u : Md) (m : FrameMode) (Q : Exit → Act → FrameMode → World → Prop),
    SPost ρ N st.h base w0 Q (runS P m0.run m0.call N c st u) → SRel ρ N st base w0 a w → MdRel ρ u m → c.wpS P (OnTop c₀ cs Q) a ({ c₀ with mode := m } :: cs) w := by
  intro c
  have plain : ∀ (c : Code) (ρ : Rho) (st : St) (a : Act) (w : World) (u : Md) (m : FrameMode) (Q : Exit → Act → FrameMode → World → Prop), SPost ρ N st.h base w0 Q (.ok (m0.run N c st) u) → SRel ρ N st base w0 a w → MdRel ρ u m → c.wpS P (OnTop c₀ cs Q) a ({ c₀ with mode := m } :: cs) w := fun c ρ st a w u m Q hp hS hm => by
    refine wpS_of_wp (wp_mono (hr N c ρ st a w _ (SPost.plain hp hm) hS) fun e a' w' q => ⟨m, rfl, q⟩)
  induction c with
  | seq x y ihx ihy =>
    intro ρ st a w u m Q hp hS hm
    unfold runS at hp
    split at hp
    · exact plain _ ρ st a w u m Q hp hS hm
    · simp only at hp
      refine wpS_seq ?_
      have hx := ihx ρ st a w u m (exitThen (fun a' m' w' => y.wpS P (OnTop c₀ cs Q) a' ({ c₀ with mode := m' } :: cs) w') Q) ?_ hS hm
      · intro b k hb hro
        obtain ⟨e, a', cs', w', ⟨m', rfl, hq⟩, harr⟩ := hx b k hb hro
        refine ⟨e, a', _, w', ?_, harr⟩
        cases e with
        | normal => exact hq
        | exit id => exact ⟨m', rfl, hq⟩
        | goto l => exact ⟨m', rfl, hq⟩
        | ret => exact ⟨m', rfl, hq⟩
        | panic ch => exact ⟨m', rfl, hq⟩
        | outgrown => exact ⟨m', rfl, hq⟩
      · generalize runS P m0.run m0.call N x st u = r at hp
        obtain ⟨r, u'⟩ := r
        cases r with
        | norm st' => exact fun ρ' a' m' w' k1 k2 k3 => ihy ρ' st' a' w' u' m' Q (SPost.later hp k2) k1 k3
        | exit id st' => exact hp
        | ret st' => exact hp
        | pan v st' => exact hp
        | fail n => exact hp
  | region id ops d =>
    intro ρ st a w u m Q hp hS hm
    unfold runS at hp
    split at hp
    · exact plain _ ρ st a w u m Q hp hS hm
    · cases d with
      | true => exact hp.elim
      | false =>
        simp only at hp
        refine wpS_region ?_
        have := regS_sound hnum hc c₀ cs ops.toList 0 ρ st a w u m (by simp) hS hm hp
        simpa using this
  | skip | cond _ _ _ _ _ | block _ _ _ | loop _ _ | rangeFunc _ _ _ _ _ _ | exit _ | scope _ _ | label _ | goto _ | ret | refuse _ =>
    intro ρ st a w u m Q hp hS hm
    unfold runS at hp
    split at hp
    · exact plain _ ρ st a w u m Q hp hS hm
    · exact hp.elim
end Go.Fv
