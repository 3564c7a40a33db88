/-
  Ev, part P: one operation, a region in its order, code.
-/
import Derived.Test.YtdcimkbkijcklaaGreatDoorFvW
import Derived.Recover
import Derived.Scope
namespace Go.Fv
open Go.RowKit

variable {P : Program} {w w0 : World} {ρ : Rho} {base : Nat}

theorem op_wp (hnum : NoNum P) {call : FuncId → List AV → Heap → CR} (hcall : CallOk P call base w0) {o : Oper} {tm : Tm} {h : Heap} {a : Act} {K : Act → World → Prop} {Q : Exit → Act → World → Prop}
    (hR : Rel ρ h.next h.get base w0 w) (ho : ∀ x ∈ o.op.operands.toList, VRel ρ (ev tm x) (a.eval x)) (hp : ORpost ρ h base w0 o a w K Q (opE P call o tm h)) : o.wp P a w K Q := by
  unfold opE at hp
  split at hp
  · cases hl : lightE P o tm h with
    | none => rw [hl] at hp; exact hp.elim
    | some v =>
      rw [hl] at hp
      obtain ⟨u, e1, e2⟩ := light_sound hR ho hl
      unfold Oper.wp
      rw [e1]
      exact hp ρ u w e2 hR (Ext.refl _ _)
  · cases hl : allocE P o tm with
    | none => rw [hl] at hp; exact hp.elim
    | some q =>
      obtain ⟨cs, m⟩ := q
      rw [hl] at hp
      obtain ⟨c, e, e1, e2, e3⟩ := allocE_sound (w := w) ho hl
      have hcs : c.size = cs.length := by have := e2.len; simpa using this
      have hf := hR.fresh
      have hR2 : Rel ρ (h.next + 1) (h.alloc cs).get base w0 w := hR.weaken (Nat.le_succ _) fun j t ej =>
        .inl (Heap.get_alloc_ne h (Nat.ne_of_lt (hR.dom j t ej)) cs)
      have hR3 := hR2.extend (k := h.next) (n := cs.length) (cs := cs) (c := c) (e := e) (f := (0, 0)) (fun o _ => by simp) (Nat.lt_succ_self _) hf ((Heap.get_alloc_eq h cs).imp id fun q => by rw [q]; exact fun q => q) (Nat.le_refl _) (by omega) (fun j a ej => by
        obtain ⟨v, k1, k2⟩ := e2.get ej
        exact ⟨v, by simpa using k1, k2⟩)
      unfold Oper.wp
      rw [e1]
      refine hp _ (m.val w.heap.size) _ ?_ hR3 (Ext.alloc hf cs _)
      cases m with
      | ptr => simp only [Mk.at, Mk.val, VRel]; exact ⟨_, Rho.ext_same _ _ _, by simp⟩
      | slice l k s =>
        obtain ⟨q1, q2⟩ := e3 l k s rfl
        simp only [Mk.at, Mk.val, VRel]
        exact ⟨_, k, _, rfl, q1, Nat.le_refl _, fun _ => rfl, Rho.ext_same _ _ _, .inr ⟨by simp, by simpa using q2⟩⟩
  · exact heavy_wp hnum hcall hR ho hp

structure TRel (ρ : Rho) (N : Nat) (tm : Tm) (tmps : Array Value) : Prop where
  size : N ≤ tmps.size
  get : ∀ t, VRel ρ (getT tm t) (tmps.getD t undef)

theorem TRel.mono {ρ' : Rho} {N : Nat} {tm : Tm} {tmps : Array Value} (h : TRel ρ N tm tmps) (k : ρ.le ρ') : TRel ρ' N tm tmps := ⟨h.size, fun t => VRel.mono k _ _ (h.get t)⟩

theorem TRel.ev {N : Nat} {tm : Tm} {a : Act} (h : TRel ρ N tm a.tmps) (x : Operand) : VRel ρ (ev tm x) (a.eval x) := by
  cases x with
  | tmp t => exact h.get t
  | const v => exact ofV_rel ρ v
  | global g => simp only [Fv.ev, VRel]
  | func f => simp only [Fv.ev, VRel, LRel]; exact ⟨#[], rfl, rfl⟩

theorem TRel.put {N : Nat} {tm tm' : Tm} {a : Act} {dst : Option Tmp} {v : AV} {u : Value} (h : TRel ρ N tm a.tmps) (hv : VRel ρ v u) (hp : putA N tm dst v = some tm') : TRel ρ N tm' (a.put dst u).tmps := by
  unfold putA at hp
  split at hp
  · obtain rfl := Option.some.inj hp; exact h
  · rename_i d
    obtain ⟨hb, hp⟩ := cond_some hp
    obtain rfl := Option.some.inj hp
    have hd : d < N := by simpa [Nat.blt_eq] using hb
    have hs := h.size
    have hlt : d < a.tmps.size := Nat.lt_of_lt_of_le hd hs
    refine ⟨by simp [Act.put]; omega, fun t => ?_⟩
    by_cases ht : t = d
    · subst ht
      have e : ((a.put (some t) u).tmps).getD t undef = u := by
        simp [Act.put, Array.getD, hlt]
      rw [e]
      rcases getT_set tm t t v with q | ⟨_, q | q⟩
      · rcases Tm.get_set_eq tm t v with e2 | e2
        · have e3 : getT (tm.set t v) t = v := e2
          rw [e3]; exact hv
        · have e3 : getT (tm.set t v) t = .bad := e2.1
          rw [e3]; simp only [VRel]
      · rw [q]; exact hv
      · rw [q]; simp only [VRel]
    · rw [getT_set_ne tm ht v]
      have e : ((a.put (some d) u).tmps).getD t undef = a.tmps.getD t undef := by
        simp only [Act.put, Array.getD_eq_getD_getElem?]
        rw [Array.getElem?_setIfInBounds_ne (fun q => ht q.symm)]
      rw [e]; exact h.get t

theorem put_defers (a : Act) (dst : Option Tmp) (u : Value) : (a.put dst u).defers = a.defers := by cases dst <;> rfl

def DsRel (ρ : Rho) : List (FuncId × List AV) → List Deferred → Prop
  | [], l => l = []
  | d :: ds, l => ∃ e es, l = e :: es ∧ DRel ρ d e ∧ DsRel ρ ds es
theorem DRel.mono {ρ' : Rho} (k : ρ.le ρ') {d : FuncId × List AV} {e : Deferred} (h : DRel ρ d e) : DRel ρ' d e := by
  obtain ⟨caps, as, h1, h2⟩ := h
  exact ⟨caps, as, h1, LRel.mono k _ _ h2⟩
theorem DsRel.mono {ρ' : Rho} (k : ρ.le ρ') : ∀ {ds : List (FuncId × List AV)} {es : List Deferred}, DsRel ρ ds es → DsRel ρ' ds es
  | [], _, h => by simpa only [DsRel] using h
  | d :: ds, l, h => by
    simp only [DsRel] at h ⊢
    obtain ⟨e, es, rfl, h1, h2⟩ := h
    exact ⟨e, es, rfl, h1.mono k, h2.mono k⟩

structure SRel (ρ : Rho) (N : Nat) (st : St) (base : Nat) (w0 : World) (a : Act) (w : World) : Prop where
  tm : TRel ρ N st.tm a.tmps
  h : Rel ρ st.h.next st.h.get base w0 w
  ds : DsRel ρ st.ds a.defers

/-- What is wanted of what code does. -/
def RPost (ρ : Rho) (N : Nat) (h : Heap) (base : Nat) (w0 : World) (Q : Exit → Act → World → Prop) : R → Prop
  | .norm st => ∀ ρ' a w, SRel ρ' N st base w0 a w → Ext ρ h ρ' st.h → Q .normal a w
  | .exit id st => ∀ ρ' a w, SRel ρ' N st base w0 a w → Ext ρ h ρ' st.h → Q (.exit id) a w
  | .ret st => ∀ ρ' a w, SRel ρ' N st base w0 a w → Ext ρ h ρ' st.h → Q .ret a w
  | .pan v st => ∀ ρ' u a w, VRel ρ' v u → SRel ρ' N st base w0 a w → Ext ρ h ρ' st.h → Q (.panic [{ v := u, recovered := false }]) a w
  | .fail _ => False

theorem RPost.later {ρ' : Rho} {N : Nat} {h h' : Heap} {Q : Exit → Act → World → Prop} {r : R} (hr : RPost ρ N h base w0 Q r) (e : Ext ρ h ρ' h') : RPost ρ' N h' base w0 Q r := by
  cases r with
  | norm st => exact fun ρ'' a w k1 k2 => hr ρ'' a w k1 (e.trans k2)
  | exit id st => exact fun ρ'' a w k1 k2 => hr ρ'' a w k1 (e.trans k2)
  | ret st => exact fun ρ'' a w k1 k2 => hr ρ'' a w k1 (e.trans k2)
  | pan v st => exact fun ρ'' u a w k0 k1 k2 => hr ρ'' u a w k0 k1 (e.trans k2)
  | fail n => exact hr

theorem want_sound {ops : Array Oper} {o : Oper} {tm : Tm} {tmps : Array Value} {b : Bool} (hg : ∀ j w d, o.guard = some (j, w) → (ops[j]?).bind (·.dst) = some d → VRel ρ (getT tm d) (tmps.getD d undef)) (h : want ops o tm = some b) :
    Region.wanted o (yielded ops tmps) = b := by
  unfold want at h
  unfold Region.wanted
  split at h
  · rename_i e; obtain rfl := Option.some.inj h; rw [e]
  · rename_i j v e
    rw [e]
    simp only
    unfold yielded
    split at h
    · rename_i hd
      obtain rfl := Option.some.inj h
      rw [hd]; rfl
    · rename_i d hd
      have hr := hg j v d e hd
      rw [hd]
      simp only [Option.bind_some]
      split at h
      · rename_i c hc
        rw [hc] at hr; simp only [VRel] at hr
        obtain rfl := Option.some.inj h
        have : tmps[d]? = some (.bool c) := by
          rw [Array.getD_eq_getD_getElem?] at hr
          cases hq : tmps[d]? with
          | none => rw [hq] at hr; simp [undef] at hr
          | some y => rw [hq] at hr; simp at hr; rw [hr]
        rw [this]; simp
      · rename_i hc
        rw [hc] at hr; simp only [VRel, LRel] at hr
        obtain ⟨vs, e1, e2⟩ := hr
        obtain rfl := Option.some.inj h
        have hvs : vs = #[] := by apply Array.toList_inj.1; exact e2
        subst hvs
        rw [Array.getD_eq_getD_getElem?] at e1
        cases hq : tmps[d]? with
        | none => rfl
        | some y => rw [hq] at e1; simp at e1; rw [e1]; rfl
      · cases h

theorem fin_sound {N : Nat} {o : Oper} {st : St} {a : Act} {K : Act → World → Prop} {Q : Exit → Act → World → Prop} {r : OR} (hS : SRel ρ N st base w0 a w) (hp : RPost ρ N st.h base w0 (Exit.then K Q) (OR.fin N o st r)) :
    ORpost ρ st.h base w0 o a w K Q r := by
  cases r with
  | val v h =>
    simp only [OR.fin] at hp
    intro ρ' u w' k1 k2 k3
    split at hp
    · rename_i tm hput
      exact hp ρ' _ w' ⟨(hS.tm.mono k3.le).put k1 hput, k2, by rw [put_defers]; exact hS.ds.mono k3.le⟩ k3
    · exact hp.elim
  | pan v h =>
    simp only [OR.fin] at hp
    intro ρ' u w' k1 k2 k3
    exact hp ρ' u a w' k1 ⟨hS.tm.mono k3.le, k2, hS.ds.mono k3.le⟩ k3
  | dfr f args =>
    simp only [OR.fin] at hp
    intro d hd
    split at hp
    · rename_i tm hput
      refine hp ρ _ w ⟨?_, hS.h, ?_⟩ (Ext.refl _ _)
      · exact TRel.put (a := { a with defers := d :: a.defers }) hS.tm (by simp only [VRel, LRel]; exact ⟨#[], rfl, rfl⟩) hput
      · rw [put_defers]; simp only [DsRel]; exact ⟨d, a.defers, rfl, hd, hS.ds⟩
    · exact hp.elim
  | fail n => exact hp.elim

theorem step_sound (hnum : NoNum P) {call : FuncId → List AV → Heap → CR} (hcall : CallOk P call base w0) {N : Nat} {ops : Array Oper} {o : Oper} {st : St} {a : Act} {K : Act → World → Prop} {Q : Exit → Act → World → Prop} (hS : SRel ρ N st base w0 a w)
    (hp : RPost ρ N st.h base w0 (Exit.then K Q) (stepO P call N ops o st)) : if Region.wanted o (yielded ops a.tmps) then o.wp P a w K Q ∨ (o.asks P a w ∧ LetsOut Q) else K (a.put o.dst undef) w := by
  unfold stepO at hp
  split at hp
  · rename_i hw
    have := want_sound (ρ := ρ) (tmps := a.tmps) (fun j v d _ _ => hS.tm.get d) hw
    rw [this, if_pos rfl]
    exact .inl (op_wp hnum hcall hS.h (fun x _ => hS.tm.ev x) (fin_sound hS hp))
  · rename_i hw
    have := want_sound (ρ := ρ) (tmps := a.tmps) (fun j v d _ _ => hS.tm.get d) hw
    rw [this]
    simp only [Bool.false_eq_true, if_false]
    have := fin_sound hS hp
    exact this ρ undef w (by simp only [VRel, LRel]; exact ⟨#[], rfl, rfl⟩) hS.h (Ext.refl _ _)
  · exact hp.elim

theorem reg_sound (hnum : NoNum P) {call : FuncId → List AV → Heap → CR} (hcall : CallOk P call base w0) {N : Nat} {ops : Array Oper} {Q : Exit → Act → World → Prop} : ∀ (l : List Oper) (k : Nat) (ρ : Rho) (st : St) (a : Act) (w : World), ops.toList.drop k = l → SRel ρ N st base w0 a w →
    RPost ρ N st.h base w0 Q (regL P call N ops l st) → wpOps P ops Q ((List.range ops.size).drop k) a w
  | [], k, ρ, st, a, w, hl, hS, hp => by
    have hk : ops.size ≤ k := by simpa using hl
    have e : (List.range ops.size).drop k = [] := by simpa using hk
    rw [e]
    exact hp ρ a w hS (Ext.refl _ _)
  | o :: l, k, ρ, st, a, w, hl, hS, hp => by
    have hk : k < ops.toList.length := by
      rcases Nat.lt_or_ge k ops.toList.length with h | h
      · exact h
      · rw [List.drop_eq_nil_of_le h] at hl; cases hl
    have hk' : k < (List.range ops.size).length := by simpa using hk
    rw [List.drop_eq_getElem_cons hk] at hl
    injection hl with ho hl
    rw [List.drop_eq_getElem_cons hk']
    simp only [List.getElem_range]
    have hoi : ops[k]? = some o := by
      have hks : k < ops.size := by simpa using hk
      rw [Array.getElem?_eq_getElem hks]; simpa using ho
    rw [wpOps_cons]
    unfold wpOp
    rw [hoi]
    have e : regL P call N ops (o :: l) st = (stepO P call N ops o st).bind (regL P call N ops l) := rfl
    rw [e] at hp
    refine step_sound hnum hcall hS ?_
    generalize stepO P call N ops o st = r at hp ⊢
    cases r with
    | norm st' => exact fun ρ' a' w' k1 k2 => reg_sound hnum hcall l (k + 1) ρ' st' a' w' hl k1 (RPost.later hp k2)
    | exit id st' => exact hp
    | ret st' => exact hp
    | pan v st' => exact hp
    | fail n => exact hp
end Go.Fv
