/-
  Ev, part Z: the machine tells the truth of calls.
-/
import Derived.Test.YtdcimkbkijcklaaGreatDoorFvC
namespace Go.Fv
open Go.RowKit

variable {P : Program} {w w0 : World} {ρ : Rho} {base : Nat}

/-- What the deferred calls leave. -/
def LPost (ρ : Rho) (h : Heap) (base : Nat) (w0 : World) (T : Md → Rho → Heap → FrameMode → World → Prop) : LR → Prop
  | .ok u h' => ∀ ρ' m w, MdRel ρ' u m → Rel ρ' h'.next h'.get base w0 w → Ext ρ h ρ' h' → T u ρ' h' m w
  | .fail _ => False

theorem settle_sound {u : Md} {m : FrameMode} (h : MdRel ρ u m) : MdRel ρ (settleA u) (settle m) := by
  cases u with
  | ret => simp only [MdRel] at h; subst h; rfl
  | pan v => obtain ⟨x, rfl, hv⟩ := h; exact ⟨x, rfl, hv⟩
  | recd v => obtain ⟨x, rfl, hv⟩ := h; rfl

theorem md_run {u : Md} {m : FrameMode} (h : MdRel ρ u m) : m ≠ .run := by
  cases u with
  | ret => simp only [MdRel] at h; subst h; simp
  | pan v => obtain ⟨x, rfl, hv⟩ := h; simp
  | recd v => obtain ⟨x, rfl, hv⟩ := h; simp

theorem def1_sound (hnum : NoNum P) {m0 : Mach} (hr : RunOk P m0.run base w0) (hc : CallOk P m0.call base w0) {d : FuncId × List AV} {e : Deferred} {u : Md} {m : FrameMode} {h : Heap} {T : Md → Rho → Heap → FrameMode → World → Prop}
    (hd : DRel ρ d e) (hm : MdRel ρ u m) (hR : Rel ρ h.next h.get base w0 w) (hp : LPost ρ h base w0 T (def1 P m0.run m0.call d u h)) :
    ∃ fv cap f args, e.target = .fn fv cap ∧ (invoke e.target e.args).run P w = .ok (.enter f args) w ∧ CallsD P f args m w fun
      | .returned _, m', w' => ∃ u' ρ' h', T u' ρ' h' (settle m') w'
      | _, _, _ => False := by
  obtain ⟨caps, as, rfl, hargs⟩ := hd
  unfold def1 at hp
  split at hp
  · rename_i fn hfn
    split at hp
    · rename_i c hb
      refine ⟨.func d.1, caps, d.1, as ++ caps, rfl, run_invoke hnum hfn hb w, callsD_of_wpS hfn hb fun c₀ cs hm0 => ?_⟩
      have hS : SRel ρ fn.ntmps ⟨initT fn.ntmps d.2, h, []⟩ base w0 { tmps := as ++ caps ++ Array.replicate (fn.ntmps - (as ++ caps).size) undef, defers := [] } w := ⟨init_rel hargs, hR, rfl⟩
      have hcs : ({ c₀ with mode := m } : Frame) = c₀ := by subst hm0; rfl
      have hfin : ∀ (e : Exit) (st : St) (u' : Md), st.ds = [] → (∃ v, resV P fn st.tm st.h = some v) → LPost ρ h base w0 T (.ok (settleA u') st.h) → (e = .normal ∨ e = .ret) → ∀ ρ' a m' w, SRel ρ' fn.ntmps st base w0 a w → Ext ρ h ρ' st.h → MdRel ρ' u' m' →
          bodyPostS P fn c₀ cs (fun | .returned _, m', w' => ∃ u' ρ' h', T u' ρ' h' (settle m') w' | _, _, _ => False) e a ({ c₀ with mode := m' } :: cs) w := fun e st u' hds ⟨v, hv⟩ hl he ρ' a m' w k1 k2 k3 => by
        obtain ⟨x, e1, _⟩ := resV_sound k1.tm k1.h hv
        have hdef : a.defers = [] := by have := k1.ds; rw [hds] at this; exact this
        have hT := hl ρ' (settle m') w (settle_sound k3) k1.h k2
        rcases he with rfl | rfl <;> exact ⟨hdef, m', rfl, x, e1, _, _, _, hT⟩
      have key := runS_sound hnum hr hc c₀ cs c ρ ⟨initT fn.ntmps d.2, h, []⟩ _ w u m (fun e a m' w' => bodyPostS P fn c₀ cs (fun | .returned _, m', w' => ∃ u' ρ' h', T u' ρ' h' (settle m') w' | _, _, _ => False) e a ({ c₀ with mode := m' } :: cs) w') ?_ hS hm
      · rw [hcs] at key
        intro b k hb2 hro
        obtain ⟨e, a', cs', w', ⟨m', rfl, hq⟩, harr⟩ := key b k hb2 hro
        exact ⟨e, a', _, w', hq, harr⟩
      · generalize runS P m0.run m0.call fn.ntmps c ⟨initT fn.ntmps d.2, h, []⟩ u = rs at hp
        obtain ⟨r, u'⟩ := rs
        cases r with
        | norm st =>
          simp only at hp
          split at hp
          · rename_i v hds hv; exact fun ρ' a m' w k1 k2 k3 => hfin .normal st u' hds ⟨_, hv⟩ hp (.inl rfl) ρ' a m' w k1 k2 k3
          · exact hp.elim
        | ret st =>
          simp only at hp
          split at hp
          · rename_i v hds hv; exact fun ρ' a m' w k1 k2 k3 => hfin .ret st u' hds ⟨_, hv⟩ hp (.inr rfl) ρ' a m' w k1 k2 k3
          · exact hp.elim
        | exit id st => exact hp.elim
        | pan v st => exact hp.elim
        | fail n => exact hp.elim
    · exact hp.elim
  · exact hp.elim

/-- What is wanted at the end of a frame. -/
theorem leaves_sound (hnum : NoNum P) {m0 : Mach} (hr : RunOk P m0.run base w0) (hc : CallOk P m0.call base w0) {N : Nat} {fn : Func} {tm : Tm} {tmps : Array Value} {R : Ending → World → Prop} {ρ0 : Rho} {h0 : Heap} :
    ∀ (ds : List (FuncId × List AV)) (es : List Deferred) (ρ : Rho) (u : Md) (m : FrameMode) (h : Heap) (w : World), TRel ρ N tm tmps → DsRel ρ ds es → MdRel ρ u m → Rel ρ h.next h.get base w0 w → Ext ρ0 h0 ρ h →
      (∀ n, leaveD P fn tm (defs P m0.run m0.call ds u h) ≠ .fail n) →
      (∀ ρ' v x h' w', leaveD P fn tm (defs P m0.run m0.call ds u h) = .ret v h' → VRel ρ' v x → Rel ρ' h'.next h'.get base w0 w' → Ext ρ0 h0 ρ' h' → R (.returned x) w') →
      (∀ ρ' v x h' w', leaveD P fn tm (defs P m0.run m0.call ds u h) = .pan v h' → VRel ρ' v x → Rel ρ' h'.next h'.get base w0 w' → Ext ρ0 h0 ρ' h' → R (.panicked [{ v := x, recovered := false }]) w') →
      Leaves P fn tmps R es m w
  | [], es, ρ, u, m, h, w, hT, hD, hm, hR, hE, hnf, h1, h2 => by
    simp only [DsRel] at hD; subst hD
    have e : defs P m0.run m0.call [] u h = .ok u h := rfl
    rw [e] at hnf h1 h2
    cases u with
    | ret =>
      simp only [MdRel] at hm; subst hm
      cases hv : resV P fn tm h with
      | none => exact absurd (show leaveD P fn tm (.ok .ret h) = .fail 805 by simp only [leaveD, endV, hv]) (hnf 805)
      | some v =>
        obtain ⟨x, e1, e2⟩ := resV_sound hT hR hv
        exact ⟨x, e1, h1 ρ v x h w (by simp only [leaveD, endV, hv]) e2 hR hE⟩
    | pan v =>
      obtain ⟨x, rfl, hv⟩ := hm
      exact h2 ρ v x h w rfl hv hR hE
    | recd v => exact absurd rfl (hnf 806)
  | d :: ds, es, ρ, u, m, h, w, hT, hD, hm, hR, hE, hnf, h1, h2 => by
    simp only [DsRel] at hD
    obtain ⟨e, es, rfl, hd, hD⟩ := hD
    have e' : defs P m0.run m0.call (d :: ds) u h = (match def1 P m0.run m0.call d u h with | .ok u' h' => defs P m0.run m0.call ds u' h' | .fail n => .fail n) := rfl
    rw [e'] at hnf h1 h2
    have hp : LPost ρ h base w0 (fun u' ρ' h' m' w' => Leaves P fn tmps R es m' w') (def1 P m0.run m0.call d u h) := by
      cases hq : def1 P m0.run m0.call d u h with
      | fail n => rw [hq] at hnf; exact absurd rfl (hnf n)
      | ok u' h' =>
        rw [hq] at hnf h1 h2
        exact fun ρ' m' w' k1 k2 k3 => leaves_sound hnum hr hc ds es ρ' u' m' h' w' (hT.mono k3.le) (hD.mono k3.le) k1 k2 (hE.trans k3) hnf h1 h2
    obtain ⟨fv, cap, f, args, q1, q2, q3⟩ := def1_sound hnum hr hc hd hm hR hp
    refine ⟨md_run hm, fv, cap, f, args, q1, q2, fun c₀ cs hu => ?_⟩
    obtain ⟨en, m', w', fr, hR', rest⟩ := q3 c₀ cs hu
    refine ⟨en, m', w', fr, ?_, rest⟩
    cases en with
    | returned v => obtain ⟨_, _, _, hh⟩ := hR'; exact hh
    | panicked ch => exact hR'.elim
    | outgrown => exact hR'.elim

theorem call_sound (hnum : NoNum P) {m0 : Mach} (hr : RunOk P m0.run base w0) (hc : CallOk P m0.call base w0) : CallOk P (callE P m0.run m0.call) base w0 := by
  intro f args h vs ρ w hnf hR hargs
  unfold callE at hnf ⊢
  cases hfn : P.funcs[f]? with
  | none => rw [hfn] at hnf; exact absurd rfl (hnf 809)
  | some fn =>
    rw [hfn] at hnf
    simp only at hnf ⊢
    cases hb : fn.body with
    | none => rw [hb] at hnf; exact absurd rfl (hnf 808)
    | some c =>
      rw [hb] at hnf
      simp only at hnf ⊢
      refine ⟨⟨fn, c, rfl, hb⟩, calls_of_wp_defers hfn hb ?_⟩
      have hS : SRel ρ fn.ntmps ⟨initT fn.ntmps args, h, []⟩ base w0 { tmps := vs ++ Array.replicate (fn.ntmps - vs.size) undef, defers := [] } w := ⟨init_rel hargs, hR, rfl⟩
      refine hr fn.ntmps c ρ ⟨initT fn.ntmps args, h, []⟩ _ w _ ?_ hS
      generalize m0.run fn.ntmps c ⟨initT fn.ntmps args, h, []⟩ = r at hnf
      have lv : ∀ (st : St) (u : Md) (m : FrameMode) (ρ' : Rho) (a : Act) (w' : World), SRel ρ' fn.ntmps st base w0 a w' → Ext ρ h ρ' st.h → MdRel ρ' u m → (∀ n, leaveD P fn st.tm (defs P m0.run m0.call st.ds u st.h) ≠ .fail n) →
          Leaves P fn a.tmps (CRpost ρ h base w0 (leaveD P fn st.tm (defs P m0.run m0.call st.ds u st.h))) a.defers m w' := fun st u m ρ' a w' k1 k2 k3 hn => by
        refine leaves_sound hnum hr hc st.ds a.defers ρ' u m st.h w' k1.tm k1.ds k3 k1.h k2 hn (fun ρ'' v x h' w'' e q1 q2 q3 => ?_) (fun ρ'' v x h' w'' e q1 q2 q3 => ?_)
        · rw [e]; exact ⟨ρ'', q1, q2, q3⟩
        · rw [e]; exact ⟨ρ'', rfl, rfl, q1, q2, q3⟩
      have same : ∀ (st : St) (u : Md), (match st.ds with | [] => (match u with | .ret => endV P fn st.tm st.h | .pan v => .pan v st.h | .recd _ => .fail 806) | ds => leaveD P fn st.tm (defs P m0.run m0.call ds u st.h)) = leaveD P fn st.tm (defs P m0.run m0.call st.ds u st.h) := fun st u => by
        cases hds : st.ds with
        | nil => cases u <;> rfl
        | cons d ds => rfl
      cases r with
      | norm st =>
        have e : leave P m0.run m0.call fn (.norm st) = leaveD P fn st.tm (defs P m0.run m0.call st.ds .ret st.h) := by rw [← same st .ret]; rfl
        rw [e] at hnf ⊢
        exact fun ρ' a w' k1 k2 => lv st .ret .returning ρ' a w' k1 k2 rfl hnf
      | ret st =>
        have e : leave P m0.run m0.call fn (.ret st) = leaveD P fn st.tm (defs P m0.run m0.call st.ds .ret st.h) := by rw [← same st .ret]; rfl
        rw [e] at hnf ⊢
        exact fun ρ' a w' k1 k2 => lv st .ret .returning ρ' a w' k1 k2 rfl hnf
      | pan v st =>
        have e : leave P m0.run m0.call fn (.pan v st) = leaveD P fn st.tm (defs P m0.run m0.call st.ds (.pan v) st.h) := by rw [← same st (.pan v)]; rfl
        rw [e] at hnf ⊢
        exact fun ρ' x a w' k0 k1 k2 => lv st (.pan v) _ ρ' a w' k1 k2 ⟨x, rfl, k0⟩ hnf
      | exit id st => exact absurd rfl (hnf 807)
      | fail n => exact absurd rfl (hnf n)

/-- THE MACHINE TELLS THE TRUTH, whatever its fuel. -/
theorem mach_sound (hnum : NoNum P) (hmix : P.follows .mixedOrders = true) (base : Nat) (w0 : World) : ∀ n, RunOk P (mach P n).run base w0 ∧ LoopOk P (mach P n).run base w0 ∧ CallOk P (mach P n).call base w0
  | 0 => ⟨fun N c ρ st a w Q hp _ => hp.elim, fun N c ρ st a w Q hp _ => hp.elim, fun f args h vs ρ w hnf _ _ => absurd rfl (hnf 0)⟩
  | n + 1 => by
    obtain ⟨h1, h2, h3⟩ := mach_sound hnum hmix base w0 n
    have e : mach P (n + 1) = ⟨node P (mach P n), callE P (mach P n).run (mach P n).call⟩ := rfl
    rw [e]
    obtain ⟨k1, k2⟩ := node_sound hnum hmix h1 h2 h3
    exact ⟨k1, k2, call_sound hnum h1 h3⟩

theorem rel_empty (w : World) (d : Nat) : Rel (fun _ => none) (Heap.empty d).next (Heap.empty d).get w.heap.size w w :=
  { dom := by intro i t e; cases e
    blk := by intro i t cs e; cases e
    inj := by intro i j t u cs ds e; cases e
    maps := ⟨(fun i t es e => by cases e), (fun i j t u es fs e => by cases e)⟩
    below := Below.refl _ _
    size := Nat.le_refl _ }

/-- A call without arguments of which the machine tells a bool. -/
theorem calls_closed (hnum : NoNum P) (hmix : P.follows .mixedOrders = true) {f : FuncId} {n d : Nat} {b : Bool} {h : Heap} (hc : (mach P n).call f [] (Heap.empty d) = .ret (.bool b) h) (w : World) :
    Calls P f #[] w fun e w' => e = .returned (.bool b) ∧ Below w.heap.size w w' := by
  have hcall := (mach_sound hnum hmix w.heap.size w n).2.2
  obtain ⟨_, hC⟩ := hcall f [] (Heap.empty d) #[] (fun _ => none) w (fun n q => by rw [hc] at q; cases q) (rel_empty w d) (by simp [LRel])
  rw [hc] at hC
  refine hC.mono fun e w' hp => ?_
  cases e with
  | returned u =>
    obtain ⟨ρ', k1, k2, _⟩ := hp
    simp only [VRel] at k1
    exact ⟨by rw [k1], k2.below⟩
  | panicked ch => exact hp.elim
  | outgrown => exact hp.elim

theorem okBool_spec {r : CR} (h : okBool r = true) : ∃ h', r = .ret (.bool true) h' := by
  unfold okBool at h
  split at h
  · subst h; exact ⟨_, rfl⟩
  · cases h

/-- A closed law: the machine says true. -/
theorem calls_true (hnum : NoNum P) (hmix : P.follows .mixedOrders = true) {f : FuncId} (n d : Nat) (hc : okBool ((mach P n).call f [] (Heap.empty d)) = true) (w : World) :
    Calls P f #[] w fun e w' => e = .returned (.bool true) ∧ Below w.heap.size w w' := by
  obtain ⟨h', e⟩ := okBool_spec hc
  exact calls_closed hnum hmix e w
end Go.Fv
