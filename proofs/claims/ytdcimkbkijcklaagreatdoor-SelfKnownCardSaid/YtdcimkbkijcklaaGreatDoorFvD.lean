/-
  Ev, part D: a region that draws its order.
-/
import Derived.Test.YtdcimkbkijcklaaGreatDoorFvP
import Derived.Orders
namespace Go.Fv
open Go.RowKit

variable {P : Program} {w w0 : World} {ρ : Rho} {base : Nat}

/- 'same' says what it says. -/
mutual
theorem same_eq : ∀ (a b : AV), same a b = true → a = b
  | .bool x, b, h => by cases b <;> simp_all [same]
  | .int k n, b, h => by cases b <;> simp_all [same, ieq_eq]
  | .str s, b, h => by cases b <;> simp_all [same, bytesEq]
  | .ptr i o, b, h => by cases b <;> simp_all [same, Nat.beq_eq]
  | .nilp, b, h => by cases b <;> simp_all [same]
  | .slice i o l c e x, b, h => by cases b <;> simp_all [same, Nat.beq_eq]
  | .nils, b, h => by cases b <;> simp_all [same]
  | .fn f cs, b, h => by
    cases b with
    | fn g ds =>
      simp only [same, Bool.and_eq_true, Nat.beq_eq] at h
      rw [h.1, sames_eq cs ds h.2]
    | _ => simp [same] at h
  | .nilf, b, h => by cases b <;> simp_all [same]
  | .iface t v, b, h => by
    cases b with
    | iface u y =>
      simp only [same, Bool.and_eq_true, Nat.beq_eq] at h
      rw [h.1, same_eq v y h.2]
    | _ => simp [same] at h
  | .nili, b, h => by cases b <;> simp_all [same]
  | .map i, b, h => by cases b <;> simp_all [same, Nat.beq_eq]
  | .nilm, b, h => by cases b <;> simp_all [same]
  | .agg cs, b, h => by
    cases b with
    | agg ds => simp only [same] at h; rw [sames_eq cs ds h]
    | _ => simp [same] at h
  | .tup cs, b, h => by
    cases b with
    | tup ds => simp only [same] at h; rw [sames_eq cs ds h]
    | _ => simp [same] at h
  | .bad, b, h => by simp [same] at h
theorem sames_eq : ∀ (a b : List AV), sames a b = true → a = b
  | [], [], _ => rfl
  | [], _ :: _, h => by simp [sames] at h
  | _ :: _, [], h => by simp [sames] at h
  | x :: xs, y :: ys, h => by
    simp only [sames, Bool.and_eq_true] at h
    rw [same_eq x y h.1, sames_eq xs ys h.2]
end

structure Okd (P : Program) (ops : Array Oper) (bs : List Nat) : Prop where
  clos : ∀ i j o, ops[i]? = some o → j < ops.size → bit (bs.getD i 0) j = true → ∃ d ∈ dirs o, d = j ∨ bit (bs.getD d 0) j = true
  less : ∃ rk : Nat → Nat, ∀ i o, ops[i]? = some o → ∀ d ∈ dirs o, rk d < rk i ∧ d < ops.size
  dst : ∀ i j t, i < ops.size → j < ops.size → dstOf ops i = some t → dstOf ops j = some t → i = j
  look : ∀ i o, ops[i]? = some o → ∀ t ∈ looks ops o, ∀ j, j < ops.size → dstOf ops j = some t → bit (bs.getD i 0) j = true ∨ isHeavy P ops j = true

theorem getElem?_lt {ops : Array Oper} {i : Nat} {o : Oper} (h : ops[i]? = some o) : i < ops.size := (Array.getElem?_eq_some_iff.1 h).1

theorem okOrd_cons {ops : Array Oper} {bs ds rest : List Nat} {i : Nat} (h : okOrd P ops bs ds (i :: rest) = true) :
    (∃ o, ops[i]? = some o ∧ ∀ d ∈ dirs o, d ∈ ds) ∧ i ∉ ds ∧ (∀ g ∈ ds, isHeavy P ops g = true → bit (bs.getD i 0) g = true) ∧ okOrd P ops bs (i :: ds) rest = true := by
  simp only [okOrd, Bool.and_eq_true] at h
  obtain ⟨⟨⟨h1, h2⟩, h3⟩, h4⟩ := h
  refine ⟨?_, by simpa using h2, fun g hg hh => ?_, h4⟩
  · split at h1
    · rename_i o ho
      exact ⟨o, ho, fun d hd => by simp only [List.all_eq_true] at h1; simpa using h1 d hd⟩
    · cases h1
  · simp only [List.all_eq_true, Bool.or_eq_true, Bool.not_eq_true'] at h3
    rcases h3 g hg with h | h
    · rw [h] at hh; cases hh
    · exact h

theorem okOrd_mem {ops : Array Oper} {bs : List Nat} : ∀ {rest ds : List Nat}, okOrd P ops bs ds rest = true → ∀ i ∈ rest, i ∉ ds ∧ i < ops.size ∧ ∀ g ∈ ds, isHeavy P ops g = true → bit (bs.getD i 0) g = true
  | [], ds, _, i, hi => by simp at hi
  | x :: rest, ds, h, i, hi => by
    obtain ⟨⟨o, ho, _⟩, h2, h3, h4⟩ := okOrd_cons h
    rcases List.mem_cons.1 hi with rfl | hi
    · exact ⟨h2, getElem?_lt ho, h3⟩
    · obtain ⟨k1, k2, k3⟩ := okOrd_mem h4 i hi
      exact ⟨fun q => k1 (List.mem_cons_of_mem _ q), k2, fun g hg hh => k3 g (List.mem_cons_of_mem _ hg) hh⟩

theorem okOrd_rank {ops : Array Oper} {bs : List Nat} : ∀ {rest ds : List Nat}, okOrd P ops bs ds rest = true → ∀ i ∈ rest, ∀ o, ops[i]? = some o → ∀ d ∈ dirs o, d ∈ ds ∨ (d ∈ rest ∧ rest.idxOf d < rest.idxOf i)
  | [], _, _, i, hi => by simp at hi
  | x :: rest, ds, h, i, hi => by
    intro o ho d hd
    obtain ⟨⟨o', ho', hds⟩, h2, h3, h4⟩ := okOrd_cons h
    by_cases hix : i = x
    · subst hix
      rw [ho] at ho'; obtain rfl := Option.some.inj ho'
      exact .inl (hds d hd)
    · have hir : i ∈ rest := (List.mem_cons.1 hi).resolve_left hix
      have e1 : (x :: rest).idxOf i = rest.idxOf i + 1 := by
        rw [List.idxOf_cons]
        have : (x == i) = false := by simpa using fun e => hix e.symm
        rw [this]; rfl
      rcases okOrd_rank h4 i hir o ho d hd with q | ⟨q, q2⟩
      · rcases List.mem_cons.1 q with rfl | q
        · refine .inr ⟨List.mem_cons_self, ?_⟩
          rw [e1, List.idxOf_cons]; simp
        · exact .inl q
      · have hdx : d ≠ x := fun e => (okOrd_mem h4 d q).1 (e ▸ List.mem_cons_self)
        refine .inr ⟨List.mem_cons_of_mem _ q, ?_⟩
        have e2 : (x :: rest).idxOf d = rest.idxOf d + 1 := by
          rw [List.idxOf_cons]
          have : (x == d) = false := by simpa using fun e => hdx e.symm
          rw [this]; rfl
        rw [e1, e2]; omega

theorem okReg_spec {ops : Array Oper} {bs ord : List Nat} (h : okReg P ops bs ord = true) : Okd P ops bs ∧ okOrd P ops bs [] ord = true ∧ ∀ i, i < ops.size → i ∈ ord := by
  unfold okReg at h
  simp only [Bool.and_eq_true] at h
  obtain ⟨⟨⟨⟨h1, h2⟩, h3⟩, h5⟩, h6⟩ := h
  simp only [List.all_eq_true, List.mem_range] at h2 h3 h5 h6
  refine ⟨⟨fun i j o ho hj hb => ?_, ⟨fun i => ord.idxOf i, fun i o ho d hd => ?_⟩, fun i j t hi hj e1 e2 => ?_, fun i o ho t ht j hj e => ?_⟩, h1, fun i hi => by simpa using h2 i hi⟩
  · have := h3 i (getElem?_lt ho) j hj
    rw [hb, ho] at this
    simp only [Bool.not_true, Bool.false_or, List.any_eq_true, Bool.or_eq_true, beq_iff_eq] at this
    exact this
  · have hi : i ∈ ord := by simpa using h2 i (getElem?_lt ho)
    rcases okOrd_rank h1 i hi o ho d hd with q | ⟨q, q2⟩
    · simp at q
    · exact ⟨q2, (okOrd_mem h1 d q).2.1⟩
  · have := h5 i hi j hj
    rw [e1, e2] at this
    simpa using this
  · have := h6 i (getElem?_lt ho)
    rw [ho] at this
    simp only [List.all_eq_true, List.mem_range] at this
    have := this t ht j hj
    rw [e] at this
    simpa using this

def Lst (l : Array Bool) (i : Nat) : Prop := l.getD i false = true

theorem bits_listed {ops : Array Oper} {bs : List Nat} (hk : Okd P ops bs) {l : Array Bool} (hc : ∀ i o, ops[i]? = some o → Lst l i → ∀ d ∈ dirs o, Lst l d) :
    ∀ (i : Nat) (o : Oper), ops[i]? = some o → (∀ d ∈ dirs o, Lst l d) → ∀ j, j < ops.size → bit (bs.getD i 0) j = true → Lst l j := by
  obtain ⟨rk, less⟩ := hk.less
  have go : ∀ (n i : Nat), rk i ≤ n → ∀ o, ops[i]? = some o → (∀ d ∈ dirs o, Lst l d) → ∀ j, j < ops.size → bit (bs.getD i 0) j = true → Lst l j := by
    intro n
    induction n with
    | zero =>
      intro i hi o ho hd j hj hb
      obtain ⟨d, hdm, _⟩ := hk.clos i j o ho hj hb
      have := (less i o ho d hdm).1
      omega
    | succ n ih =>
      intro i hi o ho hd j hj hb
      obtain ⟨d, hdm, e | e⟩ := hk.clos i j o ho hj hb
      · exact e ▸ hd d hdm
      · obtain ⟨hlt, hds⟩ := less i o ho d hdm
        obtain ⟨o', ho'⟩ : ∃ o', ops[d]? = some o' := ⟨_, Array.getElem?_eq_getElem hds⟩
        exact ih d (by omega) o' ho' (hc d o' ho' (hd d hdm)) j hj e
  exact fun i o ho hd j hj hb => go (rk i) i (Nat.le_refl _) o ho hd j hj hb

/-- How the machine, ahead of the model by operations that only read or make, stands to it. -/
structure J (P : Program) (ops : Array Oper) (bs : List Nat) (base : Nat) (w0 : World) (N : Nat) (ρ0 : Rho) (h0 : Heap) (g : Option Nat) (ρ : Rho) (done rest : List Nat) (st : St) (l : Array Bool) (a : Act) (w : World) : Prop where
  rel : Rel ρ st.h.next st.h.get base w0 w
  ext : Ext ρ0 h0 ρ st.h
  ds : DsRel ρ st.ds a.defers
  size : N ≤ a.tmps.size
  get : ∀ t, (∃ i, i ∈ done ∧ ¬ Lst l i ∧ dstOf ops i = some t) ∨ VRel ρ (getT st.tm t) (a.tmps.getD t undef)
  sub : ∀ i, Lst l i → i ∈ done
  hv : ∀ i ∈ done, isHeavy P ops i = true → Lst l i
  pend : ∀ i ∈ done, ¬ Lst l i → ∀ d o, ops[i]? = some o → kind P o = 1 → o.dst = some d → ∀ k, idOf (getT st.tm d) = some k → h0.next ≤ k ∧ k < st.h.next ∧ ρ k = none
  dist : ∀ i ∈ done, ∀ j ∈ done, i ≠ j → ¬ Lst l i → ¬ Lst l j → ∀ d e oi oj, ops[i]? = some oi → ops[j]? = some oj → kind P oi = 1 → kind P oj = 1 → oi.dst = some d → oj.dst = some e →
    ∀ k, idOf (getT st.tm d) = some k → idOf (getT st.tm e) ≠ some k
  clo : ∀ i o, ops[i]? = some o → Lst l i → ∀ d ∈ dirs o, Lst l d
  ord : okOrd P ops bs done rest = true
  all : ∀ i, i < ops.size → i ∈ done ∨ i ∈ rest
  lsz : l.size = ops.size
  gl : ∀ x, g = some x → Lst l x ∧ x < ops.size
  dn : ∀ i ∈ done, i < ops.size
  dl : ∀ i ∈ done, ∀ d, dstOf ops i = some d → d < N

theorem putA_get {N : Nat} {tm tm' : Tm} {dst : Option Tmp} {v : AV} (h : putA N tm dst v = some tm') :
    (∀ t, dst ≠ some t → getT tm' t = getT tm t) ∧ (∀ t, dst = some t → t < N ∧ (getT tm' t = v ∨ getT tm' t = .bad)) := by
  unfold putA at h
  split at h
  · obtain rfl := Option.some.inj h; exact ⟨fun _ _ => rfl, fun t e => by cases e⟩
  · rename_i d
    obtain ⟨hb, h⟩ := cond_some h
    obtain rfl := Option.some.inj h
    refine ⟨fun t e => getT_set_ne tm (fun q => e (by rw [q])) v, fun t e => ?_⟩
    obtain rfl := Option.some.inj e
    refine ⟨by simpa [Nat.blt_eq] using hb, ?_⟩
    rcases Tm.get_set_eq tm d v with q | q
    · exact .inl q
    · exact .inr q.1

theorem Ext.allocAM (ρ : Rho) (h : Heap) (cs : List AV) : Ext ρ h ρ (h.alloc cs) :=
  ⟨ρ.le_refl, Nat.le_succ _, fun _ _ e => e, fun _ hk _ => Heap.get_alloc_ne h (Nat.ne_of_lt hk) cs⟩

theorem idOf_at (m : Mk) (k : Nat) : idOf (m.at k) = some k := by cases m <;> rfl

theorem kind_lt (o : Oper) : kind P o = 0 ∨ kind P o = 1 ∨ kind P o = 2 := by
  unfold kind
  split <;> (try simp) <;> (split <;> simp)

/-- The machine's own light step. -/
theorem light_step {call : FuncId → List AV → Heap → CR} {N : Nat} {ops : Array Oper} {o : Oper} {st st' : St} (hk : kind P o ≠ 2) (h : stepO P call N ops o st = .norm st') :
    ∃ v h', st' = ⟨st'.tm, h', st.ds⟩ ∧ putA N st.tm o.dst v = some st'.tm ∧ ((h' = st.h ∧ (kind P o = 1 → idOf v = none)) ∨ (kind P o = 1 ∧ ∃ cs, h' = st.h.alloc cs ∧ idOf v = some st.h.next)) := by
  have fin : ∀ v h', (OR.fin N o st (.val v h') = .norm st') → st' = ⟨st'.tm, h', st.ds⟩ ∧ putA N st.tm o.dst v = some st'.tm := fun v h' e => by
    simp only [OR.fin] at e
    split at e
    · rename_i tm hp; injection e with e; subst e; exact ⟨rfl, hp⟩
    · cases e
  unfold stepO at h
  split at h
  · unfold opE at h
    rcases kind_lt (P := P) o with k | k | k
    · rw [k] at h
      cases hl : lightE P o st.tm st.h with
      | none => rw [hl] at h; cases h
      | some v => rw [hl] at h; obtain ⟨e1, e2⟩ := fin v st.h h; exact ⟨v, st.h, e1, e2, .inl ⟨rfl, fun q => by rw [k] at q; cases q⟩⟩
    · rw [k] at h
      cases hl : allocE P o st.tm with
      | none => rw [hl] at h; cases h
      | some q =>
        obtain ⟨cs, m⟩ := q
        rw [hl] at h; obtain ⟨e1, e2⟩ := fin (m.at st.h.next) (st.h.alloc cs) h
        exact ⟨_, _, e1, e2, .inr ⟨k, cs, rfl, idOf_at m _⟩⟩
    · exact absurd k hk
  · obtain ⟨e1, e2⟩ := fin (.tup []) st.h h
    exact ⟨_, _, e1, e2, .inl ⟨rfl, fun _ => rfl⟩⟩
  · cases h

theorem kind_ne {ops : Array Oper} {i : Nat} {o : Oper} (h : isHeavy P ops i = false) (ho : ops[i]? = some o) : kind P o ≠ 2 := fun q => by
  unfold isHeavy at h
  rw [ho] at h
  simp [q] at h

theorem J.advance {call : FuncId → List AV → Heap → CR} {ops : Array Oper} {bs : List Nat} {N : Nat} {ρ0 : Rho} {h0 : Heap} {g : Option Nat} {done rest : List Nat} {st st' : St} {l : Array Bool} {a : Act} {i : Nat} {o : Oper} (hok : Okd P ops bs)
    (hj : J P ops bs base w0 N ρ0 h0 g ρ done (i :: rest) st l a w) (ho : ops[i]? = some o) (hkh : isHeavy P ops i = false) (hs : stepO P call N ops o st = .norm st') :
    J P ops bs base w0 N ρ0 h0 g ρ (i :: done) rest st' l a w := by
  have hk := kind_ne hkh ho
  obtain ⟨v, h', e1, e2, e3⟩ := light_step hk hs
  obtain ⟨p1, p2⟩ := putA_get e2
  obtain ⟨_, hnd, _, hord⟩ := okOrd_cons hj.ord
  have hin : ¬ Lst l i := fun q => hnd (hj.sub i q)
  have hil : i < ops.size := getElem?_lt ho
  have hdi : dstOf ops i = o.dst := by unfold dstOf; rw [ho]; rfl
  have heq : st'.h = h' := by rw [e1]
  have hds : st'.ds = st.ds := by rw [e1]
  have hnext : st.h.next ≤ h'.next := by
    rcases e3 with ⟨rfl, _⟩ | ⟨_, cs, rfl, _⟩
    · exact Nat.le_refl _
    · exact Nat.le_succ _
  have hrel : Rel ρ h'.next h'.get base w0 w := by
    rcases e3 with ⟨rfl, _⟩ | ⟨_, cs, rfl, _⟩
    · exact hj.rel
    · exact hj.rel.weaken (Nat.le_succ _) fun j t ej =>
        .inl (Heap.get_alloc_ne st.h (Nat.ne_of_lt (hj.rel.dom j t ej)) cs)
  have hext : Ext ρ0 h0 ρ h' := by
    rcases e3 with ⟨rfl, _⟩ | ⟨_, cs, rfl, _⟩
    · exact hj.ext
    · exact hj.ext.trans (Ext.allocAM ρ st.h cs)
  have other : ∀ j ∈ done, ∀ d, dstOf ops j = some d → getT st'.tm d = getT st.tm d := fun j hjd d ed => p1 d fun q => by
    have := hok.dst i j d hil (hj.dn j hjd) (by rw [hdi]; exact q) ed
    exact hnd (this ▸ hjd)
  have own : ∀ d, o.dst = some d → kind P o = 1 → ∀ k, idOf (getT st'.tm d) = some k → k = st.h.next ∧ st.h.next < h'.next := fun d ed hk1 k hid => by
    rcases (p2 d ed).2 with q | q
    · rw [q] at hid
      rcases e3 with ⟨_, e4⟩ | ⟨_, cs, rfl, e4⟩
      · rw [e4 hk1] at hid; cases hid
      · rw [e4] at hid; exact ⟨(Option.some.inj hid).symm, Nat.lt_succ_self _⟩
    · rw [q] at hid; cases hid
  refine ⟨by rw [heq]; exact hrel, by rw [heq]; exact hext, by rw [hds]; exact hj.ds, hj.size, fun t => ?_, fun j hl => List.mem_cons_of_mem _ (hj.sub j hl), fun j hjd hh => ?_, fun j hjd hl d oj hoj kj ed k hid => ?_, ?_, hj.clo, hord, fun j hjl => ?_, hj.lsz, hj.gl, fun j hjd => ?_, fun j hjd d ed => ?_⟩
  · by_cases ht : o.dst = some t
    · exact .inl ⟨i, List.mem_cons_self, hin, by rw [hdi]; exact ht⟩
    · rcases hj.get t with ⟨j, q1, q2, q3⟩ | q
      · exact .inl ⟨j, List.mem_cons_of_mem _ q1, q2, q3⟩
      · exact .inr (by rw [p1 t ht]; exact q)
  · rcases List.mem_cons.1 hjd with rfl | hjd
    · rw [hkh] at hh; cases hh
    · exact hj.hv j hjd hh
  · rcases List.mem_cons.1 hjd with rfl | hjd
    · rw [ho] at hoj; obtain rfl := Option.some.inj hoj
      obtain ⟨rfl, q⟩ := own d ed kj k hid
      rw [heq]
      exact ⟨hj.ext.next, q, hj.rel.fresh⟩
    · have hdj : dstOf ops j = some d := by unfold dstOf; rw [hoj]; exact ed
      rw [other j hjd d hdj] at hid
      obtain ⟨q1, q2, q3⟩ := hj.pend j hjd hl d oj hoj kj ed k hid
      rw [heq]
      exact ⟨q1, Nat.lt_of_lt_of_le q2 hnext, q3⟩
  · intro j hjd j' hjd' hne hl hl' d e oj oj' hoj hoj' kj kj' ed ee k hid hid'
    rcases List.mem_cons.1 hjd with q1 | hj1
    · rcases List.mem_cons.1 hjd' with q2 | hj2
      · exact hne (q1.trans q2.symm)
      · subst q1; rw [ho] at hoj; obtain rfl := Option.some.inj hoj
        obtain ⟨rfl, _⟩ := own d ed kj k hid
        have hdj : dstOf ops j' = some e := by unfold dstOf; rw [hoj']; exact ee
        rw [other j' hj2 e hdj] at hid'
        have := (hj.pend j' hj2 hl' e oj' hoj' kj' ee _ hid').2.1
        exact Nat.lt_irrefl _ this
    · have hdj : dstOf ops j = some d := by unfold dstOf; rw [hoj]; exact ed
      rw [other j hj1 d hdj] at hid
      rcases List.mem_cons.1 hjd' with q2 | hj2
      · subst q2; rw [ho] at hoj'; obtain rfl := Option.some.inj hoj'
        obtain ⟨rfl, _⟩ := own e ee kj' k hid'
        have := (hj.pend j hj1 hl d oj hoj kj ed _ hid).2.1
        exact Nat.lt_irrefl _ this
      · have hdj' : dstOf ops j' = some e := by unfold dstOf; rw [hoj']; exact ee
        rw [other j' hj2 e hdj'] at hid'
        exact hj.dist j hj1 j' hj2 hne hl hl' d e oj oj' hoj hoj' kj kj' ed ee k hid hid'
  · rcases hj.all j hjl with q | q
    · exact .inl (List.mem_cons_of_mem _ q)
    · rcases List.mem_cons.1 q with rfl | q
      · exact .inl List.mem_cons_self
      · exact .inr q
  · rcases List.mem_cons.1 hjd with rfl | hjd
    · exact hil
    · exact hj.dn j hjd
  · rcases List.mem_cons.1 hjd with rfl | hjd
    · rw [hdi] at ed; exact (p2 d ed).1
    · exact hj.dl j hjd d ed

/-- At a place where the machine's next operation is heavy, or none is left. -/
def Front (P : Program) (ops : Array Oper) (rest : List Nat) : Prop := rest = [] ∨ ∃ g r, rest = g :: r ∧ isHeavy P ops g = true

theorem J.front {call : FuncId → List AV → Heap → CR} {ops : Array Oper} {bs : List Nat} {N : Nat} {ρ0 : Rho} {h0 : Heap} {g : Option Nat} {l : Array Bool} {a : Act} {Q : Exit → Act → World → Prop} (hok : Okd P ops bs) :
    ∀ (rest done : List Nat) (st : St), J P ops bs base w0 N ρ0 h0 g ρ done rest st l a w → RPost ρ0 N h0 base w0 Q (drawL P call N ops bs rest done g st) →
      ∃ done' rest' st', J P ops bs base w0 N ρ0 h0 g ρ done' rest' st' l a w ∧ RPost ρ0 N h0 base w0 Q (drawL P call N ops bs rest' done' g st') ∧ Front P ops rest'
  | [], done, st, hj, hp => ⟨done, [], st, hj, hp, .inl rfl⟩
  | i :: rest, done, st, hj, hp => by
    obtain ⟨⟨o, ho, _⟩, _, _, _⟩ := okOrd_cons hj.ord
    cases hk : isHeavy P ops i with
    | true => exact ⟨done, i :: rest, st, hj, hp, .inr ⟨i, rest, rfl, hk⟩⟩
    | false =>
      unfold drawL at hp
      rw [ho] at hp
      simp only [hk, cond_false] at hp
      split at hp
      · rename_i st' hs
        exact J.front hok rest (i :: done) st' (hj.advance hok ho hk hs) hp
      · exact hp.elim
      · exact hp.elim
end Go.Fv
