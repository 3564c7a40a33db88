/-
  Ev, part D2: a region that draws its order, every order.
-/
import Derived.Test.YtdcimkbkijcklaaGreatDoorFvD
namespace Go.Fv
open Go.RowKit

variable {P : Program} {w w0 : World} {ρ : Rho} {base : Nat}

section
variable {ops : Array Oper} {bs : List Nat} {N : Nat} {ρ0 : Rho} {h0 : Heap} {g : Option Nat} {done rest : List Nat} {st : St} {l : Array Bool} {a : Act}

theorem Lst_set {l : Array Bool} {i j : Nat} (hi : i < l.size) : Lst (l.setIfInBounds i true) j ↔ j = i ∨ Lst l j := by
  unfold Lst
  by_cases h : i = j
  · subst h; simp [hi]
  · rw [getD_set_ne false h]
    exact ⟨fun q => .inr q, fun q => q.resolve_left (fun e => h e.symm)⟩

theorem J.looks (hok : Okd P ops bs) (hj : J P ops bs base w0 N ρ0 h0 g ρ done rest st l a w) {i : Nat} {o : Oper} (ho : ops[i]? = some o) (hd : ∀ d ∈ dirs o, Lst l d) : ∀ t ∈ looks ops o, VRel ρ (getT st.tm t) (a.tmps.getD t undef) := by
  intro t ht
  rcases hj.get t with ⟨j, q1, q2, q3⟩ | q
  · rcases hok.look i o ho t ht j (hj.dn j q1) q3 with e | e
    · exact absurd (bits_listed hok hj.clo i o ho hd j (hj.dn j q1) e) q2
    · exact absurd (hj.hv j q1 e) q2
  · exact q

theorem J.opers (hok : Okd P ops bs) (hj : J P ops bs base w0 N ρ0 h0 g ρ done rest st l a w) {i : Nat} {o : Oper} (ho : ops[i]? = some o) (hd : ∀ d ∈ dirs o, Lst l d) : ∀ x ∈ o.op.operands.toList, VRel ρ (ev st.tm x) (a.eval x) := by
  intro x hx
  cases x with
  | tmp t =>
    refine hj.looks hok ho hd t ?_
    unfold Fv.looks
    rw [List.mem_append, List.mem_filterMap]
    exact .inl ⟨.tmp t, hx, rfl⟩
  | const v => exact ofV_rel ρ v
  | global g => simp only [Fv.ev, VRel]
  | func f => simp only [Fv.ev, VRel, LRel]; exact ⟨#[], rfl, rfl⟩

theorem J.guards (hok : Okd P ops bs) (hj : J P ops bs base w0 N ρ0 h0 g ρ done rest st l a w) {i : Nat} {o : Oper} (ho : ops[i]? = some o) (hd : ∀ d ∈ dirs o, Lst l d) :
    ∀ j w d, o.guard = some (j, w) → (ops[j]?).bind (·.dst) = some d → VRel ρ (getT st.tm d) (a.tmps.getD d undef) := by
  intro j v d hg hb
  refine hj.looks hok ho hd d ?_
  unfold Fv.looks
  rw [List.mem_append]
  right
  rw [hg]
  simp only [dstOf, hb, Option.toList_some, List.mem_singleton]

/-- An operation that the machine had done ahead is done. -/
theorem J.listed (_hok : Okd P ops bs) (hj : J P ops bs base w0 N ρ0 h0 g ρ done rest st l a w) {i : Nat} {o : Oper} (ho : ops[i]? = some o) (hi : i ∈ done) (hd : ∀ d ∈ dirs o, Lst l d) {ρ' : Rho} {u : Value} {w' : World} (hle : ρ.le ρ')
    (hr : Rel ρ' st.h.next st.h.get base w0 w') (he : Ext ρ0 h0 ρ' st.h) (hu : ∀ t, o.dst = some t → VRel ρ' (getT st.tm t) u)
    (hp : ∀ j ∈ done, j ≠ i → ¬ Lst l j → ∀ d o', ops[j]? = some o' → kind P o' = 1 → o'.dst = some d → ∀ k, idOf (getT st.tm d) = some k → ρ' k = none) :
    J P ops bs base w0 N ρ0 h0 g ρ' done rest st (l.setIfInBounds i true) (a.put o.dst u) w' := by
  have his : i < l.size := by rw [hj.lsz]; exact hj.dn i hi
  have hdi : dstOf ops i = o.dst := by unfold dstOf; rw [ho]; rfl
  have hsz : (a.put o.dst u).tmps.size = a.tmps.size := by cases o.dst <;> simp [Act.put]
  have nl : ∀ j, ¬ Lst (l.setIfInBounds i true) j → j ≠ i ∧ ¬ Lst l j := fun j q => by rw [Lst_set his] at q; exact ⟨fun e => q (.inl e), fun e => q (.inr e)⟩
  refine ⟨hr, he, by rw [put_defers]; exact hj.ds.mono hle, by rw [hsz]; exact hj.size, fun t => ?_, fun j q => ?_, fun j hjd hh => (Lst_set his).2 (.inr (hj.hv j hjd hh)), fun j hjd hl d oj hoj kj ed k hid => ?_,
    fun j hjd j' hjd' hne hl hl' d e oj oj' hoj hoj' kj kj' ed ee k hid => hj.dist j hjd j' hjd' hne (nl j hl).2 (nl j' hl').2 d e oj oj' hoj hoj' kj kj' ed ee k hid, fun j oj hoj q d hdj => ?_, hj.ord, hj.all, by rw [Array.size_setIfInBounds]; exact hj.lsz,
    fun x e => ⟨(Lst_set his).2 (.inr (hj.gl x e).1), (hj.gl x e).2⟩, hj.dn, hj.dl⟩
  · by_cases ht : o.dst = some t
    · right
      have hN : t < N := hj.dl i hi t (by rw [hdi]; exact ht)
      have hlt : t < a.tmps.size := Nat.lt_of_lt_of_le hN hj.size
      have e : ((a.put o.dst u).tmps).getD t undef = u := by rw [ht]; simp [Act.put, Array.getD, hlt]
      rw [e]; exact hu t ht
    · have e : ((a.put o.dst u).tmps).getD t undef = a.tmps.getD t undef := by
        cases hod : o.dst with
        | none => rfl
        | some d =>
          simp only [Act.put, Array.getD_eq_getD_getElem?]
          rw [Array.getElem?_setIfInBounds_ne (fun q => ht (by rw [hod, q]))]
      rcases hj.get t with ⟨j, q1, q2, q3⟩ | q
      · have hji : j ≠ i := fun q => ht (by rw [← hdi, ← q]; exact q3)
        exact .inl ⟨j, q1, fun q => by rcases (Lst_set his).1 q with q | q; exact hji q; exact q2 q, q3⟩
      · right; rw [e]; exact VRel.mono hle _ _ q
  · rcases (Lst_set his).1 q with rfl | q
    · exact hi
    · exact hj.sub j q
  · obtain ⟨q1, q2⟩ := nl j hl
    obtain ⟨k1, k2, _⟩ := hj.pend j hjd q2 d oj hoj kj ed k hid
    exact ⟨k1, k2, hp j hjd q1 q2 d oj hoj kj ed k hid⟩
  · rcases (Lst_set his).1 q with rfl | q
    · rw [ho] at hoj; obtain rfl := Option.some.inj hoj
      exact (Lst_set his).2 (.inr (hd d hdj))
    · exact (Lst_set his).2 (.inr (hj.clo j oj hoj q d hdj))

theorem J.pending (hok : Okd P ops bs) (hj : J P ops bs base w0 N ρ0 h0 g ρ done rest st l a w) {K : Act → World → Prop} {Q : Exit → Act → World → Prop} {i : Nat} {o : Oper} (ho : ops[i]? = some o) (hi : i ∈ done) (hnl : ¬ Lst l i) (hd : ∀ d ∈ dirs o, Lst l d)
    (hs : stable1 P ops st i = true) (hK : ∀ ρ' a' w', J P ops bs base w0 N ρ0 h0 g ρ' done rest st (l.setIfInBounds i true) a' w' → K a' w') : wpOp P ops Q i K a w := by
  have hdi : dstOf ops i = o.dst := by unfold dstOf; rw [ho]; rfl
  have hb : isHeavy P ops i = false := by
    cases q : isHeavy P ops i with
    | true => exact absurd (hj.hv i hi q) hnl
    | false => rfl
  have hk2 := kind_ne hb ho
  unfold wpOp
  rw [ho]
  simp only
  unfold stable1 at hs
  rw [ho] at hs
  simp only [hb, cond_false] at hs
  split at hs
  · rename_i hw
    have hwt := want_sound (ρ := ρ) (tmps := a.tmps) (hj.guards hok ho hd) hw
    rw [hwt, if_pos rfl]
    left
    have hop := hj.opers hok ho hd
    rcases kind_lt (P := P) o with k | k | k
    · have hb0 : Nat.beq (kind P o) 0 = true := by rw [k]; rfl
      rw [hb0, cond_true] at hs
      split at hs
      · rename_i v hl
        obtain ⟨u, e1, e2⟩ := light_sound hj.rel hop hl
        unfold Oper.wp
        rw [e1]
        refine hK ρ _ _ (hj.listed hok ho hi hd ρ.le_refl hj.rel hj.ext (fun t et => ?_) (fun j hjd _ hl d o' ho' k' ed k hid => (hj.pend j hjd hl d o' ho' k' ed k hid).2.2))
        rw [et] at hs
        rw [same_eq _ _ hs]; exact e2
      · cases hs
    · have hb0 : Nat.beq (kind P o) 0 = false := by rw [k]; rfl
      rw [hb0, cond_false] at hs
      split at hs
      · rename_i d cs m hdst hal
        split at hs
        · rename_i kk hid
          rw [Bool.and_eq_true] at hs
          obtain ⟨hs1, hs2⟩ := hs
          have hval := same_eq _ _ hs1
          split at hs2
          · rename_i ds hc
            have hcs := sames_eq _ _ hs2
            subst hcs
            obtain ⟨c, e, e1, e2, e3⟩ := allocE_sound (w := w) hop hal
            obtain ⟨k1, k2, k3⟩ := hj.pend i hi hnl d o ho k hdst kk hid
            have hcsz : c.size = cs.length := by have := e2.len; simpa using this
            have hR3 := hj.rel.extend (k := kk) (n := cs.length) (cs := cs) (c := c) (e := e) (f := (0, 0)) (fun o _ => by simp) k2 k3 (.inl hc) (Nat.le_refl _) (by omega) (fun j b ej => by
              obtain ⟨v, q1, q2⟩ := e2.get ej
              exact ⟨v, by simpa using q1, q2⟩)
            have hle := Rho.le_ext (t := ⟨w.heap.size, 0, cs.length⟩) k3
            unfold Oper.wp
            rw [e1]
            refine hK _ _ _ (hj.listed hok ho hi hd hle hR3 ⟨Rho.le_trans hj.ext.le hle, hj.ext.next, fun q hq e => ?_, hj.ext.same⟩ (fun t et => ?_) (fun j hjd hne hl d' o' ho' k' ed k'' hid' => ?_))
            · rw [Rho.ext_ne _ _ (by omega)]; exact hj.ext.no q hq e
            · rw [hdst] at et; obtain rfl := Option.some.inj et
              rw [hval]
              cases m with
              | ptr => simp only [Mk.at, Mk.val, VRel]; exact ⟨_, Rho.ext_same _ _ _, by simp⟩
              | slice l' c' s' =>
                obtain ⟨q1, q2⟩ := e3 l' c' s' rfl
                simp only [Mk.at, Mk.val, VRel]
                exact ⟨_, c', _, rfl, q1, Nat.le_refl _, fun _ => rfl, Rho.ext_same _ _ _, .inr ⟨by simp, by simpa using q2⟩⟩
            · have hd1 := hj.dist i hi j hjd (fun q => hne q.symm) hnl hl d d' o o' ho ho' k k' hdst ed kk hid
              have hne2 : k'' ≠ kk := fun q => hd1 (by rw [← q]; exact hid')
              rw [Rho.ext_ne _ _ hne2]
              exact (hj.pend j hjd hl d' o' ho' k' ed k'' hid').2.2
          · cases hs2
        · cases hs
      · cases hs
    · exact absurd k hk2
  · rename_i hw
    have hwt := want_sound (ρ := ρ) (tmps := a.tmps) (hj.guards hok ho hd) hw
    rw [hwt]
    simp only [Bool.false_eq_true, if_false]
    refine hK ρ _ _ (hj.listed hok ho hi hd ρ.le_refl hj.rel hj.ext (fun t et => ?_) (fun j hjd _ hl d o' ho' k' ed k hid => (hj.pend j hjd hl d o' ho' k' ed k hid).2.2))
    rw [et] at hs
    rw [same_eq _ _ hs]; simp only [VRel, LRel]; exact ⟨#[], rfl, rfl⟩
  · cases hs

/-- The heavy operation is done. -/
theorem J.heavy (hok : Okd P ops bs) {i : Nat} (hj : J P ops bs base w0 N ρ0 h0 g ρ done (i :: rest) st l a w) {o : Oper} (ho : ops[i]? = some o) (hd : ∀ d ∈ dirs o, Lst l d) {ρ' : Rho} {v : AV} {u : Value} {w' : World} {tm' : Tm} {h' : Heap} {ds' : List (FuncId × List AV)}
    {a1 : Act} (ha : a1.tmps = a.tmps) (hv : VRel ρ' v u) (hput : putA N st.tm o.dst v = some tm') (hr : Rel ρ' h'.next h'.get base w0 w') (he : Ext ρ st.h ρ' h') (hds : DsRel ρ' ds' a1.defers) :
    J P ops bs base w0 N ρ0 h0 (some i) ρ' (i :: done) rest ⟨tm', h', ds'⟩ (l.setIfInBounds i true) (a1.put o.dst u) w' := by
  obtain ⟨_, hnd, _, hord⟩ := okOrd_cons hj.ord
  obtain ⟨p1, p2⟩ := putA_get hput
  have hil : i < ops.size := getElem?_lt ho
  have his : i < l.size := by rw [hj.lsz]; exact hil
  have hdi : dstOf ops i = o.dst := by unfold dstOf; rw [ho]; rfl
  have hsz : (a1.put o.dst u).tmps.size = a.tmps.size := by rw [← ha]; cases o.dst <;> simp [Act.put]
  have nl : ∀ j, ¬ Lst (l.setIfInBounds i true) j → j ≠ i ∧ ¬ Lst l j := fun j q => by rw [Lst_set his] at q; exact ⟨fun e => q (.inl e), fun e => q (.inr e)⟩
  have inD : ∀ j, j ∈ i :: done → j ≠ i → j ∈ done := fun j q hne => (List.mem_cons.1 q).resolve_left hne
  have other : ∀ j ∈ done, ∀ d, dstOf ops j = some d → getT tm' d = getT st.tm d := fun j hjd d ed => p1 d fun q => by
    have := hok.dst i j d hil (hj.dn j hjd) (by rw [hdi]; exact q) ed
    exact hnd (this ▸ hjd)
  refine ⟨hr, hj.ext.trans he, by rw [put_defers]; exact hds, by rw [hsz]; exact hj.size, fun t => ?_, fun j q => ?_, fun j hjd hh => ?_, fun j hjd hl d oj hoj kj ed k hid => ?_, ?_, fun j oj hoj q d hdj => ?_, hord, fun j hjl => ?_, by rw [Array.size_setIfInBounds]; exact hj.lsz,
    fun x e => by obtain rfl := Option.some.inj e; exact ⟨(Lst_set his).2 (.inl rfl), hil⟩, fun j hjd => ?_, fun j hjd d ed => ?_⟩
  · by_cases ht : o.dst = some t
    · right
      obtain ⟨hN, q⟩ := p2 t ht
      have hlt : t < a1.tmps.size := by rw [ha]; exact Nat.lt_of_lt_of_le hN hj.size
      have e : ((a1.put o.dst u).tmps).getD t undef = u := by rw [ht]; simp [Act.put, Array.getD, hlt]
      rw [e]
      show VRel ρ' (getT tm' t) u
      rcases q with q | q
      · rw [q]; exact hv
      · rw [q]; simp only [VRel]
    · have e : ((a1.put o.dst u).tmps).getD t undef = a.tmps.getD t undef := by
        rw [← ha]
        cases hod : o.dst with
        | none => rfl
        | some d =>
          simp only [Act.put, Array.getD_eq_getD_getElem?]
          rw [Array.getElem?_setIfInBounds_ne (fun q => ht (by rw [hod, q]))]
      rcases hj.get t with ⟨j, q1, q2, q3⟩ | q
      · have hji : j ≠ i := fun q => hnd (q ▸ q1)
        exact .inl ⟨j, List.mem_cons_of_mem _ q1, fun q => by rcases (Lst_set his).1 q with q | q; exact hji q; exact q2 q, q3⟩
      · right
        rw [e]
        show VRel ρ' (getT tm' t) _
        rw [p1 t ht]; exact VRel.mono he.le _ _ q
  · rcases (Lst_set his).1 q with rfl | q
    · exact List.mem_cons_self
    · exact List.mem_cons_of_mem _ (hj.sub j q)
  · by_cases hji : j = i
    · exact (Lst_set his).2 (.inl hji)
    · exact (Lst_set his).2 (.inr (hj.hv j (inD j hjd hji) hh))
  · obtain ⟨q1, q2⟩ := nl j hl
    have hjd := inD j hjd q1
    have hdj : dstOf ops j = some d := by unfold dstOf; rw [hoj]; exact ed
    have hid2 : idOf (getT st.tm d) = some k := by rw [← other j hjd d hdj]; exact hid
    obtain ⟨k1, k2, k3⟩ := hj.pend j hjd q2 d oj hoj kj ed k hid2
    exact ⟨k1, Nat.lt_of_lt_of_le k2 he.next, he.no k k2 k3⟩
  · intro j hjd j' hjd' hne hl hl' d e oj oj' hoj hoj' kj kj' ed ee k hid hid'
    obtain ⟨q1, q2⟩ := nl j hl
    obtain ⟨q1', q2'⟩ := nl j' hl'
    have hjd := inD j hjd q1
    have hjd' := inD j' hjd' q1'
    have hdj : dstOf ops j = some d := by unfold dstOf; rw [hoj]; exact ed
    have hdj' : dstOf ops j' = some e := by unfold dstOf; rw [hoj']; exact ee
    have hid2 : idOf (getT st.tm d) = some k := by rw [← other j hjd d hdj]; exact hid
    have hid2' : idOf (getT st.tm e) = some k := by rw [← other j' hjd' e hdj']; exact hid'
    exact hj.dist j hjd j' hjd' hne q2 q2' d e oj oj' hoj hoj' kj kj' ed ee k hid2 hid2'
  · rcases (Lst_set his).1 q with rfl | q
    · rw [ho] at hoj; obtain rfl := Option.some.inj hoj
      exact (Lst_set his).2 (.inr (hd d hdj))
    · exact (Lst_set his).2 (.inr (hj.clo j oj hoj q d hdj))
  · rcases hj.all j hjl with q | q
    · exact .inl (List.mem_cons_of_mem _ q)
    · rcases List.mem_cons.1 q with rfl | q
      · exact .inl List.mem_cons_self
      · exact .inr q
  · by_cases hji : j = i
    · exact hji ▸ hil
    · exact hj.dn j (inD j hjd hji)
  · by_cases hji : j = i
    · subst hji; rw [hdi] at ed; exact (p2 d ed).1
    · exact hj.dl j (inD j hjd hji) d ed

theorem poison_get : ∀ (l : List Oper) (tm : Tm) (t : Nat), (getT (poison l tm) t = getT tm t ∨ getT (poison l tm) t = .bad) ∧ ((∃ o ∈ l, o.dst = some t) → getT (poison l tm) t = .bad)
  | [], tm, t => ⟨.inl rfl, fun ⟨o, ho, _⟩ => by simp at ho⟩
  | o :: l, tm, t => by
    have e : poison (o :: l) tm = poison l (match o.dst with | some d => tm.set d .bad | none => tm) := rfl
    rw [e]
    obtain ⟨q1, q2⟩ := poison_get l (match o.dst with | some d => tm.set d .bad | none => tm) t
    have h1 : getT (match o.dst with | some d => tm.set d .bad | none => tm) t = getT tm t ∨ getT (match o.dst with | some d => tm.set d .bad | none => tm) t = .bad := by
      cases hd : o.dst with
      | none => exact .inl rfl
      | some d => rcases getT_set tm d t .bad with q | ⟨_, q | q⟩
                  · exact .inl q
                  · exact .inr q
                  · exact .inr q
    refine ⟨?_, fun ⟨o', ho', hd'⟩ => ?_⟩
    · rcases q1 with q1 | q1
      · rw [q1]; exact h1
      · exact .inr q1
    · rcases List.mem_cons.1 ho' with rfl | ho'
      · have h2 : getT (match o'.dst with | some d => tm.set d .bad | none => tm) t = .bad := by
          rw [hd']
          rcases Tm.get_set_eq tm t .bad with q | q
          · exact q
          · exact q.1
        rcases q1 with q1 | q1
        · rw [q1]; exact h2
        · exact q1
      · exact q2 ⟨o', ho', hd'⟩

theorem J.heavyOp (hnum : NoNum P) {call : FuncId → List AV → Heap → CR} (hcall : CallOk P call base w0) (hok : Okd P ops bs) {i : Nat} (hj : J P ops bs base w0 N ρ0 h0 g ρ done (i :: rest) st l a w) {K : Act → World → Prop} {Q : Exit → Act → World → Prop} {o : Oper} (ho : ops[i]? = some o)
    (hd : ∀ d ∈ dirs o, Lst l d)
    (hp : RPost ρ0 N h0 base w0 Q (match stepO P call N ops o st with
            | .norm st' => drawL P call N ops bs rest (i :: done) (some i) st'
            | .pan v st' => .pan v ⟨poison ops.toList st'.tm, st'.h, st'.ds⟩
            | .fail n => .fail n
            | _ => .fail 503))
    (hK : ∀ ρ' st' a' w', J P ops bs base w0 N ρ0 h0 (some i) ρ' (i :: done) rest st' (l.setIfInBounds i true) a' w' → RPost ρ0 N h0 base w0 Q (drawL P call N ops bs rest (i :: done) (some i) st') → K a' w') : wpOp P ops Q i K a w := by
  unfold wpOp
  rw [ho]
  simp only
  unfold stepO at hp
  cases hw : want ops o st.tm with
  | none => rw [hw] at hp; exact hp.elim
  | some b =>
  rw [hw] at hp
  cases b with
  | true =>
    have hwt := want_sound (ρ := ρ) (tmps := a.tmps) (hj.guards hok ho hd) hw
    rw [hwt, if_pos rfl]
    left
    refine op_wp hnum hcall hj.rel (hj.opers hok ho hd) ?_
    generalize opE P call o st.tm st.h = r at hp
    cases r with
    | val v h' =>
      simp only [OR.fin] at hp
      intro ρ' u w' k1 k2 k3
      cases hput : putA N st.tm o.dst v with
      | none => rw [hput] at hp; exact hp.elim
      | some tm' =>
        rw [hput] at hp
        exact hK ρ' _ _ _ (hj.heavy hok ho hd (a1 := a) rfl k1 hput k2 k3 (hj.ds.mono k3.le)) hp
    | pan v h' =>
      simp only [OR.fin] at hp
      intro ρ' u w' k1 k2 k3
      refine hp ρ' u a w' k1 ⟨⟨hj.size, fun t => ?_⟩, k2, hj.ds.mono k3.le⟩ (hj.ext.trans k3)
      obtain ⟨q1, q2⟩ := poison_get ops.toList st.tm t
      rcases hj.get t with ⟨j, s1, s2, s3⟩ | s
      · have hjl := hj.dn j s1
        have hoj : ops[j]? = some ops[j] := Array.getElem?_eq_getElem hjl
        have e := q2 ⟨ops[j], by simp, by unfold dstOf at s3; rw [hoj] at s3; exact s3⟩
        rw [e]; simp only [VRel]
      · rcases q1 with q1 | q1
        · rw [q1]; exact VRel.mono k3.le _ _ s
        · rw [q1]; simp only [VRel]
    | dfr f args =>
      simp only [OR.fin] at hp
      intro d hdr
      cases hput : putA N st.tm o.dst (.tup []) with
      | none => rw [hput] at hp; exact hp.elim
      | some tm' =>
        rw [hput] at hp
        exact hK ρ _ _ _ (hj.heavy hok ho hd (a1 := { a with defers := d :: a.defers }) rfl (by simp only [VRel, LRel]; exact ⟨#[], rfl, rfl⟩) hput hj.rel (Ext.refl _ _) (by simp only [DsRel]; exact ⟨d, a.defers, rfl, hdr, hj.ds⟩)) hp
    | fail n => exact hp.elim
  | false =>
    have hwt := want_sound (ρ := ρ) (tmps := a.tmps) (hj.guards hok ho hd) hw
    rw [hwt]
    simp only [Bool.false_eq_true, if_false]
    simp only [OR.fin] at hp
    cases hput : putA N st.tm o.dst (.tup []) with
    | none => rw [hput] at hp; exact hp.elim
    | some tm' =>
      rw [hput] at hp
      exact hK ρ _ _ _ (hj.heavy hok ho hd (a1 := a) rfl (by simp only [VRel, LRel]; exact ⟨#[], rfl, rfl⟩) hput hj.rel (Ext.refl _ _) hj.ds) hp
end
end Go.Fv
