/-
  Ev, part D3: the region, whole.
-/
import Derived.Test.YtdcimkbkijcklaaGreatDoorFvD2
namespace Go.Fv
open Go.RowKit

variable {P : Program} {w w0 : World} {ρ : Rho} {base : Nat}

theorem filter_lt {α : Type} {p q : α → Bool} : ∀ (xs : List α), (∀ x ∈ xs, q x = true → p x = true) → (∃ x ∈ xs, p x = true ∧ q x = false) → (xs.filter q).length < (xs.filter p).length
  | [], _, ⟨x, hx, _⟩ => by simp at hx
  | y :: ys, h, ⟨x, hx, h1, h2⟩ => by
    have mono : ∀ (zs : List α), (∀ z ∈ zs, q z = true → p z = true) → (zs.filter q).length ≤ (zs.filter p).length := fun zs => by
      induction zs with
      | nil => intro _; simp
      | cons z zs ih =>
        intro hz
        have := ih fun u hu => hz u (List.mem_cons_of_mem _ hu)
        by_cases c : q z = true
        · rw [List.filter_cons_of_pos c, List.filter_cons_of_pos (hz z List.mem_cons_self c)]; simp; exact this
        · rw [List.filter_cons_of_neg c]
          by_cases c2 : p z = true
          · rw [List.filter_cons_of_pos c2]; simp; omega
          · rw [List.filter_cons_of_neg c2]; exact this
    rcases List.mem_cons.1 hx with rfl | hx
    · rw [List.filter_cons_of_pos h1, List.filter_cons_of_neg (by rw [h2]; simp)]
      have := mono ys fun u hu => h u (List.mem_cons_of_mem _ hu)
      simp; omega
    · have := filter_lt ys (fun u hu => h u (List.mem_cons_of_mem _ hu)) ⟨x, hx, h1, h2⟩
      by_cases c : q y = true
      · rw [List.filter_cons_of_pos c, List.filter_cons_of_pos (h y List.mem_cons_self c)]; simp; exact this
      · rw [List.filter_cons_of_neg c]
        by_cases c2 : p y = true
        · rw [List.filter_cons_of_pos c2]; simp; omega
        · rw [List.filter_cons_of_neg c2]; exact this

def cnt (n : Nat) (l : Array Bool) : Nat := ((List.range n).filter fun i => !(l.getD i false)).length

theorem cnt_set {n : Nat} {l : Array Bool} {i : Nat} (hl : l.size = n) (hi : i < n) (h : ¬ Lst l i) : cnt n (l.setIfInBounds i true) < cnt n l := by
  unfold cnt
  refine filter_lt _ (fun x _ hx => ?_) ⟨i, List.mem_range.2 hi, ?_, ?_⟩
  · rw [Bool.not_eq_true'] at hx ⊢
    by_cases e : i = x
    · subst e
      have : Lst (l.setIfInBounds i true) i := (Lst_set (by omega)).2 (.inl rfl)
      unfold Lst at this; rw [this] at hx; cases hx
    · rw [getD_set_ne false e] at hx; exact hx
  · rw [Bool.not_eq_true']; unfold Lst at h; simpa using h
  · have : Lst (l.setIfInBounds i true) i := (Lst_set (by omega)).2 (.inl rfl)
    unfold Lst at this; rw [this]; rfl

theorem ready_iff {ops : Array Oper} {l : Array Bool} (hl : l.size = ops.size) {i : Nat} : i ∈ Region.ready .any ops l ↔ ¬ Lst l i ∧ ∃ o, ops[i]? = some o ∧ ∀ d ∈ dirs o, Lst l d := by
  rw [mem_ready]
  have hd : ∀ o : Oper, (∀ e ∈ o.after, Region.binds .any e = true → l.getD e.on false = true) ↔ ∀ d ∈ dirs o, Lst l d := fun o => by
    unfold dirs Lst
    constructor
    · intro h d hdm
      rw [List.mem_map] at hdm
      obtain ⟨e, he, rfl⟩ := hdm
      rw [List.mem_filter] at he
      exact h e (by simpa using he.1) he.2
    · intro h e he hb
      exact h e.on (List.mem_map.2 ⟨e, List.mem_filter.2 ⟨by simpa using he, hb⟩, rfl⟩)
  constructor
  · rintro ⟨h1, o, ho, h2⟩
    have hi : i < l.size := by rw [hl]; exact getElem?_lt ho
    refine ⟨fun q => ?_, o, ho, (hd o).1 h2⟩
    unfold Lst at q
    have e : l.getD i true = l.getD i false := by simp [Array.getD, hi]
    rw [e, q] at h1; cases h1
  · rintro ⟨h1, o, ho, h2⟩
    have hi : i < l.size := by rw [hl]; exact getElem?_lt ho
    refine ⟨?_, o, ho, (hd o).2 h2⟩
    have e : l.getD i true = l.getD i false := by simp [Array.getD, hi]
    rw [e]; unfold Lst at h1; simpa using h1

theorem cond_post {N : Nat} {h : Heap} {Q : Exit → Act → World → Prop} {b : Bool} {r : R} {n : Nat} (hp : RPost ρ N h base w0 Q (cond b r (.fail n))) : b = true ∧ RPost ρ N h base w0 Q r := by
  cases b with
  | false => exact hp.elim
  | true => exact ⟨rfl, hp⟩

theorem drawn_any (hnum : NoNum P) {call : FuncId → List AV → Heap → CR} (hcall : CallOk P call base w0) {ops : Array Oper} {bs : List Nat} {N : Nat} {ρ0 : Rho} {h0 : Heap} {Q : Exit → Act → World → Prop} (hok : Okd P ops bs) :
    ∀ (fuel : Nat) (l : Array Bool) (g : Option Nat) (ρ : Rho) (done rest : List Nat) (st : St) (a : Act) (w : World), cnt ops.size l ≤ fuel → J P ops bs base w0 N ρ0 h0 g ρ done rest st l a w → Front P ops rest →
      RPost ρ0 N h0 base w0 Q (drawL P call N ops bs rest done g st) → wpAny P .any ops Q fuel l a w := by
  obtain ⟨rk, less⟩ := hok.less
  have allL : ∀ (l : Array Bool), l.size = ops.size → Region.ready .any ops l = [] → ∀ n i, rk i ≤ n → i < ops.size → Lst l i := fun l hl hr n => by
    induction n with
    | zero =>
      intro i hi his
      by_cases q : Lst l i
      · exact q
      · exfalso
        have ho : ops[i]? = some ops[i] := Array.getElem?_eq_getElem his
        have : i ∈ Region.ready .any ops l := (ready_iff hl).2 ⟨q, _, ho, fun d hd => by have := (less i _ ho d hd).1; omega⟩
        rw [hr] at this; simp at this
    | succ n ih =>
      intro i hi his
      by_cases q : Lst l i
      · exact q
      · exfalso
        have ho : ops[i]? = some ops[i] := Array.getElem?_eq_getElem his
        have : i ∈ Region.ready .any ops l := (ready_iff hl).2 ⟨q, _, ho, fun d hd => by obtain ⟨k1, k2⟩ := less i _ ho d hd; exact ih d (by omega) k2⟩
        rw [hr] at this; simp at this
  have finish : ∀ (l : Array Bool) (g : Option Nat) (ρ : Rho) (done rest : List Nat) (st : St) (a : Act) (w : World), (∀ i, i < ops.size → Lst l i) → J P ops bs base w0 N ρ0 h0 g ρ done rest st l a w →
      RPost ρ0 N h0 base w0 Q (drawL P call N ops bs rest done g st) → Q .normal a w := fun l g ρ done rest st a w hall hj hp => by
    cases rest with
    | cons i rest =>
      obtain ⟨⟨o, ho, _⟩, hnd, _, _⟩ := okOrd_cons hj.ord
      exact absurd (hj.sub i (hall i (getElem?_lt ho))) hnd
    | nil =>
      unfold drawL at hp
      obtain ⟨_, hp⟩ := cond_post hp
      refine hp ρ a w ⟨⟨hj.size, fun t => ?_⟩, hj.rel, hj.ds⟩ hj.ext
      rcases hj.get t with ⟨i, q1, q2, _⟩ | q
      · exact absurd (hall i (hj.dn i q1)) q2
      · exact q
  intro fuel
  induction fuel with
  | zero =>
    intro l g ρ done rest st a w hc hj hf hp
    have hall : ∀ i, i < ops.size → Lst l i := fun i hi => by
      by_cases q : Lst l i
      · exact q
      · have := cnt_set hj.lsz hi q; omega
    refine ⟨?_, finish l g ρ done rest st a w hall hj hp⟩
    rw [List.eq_nil_iff_forall_not_mem]
    intro i hi
    obtain ⟨h1, o, ho, _⟩ := (ready_iff hj.lsz).1 hi
    exact h1 (hall i (getElem?_lt ho))
  | succ fuel ih =>
    intro l g ρ done rest st a w hc hj hf hp
    refine ⟨fun hr => finish l g ρ done rest st a w (fun i hi => allL l hj.lsz hr (rk i) i (Nat.le_refl _) hi) hj hp, fun i hi => ?_⟩
    obtain ⟨hnl, o, ho, hd⟩ := (ready_iff hj.lsz).1 hi
    have hil := getElem?_lt ho
    have hcs := cnt_set hj.lsz hil hnl
    have hstab : stable P ops bs done g st = true := by
      rcases hf with rfl | ⟨x, r, rfl, hb⟩
      · unfold drawL at hp; exact (cond_post hp).1
      · obtain ⟨⟨o', ho', _⟩, _⟩ := okOrd_cons hj.ord
        unfold drawL at hp
        rw [ho'] at hp
        simp only [hb, cond_true] at hp
        exact (cond_post hp).1
    by_cases hid : i ∈ done
    · have hs1 : stable1 P ops st i = true := by
        unfold stable at hstab
        cases g with
        | none => simp only [List.all_eq_true] at hstab; exact hstab i hid
        | some x =>
          simp only [List.all_eq_true, Bool.or_eq_true] at hstab
          rcases hstab i hid with q | q
          · obtain ⟨hxl, hxs⟩ := hj.gl x rfl
            have hox : ops[x]? = some ops[x] := Array.getElem?_eq_getElem hxs
            exact absurd (bits_listed hok hj.clo x _ hox (hj.clo x _ hox hxl) i hil q) hnl
          · exact q
      exact hj.pending hok ho hid hnl hd hs1 fun ρ' a' w' hj' => ih _ g ρ' done rest st a' w' (by omega) hj' hf hp
    · have hir : i ∈ rest := (hj.all i hil).resolve_left hid
      rcases hf with rfl | ⟨x, r, rfl, hb⟩
      · simp at hir
      · obtain ⟨⟨o', ho', _⟩, hxd, _, hord⟩ := okOrd_cons hj.ord
        have hix : i = x := by
          rcases List.mem_cons.1 hir with e | hir
          · exact e
          · exfalso
            obtain ⟨_, _, k3⟩ := okOrd_mem hord i hir
            have hbb := k3 x List.mem_cons_self hb
            exact hxd (hj.sub x (bits_listed hok hj.clo i o ho hd x (getElem?_lt ho') hbb))
        subst hix
        rw [ho] at ho'; obtain rfl := Option.some.inj ho'
        have hp2 := hp
        unfold drawL at hp2
        rw [ho] at hp2
        simp only [hb, cond_true] at hp2
        obtain ⟨_, hp2⟩ := cond_post hp2
        refine hj.heavyOp hnum hcall hok ho hd hp2 fun ρ' st' a' w' hj' hp' => ?_
        obtain ⟨done', rest', st'', j1, j2, j3⟩ := J.front hok r (i :: done) st' hj' hp'
        exact ih _ (some i) ρ' done' rest' st'' a' w' (by omega) j1 j3 j2

theorem drawn_sound (hnum : NoNum P) (hmix : P.follows .mixedOrders = true) {call : FuncId → List AV → Heap → CR} (hcall : CallOk P call base w0) {ops : Array Oper} {N id : Nat} {st : St} {a : Act} {Q : Exit → Act → World → Prop} (hS : SRel ρ N st base w0 a w)
    (hp : RPost ρ N st.h base w0 Q (drawn P call N ops st)) : (Code.region id ops true).wp P Q a w := by
  unfold drawn at hp
  obtain ⟨hreg, hp⟩ := cond_post hp
  obtain ⟨hok, hord, hall⟩ := okReg_spec hreg
  refine wp_region_any hmix ?_
  have hrel : Rel ρ st.h.next st.h.get base w0 { w with drawn := w.drawn + 1 } := hS.h.drew
  have hn : ∀ i, ¬ Lst (Array.replicate ops.size false) i := fun i q => by
    unfold Lst at q
    by_cases hi : i < ops.size
    · simp [Array.getD, hi] at q
    · simp [Array.getD, hi] at q
  have hj : J P ops (bitsOf P ops) base w0 N ρ st.h none ρ [] (ordOf P ops) st (Array.replicate ops.size false) a { w with drawn := w.drawn + 1 } :=
    ⟨hrel, Ext.refl _ _, hS.ds, hS.tm.size, fun t => .inr (hS.tm.get t), fun i q => absurd q (hn i), fun i q => (List.not_mem_nil q).elim, fun i q => (List.not_mem_nil q).elim, fun i q => (List.not_mem_nil q).elim, fun i o _ q => absurd q (hn i), hord,
      fun i hi => .inr (hall i hi), Array.size_replicate, (fun x e => nomatch e), fun i q => (List.not_mem_nil q).elim, fun i q => (List.not_mem_nil q).elim⟩
  obtain ⟨done', rest', st', j1, j2, j3⟩ := J.front hok _ _ _ hj hp
  refine drawn_any hnum hcall hok ops.size _ none ρ done' rest' st' a _ ?_ j1 j3 j2
  unfold cnt
  exact Nat.le_trans (List.length_filter_le _ _) (by simp)
end Go.Fv
