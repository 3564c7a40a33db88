/-
  Ev, part H: stores, append, copy.
-/
import Derived.Test.YtdcimkbkijcklaaGreatDoorFvS
import Derived.Laws.AppendOwn
namespace Go.Fv
open Go.RowKit

variable {P : Program} {w w0 : World} {ρ : Rho} {N : Nat} {base : Nat} {g : Nat → Blk}

structure Ext (ρ : Rho) (h : Heap) (ρ' : Rho) (h' : Heap) : Prop where
  le : ρ.le ρ'
  next : h.next ≤ h'.next
  no : ∀ k, k < h.next → ρ k = none → ρ' k = none
  same : ∀ k, k < h.next → ρ k = none → h'.get k = h.get k

theorem Ext.refl (ρ : Rho) (h : Heap) : Ext ρ h ρ h := ⟨ρ.le_refl, Nat.le_refl _, fun _ _ e => e, fun _ _ _ => rfl⟩
theorem Ext.trans {ρ ρ' ρ'' : Rho} {h h' h'' : Heap} (a : Ext ρ h ρ' h') (b : Ext ρ' h' ρ'' h'') : Ext ρ h ρ'' h'' :=
  ⟨Rho.le_trans a.le b.le, Nat.le_trans a.next b.next, fun k hk e => b.no k (Nat.lt_of_lt_of_le hk a.next) (a.no k hk e),
    fun k hk e => (b.same k (Nat.lt_of_lt_of_le hk a.next) (a.no k hk e)).trans (a.same k hk e)⟩

theorem Ext.put {ρ : Rho} {h : Heap} {i : Nat} {t : Tgt} (hi : ρ i = some t) (b : Blk) : Ext ρ h ρ (h.put i b) :=
  ⟨ρ.le_refl, Nat.le_refl _, fun _ _ e => e, fun k _ e => Heap.get_put_ne h (fun q => by rw [q, hi] at e; cases e) b⟩
theorem Ext.alloc {ρ : Rho} {h : Heap} (hn : ρ h.next = none) (cs : List AV) (t : Tgt) : Ext ρ h (ρ.ext h.next t) (h.alloc cs) :=
  ⟨Rho.le_ext hn, Nat.le_succ _, fun k hk e => by rw [Rho.ext_ne _ _ (Nat.ne_of_lt hk)]; exact e, fun k hk _ => Heap.get_alloc_ne h (Nat.ne_of_lt hk) cs⟩

theorem Rel.fresh (h : Rel ρ N g base w0 w) : ρ N = none := by
  cases e : ρ N with
  | none => rfl
  | some t => exact absurd (h.dom N t e) (Nat.lt_irrefl _)

theorem Rel.put {hp : Heap} {i : Nat} {b : Blk} (h : Rel ρ N (upd hp.get i b) base w0 w) : Rel ρ N (hp.put i b).get base w0 w :=
  h.weaken (Nat.le_refl _) fun j t _ => by
    by_cases hj : j = i
    · subst hj
      rw [upd_same]
      rcases Heap.get_put_eq hp j b with e | e
      · exact .inl e
      · right; rw [e]; exact fun q => q
    · left; rw [upd_ne _ _ hj, Heap.get_put_ne hp hj b]

/-- The worlds are alike but for blocks. -/
structure Like (w w' : World) : Prop where
  os : w'.os = w.os
  tape : w'.tape = w.tape
  output : w'.output = w.output
  size : w'.heap.size = w.heap.size
theorem Like.refl (w : World) : Like w w := ⟨rfl, rfl, rfl, rfl⟩
theorem Like.trans {a b c : World} (h : Like a b) (k : Like b c) : Like a c := ⟨k.os.trans h.os, k.tape.trans h.tape, k.output.trans h.output, k.size.trans h.size⟩

theorem Rel.change {w' : World} {g' : Nat → Blk} {b : Nat} (h : Rel ρ N g base w0 w) (hb : base ≤ b) (hl : Like w w') (hcell : ∃ c e f, w.heap[b]? = some (.cells c e f)) (ho : ∀ j, j ≠ b → w'.heap[j]? = w.heap[j]?) (hm : ∀ j t es, ρ j = some t → g' j = .mp es → g j = .mp es)
    (hg : ∀ j t cs, ρ j = some t → g' j = .cells cs → (t.b ≠ b ∧ g j = .cells cs) ∨ (t.b = b ∧ BlkRel ρ w' t cs ∧ ∃ ds, g j = .cells ds)) : Rel ρ N g' base w0 w' := by
  have old : ∀ j t cs, ρ j = some t → g' j = .cells cs → ∃ ds, g j = .cells ds := fun j t cs e k => by
    rcases hg j t cs e k with ⟨_, k⟩ | ⟨_, _, k⟩
    · exact ⟨cs, k⟩
    · exact k
  refine ⟨h.dom, fun i t cs e k => ?_, fun i j t u cs ds e1 e2 k1 k2 hbb => ?_, h.below.trans ⟨hl.os, hl.tape, hl.output, Nat.le_of_eq hl.size.symm, fun k hk => ho k (by omega)⟩, by rw [hl.size]; exact h.size, (h.maps.weaken hm).world fun j t es e k => ho _ ?_⟩
  · rcases hg i t cs e k with ⟨hn, k⟩ | ⟨hn, k, _⟩
    · obtain ⟨b1, b2⟩ := h.blk i t cs e k
      exact ⟨b1, b2.world (ho _ hn)⟩
    · exact ⟨hn ▸ hb, k⟩
  · obtain ⟨cs', k1'⟩ := old i t cs e1 k1
    obtain ⟨ds', k2'⟩ := old j u ds e2 k2
    exact h.inj i j t u cs' ds' e1 e2 k1' k2' hbb
  · obtain ⟨c, ce, f, hcell⟩ := hcell
    exact (h.maps.blk j t es e (hm j t es e k)).2.ne hcell

theorem Rel.attach {k : Nat} {t : Tgt} (h : Rel ρ N g base w0 w) (hk : k < N) (hρ : ρ k = none) (hb : base ≤ t.b) (hc : ∀ ds, g k = .cells ds → BlkRel ρ w t ds)
    (hn : ∀ j u ds, ρ j = some u → g j = .cells ds → u.b ≠ t.b) (hm : ∀ es, g k ≠ .mp es) : Rel (ρ.ext k t) N g base w0 w := by
  have hle := Rho.le_ext (t := t) hρ
  refine ⟨fun i u ei => ?_, fun i u ds ei gi => ?_, fun i j u u' as bs ei ej gi gj hbb => ?_, h.below, h.size, h.maps.ext hρ hm⟩
  · by_cases hi : i = k
    · exact hi ▸ hk
    · rw [Rho.ext_ne _ _ hi] at ei; exact h.dom i u ei
  · by_cases hi : i = k
    · subst hi
      rw [Rho.ext_same] at ei
      obtain rfl := Option.some.inj ei
      exact ⟨hb, (hc ds gi).mono hle⟩
    · rw [Rho.ext_ne _ _ hi] at ei
      obtain ⟨b1, b2⟩ := h.blk i u ds ei gi
      exact ⟨b1, b2.mono hle⟩
  · by_cases hi : i = k
    · by_cases hj : j = k
      · rw [hi, hj]
      · subst hi
        rw [Rho.ext_same] at ei
        rw [Rho.ext_ne _ _ hj] at ej
        obtain rfl := Option.some.inj ei
        exact absurd hbb.symm (hn j u' bs ej gj)
    · by_cases hj : j = k
      · subst hj
        rw [Rho.ext_same] at ej
        rw [Rho.ext_ne _ _ hi] at ei
        obtain rfl := Option.some.inj ej
        exact absurd hbb (hn i u as ei gi)
      · rw [Rho.ext_ne _ _ hi] at ei
        rw [Rho.ext_ne _ _ hj] at ej
        exact h.inj i j u u' as bs ei ej gi gj hbb

theorem one_cell {a : AV} {v : Value} (h : one a = true) (hv : VRel ρ a v) : v.oneCell' = true := by
  cases a <;> simp only [one] at h <;> simp only [VRel] at hv
  all_goals first
    | (subst hv; rfl)
    | (obtain ⟨_, _, rfl⟩ := hv; rfl)
    | (obtain ⟨_, rfl, _⟩ := hv; rfl)
    | (obtain ⟨_, _, _, rfl, _⟩ := hv; rfl)
    | (exact absurd h (by simp))
theorem ones_cell : ∀ {l : List AV} {vs : List Value}, ones l = true → LRel ρ l vs → ∀ v ∈ vs, v.oneCell' = true
  | [], vs, _, h => by simp only [LRel] at h; subst h; simp
  | a :: l, vs, h1, h => by
    simp only [LRel] at h
    obtain ⟨v, us, rfl, hv, h⟩ := h
    have e : ones (a :: l) = cond (one a) (ones l) false := rfl
    rw [e] at h1
    cases ho : one a with
    | false => rw [ho] at h1; cases h1
    | true =>
      rw [ho] at h1
      intro x hx
      rcases List.mem_cons.1 hx with rfl | hx
      · exact one_cell ho hv
      · exact ones_cell h1 h x hx

/-- A row of cells that are stored. -/
theorem run_stores {b o : Nat} {e : TypeId} {f : Nat × Nat} : ∀ (vv : List Value) (k : Nat) (c : Array Value) (w : World), w.heap[b]? = some (.cells c e f) → o + k + vv.length ≤ c.size →
    (∀ q, q < c.size → (decide (f.1 ≤ q) && decide (q < f.2)) = false) → (∀ v ∈ vv, v.oneCell' = true) →
    ∃ w' c', (storeCells ⟨b, o, none⟩ vv k).run P w = .ok () w' ∧ w'.heap[b]? = some (.cells c' e f) ∧ c'.toList = c.toList.take (o + k) ++ vv ++ c.toList.drop (o + k + vv.length) ∧ (∀ j, j ≠ b → w'.heap[j]? = w.heap[j]?) ∧ Like w w'
  | [], k, c, w, h1, _, _, _ => ⟨w, c, rfl, h1, by simp, fun _ _ => rfl, Like.refl w⟩
  | v :: vv, k, c, w, h1, h2, h3, h4 => by
    simp only [List.length_cons] at h2
    have hlt : o + k < c.size := by omega
    have hcell : w.cell? ⟨b, o + k, none⟩ = some c[o + k] := by simp [World.cell?, h1, hlt]
    have hfr : w.frozen? ⟨b, o + k, none⟩ = false := by have := h3 (o + k) hlt; simpa [World.frozen?, h1] using this
    have hw1 := heap_setCell_same (o := o + k) (v := v) h1
    obtain ⟨w', c', e1, e2, e3, e4, e5⟩ := run_stores (o := o) vv (k + 1) (c.setIfInBounds (o + k) v) (w.setCell ⟨b, o + k, none⟩ v) hw1 (by simp; omega) (by simpa using h3) (fun x hx => h4 x (by simp [hx]))
    refine ⟨w', c', ?_, e2, ?_, fun j hj => (e4 j hj).trans (heap_setCell_ne hj), (show Like w (w.setCell ⟨b, o + k, none⟩ v) from ⟨rfl, rfl, rfl, by rw [World.size_setCell]⟩).trans e5⟩
    · rw [storeCells, Sem.run_bind, addr_add0, run_store P w _ v .plain (h4 v (by simp)), hcell]
      simp only [hfr, Bool.false_eq_true, if_false, Result.andThen_ok]
      exact e1
    · rw [e3, Array.toList_setIfInBounds]
      have hl : o + k < c.toList.length := by simpa using hlt
      have e1 : (c.toList.set (o + k) v).take (o + (k + 1)) = c.toList.take (o + k) ++ [v] := by
        rw [← Nat.add_assoc, List.take_set, List.take_succ_eq_append_getElem hl, List.set_append_right _ _ (by rw [List.length_take]; exact Nat.min_le_left _ _)]
        have hm : min (o + k) c.toList.length = o + k := Nat.min_eq_left (Nat.le_of_lt hl)
        rw [List.length_take, hm, Nat.sub_self]; rfl
      have e2 : (c.toList.set (o + k) v).drop (o + (k + 1) + vv.length) = c.toList.drop (o + k + (v :: vv).length) := by
        rw [List.drop_set_of_lt (by omega)]
        simp only [List.length_cons]; congr 1; omega
      rw [e1, e2]; simp

/-- Cells of a known block, written over. -/
theorem Rel.stores (h : Rel ρ N g base w0 w) {i off : Nat} {t : Tgt} {cs vs : List AV} {vv : List Value} (hi : ρ i = some t) (hg : g i = .cells cs) (hv : LRel ρ vs vv) (ho : ∀ v ∈ vv, v.oneCell' = true) (hn : off + vs.length ≤ cs.length) :
    ∃ w', (storeCells ⟨t.b, t.d + off, none⟩ vv).run P w = .ok () w' ∧ Rel ρ N (upd g i (.cells (cs.take off ++ vs ++ cs.drop (off + vs.length)))) base w0 w' := by
  obtain ⟨hb, hbr⟩ := h.blk i t cs hi hg
  obtain ⟨c, e, f, h1, h2, h3, h4, h5⟩ := hbr.ex
  have hlen := hv.len
  obtain ⟨w', c', e1, e2, e3, e4, e5⟩ := run_stores (P := P) (b := t.b) (o := t.d + off) vv 0 c w h1 (by omega) h4 ho
  refine ⟨w', e1, h.change hb e5 ⟨c, e, f, h1⟩ e4 (fun j u es ej gj => by
    by_cases hj : j = i
    · subst hj; rw [upd_same] at gj; cases gj
    · rw [upd_ne _ _ hj] at gj; exact gj) fun j u ds ej gj => ?_⟩
  by_cases hj : j = i
  · subst hj
    rw [hi] at ej
    obtain rfl := Option.some.inj ej
    rw [upd_same] at gj
    obtain rfl := Blk.cells.inj gj
    refine .inr ⟨rfl, ⟨c', e, f, e2, ?_, ?_, ?_, fun m x em => ?_⟩, cs, hg⟩
    · have : c'.size = c.size := by have := congrArg List.length e3; simp at this; omega
      omega
    · simp; omega
    · have : c'.size = c.size := by have := congrArg List.length e3; simp at this; omega
      rw [this]; exact h4
    · simp only [Nat.add_zero] at e3
      rw [← Array.getElem?_toList, e3]
      by_cases c1 : m < off
      · rw [List.append_assoc, List.getElem?_append_left (by simp; omega), List.getElem?_take_of_lt (by omega)] at em
        obtain ⟨y, k1, k2⟩ := h5 m x em
        refine ⟨y, ?_, k2⟩
        rw [List.append_assoc, List.getElem?_append_left (by simp; omega), List.getElem?_take_of_lt (by omega)]
        simpa using k1
      · by_cases c2 : m < off + vs.length
        · rw [List.getElem?_append_left (by simp; omega), List.getElem?_append_right (by simp; omega)] at em
          have hml : (cs.take off).length = off := by simp; omega
          rw [hml] at em
          obtain ⟨y, k1, k2⟩ := hv.get em
          refine ⟨y, ?_, k2⟩
          rw [List.getElem?_append_left (by simp; omega), List.getElem?_append_right (by simp; omega)]
          have hml' : (c.toList.take (t.d + off)).length = t.d + off := by simp; omega
          rw [hml']
          have e6 : t.d + m - (t.d + off) = m - off := by omega
          rw [e6]; exact k1
        · rw [List.getElem?_append_right (by simp; omega), List.getElem?_drop] at em
          have hml : (cs.take off ++ vs).length = off + vs.length := by simp; omega
          rw [hml] at em
          have e7 : off + vs.length + (m - (off + vs.length)) = m := by omega
          rw [e7] at em
          obtain ⟨y, k1, k2⟩ := h5 m x em
          refine ⟨y, ?_, k2⟩
          rw [List.getElem?_append_right (by simp; omega), List.getElem?_drop]
          have hml' : (c.toList.take (t.d + off) ++ vv).length = t.d + off + vv.length := by simp; omega
          rw [hml']
          have e8 : t.d + off + vv.length + (t.d + m - (t.d + off + vv.length)) = t.d + m := by omega
          rw [e8]; simpa using k1
  · rw [upd_ne _ _ hj] at gj
    exact .inl ⟨fun q => hj (h.inj j i u t ds cs ej hi gj hg q), gj⟩

theorem spl_spec {vs l r : List AV} {off : Nat} (h : spl vs l off = some r) : off + vs.length ≤ l.length ∧ r = l.take off ++ vs ++ l.drop (off + vs.length) := by
  rw [spl_eq] at h
  split at h
  · rename_i hn; exact ⟨hn, (Option.some.inj h).symm⟩
  · cases h
theorem slc_spec {l r : List AV} {off n : Nat} (h : slc l off n = some r) : off + n ≤ l.length ∧ r = (l.drop off).take n := by
  rw [slc_eq] at h
  split at h
  · rename_i hn; exact ⟨hn, (Option.some.inj h).symm⟩
  · cases h

theorem storeA_sound {t : TypeId} {p x v : AV} {h h' : Heap} {p' x' : Value} (hR : Rel ρ h.next h.get base w0 w) (hp : VRel ρ p p') (hx : VRel ρ x x') (hv : storeA P t p x h = .val v h') :
    ∃ w', (Instr.storeAt t p' x').run P w = .ok () w' ∧ v = .tup [] ∧ Rel ρ h'.next h'.get base w0 w' ∧ Ext ρ h ρ h' := by
  unfold storeA at hv
  split at hv
  · rename_i id off
    split at hv
    · rename_i cs hc
      split at hv
      · rename_i sz hs
        cases hq : (Nat.beq (len (acells x)) sz && ones (acells x)) with
        | false => rw [hq] at hv; cases hv
        | true =>
          rw [hq, cond_true] at hv
          rw [Bool.and_eq_true] at hq
          have hsz : (acells x).length = sz := by rw [← len_eq]; simpa [Nat.beq_eq] using hq.1
          split at hv
          · rename_i cs' hsp
            obtain ⟨hn, rfl⟩ := spl_spec hsp
            obtain ⟨rfl, rfl⟩ := OR.val.inj hv
            simp only [VRel] at hp
            obtain ⟨tt, et, rfl⟩ := hp
            have hnb : x ≠ .bad := by rintro rfl; simp [acells, ones, one] at hq
            have hl := acells_rel hx hnb
            have hxs : x'.cells.size = sz := by have := hl.len; simp at this; omega
            obtain ⟨w', e1, e2⟩ := hR.stores (P := P) et hc hl (ones_cell hq.2 hl) hn
            refine ⟨w', ?_, rfl, Rel.put e2, Ext.put et _⟩
            simp only [Instr.storeAt, Sem.run_bind, Instr.sureAddr, Sem.run_pure, Result.andThen_ok, storeVar, run_size hs, hxs, ne_eq, not_true, if_false]
            exact e1
          · cases hv
      · cases hv
    · cases hv
  · cases hv
end Go.Fv
