/-
  Ev, part Mq: maps that are made and written, slices that are cleared.
-/
import Derived.Test.YtdcimkbkijcklaaGreatDoorFvH3
namespace Go.Fv
open Go.RowKit

variable {P : Program} {w w0 : World} {ρ : Rho} {N : Nat} {base : Nat}

/-- A map's block turns, and nothing else. -/
theorem Rel.changeMap {g g' : Nat → Blk} {w' : World} {i : Nat} {t : Tgt} {es es' : List (AV × AV)} (h : Rel ρ N g base w0 w) (hi : ρ i = some t) (hg : g i = .mp es) (hl : Like w w') (ho : ∀ j, j ≠ t.b → w'.heap[j]? = w.heap[j]?)
    (hn : MapRel ρ w' t.b es') (hs : ∀ j, j ≠ i → g' j = g j) (hgi : g' i = .mp es' ∨ ¬ (g' i).live) : Rel ρ N g' base w0 w' := by
  obtain ⟨hb, hm⟩ := h.maps.blk i t es hi hg
  obtain ⟨ms, c, hh, _⟩ := hm.ex
  have cell : ∀ j cs, g' j = .cells cs → j ≠ i ∧ g j = .cells cs := fun j cs k => by
    by_cases hj : j = i
    · subst hj
      rcases hgi with q | q
      · rw [k] at q; cases q
      · rw [k] at q; exact absurd trivial q
    · exact ⟨hj, (hs j hj) ▸ k⟩
  have mapo : ∀ j fs, g' j = .mp fs → ∃ fs', g j = .mp fs' ∧ (j ≠ i → fs' = fs) ∧ (j = i → fs = es') := fun j fs k => by
    by_cases hj : j = i
    · subst hj
      rcases hgi with q | q
      · rw [k] at q; exact ⟨es, hg, fun e => absurd rfl e, fun _ => Blk.mp.inj q⟩
      · rw [k] at q; exact absurd trivial q
    · exact ⟨fs, (hs j hj) ▸ k, fun _ => rfl, fun e => absurd e hj⟩
  have ne : ∀ j u cs, ρ j = some u → g j = .cells cs → u.b ≠ t.b := fun j u cs e k q => by
    obtain ⟨c', e', f', h1, _⟩ := (h.blk j u cs e k).2.ex
    rw [q, hh] at h1; cases h1
  refine ⟨h.dom, fun j u cs e k => ?_, fun j l u u' as bs ej el gj gl hbb => h.inj j l u u' as bs ej el (cell j as gj).2 (cell l bs gl).2 hbb,
    h.below.trans ⟨hl.os, hl.tape, hl.output, Nat.le_of_eq hl.size.symm, fun k hk => ho k (by omega)⟩, by rw [hl.size]; exact h.size, ⟨fun j u fs e k => ?_, fun j l u u' fs gs ej el gj gl hbb => ?_⟩⟩
  · obtain ⟨_, k⟩ := cell j cs k
    obtain ⟨b1, b2⟩ := h.blk j u cs e k
    exact ⟨b1, b2.world (ho _ (ne j u cs e k))⟩
  · obtain ⟨fs', k1, k2, k3⟩ := mapo j fs k
    by_cases hj : j = i
    · subst hj
      rw [hi] at e; obtain rfl := Option.some.inj e
      rw [k3 rfl]; exact ⟨hb, hn⟩
    · obtain rfl := k2 hj
      obtain ⟨b1, b2⟩ := h.maps.blk j u _ e k1
      exact ⟨b1, b2.world (ho _ fun q => hj (h.maps.inj j i u t _ _ e hi k1 hg q))⟩
  · obtain ⟨fs', k1, _⟩ := mapo j fs gj
    obtain ⟨gs', k2, _⟩ := mapo l gs gl
    exact h.maps.inj j l u u' _ _ ej el k1 k2 hbb

theorem run_update {t kt e : TypeId} {d : TypeDesc} {b c : Nat} {ms : Array MapEntry} {k' y' : Value} (hu : P.underlying t = some (.map kt e)) (hkt : P.underlying kt = some d) (hd : KeyD d) (hb : w.heap[b]? = some (.map ms c)) :
    (Instr.findNow d k' ms.toList 0 = some none → (Instr.mapUpdate t (.map (some b)) k' y').run P w = .ok () { w with heap := w.heap.setIfInBounds b (.map (ms.push { key := k', val := y', born := c }) (c + 1)) }) ∧
    ∀ j u m, Instr.findNow d k' ms.toList 0 = some (some (j, u)) → ms[j]? = some m → m.key = k' → (∀ n, Instr.sameBits n k' k' = true) →
      (Instr.mapUpdate t (.map (some b)) k' y').run P w = .ok () { w with heap := w.heap.setIfInBounds b (.map (ms.modify j fun e => { e with key := k', val := y' }) c) } := by
  have hck : (Instr.checkKey false 10000 kt k').run P w = .ok () w := run_checkKey hkt hd _ 9999 _
  refine ⟨fun hq => ?_, fun j u m hq hj hk hs => ?_⟩
  · simp [Instr.mapUpdate, run_under hu, MapKept.run_getObj_map hb, hck, run_findKey (w := w) hkt hq, MapKept.run_setObj_map _ hb]
  · have hst : (Instr.keyThatStays k' k').run P w = .ok k' w := by simp [Instr.keyThatStays, hs]
    simp [Instr.mapUpdate, run_under hu, MapKept.run_getObj_map hb, hck, run_findKey (w := w) hkt hq, hj, hk, hst, MapKept.run_setObj_map _ hb]

theorem Ext.putId {h : Heap} {i : Nat} {t : Tgt} (hi : ρ i = some t) (b : Blk) : Ext ρ h ρ (h.put i b) := Ext.put hi b

/-- A key is put into a map. -/
theorem mapUpdA_sound {h h' : Heap} {t : TypeId} {x k y v : AV} {x' k' y' : Value} (hR : Rel ρ h.next h.get base w0 w) (hx : VRel ρ x x') (hk : VRel ρ k k') (hy : VRel ρ y y') (hv : mapUpdA P t x k y h = .val v h') :
    ∃ w', (Instr.mapUpdate t x' k' y').run P w = .ok () w' ∧ v = .tup [] ∧ Rel ρ h'.next h'.get base w0 w' ∧ Ext ρ h ρ h' := by
  unfold mapUpdA at hv
  split at hv
  · rename_i id
    split at hv
    · rename_i d e es hT hg
      obtain ⟨kt, hu, hkt, hd⟩ := mapT_spec hT
      split at hv
      · rename_i es' hput
        obtain ⟨rfl, rfl⟩ := OR.val.inj hv
        simp only [VRel] at hx
        obtain ⟨tt, et, rfl⟩ := hx
        obtain ⟨ms, c, hh, hr⟩ := (hR.maps.blk id tt _ et hg).2.ex
        have hlt : tt.b < w.heap.size := (Array.getElem?_eq_some_iff.1 hh).1
        obtain ⟨r1, r2⟩ := run_update (y' := y') (k' := k') hu hkt hd hh
        have fin : ∀ ms' c', ERel ρ es' ms'.toList → Rel ρ h.next (h.put id (.mp es')).get base w0 { w with heap := w.heap.setIfInBounds tt.b (.map ms' c') } := fun ms' c' hE => by
          refine hR.changeMap et hg ⟨rfl, rfl, rfl, by simp⟩ (fun j hj => by simp [Ne.symm hj]) ⟨ms', c', by simp [hlt], hE⟩ (fun j hj => Heap.get_put_ne h hj _) ?_
          rcases Heap.get_put_eq h id (.mp es') with q | q
          · exact .inl q
          · right; rw [q]; exact fun q => q
        rcases put_sound hd hk hy es ms.toList 0 es' hr hput with ⟨q1, rfl⟩ | ⟨j, u, m, q1, q2, q3, q4, q5⟩
        · refine ⟨_, r1 q1, rfl, fin _ _ ?_, Ext.put et _⟩
          rw [Array.toList_push]
          exact hr.append (by simp only [ERel]; exact ⟨_, [], rfl, hk, hy, rfl⟩)
        · rw [Nat.zero_add] at q1
          refine ⟨_, r2 j u m q1 (by simpa using q2) q3 q4, rfl, fin _ _ ?_, Ext.put et _⟩
          rw [Array.toList_modify]
          exact q5
      · cases hv
    · cases hv
  · cases hv

/-- A map is made. -/
theorem makeMap_sound {h : Heap} (hR : Rel ρ h.next h.get base w0 w) {t : TypeId} :
    ∃ ρ', (Instr.makeMap t none).run P w = .ok (.map (some w.heap.size)) (w.alloc (.map #[] 0)) ∧ VRel ρ' (.map h.next) (.map (some w.heap.size)) ∧ Rel ρ' (h.next + 1) (h.m.set h.next (.mp []) |> fun m => (⟨h.next + 1, m⟩ : Heap).get) base w0 (w.alloc (.map #[] 0)) ∧
      Ext ρ h ρ' ⟨h.next + 1, h.m.set h.next (.mp [])⟩ := by
  have hf := hR.fresh
  have hle := Rho.le_ext (t := ⟨w.heap.size, 0, 0⟩) hf
  have gne : ∀ j, j ≠ h.next → (⟨h.next + 1, h.m.set h.next (.mp [])⟩ : Heap).get j = h.get j := fun j hj => T.get_set_ne h.m hj _ .none
  have geq : (⟨h.next + 1, h.m.set h.next (.mp [])⟩ : Heap).get h.next = .mp [] ∨ (⟨h.next + 1, h.m.set h.next (.mp [])⟩ : Heap).get h.next = .none := by
    rcases T.get_set_eq h.m h.next (Blk.mp []) .none with e | e
    · exact .inl e
    · exact .inr e.1
  refine ⟨ρ.ext h.next ⟨w.heap.size, 0, 0⟩, rfl, by simp only [VRel]; exact ⟨_, Rho.ext_same _ _ _, rfl⟩, ?_, ⟨hle, Nat.le_succ _, fun k hk e => by rw [Rho.ext_ne _ _ (Nat.ne_of_lt hk)]; exact e, fun k hk _ => gne k (Nat.ne_of_lt hk)⟩⟩
  have cell : ∀ i t cs, ρ.ext h.next ⟨w.heap.size, 0, 0⟩ i = some t → (⟨h.next + 1, h.m.set h.next (.mp [])⟩ : Heap).get i = .cells cs → ρ i = some t ∧ h.get i = .cells cs := fun i t cs e k => by
    by_cases hi : i = h.next
    · subst hi; rcases geq with q | q <;> (rw [q] at k; cases k)
    · rw [Rho.ext_ne _ _ hi] at e; exact ⟨e, (gne i hi) ▸ k⟩
  have mapo : ∀ i t es, ρ.ext h.next ⟨w.heap.size, 0, 0⟩ i = some t → (⟨h.next + 1, h.m.set h.next (.mp [])⟩ : Heap).get i = .mp es → (i = h.next ∧ t.b = w.heap.size ∧ es = []) ∨ (ρ i = some t ∧ h.get i = .mp es) := fun i t es e k => by
    by_cases hi : i = h.next
    · left
      subst hi
      rw [Rho.ext_same] at e; obtain rfl := Option.some.inj e
      rcases geq with q | q
      · rw [q] at k; exact ⟨rfl, rfl, (Blk.mp.inj k).symm⟩
      · rw [q] at k; cases k
    · right; rw [Rho.ext_ne _ _ hi] at e; exact ⟨e, (gne i hi) ▸ k⟩
  refine ⟨fun i t e => ?_, fun i t cs e k => ?_, fun i j t u cs ds e1 e2 k1 k2 hb => ?_, hR.below.alloc hR.size _, by rw [World.size_alloc]; exact Nat.le_succ_of_le hR.size, ⟨fun i t es e k => ?_, fun i j t u es fs e1 e2 k1 k2 hb => ?_⟩⟩
  · by_cases hi : i = h.next
    · rw [hi]; exact Nat.lt_succ_self _
    · rw [Rho.ext_ne _ _ hi] at e; exact Nat.lt_succ_of_lt (hR.dom i t e)
  · obtain ⟨e', k'⟩ := cell i t cs e k
    obtain ⟨b1, b2⟩ := hR.blk i t cs e' k'
    exact ⟨b1, (b2.mono hle).world (heap_alloc_lt b2.lt)⟩
  · obtain ⟨e1', k1'⟩ := cell i t cs e1 k1
    obtain ⟨e2', k2'⟩ := cell j u ds e2 k2
    exact hR.inj i j t u cs ds e1' e2' k1' k2' hb
  · rcases mapo i t es e k with ⟨_, q2, rfl⟩ | ⟨e', k'⟩
    · rw [q2]
      exact ⟨hR.size, ⟨#[], 0, heap_alloc_new _ _, by simp [ERel]⟩⟩
    · obtain ⟨b1, b2⟩ := hR.maps.blk i t es e' k'
      exact ⟨b1, (b2.mono hle).world (heap_alloc_lt b2.lt)⟩
  · rcases mapo i t es e1 k1 with ⟨q1, q2, _⟩ | ⟨e1', k1'⟩
    · rcases mapo j u fs e2 k2 with ⟨p1, _⟩ | ⟨e2', k2'⟩
      · rw [q1, p1]
      · have := (hR.maps.blk j u fs e2' k2').2.lt; omega
    · rcases mapo j u fs e2 k2 with ⟨_, p2, _⟩ | ⟨e2', k2'⟩
      · have := (hR.maps.blk i t es e1' k1').2.lt; omega
      · exact hR.maps.inj i j t u es fs e1' e2' k1' k2' hb

theorem ones_append {a b : List AV} (h : ones a = true) (k : ones b = true) : ones (a ++ b) = true := by
  induction a with
  | nil => exact k
  | cons x a ih =>
    have e : ∀ l, ones (x :: l) = cond (one x) (ones l) false := fun _ => rfl
    rw [List.cons_append, e]
    rw [e] at h
    cases hx : one x with
    | false => rw [hx, cond_false] at h; cases h
    | true => rw [hx, cond_true] at h; exact ih h
theorem ones_reps {l : List AV} (h : ones l = true) : ∀ n, ones (reps l n) = true
  | 0 => rfl
  | n + 1 => ones_append h (ones_reps h n)

/-- A slice's cells are made zeros. -/
theorem clearA_sound {ts : Array TypeId} {ty : TypeId} {x v : AV} {h h' : Heap} {x' : Value} (hR : Rel ρ h.next h.get base w0 w) (hx : VRel ρ x x') (hv : clearA P ts x h = .val v h') :
    ∃ w', (Builtin.clear_ ts ty #[x']).run P w = .ok (.tuple #[]) w' ∧ v = .tup [] ∧ Rel ρ h'.next h'.get base w0 w' ∧ Ext ρ h ρ h' := by
  unfold clearA at hv
  split at hv
  · rename_i t ht
    split at hv
    · rename_i e sz hs
      obtain ⟨h1, h2⟩ := slElem_spec hs
      split at hv
      · obtain ⟨rfl, rfl⟩ := OR.val.inj hv
        simp only [VRel] at hx; subst hx
        exact ⟨w, by simp [Builtin.clear_, ht, run_under h1], rfl, hR, Ext.refl _ _⟩
      · rename_i id off n cap es op
        simp only [VRel] at hx
        obtain ⟨a, c', tt, rfl, k0, k1, k2, et, k3⟩ := hx
        cases hn0 : Nat.beq n 0 with
        | true =>
          rw [hn0, cond_true] at hv
          obtain ⟨rfl, rfl⟩ := OR.val.inj hv
          obtain rfl : n = 0 := by simpa [Nat.beq_eq] using hn0
          exact ⟨w, by simp [Builtin.clear_, ht, run_under h1], rfl, hR, Ext.refl _ _⟩
        | false =>
          rw [hn0, cond_false] at hv
          have hn : n ≠ 0 := fun q => by subst q; cases hn0
          cases hz : zeroA P e with
          | none => rw [hz] at hv; cases hv
          | some z =>
            rw [hz] at hv
            cases hc : h.get id with
            | none => rw [hc] at hv; cases hv
            | dead => rw [hc] at hv; cases hv
            | mp es => rw [hc] at hv; cases hv
            | cells cs =>
              rw [hc] at hv
              simp only at hv
              cases hq : (nb z && Nat.beq (len (acells z)) sz && ones (acells z)) with
              | false => rw [hq] at hv; cases hv
              | true =>
                rw [hq, cond_true] at hv
                rw [Bool.and_eq_true, Bool.and_eq_true] at hq
                split at hv
                · rename_i cs' hsp
                  obtain ⟨hle, rfl⟩ := spl_spec hsp
                  obtain ⟨rfl, rfl⟩ := OR.val.inj hv
                  obtain ⟨zv, e1, e2⟩ := run_zero hz w ρ
                  have hzl := acells_rel e2 (fun q => by rw [q] at hq; cases hq.1.1)
                  have hr := reps_spec zv.cells n (acells z) hzl (n * zv.cells.size) rfl
                  have hone : ∀ u ∈ (Builtin.zeroCells zv.cells n).toList, u.oneCell' = true := ones_cell (ones_reps hq.2 n) hr
                  rcases k3 with k3 | ⟨rfl, k4⟩
                  · omega
                  · obtain ⟨w', e4, e5⟩ := hR.stores (P := P) et hc hr hone hle
                    refine ⟨w', ?_, rfl, Rel.put e5, Ext.put et _⟩
                    obtain ⟨m, rfl⟩ : ∃ m, n = m + 1 := ⟨n - 1, by omega⟩
                    simp only [Builtin.clear_, ht, List.getElem?_toArray, List.getElem?_cons_zero, Sem.run_bind, run_under h1, Result.andThen_ok, e1]
                    have e4' : (storeCells ⟨tt.b, tt.d + off, none⟩ (Builtin.zeroCells zv.cells (m + 1)).toList).run P w = .ok () w' := e4
                    simp [e4']
                · cases hv
      · cases hv
    · cases hv
  · cases hv

/- The functions that have no text. -/
theorem byte_beq (a b : UInt8) : Nat.beq a.toNat b.toNat = (a == b) := by
  rw [Bool.eq_iff_iff, Nat.beq_eq, beq_iff_eq]
  exact ⟨fun h => UInt8.toNat_inj.1 h, fun h => by rw [h]⟩
theorem countB_eq (l : List UInt8) (c : UInt8) : countB l c = Lib.countByte l c := by
  induction l with
  | nil => rfl
  | cons b l ih =>
    have e : countB (b :: l) c = cond (Nat.beq b.toNat c.toNat) (Nat.succ (countB l c)) (countB l c) := rfl
    rw [e, byte_beq, ih]
    unfold Lib.countByte
    rw [List.count_cons]
    cases b == c <;> simp
theorem idxB_eq (l : List UInt8) (c : UInt8) : Lib.indexByte l c = match idxB l c with | some i => (i : Int) | none => -1 := by
  induction l with
  | nil => rfl
  | cons b l ih =>
    have e : idxB (b :: l) c = cond (Nat.beq b.toNat c.toNat) (some 0) ((idxB l c).map Nat.succ) := rfl
    rw [e, byte_beq]
    unfold Lib.indexByte
    cases hb : b == c with
    | true => simp
    | false =>
      simp only [Bool.false_eq_true, if_false, cond_false, ih]
      cases idxB l c with
      | none => simp
      | some i =>
        simp only [Option.map_some]
        have hne : (((i : Nat) : Int) == -1) = false := by rw [beq_eq_false_iff_ne]; omega
        rw [hne]; simp

theorem isExt_spec {k : FuncId} {name : String} (h : isExt P k = some name) : ∃ fn, P.funcs[k]? = some fn ∧ fn.body.isNone = true ∧ fn.origin = "" ∧ fn.name = name := by
  unfold isExt at h
  split at h
  · rename_i fn hf
    split at h
    · rename_i hb
      obtain ⟨h1, h2⟩ := cond_some h
      obtain rfl := Option.some.inj h2
      exact ⟨fn, hf, by rw [hb]; rfl, by simpa using h1, rfl⟩
    · cases h
  · cases h

theorem none_of {α : Type} {o : Option α} (h : o.isNone = true) : o = none := by cases o with | none => rfl | some _ => cases h

theorem next0 : (Extern.allNextRows.lookup "").isNone = true := by kernel_rfl
theorem count1 : (Extern.allGenericRows.lookup "internal/bytealg.CountString").isNone = true := by kernel_rfl
theorem count2 : (Extern.allTypedRows.lookup "internal/bytealg.CountString").isNone = true := by kernel_rfl
theorem count3 : Extern.allRows.lookup "internal/bytealg.CountString" = some Extern.BytealgCount.count := by kernel_rfl
theorem count4 : (Extern.allNextRows.lookup "internal/bytealg.CountString").isNone = true := by kernel_rfl
theorem index1 : (Extern.allGenericRows.lookup "internal/bytealg.IndexByteString").isNone = true := by kernel_rfl
theorem index2 : (Extern.allTypedRows.lookup "internal/bytealg.IndexByteString").isNone = true := by kernel_rfl
theorem index3 : Extern.allRows.lookup "internal/bytealg.IndexByteString" = some Extern.BytealgIndexByte.indexByte := by kernel_rfl
theorem index4 : (Extern.allNextRows.lookup "internal/bytealg.IndexByteString").isNone = true := by kernel_rfl

theorem find_of {fn : Func} {name : String} {e : Array Value → Sem Value} (hn : fn.name = name) (ho : fn.origin = "") (h1 : (Extern.allGenericRows.lookup name).isNone = true) (h2 : (Extern.allTypedRows.lookup name).isNone = true)
    (h3 : Extern.allRows.lookup name = some e) (h4 : (Extern.allNextRows.lookup name).isNone = true) : Extern.findNext fn = none ∧ Extern.find fn = some e := by
  unfold Extern.findNext Extern.find
  simp only [hn, ho, none_of h1, none_of h2, h3, none_of h4, none_of next0]
  exact ⟨rfl, rfl⟩

theorem ext_sound (hnum : ∀ (f : FuncId) (fn : Func), P.funcs[f]? = some fn → (fn.name == "runtime.NumGoroutine") = false) {k : FuncId} {name : String} {xs : List AV} {vs : Array Value} {v : AV} (hk : isExt P k = some name) (hxs : LRel ρ xs vs.toList) (h : extE name xs = some v) (w : World) :
    ∃ u, (callFunc k vs).run P w = .ok (.value u) w ∧ VRel ρ v u := by
  obtain ⟨fn, hf, hb, ho, hn⟩ := isExt_spec hk
  unfold extE at h
  split at h
  · rename_i s c
    obtain ⟨s', c', e, hs, hc⟩ := hxs.two
    obtain rfl : vs = #[s', c'] := by apply Array.toList_inj.1; exact e
    simp only [VRel] at hs hc
    subst hs; subst hc
    cases q : name == "internal/bytealg.CountString" with
    | true =>
      rw [q, cond_true] at h
      obtain rfl := Option.some.inj h
      have hname : name = "internal/bytealg.CountString" := by simpa using q
      obtain ⟨f1, f2⟩ := find_of (hn.trans hname) ho count1 count2 count3 count4
      refine ⟨.int .i64 (Lib.countByte s (UInt8.ofNat c) : Nat), ?_, ?_⟩
      · rw [run_callFunc_extern hf (hnum k fn hf) hb f1 f2, Lib.run_countString]; rfl
      · simp only [VRel, countB_eq]; rfl
    | false =>
      rw [q, cond_false] at h
      cases q2 : name == "internal/bytealg.IndexByteString" with
      | false => rw [q2] at h; cases h
      | true =>
        rw [q2, cond_true] at h
        have hname : name = "internal/bytealg.IndexByteString" := by simpa using q2
        obtain ⟨f1, f2⟩ := find_of (hn.trans hname) ho index1 index2 index3 index4
        refine ⟨.int .i64 (Lib.indexByte s (UInt8.ofNat c)), ?_, ?_⟩
        · rw [run_callFunc_extern hf (hnum k fn hf) hb f1 f2, Lib.run_indexByteString]; rfl
        · have e5 := idxB_eq s (UInt8.ofNat c)
          cases hi : idxB s (UInt8.ofNat c) with
          | none =>
            rw [hi] at h e5
            obtain rfl := Option.some.inj h
            simp only [VRel]
            show Value.int .i64 (Lib.indexByte s (UInt8.ofNat c)) = _
            rw [e5]; rfl
          | some i =>
            rw [hi] at h e5
            obtain rfl := Option.some.inj h
            simp only [VRel]
            show Value.int .i64 (Lib.indexByte s (UInt8.ofNat c)) = _
            rw [e5]; rfl
  · cases h
end Go.Fv
