/-
  Ev, part H3: append, all ways.
-/
import Derived.Test.YtdcimkbkijcklaaGreatDoorFvH2
namespace Go.Fv
open Go.RowKit

variable {P : Program} {w w0 : World} {ρ : Rho} {base : Nat}

theorem zeroCells_size (z : Array Value) (n : Nat) : (Builtin.zeroCells z n).size = n * z.size := by simp [Builtin.zeroCells]

/-- A new block of cells that are known, with room behind them. -/
theorem grow_new {h h1 : Heap} {cs : List AV} {C : Array Value} {e : TypeId} {need sz nc : Nat} {f : Nat × Nat} (hfz : ∀ o, o < C.size → (decide (f.1 ≤ o) && decide (o < f.2)) = false) (hR : Rel ρ h1.next h1.get base w0 w) (hE : Ext ρ h ρ h1) (hc : LRel ρ cs (C.toList.take cs.length)) (hlen : cs.length = need * sz) (hC : C.size = nc * sz) (hn : need ≤ nc) :
    ∃ ρ', VRel ρ' (.slice h1.next 0 need need sz true) (.slice (some ⟨w.heap.size, 0, none⟩) need nc) ∧ Rel ρ' (h1.alloc cs).next (h1.alloc cs).get base w0 (w.alloc (.cells C e f)) ∧ Ext ρ h ρ' (h1.alloc cs) := by
  have hf := hR.fresh
  have hle : need * sz ≤ nc * sz := Nat.mul_le_mul_right _ hn
  have hR2 : Rel ρ (h1.next + 1) (h1.alloc cs).get base w0 w := hR.weaken (Nat.le_succ _) fun j t ej =>
    .inl (Heap.get_alloc_ne h1 (Nat.ne_of_lt (hR.dom j t ej)) cs)
  have hR3 := hR2.extend (k := h1.next) (n := nc * sz) (cs := cs) (c := C) (e := e) (f := f) hfz (Nat.lt_succ_self _) hf ((Heap.get_alloc_eq h1 cs).imp id fun q => by rw [q]; exact fun q => q) (by omega) (by omega) (fun j a ej => by
    obtain ⟨v, k1, k2⟩ := hc.get ej
    have hj : j < cs.length := (List.getElem?_eq_some_iff.1 ej).1
    rw [List.getElem?_take_of_lt hj, Array.getElem?_toList] at k1
    exact ⟨v, k1, k2⟩)
  refine ⟨_, ?_, hR3, hE.trans (Ext.alloc hf cs _)⟩
  simp only [VRel]
  exact ⟨_, nc, _, rfl, Nat.le_refl _, hn, fun q => by simp at q, Rho.ext_same _ _ _, .inr ⟨rfl, by simp⟩⟩

theorem Rel.kill {h : Heap} {i : Nat} {N : Nat} (hR : Rel ρ N h.get base w0 w) : Rel ρ N (h.put i .dead).get base w0 w :=
  hR.weaken (Nat.le_refl _) fun j t _ => by
    by_cases hj : j = i
    · subst hj
      right
      rcases Heap.get_put_eq h j .dead with e | e <;> (rw [e]; exact fun q => q)
    · left; rw [Heap.get_put_ne h hj .dead]

theorem app_sound {h h' : Heap} {s v : AV} {s' : Value} {n sz : Nat} {new : List AV} {arr arr2 : Array Value} {run : Value → World → Result Value} {e : TypeId} {zs : Array Value} (hzs : zs.size = sz) (hR : Rel ρ h.next h.get base w0 w) (hs : VRel ρ s s') (hnew : LRel ρ new arr.toList) (hnew2 : LRel ρ new arr2.toList)
    (hlen : new.length = n * sz) (hn6 : n ≤ 65536) (hv : appA s n sz new h = .val v h')
    (hin : ∀ b l c w', l + n ≤ c → (∀ a, b = some a → (storeCells (a.add (l * sz)) arr.toList).run P w = .ok () w') → (b = none → w' = w) → run (.slice b l c) w = .ok (.slice b (l + n) c) w')
    (hout : ∀ b l c (old : Array Value), ¬ l + n ≤ c → l + n ≤ 1000000000 → (Builtin.firstCells sz l (.slice b l c)).run P w.drew = .ok old w.drew →
      run (.slice b l c) w = .ok (.slice (some ⟨w.heap.size, 0, none⟩) (l + n) (grownCap w (l + n) c e)) (w.drew.alloc (.cells (old ++ arr2 ++ Builtin.zeroCells zs (grownCap w (l + n) c e - (l + n))) e))) :
    ∃ w' u ρ', run s' w = .ok u w' ∧ VRel ρ' v u ∧ Rel ρ' h'.next h'.get base w0 w' ∧ Ext ρ h ρ' h' := by
  have harr : arr.size = n * sz := by have := hnew.len; simpa [hlen] using this
  have harr2 : arr2.size = n * sz := by have := hnew2.len; simpa [hlen] using this
  have grown : ∀ (h1 : Heap) (b : Option Addr) (l c : Nat) (oldA : List AV) (old : Array Value), Rel ρ h1.next h1.get base w0 w → Ext ρ h ρ h1 → ¬ l + n ≤ c → l + n ≤ 1000000000 → (Builtin.firstCells sz l (.slice b l c)).run P w.drew = .ok old w.drew → LRel ρ oldA old.toList → oldA.length = l * sz →
      ∃ w' u ρ', run (.slice b l c) w = .ok u w' ∧ VRel ρ' (.slice h1.next 0 (l + n) (l + n) sz true) u ∧ Rel ρ' (h1.alloc (oldA ++ new)).next (h1.alloc (oldA ++ new)).get base w0 w' ∧ Ext ρ h ρ' (h1.alloc (oldA ++ new)) := fun h1 b l c oldA old r1 r2 r3 r4 r5 r6 r7 => by
    have hold : old.size = l * sz := by have := r6.len; simpa [r7] using this
    have hge := grownCap_ge w (l + n) c e
    have hl : (oldA ++ new).length = (l + n) * sz := by rw [List.length_append, r7, hlen, Nat.add_mul]
    obtain ⟨ρ', k1, k2, k3⟩ := grow_new (w := w.drew) (C := old ++ arr2 ++ Builtin.zeroCells zs (grownCap w (l + n) c e - (l + n))) (e := e) (nc := grownCap w (l + n) c e) (f := (0, 0)) (fun o _ => by simp) r1.drew r2
      (cs := oldA ++ new) (need := l + n) (sz := sz) (by
        have e1 : (old ++ arr2 ++ Builtin.zeroCells zs (grownCap w (l + n) c e - (l + n))).toList.take (oldA ++ new).length = old.toList ++ arr2.toList := by
          rw [Array.toList_append, Array.toList_append, List.take_append_of_le_length (by simp [hold, harr2, r7, hlen])]
          exact List.take_of_length_le (by simp [hold, harr2, r7, hlen])
        rw [e1]; exact r6.append hnew2) hl (by
        simp only [Array.size_append, hold, harr2, zeroCells_size, hzs, ← Nat.add_mul]; congr 1; omega) hge
    exact ⟨_, _, ρ', hout b l c old r3 r4 r5, k1, k2, k3⟩
  unfold appA at hv
  split at hv
  · simp only [VRel] at hs; subst hs
    by_cases h0 : n = 0
    · subst h0
      have : OR.val v h' = .val .nils h := hv.symm
      obtain ⟨rfl, rfl⟩ := OR.val.inj this
      exact ⟨w, _, ρ, hin none 0 0 w (by omega) (fun a q => by cases q) (fun _ => rfl), by simp only [VRel], hR, Ext.refl _ _⟩
    · have hb : Nat.beq n 0 = false := by rw [← Bool.not_eq_true, Nat.beq_eq]; exact h0
      rw [hb, cond_false] at hv
      obtain ⟨rfl, rfl⟩ := OR.val.inj hv
      have := grown h none 0 0 [] #[] hR (Ext.refl _ _) (by omega) (by omega) rfl (by simp [LRel]) (by simp)
      simpa using this
  · rename_i id off l cap es op
    cases hq : (Nat.beq es sz && ones new && Nat.ble (l + n) 1000000) with
    | false => rw [hq] at hv; cases hv
    | true =>
      rw [hq, cond_true] at hv
      simp only [Bool.and_eq_true] at hq
      obtain ⟨⟨hq1, hq2⟩, hq3⟩ := hq
      obtain rfl : es = sz := by simpa [Nat.beq_eq] using hq1
      have hsm := Nat.le_of_ble_eq_true hq3
      obtain ⟨ti, hti⟩ := slice_rho hs
      obtain ⟨a, c', rfl, k0, k1, k2, k3⟩ := slice_pos hs
      have hone := ones_cell hq2 hnew
      split at hv
      · rename_i cs hc
        cases hcap : Nat.ble (l + n) cap with
        | true =>
          rw [hcap, cond_true] at hv
          have hcap := Nat.le_of_ble_eq_true hcap
          split at hv
          · rename_i cs' hsp
            obtain ⟨hn, rfl⟩ := spl_spec hsp
            obtain ⟨rfl, rfl⟩ := OR.val.inj hv
            rcases k3 with k3 | ⟨tt, et, rfl, k4⟩
            · have hl0 : l = 0 := by omega
              have hn0 : n = 0 := by omega
              subst hl0; subst hn0
              have hnew0 : new = [] := List.length_eq_zero_iff.1 (by rw [hlen]; simp)
              subst hnew0
              have ha0 : arr.toList = [] := List.length_eq_zero_iff.1 (by rw [hnew.len]; rfl)
              refine ⟨w, _, ρ, hin (some a) 0 c' w (by omega) (fun b hb => by rw [ha0]; rfl) (fun q => by cases q), ?_, ?_, ?_⟩
              · exact hs
              · simp only [List.append_nil, List.length_nil, Nat.add_zero, List.take_append_drop]; exact hR.putSame hc
              · simp only [List.append_nil, List.length_nil, Nat.add_zero, List.take_append_drop]; exact Ext.putSame hc
            · obtain ⟨w', e4, e5⟩ := hR.stores (P := P) et hc hnew hone hn
              refine ⟨w', _, ρ, hin _ l c' w' (by omega) (fun b hb => ?_) (fun q => by cases q), ?_, Rel.put e5, Ext.put et _⟩
              · obtain rfl := Option.some.inj hb
                rw [addr_add0]
                have e6 : tt.d + off + l * es = tt.d + (off + l * es) := by omega
                rw [e6]; exact e4
              · simp only [VRel] at hs ⊢
                obtain ⟨a2, c2, t2, q1, q2, q3, q4, q5, q6⟩ := hs
                obtain ⟨hx1, rfl⟩ : some (⟨tt.b, tt.d + off, none⟩ : Addr) = some a2 ∧ c' = c2 := by
                  injection q1 with x1 x2 x3; exact ⟨x1, x3⟩
                obtain rfl := Option.some.inj hx1
                exact ⟨_, _, t2, rfl, by omega, q3, q4, q5, q6⟩
          · cases hv
        | false =>
          rw [hcap, cond_false] at hv
          have hcap : ¬ l + n ≤ cap := fun q => by rw [Nat.ble_eq_true_of_le q] at hcap; cases hcap
          split at hv
          · rename_i old hsl
            obtain ⟨hno, rfl⟩ := slc_spec hsl
            obtain ⟨rfl, rfl⟩ := OR.val.inj hv
            have first : ∃ oldv : Array Value, (Builtin.firstCells es l (.slice (some a) l c')).run P w.drew = .ok oldv w.drew ∧ LRel ρ ((cs.drop off).take (l * es)) oldv.toList := by
              rcases k3 with k3 | ⟨tt, et, rfl, k4⟩
              · have hl0 : l = 0 := by omega
                subst hl0
                exact ⟨#[], by simp only [Builtin.firstCells, Nat.zero_mul]; rfl, by simp [LRel]⟩
              · obtain ⟨vs, e1, e2⟩ := hR.drew.loads (P := P) et hc hno
                exact ⟨vs, e1, e2⟩
            obtain ⟨oldv, f1, f2⟩ := first
            have hol : ((cs.drop off).take (l * es)).length = l * es := by simp; omega
            cases op with
            | false =>
              obtain rfl := k2 rfl
              exact grown h (some a) l c' _ oldv hR (Ext.refl _ _) hcap (by omega) f1 f2 hol
            | true =>
              have hEk : Ext ρ h ρ (h.put id .dead) := Ext.put hti _
              by_cases hcc : l + n ≤ c'
              · rcases k3 with k3 | ⟨tt, et, rfl, k4⟩
                · omega
                · obtain ⟨hb, hbr⟩ := hR.blk id tt cs et hc
                  obtain ⟨c, ce, f, h1, h2, h3, h4, h5⟩ := hbr.ex
                  have hmul : (l + n) * es ≤ c' * es := Nat.mul_le_mul_right _ hcc
                  have hmul2 : l * es + n * es = (l + n) * es := by rw [Nat.add_mul]
                  have hal : arr.toList.length = n * es := by simpa using harr
                  obtain ⟨w', c2, e1, e2, e3, e4, e5⟩ := run_stores (P := P) (b := tt.b) (o := tt.d + off + l * es) arr.toList 0 c w h1 (by rw [hal]; omega) h4 hone
                  have hkill : Rel ρ h.next (h.put id .dead).get base w0 w' := by
                    refine (hR.kill (i := id)).change hb e5 ⟨c, ce, f, h1⟩ e4 (fun _ _ _ _ k => k) fun j u ds ej gj => .inl ⟨fun q => ?_, gj⟩
                    have hj : j ≠ id := fun q2 => by
                      subst q2
                      rcases Heap.get_put_eq h j .dead with e | e <;> (rw [e] at gj; cases gj)
                    rw [Heap.get_put_ne h hj] at gj
                    exact hj (hR.inj j id u tt ds cs ej et gj hc q)
                  have hf := hkill.fresh
                  have hR2 : Rel ρ (h.next + 1) ((h.put id .dead).alloc ((cs.drop off).take (l * es) ++ new)).get base w0 w' := hkill.weaken (Nat.le_succ _) fun j t ej =>
                    .inl (Heap.get_alloc_ne (h.put id .dead) (Nat.ne_of_lt (hkill.dom j t ej)) _)
                  have hc2 : c2.size = c.size := by have := congrArg List.length e3; simp [hal] at this; omega
                  have hatt := hR2.attach (k := h.next) (t := ⟨tt.b, tt.d + off, tt.n - off⟩) (Nat.lt_succ_self _) hf hb (fun ds gd => by
                    have : ds = (cs.drop off).take (l * es) ++ new := by
                      rcases Heap.get_alloc_eq (h.put id .dead) ((cs.drop off).take (l * es) ++ new) with q | q
                      · have gd' : Blk.cells ((cs.drop off).take (l * es) ++ new) = .cells ds := q.symm.trans gd
                        exact (Blk.cells.inj gd').symm
                      · have gd' : Blk.none = .cells ds := q.symm.trans gd
                        cases gd'
                    subst this
                    refine ⟨c2, ce, f, e2, ?_, ?_, by rw [hc2]; exact h4, fun m x em => ?_⟩
                    · rw [hc2]; simp only; omega
                    · simp only [List.length_append, hol, hlen]; omega
                    · simp only [Nat.add_zero] at e3
                      rw [← Array.getElem?_toList, e3]
                      by_cases c1 : m < l * es
                      · rw [List.getElem?_append_left (by rw [hol]; exact c1), List.getElem?_take_of_lt c1, List.getElem?_drop] at em
                        obtain ⟨y, k1, k2⟩ := h5 _ x em
                        refine ⟨y, ?_, k2⟩
                        rw [List.append_assoc, List.getElem?_append_left (by simp; omega), List.getElem?_take_of_lt (by simp only; omega)]
                        have e7 : tt.d + off + m = tt.d + (off + m) := by omega
                        simp only [e7]; simpa using k1
                      · rw [List.getElem?_append_right (by rw [hol]; omega), hol] at em
                        obtain ⟨y, k1, k2⟩ := hnew.get em
                        refine ⟨y, ?_, k2⟩
                        have hmn : m - l * es < new.length := (List.getElem?_eq_some_iff.1 em).1
                        rw [List.getElem?_append_left (by simp [hal]; omega), List.getElem?_append_right (by simp; omega)]
                        have hml' : (c.toList.take (tt.d + off + l * es)).length = tt.d + off + l * es := by simp; omega
                        rw [hml']
                        have e6 : tt.d + off + m - (tt.d + off + l * es) = m - l * es := by omega
                        simp only [e6]; exact k1) (fun j u ds ej gj => fun q => by
                    have hj : j < h.next := hkill.dom j u ej
                    have gj' : (h.put id .dead).get j = .cells ds := by rw [← Heap.get_alloc_ne (h.put id .dead) (Nat.ne_of_lt hj)]; exact gj
                    have hjd : j ≠ id := fun q2 => by
                      subst q2
                      rcases Heap.get_put_eq h j .dead with e | e <;> (rw [e] at gj'; cases gj')
                    rw [Heap.get_put_ne h hjd] at gj'
                    exact hjd (hR.inj j id u tt ds cs ej et gj' hc q)) (fun fs gd => by
                    rcases Heap.get_alloc_eq (h.put id .dead) ((cs.drop off).take (l * es) ++ new) with q | q
                    · have gd' := q.symm.trans gd
                      cases gd'
                    · have gd' := q.symm.trans gd
                      cases gd')
                  refine ⟨w', _, _, hin (some ⟨tt.b, tt.d + off, none⟩) l c' w' hcc (fun b hb => ?_) (fun q => by cases q), ?_, hatt, hEk.trans (Ext.alloc (h := h.put id .dead) hf _ _)⟩
                  · obtain rfl := Option.some.inj hb
                    rw [addr_add0]; exact e1
                  · simp only [VRel]
                    exact ⟨_, c', _, rfl, Nat.le_refl _, hcc, fun q => by simp at q, Rho.ext_same _ _ _, .inr ⟨rfl, by simp only; omega⟩⟩
              · exact grown (h.put id .dead) (some a) l c' _ oldv hR.kill hEk hcc (by omega) f1 f2 hol
          · cases hv
      · cases hv
  · cases hv

theorem appendA_sound {ts : Array TypeId} {ty : TypeId} {h h' : Heap} {s x v : AV} {s' x' : Value} (hR : Rel ρ h.next h.get base w0 w) (hs : VRel ρ s s') (hx : VRel ρ x x') (hv : appendA P ts s x h = .val v h') :
    ∃ w' u ρ', (Builtin.append_ ts ty #[s', x']).run P w = .ok u w' ∧ VRel ρ' v u ∧ Rel ρ' h'.next h'.get base w0 w' ∧ Ext ρ h ρ' h' := by
  unfold appendA at hv
  split at hv
  · rename_i t ht
    split at hv
    · rename_i e sz hsl
      obtain ⟨h1, h2⟩ := slElem_spec hsl
      split at hv
      · rename_i z by_ hz hby
        cases hq : (nb z && Nat.beq (len (acells z)) sz && Nat.ble by_ 65536 && Nat.blt 0 by_ && typedT P ts[1]?) with
        | false => rw [hq] at hv; cases hv
        | true =>
          rw [hq, cond_true] at hv
          simp only [Bool.and_eq_true] at hq
          obtain ⟨⟨⟨⟨hq1, hq2⟩, hq3⟩, hq4⟩, hq5⟩ := hq
          obtain ⟨i, zv, hi, rfl, hsi, hzi, rfl⟩ := bytesA_spec hby h2 hz
          have hb6 := Nat.le_of_ble_eq_true hq3
          have hb0 : 0 < i.bytes := by simpa [Nat.blt_eq] using hq4
          have hzl := acells_rel (ofV_rel ρ zv) (nb_ne hq1)
          have hzs : zv.cells.size = sz := by
            have e1 := hzl.len
            have e2 : (acells (ofV zv)).length = sz := by rw [← len_eq]; simpa [Nat.beq_eq] using hq2
            rw [e2] at e1; simpa using e1
          cases hint : isIntT P ts[1]? with
          | true =>
            rw [hint, cond_true] at hv
            obtain ⟨xt, k, hts, hd⟩ : ∃ xt k, ts[1]? = some xt ∧ P.underlying xt = some (.int k) := by
              unfold isIntT at hint
              split at hint
              · rename_i xt hts
                split at hint
                · rename_i k hd; exact ⟨xt, k, hts, hd⟩
                · cases hint
              · cases hint
            split at hv
            · rename_i k' n
              simp only [VRel] at hx; subst hx
              cases hn6 : Nat.ble n 65536 with
              | false => rw [hn6] at hv; cases hv
              | true =>
                rw [hn6, cond_true] at hv
                have hn6 := Nat.le_of_ble_eq_true hn6
                have hnew : LRel ρ (reps (acells (ofV zv)) n) (if n * sz = 0 then (#[] : Array Value) else Builtin.zeroCells zv.cells n).toList := by
                  by_cases h0 : n * sz = 0
                  · rw [if_pos h0]
                    have e0 : reps (acells (ofV zv)) n = [] := List.length_eq_zero_iff.1 (by rw [reps_len]; have := hzl.len; simp [hzs] at this; rw [← this]; exact h0)
                    rw [e0]; simp [LRel]
                  · rw [if_neg h0]
                    exact reps_spec zv.cells n _ hzl (n * zv.cells.size) rfl
                refine app_sound (P := P) (run := fun sv w => (Builtin.append_ ts ty #[sv, .int k' (Int.ofNat n)]).run P w) (e := e) hzs hR hs hnew hnew (by rw [reps_len]; have := hzl.len; simp [hzs] at this; rw [← this]) hn6 hv ?_ ?_
                · intro b l c w' c1 c2 c3
                  exact appB_in ht h1 h2 hts hd hi hzi hb6 hn6 rfl c1 c2 c3
                · intro b l c old c1 c2 c3
                  exact appB_out ht h1 h2 hts hd hi hzi hb6 hn6 rfl c1 c2 c3
            · cases hv
          | false =>
            rw [hint, cond_false] at hv
            have hni : NotInt P ts[1]? := by
              unfold NotInt
              cases hts : ts[1]? with
              | none => trivial
              | some xt =>
                rw [hts] at hint hq5
                simp only [typedT] at hq5
                obtain ⟨d, hd⟩ := Option.isSome_iff_exists.1 hq5
                refine ⟨d, hd, fun k ek => ?_⟩
                simp only [isIntT, hd, ek] at hint; cases hint
            split at hv
            · rename_i n hn
              split at hv
              · rename_i new hsrc
                cases hn6 : Nat.ble n 65536 with
                | false => rw [hn6] at hv; cases hv
                | true =>
                  rw [hn6, cond_true] at hv
                  have hn6 := Nat.le_of_ble_eq_true hn6
                  obtain ⟨vs, e1, e2, e3⟩ := srcCells_sound (P := P) hR hx hn (Nat.le_refl _) hsrc
                  obtain ⟨vs2, f1, f2, f3⟩ := srcCells_sound (P := P) hR.drew hx hn (Nat.le_refl _) hsrc
                  have hlo := lenOfA_sound (P := P) (w := w) hx hn
                  refine app_sound (P := P) (run := fun sv w => (Builtin.append_ ts ty #[sv, x']).run P w) (e := e) hzs hR hs e2 f2 e3 hn6 hv ?_ ?_
                  · intro b l c w' c1 c2 c3
                    exact appA_in ht h1 h2 hni hlo e1 c1 c2 c3
                  · intro b l c old c1 c2 c3
                    exact appA_out ht h1 h2 hni hlo hi hzi hb6 hb0 c1 c2 c3 f1
              · cases hv
            · cases hv
      · cases hv
    · cases hv
  · cases hv
end Go.Fv
