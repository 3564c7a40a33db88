/-
  Ev, part H2: append and copy.
-/
import Derived.Test.YtdcimkbkijcklaaGreatDoorFvH
namespace Go.Fv
open Go.RowKit

variable {P : Program} {w w0 : World} {ρ : Rho} {N : Nat} {base : Nat} {g : Nat → Blk}

theorem lenOfA_sound {x : AV} {n : Nat} {x' : Value} (hx : VRel ρ x x') (h : lenOfA x = some n) : (Builtin.lenOf x').run P w = .ok n w := by
  unfold lenOfA at h
  split at h
  · simp only [VRel] at hx; subst hx; obtain rfl := Option.some.inj h; rfl
  · obtain ⟨a, c', rfl, _⟩ := slice_pos hx; obtain rfl := Option.some.inj h; rfl
  · simp only [VRel] at hx; subst hx; obtain rfl := Option.some.inj h; rw [lenB_eq]; rfl
  · cases h

theorem ofBytes_spec (ρ : Rho) : ∀ (l : List UInt8), LRel ρ (ofBytes l) (l.map fun b => Value.int .u8 b.toNat)
  | [] => by
    have e : ofBytes [] = [] := rfl
    rw [e]; simp [LRel]
  | b :: l => by
    have e : ofBytes (b :: l) = .int .u8 (.ofNat b.toNat) :: ofBytes l := rfl
    rw [e]; simp only [List.map_cons, LRel, VRel]
    exact ⟨_, _, rfl, rfl, ofBytes_spec ρ l⟩
theorem ofBytes_len (l : List UInt8) : (ofBytes l).length = l.length := by
  have := (ofBytes_spec (fun _ => none) l).len
  simpa using this.symm

theorem srcCells_sound {x : AV} {sz n m : Nat} {h : Heap} {new : List AV} {x' : Value} (hR : Rel ρ N h.get base w0 w) (hx : VRel ρ x x') (hm : lenOfA x = some m) (hnm : n ≤ m) (hs : srcCells x sz n h = some new) :
    ∃ vs : Array Value, (Builtin.firstCells sz n x').run P w = .ok vs w ∧ LRel ρ new vs.toList ∧ new.length = n * sz := by
  unfold srcCells at hs
  split at hs
  · obtain ⟨hb, hs⟩ := cond_some hs
    obtain rfl := Option.some.inj hs
    simp only [VRel] at hx; subst hx
    have hn : n = 0 := by simpa [Nat.beq_eq] using hb
    exact ⟨#[], rfl, by simp [LRel], by simp [hn]⟩
  · rename_i id off l cap es op
    obtain ⟨a, c', rfl, k0, k1, k2, k3⟩ := slice_pos hx
    obtain rfl := Option.some.inj hm
    have zero : n * sz = 0 → new = [] → ∃ vs : Array Value, (Builtin.firstCells sz n (.slice (some a) l c')).run P w = .ok vs w ∧ LRel ρ new vs.toList ∧ new.length = n * sz := fun h0 e => by
      subst e
      exact ⟨#[], by simp only [Builtin.firstCells, h0]; rfl, by simp [LRel], by simp [h0]⟩
    split at hs
    · rename_i cs hc
      obtain ⟨hn, rfl⟩ := slc_spec hs
      rcases k3 with k3 | ⟨t, et, rfl, k4⟩
      · have : n = 0 := by omega
        subst this
        exact zero (by simp) (by simp)
      · obtain ⟨vs, e1, e2⟩ := hR.loads (P := P) et hc hn
        exact ⟨vs, e1, e2, by simp; omega⟩
    · obtain ⟨hb, hs⟩ := cond_some hs
      obtain rfl := Option.some.inj hs
      exact zero (by simpa [Nat.beq_eq] using hb) rfl
  · rename_i s
    simp only [VRel] at hx; subst hx
    obtain rfl := Option.some.inj hm
    obtain ⟨hb, hs⟩ := cond_some hs
    have hsz : sz = 1 := by simpa [Nat.beq_eq] using hb
    rw [takeN_eq] at hs
    split at hs
    · rename_i hn
      obtain rfl := Option.some.inj hs
      refine ⟨((ByteArray.mk ⟨s⟩).extract 0 n).data.map fun b => .int .u8 b.toNat, rfl, ?_, by simp [hsz]; omega⟩
      rw [bytes_extract]
      simp only [List.drop_zero, Array.toList_map]
      have := (ofBytes_spec ρ s).take n
      rw [← List.map_take] at this
      exact this
    · cases hs
  · cases hs

theorem firstCells_zero {x : AV} {m sz : Nat} {x' : Value} (hx : VRel ρ x x') (hm : lenOfA x = some m) : ∃ vs : Array Value, (Builtin.firstCells sz 0 x').run P w = .ok vs w ∧ vs.toList = [] := by
  unfold lenOfA at hm
  split at hm
  · simp only [VRel] at hx; subst hx; exact ⟨#[], rfl, rfl⟩
  · obtain ⟨a, c', rfl, _⟩ := slice_pos hx; exact ⟨#[], by simp only [Builtin.firstCells, Nat.zero_mul]; rfl, rfl⟩
  · rename_i s; simp only [VRel] at hx; subst hx
    refine ⟨_, rfl, ?_⟩
    rw [bytes_extract]; simp
  · cases hm

theorem Ext.putSame {h : Heap} {i : Nat} {cs : List AV} (hi : h.get i = .cells cs) : Ext ρ h ρ (h.put i (.cells cs)) :=
  ⟨ρ.le_refl, Nat.le_refl _, fun _ _ e => e, fun k _ e => by
    by_cases hk : k = i
    · subst hk; rw [Heap.get_put_some h _ (by rw [hi]; intro q; cases q), hi]
    · exact Heap.get_put_ne h hk _⟩
theorem Rel.putSame {h : Heap} {i : Nat} {cs : List AV} (hR : Rel ρ N h.get base w0 w) (hi : h.get i = .cells cs) : Rel ρ N (h.put i (.cells cs)).get base w0 w :=
  hR.weaken (Nat.le_refl _) fun j t _ => by
    left
    by_cases hk : j = i
    · subst hk; rw [Heap.get_put_some h _ (by rw [hi]; intro q; cases q), hi]
    · rw [Heap.get_put_ne h hk (.cells cs)]

theorem copyA_sound {ts : Array TypeId} {ty : TypeId} {d x v : AV} {h h' : Heap} {d' x' : Value} (hR : Rel ρ h.next h.get base w0 w) (hd : VRel ρ d d') (hx : VRel ρ x x') (hv : copyA P ts d x h = .val v h') :
    ∃ w' u, (Builtin.copy_ ts ty #[d', x']).run P w = .ok u w' ∧ VRel ρ v u ∧ Rel ρ h'.next h'.get base w0 w' ∧ Ext ρ h ρ h' := by
  unfold copyA at hv
  split at hv
  · rename_i t ht
    split at hv
    · rename_i e sz m hs hm
      obtain ⟨h1, h2⟩ := slElem_spec hs
      have hl := lenOfA_sound (P := P) (w := w) hx hm
      split at hv
      · obtain ⟨rfl, rfl⟩ := OR.val.inj hv
        simp only [VRel] at hd; subst hd
        obtain ⟨vs, e1, _⟩ := firstCells_zero (P := P) (w := w) (sz := sz) hx hm
        refine ⟨w, .int .i64 0, ?_, by simp only [VRel], hR, Ext.refl _ _⟩
        simp [Builtin.copy_, ht, run_under h1, hl, run_size h2, e1, goInt]
      · rename_i id off l cap es op
        obtain ⟨a, c', rfl, k0, k1, k2, k3⟩ := slice_pos hd
        split at hv
        · rename_i new cs hsrc hc
          cases hq : ones new with
          | false => rw [hq] at hv; cases hv
          | true =>
            rw [hq, cond_true] at hv
            split at hv
            · rename_i cs' hsp
              obtain ⟨hn, rfl⟩ := spl_spec hsp
              obtain ⟨rfl, rfl⟩ := OR.val.inj hv
              obtain ⟨vs, e1, e2, e3⟩ := srcCells_sound hR hx hm (Nat.min_le_left m l) hsrc
              have run : ∀ w', (storeCells a vs.toList).run P w = .ok () w' → (Builtin.copy_ ts ty #[.slice (some a) l c', x']).run P w = .ok (.int .i64 ((Nat.min m l : Nat) : Int)) w' := fun w' hw => by
                have e1' : (Builtin.firstCells sz (Nat.min m l) x').run P w = .ok vs w := e1
                simp only [Builtin.copy_, ht, List.getElem?_toArray, List.getElem?_cons_zero, List.getElem?_cons_succ, Sem.run_bind, run_under h1, Result.andThen_ok, hl, run_size h2, e1', hw, Sem.run_pure, goInt]
              rcases k3 with k3 | ⟨tt, et, rfl, k4⟩
              · have hl0 : l = 0 := by omega
                subst hl0
                have hnew : new = [] := List.length_eq_zero_iff.1 (by rw [e3]; simp)
                subst hnew
                have hvs : vs.toList = [] := List.length_eq_zero_iff.1 (by rw [e2.len]; rfl)
                refine ⟨w, _, run w (by rw [hvs]; rfl), by simp only [VRel]; rfl, ?_, ?_⟩
                · simp only [List.append_nil, List.length_nil, Nat.add_zero, List.take_append_drop]
                  exact hR.putSame hc
                · simp only [List.append_nil, List.length_nil, Nat.add_zero, List.take_append_drop]
                  exact Ext.putSame hc
              · obtain ⟨w', e4, e5⟩ := hR.stores (P := P) et hc e2 (ones_cell hq e2) hn
                exact ⟨w', _, run w' e4, by simp only [VRel]; rfl, Rel.put e5, Ext.put et _⟩
            · cases hv
        · cases hv
      · cases hv
    · cases hv
  · cases hv

/- append. -/
theorem growBy_le {need B : Nat} (hB : need + (need + 768) / 4 ≤ B) : ∀ (r c : Nat), c ≤ B → Builtin.growBy need r c ≤ B
  | 0, c, h => h
  | r + 1, c, h => by
    unfold Builtin.growBy
    split
    · exact h
    · exact growBy_le hB r _ (by omega)
theorem nextcap_le {need c : Nat} (h : c < need) : Builtin.nextslicecap need c ≤ 2 * need + 768 := by
  unfold Builtin.nextslicecap
  split
  · omega
  · split
    · omega
    · exact growBy_le (by omega) 4 c (by omega)

theorem bytesA_spec {e : TypeId} {b sz : Nat} {z : AV} (h1 : bytesA P e = some b) (h2 : sizeA P e = some sz) (h3 : zeroA P e = some z) : ∃ i zv, P.info? e = some i ∧ i.bytes = b ∧ i.size = sz ∧ i.zero = some zv ∧ z = ofV zv := by
  unfold bytesA at h1
  unfold sizeA at h2
  unfold zeroA at h3
  cases hi : P.info? e with
  | none => rw [hi] at h1; cases h1
  | some i =>
    rw [hi] at h1 h2 h3
    simp only [Option.map_some, Option.some.injEq, Option.bind_some] at h1 h2 h3
    cases hz : i.zero with
    | none => rw [hz] at h3; cases h3
    | some zv => rw [hz] at h3; simp at h3; exact ⟨i, zv, rfl, h1, h2, hz, h3.symm⟩

/-- The second argument's type, where cells are appended. -/
def NotInt (P : Program) (t : Option TypeId) : Prop := match t with | some t => ∃ d, P.underlying t = some d ∧ ∀ k, d ≠ .int k | none => True

section
variable {ts : Array TypeId} {t ty e : TypeId} {i : TypeInfo} {zv : Value} {n l c sz : Nat} {arr old : Array Value} {x' : Value} {base' : Option Addr}

theorem appA_in (ht : ts[0]? = some t) (h1 : P.underlying t = some (.slice e)) (h2 : sizeA P e = some sz) (h3 : NotInt P ts[1]?) (hl : (Builtin.lenOf x').run P w = .ok n w) (hf : (Builtin.firstCells sz n x').run P w = .ok arr w)
    (hn : l + n ≤ c) {w' : World} (hst : ∀ a, base' = some a → (storeCells (a.add (l * sz)) arr.toList).run P w = .ok () w') (hst0 : base' = none → w' = w) :
    (Builtin.append_ ts ty #[.slice base' l c, x']).run P w = .ok (.slice base' (l + n) c) w' := by
  unfold Builtin.append_
  simp only [ht, List.getElem?_toArray, List.getElem?_cons_zero, List.getElem?_cons_succ]
  cases hts : ts[1]? with
  | none =>
    simp only [Sem.run_bind, run_under h1, Result.andThen_ok, run_size h2, Bool.false_eq_true, if_false, hl, if_pos hn, Bool.not_false, if_true, hf, Sem.run_pure]
    cases base' with
    | none => rw [hst0 rfl]; rfl
    | some a => simp only [Sem.run_bind, hst a rfl, Result.andThen_ok, Sem.run_pure]
  | some xt =>
    rw [hts] at h3
    obtain ⟨d, hd, hnd⟩ := h3
    cases d <;> first | exact absurd rfl (hnd _) | skip
    all_goals
      simp only [Sem.run_bind, run_under h1, run_under hd, Result.andThen_ok, run_size h2, Bool.false_eq_true, if_false, hl, if_pos hn, Bool.not_false, if_true, hf, Sem.run_pure]
      cases base' with
      | none => rw [hst0 rfl]; rfl
      | some a => simp only [Sem.run_bind, hst a rfl, Result.andThen_ok, Sem.run_pure]

theorem appA_out (ht : ts[0]? = some t) (h1 : P.underlying t = some (.slice e)) (h2 : sizeA P e = some sz) (h3 : NotInt P ts[1]?) (hl : (Builtin.lenOf x').run P w = .ok n w) (hi : P.info? e = some i) (hz : i.zero = some zv)
    (hby : i.bytes ≤ 65536) (hby0 : 0 < i.bytes) (hn : ¬ l + n ≤ c) (hsm : l + n ≤ 1000000000) (ho : (Builtin.firstCells sz l (.slice base' l c)).run P w.drew = .ok old w.drew) (hf : (Builtin.firstCells sz n x').run P w.drew = .ok arr w.drew) :
    (Builtin.append_ ts ty #[.slice base' l c, x']).run P w = .ok (.slice (some ⟨w.heap.size, 0, none⟩) (l + n) (grownCap w (l + n) c e)) (w.drew.alloc (.cells (old ++ arr ++ Builtin.zeroCells zv.cells (grownCap w (l + n) c e - (l + n))) e)) := by
  have hnc := nextcap_le (Nat.lt_of_not_le hn)
  have hb : ¬ Builtin.nextslicecap (l + n) c * i.bytes > 2 ^ 48 := by
    have : Builtin.nextslicecap (l + n) c * i.bytes ≤ (2 * (l + n) + 768) * 65536 := Nat.mul_le_mul hnc hby
    omega
  have hmx : ¬ (((l + n : Nat) : Int) > IntKind.i64.max ∧ (False ∨ i.bytes = 0)) := by rintro ⟨_, h | h⟩ <;> omega
  unfold Builtin.append_
  simp only [ht, List.getElem?_toArray, List.getElem?_cons_zero, List.getElem?_cons_succ]
  cases hts : ts[1]? with
  | none =>
    simp only [Sem.run_bind, run_under h1, Result.andThen_ok, run_size h2, Bool.false_eq_true, if_false, hl, if_neg hn, Bool.not_false, if_true, run_info hi, if_neg hmx, if_neg hb, run_choose, Question.forced, World.drew_eq, Sem.run_pure]
    simp only [Result.andThen_ok, run_askRoom, ho, hf, zeroValue, Sem.run_bind, run_info hi, hz, Sem.run_pure, newRow, run_newObj, World.alloc_eq]
    rfl
  | some xt =>
    rw [hts] at h3
    obtain ⟨d, hd, hnd⟩ := h3
    cases d <;> first | exact absurd rfl (hnd _) | skip
    all_goals
      simp only [Sem.run_bind, run_under h1, run_under hd, Result.andThen_ok, run_size h2, Bool.false_eq_true, if_false, hl, if_neg hn, Bool.not_false, if_true, run_info hi, if_neg hmx, if_neg hb, run_choose, Question.forced, World.drew_eq, Sem.run_pure]
      simp only [Result.andThen_ok, run_askRoom, ho, hf, zeroValue, Sem.run_bind, run_info hi, hz, Sem.run_pure, newRow, run_newObj, World.alloc_eq]
      rfl

theorem zeroArr {z : Value} : (if n * sz = 0 then pure #[] else (do pure (Builtin.zeroCells (← zeroValue e).cells n) : Sem (Array Value))).run P w = .ok (if n * sz = 0 then #[] else Builtin.zeroCells z.cells n) w ∨ ¬ (zeroValue e).run P w = .ok z w := by
  by_cases hz : (zeroValue e).run P w = .ok z w
  · left
    by_cases h0 : n * sz = 0
    · rw [if_pos h0, if_pos h0]; rfl
    · rw [if_neg h0, if_neg h0]; simp only [Sem.run_bind, hz, Result.andThen_ok, Sem.run_pure]
  · exact .inr hz

theorem appB_in {xt : TypeId} {k k' : IntKind} (ht : ts[0]? = some t) (h1 : P.underlying t = some (.slice e)) (h2 : sizeA P e = some sz) (hts : ts[1]? = some xt) (hd : P.underlying xt = some (.int k)) (hi : P.info? e = some i) (hz : i.zero = some zv)
    (hby : i.bytes ≤ 65536) (hn6 : n ≤ 65536) (harr : arr = if n * sz = 0 then #[] else Builtin.zeroCells zv.cells n)
    (hn : l + n ≤ c) {w' : World} (hst : ∀ a, base' = some a → (storeCells (a.add (l * sz)) arr.toList).run P w = .ok () w') (hst0 : base' = none → w' = w) :
    (Builtin.append_ ts ty #[.slice base' l c, .int k' (Int.ofNat n)]).run P w = .ok (.slice base' (l + n) c) w' := by
  have hw : IntKind.i64.wrap (Int.ofNat n) = (n : Int) := by rw [Int.ofNat_eq_natCast]; exact IntWalk.i64_in _ (by omega)
  have hneg : ¬ ((n : Int) < 0) := by omega
  have hb : ¬ ((n : Int) * (i.bytes : Int) > 2 ^ 48) := by
    have : n * i.bytes ≤ 65536 * 65536 := Nat.mul_le_mul hn6 hby
    have h' : ((n * i.bytes : Nat) : Int) ≤ 4294967296 := by omega
    push_cast at h'; omega
  have hzr : (zeroValue e).run P w = .ok zv w := by simp [zeroValue, typeInfo, hi, hz]
  have hza := (zeroArr (n := n) (sz := sz) (z := zv) (e := e) (P := P) (w := w)).resolve_right (fun q => q hzr)
  rw [← harr] at hza
  unfold Builtin.append_
  simp only [ht, List.getElem?_toArray, List.getElem?_cons_zero, List.getElem?_cons_succ, hts]
  simp only [Sem.run_bind, run_under h1, run_under hd, Result.andThen_ok, run_size h2, Sem.run_pure, if_true, asInt, asIntOf, hw, if_neg hneg, run_info hi, if_neg hb, Int.toNat_natCast, if_pos hn, Bool.not_true, Bool.false_eq_true, if_false, hza]
  cases base' with
  | none => rw [hst0 rfl]; rfl
  | some a => simp only [Sem.run_bind, hst a rfl, Result.andThen_ok, Sem.run_pure]

theorem appB_out {xt : TypeId} {k k' : IntKind} (ht : ts[0]? = some t) (h1 : P.underlying t = some (.slice e)) (h2 : sizeA P e = some sz) (hts : ts[1]? = some xt) (hd : P.underlying xt = some (.int k)) (hi : P.info? e = some i) (hz : i.zero = some zv)
    (hby : i.bytes ≤ 65536) (hn6 : n ≤ 65536) (harr : arr = if n * sz = 0 then #[] else Builtin.zeroCells zv.cells n)
    (hn : ¬ l + n ≤ c) (hsm : l + n ≤ 1000000000) (ho : (Builtin.firstCells sz l (.slice base' l c)).run P w.drew = .ok old w.drew) :
    (Builtin.append_ ts ty #[.slice base' l c, .int k' (Int.ofNat n)]).run P w = .ok (.slice (some ⟨w.heap.size, 0, none⟩) (l + n) (grownCap w (l + n) c e)) (w.drew.alloc (.cells (old ++ arr ++ Builtin.zeroCells zv.cells (grownCap w (l + n) c e - (l + n))) e)) := by
  have hw : IntKind.i64.wrap (Int.ofNat n) = (n : Int) := by rw [Int.ofNat_eq_natCast]; exact IntWalk.i64_in _ (by omega)
  have hneg : ¬ ((n : Int) < 0) := by omega
  have hb0 : ¬ ((n : Int) * (i.bytes : Int) > 2 ^ 48) := by
    have : n * i.bytes ≤ 65536 * 65536 := Nat.mul_le_mul hn6 hby
    have h' : ((n * i.bytes : Nat) : Int) ≤ 4294967296 := by omega
    push_cast at h'; omega
  have hzr : (zeroValue e).run P w.drew = .ok zv w.drew := by simp [zeroValue, typeInfo, hi, hz]
  have hza := (zeroArr (n := n) (sz := sz) (z := zv) (e := e) (P := P) (w := w.drew)).resolve_right (fun q => q hzr)
  rw [← harr] at hza
  have hnc := nextcap_le (Nat.lt_of_not_le hn)
  have hb : ¬ Builtin.nextslicecap (l + n) c * i.bytes > 2 ^ 48 := by
    have : Builtin.nextslicecap (l + n) c * i.bytes ≤ (2 * (l + n) + 768) * 65536 := Nat.mul_le_mul hnc hby
    omega
  have hmx : ¬ (((l + n : Nat) : Int) > IntKind.i64.max ∧ (True ∨ i.bytes = 0)) := by
    have e : IntKind.i64.max = 9223372036854775807 := by decide
    rw [e]; omega
  unfold Builtin.append_
  simp only [ht, List.getElem?_toArray, List.getElem?_cons_zero, List.getElem?_cons_succ, hts]
  simp only [Sem.run_bind, run_under h1, run_under hd, Result.andThen_ok, run_size h2, Sem.run_pure, if_true, asInt, asIntOf, hw, if_neg hneg, run_info hi, if_neg hb0, Int.toNat_natCast, if_neg hn, if_neg hmx, if_neg hb, run_choose, Question.forced, World.drew_eq, Bool.not_true, Bool.false_eq_true, if_false]
  simp only [Result.andThen_ok, run_askRoom, ho, hza, hzr, Sem.run_bind, newRow, run_newObj, World.alloc_eq, Sem.run_pure]
  rfl
end
end Go.Fv
