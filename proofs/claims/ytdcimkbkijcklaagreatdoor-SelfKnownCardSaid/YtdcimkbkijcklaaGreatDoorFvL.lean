/-
  Ev, part L: the operations that only read.
-/
import Derived.Test.YtdcimkbkijcklaaGreatDoorFvN
import Derived.Laws.Sem
import Derived.Laws.Strings
import Derived.Orders
namespace Go.Fv
open Go.RowKit

theorem ofV1_rel (ρ : Rho) (v : Value) : VRel ρ (ofV1 v) v := by
  unfold ofV1; split <;> simp [VRel]
theorem ofVs_rel (ρ : Rho) (l : List Value) : LRel ρ (ofVs l) l := by
  induction l with
  | nil => simp [ofVs, LRel]
  | cons v l ih =>
    have e : ofVs (v :: l) = ofV1 v :: ofVs l := rfl
    rw [e]; simp only [LRel]; exact ⟨v, l, rfl, ofV1_rel ρ v, ih⟩
theorem ofV_rel (ρ : Rho) (v : Value) : VRel ρ (ofV v) v := by
  unfold ofV
  split
  · rename_i cs; simp only [VRel]; exact ⟨cs, rfl, ofVs_rel ρ _⟩
  · rename_i cs; simp only [VRel]; exact ⟨cs, rfl, ofVs_rel ρ _⟩
  · rename_i t v; simp only [VRel]; exact ⟨v, rfl, ofV1_rel ρ v⟩
  · exact ofV1_rel ρ _

variable {P : Program} {w : World}
theorem run_val {s : Sem Value} {u : Value} {w w' : World} (h : s.run P w = .ok u w') : ((do let x ← s; pure (Next.value x)) : Sem Next).run P w = .ok (.value u) w' := by rw [Sem.run_bind, h]; rfl
theorem run_skp {s : Sem Unit} {w w' : World} (h : s.run P w = .ok () w') : ((do s; pure Next.skip) : Sem Next).run P w = .ok .skip w' := by rw [Sem.run_bind, h]; rfl

theorem run_under {t : TypeId} {d : TypeDesc} (h : P.underlying t = some d) (w : World) : (underlying t).run P w = .ok d w := by simp [underlying, h]
theorem run_info {t : TypeId} {i : TypeInfo} (h : P.info? t = some i) (w : World) : (typeInfo t).run P w = .ok i w := by simp [typeInfo, h]
theorem run_size {t : TypeId} {n : Nat} (h : sizeA P t = some n) (w : World) : (sizeOf t).run P w = .ok n w := by
  unfold sizeA at h
  cases hi : P.info? t with
  | none => rw [hi] at h; cases h
  | some i => rw [hi] at h; simp at h; simp [sizeOf, typeInfo, hi, h]
theorem run_zero {t : TypeId} {z : AV} (h : zeroA P t = some z) (w : World) (ρ : Rho) : ∃ v, (zeroValue t).run P w = .ok v w ∧ VRel ρ z v := by
  unfold zeroA at h
  cases hi : P.info? t with
  | none => rw [hi] at h; cases h
  | some i =>
    rw [hi] at h; simp only [Option.bind_some] at h
    cases hz : i.zero with
    | none => rw [hz] at h; cases h
    | some v =>
      rw [hz] at h; simp only [Option.map_some, Option.some.injEq] at h; subst h
      exact ⟨v, by simp [zeroValue, typeInfo, hi, hz], ofV_rel ρ v⟩

theorem acells_rel {ρ : Rho} {a : AV} {v : Value} (h : VRel ρ a v) (hn : a ≠ .bad) : LRel ρ (acells a) v.cells.toList := by
  have sing : ∀ {a : AV} {v : Value}, VRel ρ a v → LRel ρ [a] [v] := fun h => by simp only [LRel]; exact ⟨_, _, rfl, h, rfl⟩
  cases a with
  | agg cs => simp only [VRel] at h; obtain ⟨vs, rfl, h⟩ := h; exact h
  | bad => exact absurd rfl hn
  | bool b => simp only [VRel] at h; subst h; exact sing (by simp only [VRel])
  | int k n => simp only [VRel] at h; subst h; exact sing (by simp only [VRel])
  | str s => simp only [VRel] at h; subst h; exact sing (by simp only [VRel])
  | ptr i o => have h' := h; simp only [VRel] at h; obtain ⟨t, _, rfl⟩ := h; exact sing h'
  | nilp => simp only [VRel] at h; subst h; exact sing (by simp only [VRel])
  | slice i o l c e x => have h' := h; simp only [VRel] at h; obtain ⟨_, _, _, rfl, _⟩ := h; exact sing h'
  | nils => simp only [VRel] at h; subst h; exact sing (by simp only [VRel])
  | fn f cs => have h' := h; simp only [VRel] at h; obtain ⟨_, rfl, _⟩ := h; exact sing h'
  | nilf => simp only [VRel] at h; subst h; exact sing (by simp only [VRel])
  | iface t x => have h' := h; simp only [VRel] at h; obtain ⟨_, rfl, _⟩ := h; exact sing h'
  | nili => simp only [VRel] at h; subst h; exact sing (by simp only [VRel])
  | map i => have h' := h; simp only [VRel] at h; obtain ⟨_, _, rfl⟩ := h; exact sing h'
  | nilm => simp only [VRel] at h; subst h; exact sing (by simp only [VRel])
  | tup cs => have h' := h; simp only [VRel] at h; obtain ⟨_, rfl, _⟩ := h; exact sing h'

/-- A row of cells that are loaded. -/
theorem run_loadFrom {b o : Nat} : ∀ (n i : Nat) (acc : Array Value) (vs : List Value), vs.length = n → (∀ k v, vs[k]? = some v → w.cell? ⟨b, o + (i + k), none⟩ = some v) →
    (loadCellsFrom ⟨b, o, none⟩ i n acc).run P w = .ok (acc ++ vs.toArray) w
  | 0, i, acc, vs, hn, _ => by
    obtain rfl := List.length_eq_zero_iff.1 hn
    simp [loadCellsFrom]
  | n + 1, i, acc, [], hn, _ => by simp at hn
  | n + 1, i, acc, v :: vs, hn, h => by
    have h0 := h 0 v (by simp)
    have ha : (⟨b, o, none⟩ : Addr).add i = ⟨b, o + i, none⟩ := by unfold Addr.add; by_cases hi : i = 0 <;> simp [hi]
    have hc : w.cell? ⟨b, o + i, none⟩ = some v := by simpa using h0
    rw [loadCellsFrom, Sem.run_bind, ha, run_load, hc]
    simp only [Result.andThen_ok]
    have hr : ∀ (k : Nat) (u : Value), vs[k]? = some u → w.cell? ⟨b, o + (i + 1 + k), none⟩ = some u := fun k u e => by
      have h1 := h (k + 1) u (by simpa using e)
      have e2 : o + (i + 1 + k) = o + (i + (k + 1)) := by omega
      rw [e2]; exact h1
    rw [run_loadFrom n (i + 1) (acc.push v) vs (by simpa using hn) hr]
    simp

theorem addr_add0 (b o k : Nat) : (⟨b, o, none⟩ : Addr).add k = ⟨b, o + k, none⟩ := by unfold Addr.add; by_cases hi : k = 0 <;> simp [hi]

section
variable {ρ : Rho} {N : Nat} {g : Nat → Blk} {base : Nat} {w0 : World}

theorem Rel.loads (h : Rel ρ N g base w0 w) {i off n : Nat} {t : Tgt} {cs : List AV} (hi : ρ i = some t) (hg : g i = .cells cs) (hn : off + n ≤ cs.length) :
    ∃ vs : Array Value, (loadCells ⟨t.b, t.d + off, none⟩ n).run P w = .ok vs w ∧ LRel ρ ((cs.drop off).take n) vs.toList := by
  obtain ⟨c, e, f, h1, h2, h3, h4, h5⟩ := (h.blk i t cs hi hg).2.ex
  have hl : ((c.toList.drop (t.d + off)).take n).length = n := by simp; omega
  refine ⟨((c.toList.drop (t.d + off)).take n).toArray, ?_, ?_⟩
  · unfold loadCells
    rw [run_loadFrom n 0 #[] ((c.toList.drop (t.d + off)).take n) hl (fun k v e => ?_)]
    · simp
    · have hk : k < n := by
        have := (List.getElem?_eq_some_iff.1 e).1; omega
      rw [List.getElem?_take_of_lt hk, List.getElem?_drop] at e
      simp only [World.cell?, h1]
      have e2 : t.d + off + (0 + k) = t.d + off + k := by omega
      rw [e2]
      simpa using e
  · refine LRel.of (by simp; omega) (fun k a e => ?_)
    have hk : k < n := by have := (List.getElem?_eq_some_iff.1 e).1; simp at this; omega
    rw [List.getElem?_take_of_lt hk, List.getElem?_drop] at e
    obtain ⟨v, k1, k2⟩ := h5 _ _ e
    refine ⟨v, ?_, k2⟩
    rw [List.getElem?_take_of_lt hk, List.getElem?_drop]
    have e2 : t.d + off + k = t.d + (off + k) := by omega
    rw [e2]; simpa using k1

theorem ldk_many {P : Program} {t : TypeId} {n : Nat} (h : ldk P t = .many n) : sizeA P t = some n ∧ ∀ w, (isAgg t).run P w = .ok true w := by
  unfold ldk at h
  split at h
  · rename_i hu
    split at h
    · rename_i hs; obtain rfl := Ld.many.inj h; exact ⟨hs, fun w => by simp [isAgg, underlying, hu]⟩
    · cases h
  · rename_i hu
    split at h
    · rename_i hs; obtain rfl := Ld.many.inj h; exact ⟨hs, fun w => by simp [isAgg, underlying, hu]⟩
    · cases h
  · cases h
  · cases h
theorem ldk_one {P : Program} {t : TypeId} (h : ldk P t = .one) : ∀ w, (isAgg t).run P w = .ok false w := by
  unfold ldk at h
  split at h
  · split at h <;> cases h
  · split at h <;> cases h
  · rename_i d h1 h2 hu
    intro w
    simp only [isAgg, underlying, Sem.run_bind, run_program, Result.andThen_ok, hu, Sem.run_pure]
  · cases h

theorem Rel.loadVar (h : Rel ρ N g base w0 w) {i off : Nat} {t : Tgt} {cs : List AV} {ty : TypeId} {v : AV} (hi : ρ i = some t) (hg : g i = .cells cs) (hv : partA P ty cs off = some v) :
    ∃ u, (Go.loadVar ty ⟨t.b, t.d + off, none⟩).run P w = .ok u w ∧ VRel ρ v u := by
  unfold partA at hv
  split at hv
  · rename_i n hl
    obtain ⟨hs, ha⟩ := ldk_many hl
    rw [slc_eq] at hv
    split at hv
    · rename_i hn
      simp only [Option.map_some, Option.some.injEq] at hv; subst hv
      obtain ⟨vs, e1, e2⟩ := h.loads (P := P) hi hg hn
      exact ⟨.agg vs, by simp [Go.loadVar, ha w, run_size hs w, e1], by simp only [VRel]; exact ⟨vs, rfl, e2⟩⟩
    · cases hv
  · rename_i hl
    rw [nth_eq] at hv
    obtain ⟨u, e1, e2⟩ := h.load hi hg hv
    exact ⟨u, by simp [Go.loadVar, ldk_one hl w, e1], e2⟩
  · cases hv

theorem loadA_sound (h : Rel ρ N g base w0 w) {hp : Heap} (hg : hp.get = g) {ty : TypeId} {x v : AV} {u : Value} (hx : VRel ρ x u) (hv : loadA P ty x hp = some v) :
    ∃ y, (Instr.loadAt ty u).run P w = .ok y w ∧ VRel ρ v y ∧ ∃ ad, u = .pointer (some ad) ∧ (Go.loadVar ty ad).run P w = .ok y w := by
  unfold loadA at hv
  split at hv
  · rename_i id off
    split at hv
    · rename_i cs hc
      simp only [VRel] at hx
      obtain ⟨t, et, rfl⟩ := hx
      obtain ⟨y, e1, e2⟩ := h.loadVar et (hg ▸ hc) hv
      exact ⟨y, by simp [Instr.loadAt, Instr.sureAddr, e1], e2, _, rfl, e1⟩
    · cases hv
  · cases hv

theorem partA_sound {ty : TypeId} {cs : List AV} {vs : Array Value} {off : Nat} {v : AV} (hc : LRel ρ cs vs.toList) (hv : partA P ty cs off = some v) :
    ∃ u, (part ty vs off).run P w = .ok u w ∧ VRel ρ v u := by
  unfold partA at hv
  split at hv
  · rename_i n hl
    obtain ⟨hs, ha⟩ := ldk_many hl
    rw [slc_eq] at hv
    split at hv
    · rename_i hn
      simp only [Option.map_some, Option.some.injEq] at hv; subst hv
      refine ⟨.agg (vs.extract off (off + n)), by simp [part, ha w, run_size hs w], ?_⟩
      simp only [VRel]
      refine ⟨_, rfl, ?_⟩
      have e : (vs.extract off (off + n)).toList = (vs.toList.drop off).take n := by
        rw [Array.toList_extract, List.extract_eq_take_drop]; congr 1; omega
      rw [e]; exact (hc.drop off).take n
    · cases hv
  · rename_i hl
    rw [nth_eq] at hv
    obtain ⟨u, e1, e2⟩ := hc.get hv
    refine ⟨u, ?_, e2⟩
    have e3 : vs[off]? = some u := by simpa using e1
    simp [part, ldk_one hl w, e3]
  · cases hv
end
end Go.Fv
