/-
  Ev, part M: each reading operation by itself.
-/
import Derived.Test.YtdcimkbkijcklaaGreatDoorFvL
namespace Go.Fv
open Go.RowKit

variable {P : Program} {w w0 : World} {ρ : Rho} {N : Nat} {g : Nat → Blk} {base : Nat}

theorem pickA_sound {c a b v : AV} {c' a' b' : Value} (hc : VRel ρ c c') (ha : VRel ρ a a') (hb : VRel ρ b b') (h : pickA c a b = some v) :
    ∃ u, ((do pure (.value (if ← asBool c' then a' else b'))) : Sem Next).run P w = .ok (.value u) w ∧ VRel ρ v u := by
  unfold pickA at h
  split at h
  · simp only [VRel] at hc; subst hc; obtain rfl := Option.some.inj h; exact ⟨a', rfl, ha⟩
  · simp only [VRel] at hc; subst hc; obtain rfl := Option.some.inj h; exact ⟨b', rfl, hb⟩
  · cases h

theorem unA_sound {op : UnOp} {x v : AV} {x' : Value} (hx : VRel ρ x x') (h : unA op x = some v) : ∃ u, (Op.unary op x').run P w = .ok u w ∧ VRel ρ v u := by
  unfold unA at h
  split at h
  · simp only [VRel] at hx; subst hx; obtain rfl := Option.some.inj h; exact ⟨_, rfl, by simp only [VRel]⟩
  · simp only [VRel] at hx; subst hx; obtain rfl := Option.some.inj h; exact ⟨_, rfl, by simp only [VRel, wrapF_eq, isub_eq]⟩
  · simp only [VRel] at hx; subst hx; obtain rfl := Option.some.inj h; exact ⟨_, rfl, by simp only [VRel]⟩
  · cases h

theorem nilA_sound {x v : AV} {x' : Value} (hx : VRel ρ x x') (h : nilA x = some v) : v = x ∧ (x' ≠ .pointer none ∧ x' ≠ .nilIface ∧ x' ≠ .nilFunc ∧ ∀ m f c, x' ≠ .func (.method m) f c) := by
  unfold nilA at h
  split at h
  · obtain rfl := Option.some.inj h; simp only [VRel] at hx; obtain ⟨t, _, rfl⟩ := hx; exact ⟨rfl, by simp⟩
  · obtain rfl := Option.some.inj h; simp only [VRel] at hx; obtain ⟨t, rfl, _⟩ := hx; exact ⟨rfl, by simp⟩
  · obtain rfl := Option.some.inj h; simp only [VRel] at hx; obtain ⟨t, rfl, _⟩ := hx; exact ⟨rfl, by simp⟩
  · cases h

theorem fld_spec {s : TypeId} {f : Nat} {p : Nat × TypeId} (h : fld P s f = some p) : ∃ fields fd, P.underlying s = some (.struct fields) ∧ fields[f]? = some fd ∧ fd.offset = p.1 ∧ fd.type = p.2 ∧ ∃ n, sizeA P fd.type = some (n + 1) := by
  unfold fld at h
  split at h
  · rename_i fields hu
    split at h
    · rename_i fd hf
      split at h
      · rename_i n hs; obtain rfl := Option.some.inj h; exact ⟨fields, fd, hu, hf, rfl, rfl, n, hs⟩
      · cases h
    · cases h
  · cases h

theorem fieldAddr_sound {s : TypeId} {id off f : Nat} {p : Nat × TypeId} {x' : Value} (hx : VRel ρ (.ptr id off) x') (h : fld P s f = some p) :
    ∃ u, (Instr.fieldAt s x' f).run P w = .ok u w ∧ VRel ρ (.ptr id (off + p.1)) u := by
  obtain ⟨fields, fd, h1, h2, h3, h4, n, h5⟩ := fld_spec h
  simp only [VRel] at hx
  obtain ⟨t, et, rfl⟩ := hx
  refine ⟨.pointer (some ⟨t.b, t.d + (off + p.1), none⟩), ?_, by simp only [VRel]; exact ⟨t, et, rfl⟩⟩
  simp only [Instr.fieldAt, Sem.run_bind, run_under h1, Result.andThen_ok, h2, Instr.sureAddr, Sem.run_pure, fieldPlace, run_size h5, Nat.add_one_ne_zero, if_false]
  rw [addr_add0, h3]
  have e : t.d + off + p.1 = t.d + (off + p.1) := by omega
  rw [e]

theorem field_sound {s : TypeId} {f : Nat} {p : Nat × TypeId} {cs : List AV} {v : AV} {x' : Value} (hx : VRel ρ (.agg cs) x') (h : fld P s f = some p) (hv : partA P p.2 cs p.1 = some v) :
    ∃ u, (Instr.field s x' f).run P w = .ok u w ∧ VRel ρ v u := by
  obtain ⟨fields, fd, h1, h2, h3, h4, n, h5⟩ := fld_spec h
  simp only [VRel] at hx
  obtain ⟨vs, rfl, hl⟩ := hx
  obtain ⟨u, e1, e2⟩ := partA_sound (P := P) (w := w) hl hv
  refine ⟨u, ?_, e2⟩
  simp only [Instr.field, Sem.run_bind, run_under h1, Result.andThen_ok, h2, asAgg, Sem.run_pure]
  rw [h3, h4]; exact e1

theorem slElem_spec {t e : TypeId} {n : Nat} (h : slElem P t = some (e, n)) : P.underlying t = some (.slice e) ∧ sizeA P e = some n := by
  unfold slElem at h
  split at h
  · rename_i e' hu
    cases hs : sizeA P e' with
    | none => rw [hs] at h; cases h
    | some k => rw [hs] at h; simp only [Option.map_some, Option.some.injEq, Prod.mk.injEq] at h; obtain ⟨rfl, rfl⟩ := h; exact ⟨hu, hs⟩
  · cases h
theorem arElem_spec {t e : TypeId} {n k : Nat} (h : arElem P t = some (n, e, k)) : P.underlying t = some (.array n e) ∧ sizeA P e = some k := by
  unfold arElem at h
  split at h
  · rename_i n' e' hu
    cases hs : sizeA P e' with
    | none => rw [hs] at h; cases h
    | some k => rw [hs] at h; simp only [Option.map_some, Option.some.injEq, Prod.mk.injEq] at h; obtain ⟨rfl, rfl, rfl⟩ := h; exact ⟨hu, hs⟩
  · cases h

theorem slice_pos {id off len cap es : Nat} {op : Bool} {x' : Value} (h : VRel ρ (.slice id off len cap es op) x') :
    ∃ a c', x' = .slice (some a) len c' ∧ len ≤ cap ∧ cap ≤ c' ∧ (op = false → c' = cap) ∧ (c' = 0 ∨ ∃ t, ρ id = some t ∧ a = ⟨t.b, t.d + off, none⟩ ∧ off + c' * es ≤ t.n) := by
  simp only [VRel] at h
  obtain ⟨a, c', t, e1, e2, e3, e4, e5, e6⟩ := h
  exact ⟨a, c', e1, e2, e3, e4, e6.imp (fun q => q) fun e => ⟨t, e5, e⟩⟩
theorem slice_rho {id off len cap es : Nat} {op : Bool} {x' : Value} (h : VRel ρ (.slice id off len cap es op) x') : ∃ t, ρ id = some t := by
  simp only [VRel] at h
  obtain ⟨a, c', t, e1, e2, e3, e4, e5, e6⟩ := h
  exact ⟨t, e5⟩

/-- A slice whose length is no more than its room. -/
theorem idxAddr_sound {t : TypeId} {x i v : AV} {x' i' : Value} (_hR : Rel ρ N g base w0 w) (hx : VRel ρ x x') (hi : VRel ρ i i') (h : idxAddrA P t x i = some v) :
    ∃ u, (Instr.indexAt t x' i').run P w = .ok u w ∧ VRel ρ v u := by
  unfold idxAddrA at h
  split at h
  · rename_i k n
    simp only [VRel] at hi; subst hi
    split at h
    · rename_i id off l cap es op
      split at h
      · rename_i e sz hs
        obtain ⟨h1, h2⟩ := slElem_spec hs
        obtain ⟨hb, h⟩ := cond_some h
        obtain rfl := Option.some.inj h
        obtain ⟨a, c', rfl, k0, k1, k2, k3⟩ := slice_pos hx
        have hn : n < l := by simpa [Nat.blt_eq] using hb
        have hc : (0 : Int) ≤ Int.ofNat n ∧ Int.ofNat n < (l : Int) := by rw [Int.ofNat_eq_natCast]; omega
        rcases k3 with k3 | ⟨tt, et, rfl, k4⟩
        · omega
        refine ⟨.pointer (some ⟨tt.b, tt.d + (off + n * sz), none⟩), ?_, by simp only [VRel]; exact ⟨tt, et, rfl⟩⟩
        simp only [Instr.indexAt, asIntOf, Sem.run_bind, Sem.run_pure, Result.andThen_ok, run_under h1, if_pos hc, run_size h2]
        rw [addr_add0]
        have e : tt.d + off + (Int.ofNat n).toNat * sz = tt.d + (off + n * sz) := by show tt.d + off + n * sz = _; omega
        rw [e]
      · cases h
    · rename_i id off
      split at h
      · rename_i l e sz hs
        obtain ⟨h1, h2⟩ := arElem_spec hs
        obtain ⟨hb, h⟩ := cond_some h
        obtain rfl := Option.some.inj h
        simp only [VRel] at hx
        obtain ⟨tt, et, rfl⟩ := hx
        have hn : n < l := by simpa [Nat.blt_eq] using hb
        refine ⟨.pointer (some ⟨tt.b, tt.d + (off + n * sz), none⟩), ?_, by simp only [VRel]; exact ⟨tt, et, rfl⟩⟩
        have hc : (0 : Int) ≤ Int.ofNat n ∧ Int.ofNat n < (l : Int) := by rw [Int.ofNat_eq_natCast]; omega
        simp only [Instr.indexAt, asIntOf, Sem.run_bind, Sem.run_pure, Result.andThen_ok, run_under h1, Instr.sureAddr, if_pos hc, run_size h2]
        rw [addr_add0]
        have e : tt.d + off + (Int.ofNat n).toNat * sz = tt.d + (off + n * sz) := by show tt.d + off + n * sz = _; omega
        rw [e]
      · cases h
    · cases h
  · cases h
end Go.Fv
