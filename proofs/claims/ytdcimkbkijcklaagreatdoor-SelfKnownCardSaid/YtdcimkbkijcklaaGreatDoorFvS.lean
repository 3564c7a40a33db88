/-
  Ev, part S: all reading operations together.
-/
import Derived.Test.YtdcimkbkijcklaaGreatDoorFvMp
namespace Go.Fv
open Go.RowKit

variable {P : Program} {w w0 : World} {ρ : Rho} {N : Nat} {base : Nat}

theorem light_sound {o : Oper} {tm : Tm} {hp : Heap} {a : Act} {v : AV} (hR : Rel ρ N hp.get base w0 w) (ho : ∀ x ∈ o.op.operands.toList, VRel ρ (ev tm x) (a.eval x))
    (h : lightE P o tm hp = some v) :
    ∃ u, (execOp a.eval o).run P w = .ok (.value u) w ∧ VRel ρ v u := by
  obtain ⟨dst, op, type, pos, after, guard⟩ := o
  unfold lightE at h
  simp only at h ho
  split at h
  · rename_i x; obtain rfl := Option.some.inj h
    exact ⟨a.eval x, rfl, ho x (by simp [Op.operands])⟩
  · rename_i x; obtain rfl := Option.some.inj h
    exact ⟨a.eval x, rfl, ho x (by simp [Op.operands])⟩
  · rename_i c x y
    exact pickA_sound (ho c (by simp [Op.operands])) (ho x (by simp [Op.operands])) (ho y (by simp [Op.operands])) h
  · rename_i t ps
    have hps : PsRel ρ (evps tm ps.toList) (ps.map fun p => (p.1, a.eval p.2)).toList := by
      rw [Array.toList_map]
      exact evps_rel ps.toList fun x hx => ho x.2 (by simp only [Op.operands, List.toList_toArray, List.mem_map]; exact ⟨x, hx, rfl⟩)
    obtain ⟨u, e1, e2⟩ := buildA_sound (w := w) hps h
    exact ⟨u, run_val e1, e2⟩
  · rename_i t x
    obtain ⟨u, e1, e2, _⟩ := loadA_sound (P := P) hR rfl (ho x (by simp [Op.operands])) h
    exact ⟨u, run_val e1, e2⟩
  · rename_i x
    have hx := ho x (by simp [Op.operands])
    obtain ⟨rfl, h1, h2, h3, h4⟩ := nilA_sound hx h
    refine ⟨a.eval x, ?_, hx⟩
    show Sem.run P (match a.eval x with
      | .pointer none | .nilIface | .nilFunc => _
      | .func (.method name) first captured => _
      | x => _) w = _
    split
    · rename_i e; exact absurd e h1
    · rename_i e; exact absurd e h2
    · rename_i e; exact absurd e h3
    · rename_i e; exact absurd e (h4 _ _ _)
    · rfl
  · rename_i op t x y yt
    obtain ⟨u, e1, e2⟩ := binA_sound (w := w) (ho x (by simp [Op.operands])) (ho y (by simp [Op.operands])) h
    exact ⟨u, run_val e1, e2⟩
  · rename_i op t x
    obtain ⟨u, e1, e2⟩ := unA_sound (P := P) (w := w) (ho x (by simp [Op.operands])) h
    exact ⟨u, run_val e1, e2⟩
  · rename_i s d x
    obtain ⟨hc, h⟩ := cond_some h
    obtain ⟨u, e1, e2⟩ := convA_sound (P := P) hR (ho x (by simp [Op.operands])) h (Option.isSome_iff_exists.1 hc)
    exact ⟨u, run_val e1, e2⟩
  · rename_i t x
    obtain ⟨u, e1, e2⟩ := mkIfaceA_sound (w := w) (ho x (by simp [Op.operands])) h
    exact ⟨u, run_val e1, e2⟩
  · rename_i f first caps
    obtain ⟨hc, h⟩ := cond_some h
    obtain rfl := Option.some.inj h
    have hf : first.size = 0 := by simpa [Nat.beq_eq] using hc
    obtain rfl : first = #[] := Array.eq_empty_of_size_eq_zero hf
    refine ⟨.func (.func f) #[] (caps.map a.eval), by simp [execOp, Instr.makeFunc], ?_⟩
    simp only [VRel]
    refine ⟨_, rfl, ?_⟩
    rw [Array.toList_map]
    exact evs_rel caps.toList fun x hx => ho x (by simp only [Op.operands, Array.toList_append, List.mem_append]; exact .inr hx)
  · rename_i t x lo hi mx
    have opt : ∀ (l : Option Operand), (∀ z, l = some z → z ∈ (Op.slice t x lo hi mx).operands.toList) → ∀ b, l.map (ev tm) = some b → ∃ v, l.map a.eval = some v ∧ VRel ρ b v := fun l hl b e => by
      cases l with
      | none => cases e
      | some y => simp only [Option.map_some, Option.some.injEq] at e; subst e; exact ⟨_, rfl, ho y (hl y rfl)⟩
    have opt0 : ∀ (l : Option Operand), l.map (ev tm) = none → l.map a.eval = none := fun l e => by cases l with
      | none => rfl
      | some y => cases e
    obtain ⟨u, e1, e2⟩ := sliceA_sound (P := P) (w := w) (ho x (by simp [Op.operands])) (opt lo (fun y e => by subst e; simp [Op.operands])) (opt0 lo) (opt hi (fun y e => by subst e; simp [Op.operands])) (opt0 hi) (opt0 mx) (opt mx (fun y e => by subst e; simp [Op.operands])) h
    exact ⟨u, run_val e1, e2⟩
  · rename_i s x f
    split at h
    · rename_i id off hx
      have hxx := ho x (by simp [Op.operands])
      rw [hx] at hxx
      cases hf : fld P s f with
      | none => rw [hf] at h; cases h
      | some p =>
        rw [hf] at h; simp only [Option.map_some, Option.some.injEq] at h; subst h
        obtain ⟨u, e1, e2⟩ := fieldAddr_sound (w := w) hxx hf
        exact ⟨u, run_val e1, e2⟩
    · cases h
  · rename_i s x f
    split at h
    · rename_i cs hx
      have hxx := ho x (by simp [Op.operands])
      rw [hx] at hxx
      cases hf : fld P s f with
      | none => rw [hf] at h; cases h
      | some p =>
        rw [hf] at h; simp only [Option.bind_some] at h
        obtain ⟨u, e1, e2⟩ := field_sound (w := w) hxx hf h
        exact ⟨u, run_val e1, e2⟩
    · cases h
  · rename_i t x i
    obtain ⟨u, e1, e2⟩ := idxAddr_sound (P := P) hR (ho x (by simp [Op.operands])) (ho i (by simp [Op.operands])) h
    exact ⟨u, run_val e1, e2⟩
  · rename_i t x i
    obtain ⟨u, e1, e2⟩ := idxA_sound (P := P) (w := w) (ho x (by simp [Op.operands])) (ho i (by simp [Op.operands])) h
    exact ⟨u, run_val e1, e2⟩
  · rename_i x xt t ok
    obtain ⟨u, e1, e2⟩ := assertA_sound (P := P) (w := w) (ty := xt) (ho x (by simp [Op.operands])) h
    exact ⟨u, run_val e1, e2⟩
  · rename_i t x k ok
    obtain ⟨u, e1, e2⟩ := lookA_sound (P := P) hR (ho x (by simp [Op.operands])) (ho k (by simp [Op.operands])) h
    exact ⟨u, run_val e1, e2⟩
  · rename_i x i
    obtain ⟨u, e1, e2⟩ := extractA_sound (P := P) (w := w) (ho x (by simp [Op.operands])) h
    exact ⟨u, run_val e1, e2⟩
  · rename_i b args argTypes
    have hx : LRel ρ (evs tm args.toList) (args.map a.eval).toList := by
      rw [Array.toList_map]
      exact evs_rel args.toList fun x hx => ho x (by simpa [Op.operands, Call.operands] using hx)
    split at h
    · rename_i id hev
      rw [hev] at hx
      obtain ⟨x', e, hx1⟩ := hx.one
      have e' : args.map a.eval = #[x'] := by cases hm : args.map a.eval; simp_all
      obtain ⟨u, e1, e2⟩ := lenMap_sound (P := P) (ty := type) hR rfl hx1 h
      refine ⟨u, ?_, e2⟩
      have e3 : execOp a.eval { dst := dst, op := .call { callee := .builtin .len, args := args, argTypes := argTypes }, type := type, pos := pos, after := after, guard := guard } = builtin .len argTypes type (args.map fun | .const _ => true | _ => false) (args.map a.eval) := rfl
      rw [e3, e']
      exact run_val e1
    · exact builtinL_sound hx h
  · cases h
end Go.Fv
