/-
  Ev, part M4: structs that are built, and blocks that are made.
-/
import Derived.Test.YtdcimkbkijcklaaGreatDoorFvM3
namespace Go.Fv
open Go.RowKit

variable {P : Program} {w w0 : World} {ρ : Rho} {N : Nat} {g : Nat → Blk} {base : Nat}

theorem foldl_set (off : Nat) : ∀ (l : List Value) (k : Nat) (cells : Array Value), off + k + l.length ≤ cells.size →
    ((l.zipIdx k).foldl (fun cs p => cs.setIfInBounds (off + p.2) p.1) cells).toList = cells.toList.take (off + k) ++ l ++ cells.toList.drop (off + k + l.length)
  | [], k, cells, h => by simp
  | v :: l, k, cells, h => by
    simp only [List.length_cons] at h
    simp only [List.zipIdx_cons, List.foldl_cons]
    rw [foldl_set off l (k + 1) (cells.setIfInBounds (off + k) v) (by simp; omega)]
    rw [Array.toList_setIfInBounds]
    have hlt : off + k < cells.toList.length := by simp; omega
    have e1 : (cells.toList.set (off + k) v).take (off + (k + 1)) = cells.toList.take (off + k) ++ [v] := by
      rw [← Nat.add_assoc, List.take_set, List.take_succ_eq_append_getElem hlt, List.set_append_right _ _ (by rw [List.length_take]; exact Nat.min_le_left _ _)]
      have hm : min (off + k) cells.toList.length = off + k := Nat.min_eq_left (Nat.le_of_lt hlt)
      rw [List.length_take, hm, Nat.sub_self]; rfl
    have e2 : (cells.toList.set (off + k) v).drop (off + (k + 1) + l.length) = cells.toList.drop (off + k + (v :: l).length) := by
      rw [List.drop_set_of_lt (by omega)]
      simp only [List.length_cons]; congr 1; omega
    rw [e1, e2]; simp

theorem fill_step (off : Nat) (vs cells : Array Value) (h : off + vs.size ≤ cells.size) :
    (vs.zipIdx.foldl (fun cs (c, j) => cs.setIfInBounds (off + j) c) cells).toList = cells.toList.take off ++ vs.toList ++ cells.toList.drop (off + vs.size) := by
  have := foldl_set off vs.toList 0 cells (by simpa using h)
  rw [← Array.foldl_toList, Array.toList_zipIdx]
  simpa using this

def PsRel (ρ : Rho) : List (Nat × AV) → List (Nat × Value) → Prop
  | [], l => l = []
  | p :: ps, l => ∃ v vs, l = (p.1, v) :: vs ∧ VRel ρ p.2 v ∧ PsRel ρ ps vs

theorem nb_ne {a : AV} (h : nb a = true) : a ≠ .bad := by rintro rfl; cases h

theorem fill_sound {place place' : Nat → Option (Nat × Nat)} (hp : ∀ i, place i = place' i) : ∀ {ps : List (Nat × AV)} {psv : List (Nat × Value)} {cs cs' : List AV} {vs : Array Value}, PsRel ρ ps psv → LRel ρ cs vs.toList →
    fillA place ps cs = some cs' → ∃ vs', Instr.fill place' vs psv = some vs' ∧ LRel ρ cs' vs'.toList
  | [], psv, cs, cs', vs, h1, h2, h => by
    simp only [PsRel] at h1; subst h1
    have e : fillA place [] cs = some cs := rfl
    rw [e] at h; obtain rfl := Option.some.inj h
    exact ⟨vs, rfl, h2⟩
  | p :: ps, psv, cs, cs', vs, h1, h2, h => by
    simp only [PsRel] at h1
    obtain ⟨v, us, rfl, hv, hps⟩ := h1
    have e : fillA place (p :: ps) cs = (match place p.1 with
      | some (off, size) => cond (Nat.beq (len (acells p.2)) size && nb p.2) ((spl (acells p.2) cs off).bind (fillA place ps)) none
      | none => none) := rfl
    rw [e] at h
    split at h
    · rename_i off size hpl
      obtain ⟨hc, h⟩ := cond_some h
      rw [Bool.and_eq_true] at hc
      have hsz : (acells p.2).length = size := by rw [← len_eq]; simpa [Nat.beq_eq] using hc.1
      have hl := acells_rel hv (nb_ne hc.2)
      rw [spl_eq] at h
      split at h
      · rename_i hn
        simp only [Option.bind_some] at h
        have hvl : v.cells.size = (acells p.2).length := by have := hl.len; simpa using this
        have hcl : vs.size = cs.length := by have := h2.len; simpa using this
        have hst := fill_step off v.cells vs (by omega)
        have hrel : LRel ρ (cs.take off ++ acells p.2 ++ cs.drop (off + (acells p.2).length)) (v.cells.zipIdx.foldl (fun cs (c, j) => cs.setIfInBounds (off + j) c) vs).toList := by
          rw [hst, hvl]
          exact ((h2.take off).append hl).append (h2.drop _)
        obtain ⟨vs', e1, e2⟩ := fill_sound hp hps hrel h
        refine ⟨vs', ?_, e2⟩
        unfold Instr.fill
        rw [← hp, hpl]
        simp only
        have hvs : v.cells.size = size := hvl.trans hsz
        rw [if_neg (by rw [Bool.or_eq_true, decide_eq_true_eq, decide_eq_true_eq]; rintro (hq | hq); exact hq hvs; omega)]
        exact e1
      · cases h
    · cases h

theorem evps_rel {tm : Tm} {ρ' : Operand → Value} : ∀ (l : List (Nat × Operand)), (∀ x ∈ l, VRel ρ (ev tm x.2) (ρ' x.2)) → PsRel ρ (evps tm l) (l.map fun p => (p.1, ρ' p.2))
  | [], _ => by simp [evps, PsRel]
  | x :: l, h => by
    have e : evps tm (x :: l) = (x.1, ev tm x.2) :: evps tm l := rfl
    rw [e]; simp only [List.map_cons, PsRel]
    exact ⟨_, _, rfl, h x (by simp), evps_rel l fun y hy => h y (by simp [hy])⟩

theorem run_mapM {α β : Type} {f : α → Sem β} {k : α → β} : ∀ (l : List α), (∀ x ∈ l, (f x).run P w = .ok (k x) w) → (l.mapM f).run P w = .ok (l.map k) w
  | [], _ => rfl
  | x :: l, h => by
    rw [List.mapM_cons, Sem.run_bind, h x (by simp)]
    simp only [Result.andThen_ok, Sem.run_bind, run_mapM l fun y hy => h y (by simp [hy]), Sem.run_pure, List.map_cons]
theorem run_mapMA {α β : Type} {f : α → Sem β} {k : α → β} (l : Array α) (h : ∀ x ∈ l.toList, (f x).run P w = .ok (k x) w) : (l.mapM f).run P w = .ok (l.map k) w := by
  rw [Array.mapM_eq_mapM_toList, Sem.run_map, run_mapM l.toList h]
  simp only [Result.andThen_ok]
  congr 1
  rw [← Array.toList_map]

theorem buildA_sound {t : TypeId} {ps : List (Nat × AV)} {psv : Array (Nat × Value)} {v : AV} (hps : PsRel ρ ps psv.toList) (h : buildA P t ps = some v) :
    ∃ u, (Instr.build t psv).run P w = .ok u w ∧ VRel ρ v u := by
  unfold buildA at h
  obtain ⟨hok, h⟩ := cond_some h
  split at h
  · rename_i pl z h1 h2
    cases hf : fillA pl ps z with
    | none => rw [hf] at h; cases h
    | some cs =>
      rw [hf] at h; simp only [Option.map_some, Option.some.injEq] at h; subst h
      obtain ⟨zv, e1, e2⟩ := run_zero h2 w ρ
      simp only [VRel] at e2
      obtain ⟨zs, rfl, hz⟩ := e2
      unfold placesS at h1
      split at h1
      · rename_i fs hu
        obtain rfl := Option.some.inj h1
        have hsz : ∀ f ∈ fs.toList, ∃ n, sizeA P f.type = some n := fun f hf => by
          unfold fieldsOk at hok; rw [hu] at hok
          simp only [List.all_eq_true] at hok
          exact Option.isSome_iff_exists.1 (hok f hf)
        have hm := run_mapMA (P := P) (w := w) (f := fun f : Field => (do pure (f.offset, ← sizeOf f.type) : Sem (Nat × Nat))) (k := fun f : Field => (f.offset, (sizeA P f.type).getD 0)) fs (fun f hf => by
          obtain ⟨n, hn⟩ := hsz f hf
          simp [run_size hn, hn])
        have hp : ∀ i, ((fs[i]?).bind fun f : Field => (sizeA P f.type).map fun n => (f.offset, n)) = (fs.map fun f : Field => (f.offset, (sizeA P f.type).getD 0))[i]? := fun i => by
          rw [Array.getElem?_map]
          cases hi : fs[i]? with
          | none => rfl
          | some f =>
            have hm : f ∈ fs.toList := by
              have := Array.mem_of_getElem? hi
              simpa using this
            obtain ⟨n, hn⟩ := hsz f hm
            simp [hn]
        obtain ⟨vs, e3, e4⟩ := fill_sound hp hps hz hf
        refine ⟨.agg vs, ?_, by simp only [VRel]; exact ⟨vs, rfl, e4⟩⟩
        simp only [Instr.build, Sem.run_bind, e1, Result.andThen_ok, run_under hu, hm, Value.cells, e3, Sem.run_pure]
      · rename_i n e hu
        cases hs : sizeA P e with
        | none => rw [hs] at h1; cases h1
        | some k =>
          rw [hs] at h1; simp only [Option.map_some, Option.some.injEq] at h1; subst h1
          obtain ⟨vs, e3, e4⟩ := fill_sound (place' := fun i => some (i * k, k)) (fun i => rfl) hps hz hf
          refine ⟨.agg vs, ?_, by simp only [VRel]; exact ⟨vs, rfl, e4⟩⟩
          simp only [Instr.build, Sem.run_bind, e1, Result.andThen_ok, run_under hu, run_size hs, Value.cells, e3, Sem.run_pure]
      · cases h1
  · cases h

theorem fill_len {place : Nat → Option (Nat × Nat)} : ∀ {ps : List (Nat × AV)} {cs cs' : List AV}, fillA place ps cs = some cs' → cs'.length = cs.length
  | [], cs, cs', h => by
    have e : fillA place [] cs = some cs := rfl
    rw [e] at h; obtain rfl := Option.some.inj h; rfl
  | p :: ps, cs, cs', h => by
    have e : fillA place (p :: ps) cs = (match place p.1 with
      | some (off, size) => cond (Nat.beq (len (acells p.2)) size && nb p.2) ((spl (acells p.2) cs off).bind (fillA place ps)) none
      | none => none) := rfl
    rw [e] at h
    split at h
    · obtain ⟨hc, h⟩ := cond_some h
      rw [spl_eq] at h
      split at h
      · simp only [Option.bind_some] at h
        have := fill_len h
        simp at this; omega
      · cases h
    · cases h
theorem reps_len (cs : List AV) (n : Nat) : (reps cs n).length = n * cs.length := by
  induction n with
  | zero => rw [Nat.zero_mul]; rfl
  | succ n ih =>
    have e : reps cs (n + 1) = cs ++ reps cs n := rfl
    rw [e, List.length_append, ih, Nat.succ_mul]; omega

/-- Cells that stand again and again. -/
theorem reps_spec (z : Array Value) (n : Nat) (cs : List AV) (h : LRel ρ cs z.toList) (k : Nat) (hk : k = n * z.size) : LRel ρ (reps cs n) ((Array.range k).map (z[· % z.size]!)).toList := by
  subst hk
  have key : ((Array.range (n * z.size)).map (z[· % z.size]!)).toList = (List.replicate n z.toList).flatten := by
    apply List.ext_getElem?
    intro i
    by_cases hz : z.size = 0
    · have e : z.toList = [] := List.length_eq_zero_iff.1 (by simpa using hz)
      simp [hz, e]
    · by_cases hi : i < n * z.size
      · have h1 : ((Array.range (n * z.size)).map (z[· % z.size]!)).toList[i]? = some (z[i % z.size]!) := by simp [hi]
        rw [h1]
        clear h1
        induction n generalizing i with
        | zero => simp at hi
        | succ n ih =>
          rw [List.replicate_succ, List.flatten_cons]
          by_cases hi2 : i < z.size
          · rw [List.getElem?_append_left (by simpa using hi2), Nat.mod_eq_of_lt hi2, Array.getElem?_toList, getElem!_pos z i hi2, getElem?_pos z i hi2]
          · rw [List.getElem?_append_right (by simp; omega)]
            have hlt : i - z.toList.length < n * z.size := by rw [Nat.succ_mul] at hi; simp; omega
            have := ih (i - z.toList.length) hlt
            rw [← this]
            simp only [Array.length_toList]
            rw [Nat.mod_eq_sub_mod (by omega : i ≥ z.size)]
      · have h1 : ((Array.range (n * z.size)).map (z[· % z.size]!)).toList[i]? = none := by simp; omega
        have h2 : ((List.replicate n z.toList).flatten)[i]? = none := by
          rw [List.getElem?_eq_none]; simp [List.length_flatten]; omega
        rw [h1, h2]
  rw [key]
  clear key
  induction n with
  | zero =>
    have e : reps cs 0 = [] := rfl
    rw [e]; simp [LRel]
  | succ n ih =>
    have e : reps cs (n + 1) = cs ++ reps cs n := rfl
    rw [e, List.replicate_succ, List.flatten_cons]
    exact h.append ih

def Mk.val : Mk → Nat → Value
  | .ptr, b => .pointer (some ⟨b, 0, none⟩)
  | .slice l c _, b => .slice (some ⟨b, 0, none⟩) l c

theorem allocE_sound {o : Oper} {tm : Tm} {a : Act} {cs : List AV} {m : Mk} (ho : ∀ x ∈ o.op.operands.toList, VRel ρ (ev tm x) (a.eval x)) (h : allocE P o tm = some (cs, m)) :
    ∃ (c : Array Value) (e : TypeId), (execOp a.eval o).run P w = .ok (.value (m.val w.heap.size)) (w.alloc (.cells c e)) ∧ LRel ρ cs c.toList ∧ (∀ l k s, m = .slice l k s → l ≤ k ∧ k * s ≤ cs.length) := by
  obtain ⟨dst, op, type, pos, after, guard⟩ := o
  unfold allocE at h
  simp only at h ho
  split at h
  · rename_i t
    cases hz : zeroA P t with
    | none => rw [hz] at h; cases h
    | some z =>
      rw [hz] at h; simp only [Option.bind_some] at h
      obtain ⟨hn, h⟩ := cond_some h
      simp only [Option.some.injEq, Prod.mk.injEq] at h
      obtain ⟨rfl, rfl⟩ := h
      obtain ⟨zv, e1, e2⟩ := run_zero hz w ρ
      refine ⟨zv.cells, t, run_val ?_, acells_rel e2 (nb_ne hn), by intro l k s e; cases e⟩
      simp only [Instr.alloc, Sem.run_bind, e1, Result.andThen_ok]
      rfl
  · rename_i t x
    obtain ⟨hn, h⟩ := cond_some h
    simp only [Option.some.injEq, Prod.mk.injEq] at h
    obtain ⟨rfl, rfl⟩ := h
    have hx := ho x (by simp [Op.operands])
    exact ⟨(a.eval x).cells, t, run_val rfl, acells_rel hx (nb_ne hn), by intro l k s e; cases e⟩
  · rename_i t n ps
    split at h
    · rename_i e sz hs
      obtain ⟨h1, h2⟩ := slElem_spec hs
      split at h
      · rename_i z hz
        obtain ⟨hc, h⟩ := cond_some h
        rw [Bool.and_eq_true, Bool.and_eq_true] at hc
        have hsz : (acells z).length = sz := by rw [← len_eq]; simpa [Nat.beq_eq] using hc.1.2
        have hle := Nat.le_of_ble_eq_true hc.2
        cases hf : fillA (fun i => some (i * sz, sz)) (evps tm ps.toList) (reps (acells z) n) with
        | none => rw [hf] at h; cases h
        | some ds =>
          rw [hf] at h; simp only [Option.map_some, Option.some.injEq, Prod.mk.injEq] at h
          obtain ⟨rfl, rfl⟩ := h
          obtain ⟨zv, e1, e2⟩ := run_zero hz w ρ
          have hzl := acells_rel e2 (nb_ne hc.1.1)
          have hzs : zv.cells.size = sz := by have := hzl.len; simp at this; omega
          have hps : PsRel ρ (evps tm ps.toList) (ps.map fun p => (p.1, a.eval p.2)).toList := by
            rw [Array.toList_map]
            exact evps_rel ps.toList fun x hx => ho x.2 (by simp only [Op.operands, List.toList_toArray, List.mem_map]; exact ⟨x, hx, rfl⟩)
          have hr := reps_spec zv.cells n (acells z) hzl (n * sz) (by rw [hzs])
          obtain ⟨vs, e3, e4⟩ := fill_sound (place' := fun i => some (i * sz, sz)) (fun i => rfl) hps hr hf
          have hgt : ¬ n * sz > 2 ^ 24 := by omega
          by_cases h0 : n * sz = 0
          · have e3' : Instr.fill (fun i => some (i * sz, sz)) ((Array.range (n * sz)).map ((#[] : Array Value)[· % (#[] : Array Value).size]!)) (ps.map fun p => (p.1, a.eval p.2)).toList = some vs := by
              have em : ∀ f : Nat → Value, (Array.range 0).map f = #[] := fun f => by simp
              rw [h0, em] at e3 ⊢
              exact e3
            refine ⟨vs, e, run_val ?_, e4, ?_⟩
            · simp only [Instr.buildSlice, Sem.run_bind, run_under h1, Result.andThen_ok, run_size h2, if_neg hgt, if_pos h0, Sem.run_pure, newRow]
              rw [e3']; rfl
            · intro l k s es; cases es; exact ⟨Nat.le_refl _, by rw [h0]; omega⟩
          · refine ⟨vs, e, run_val ?_, e4, ?_⟩
            · simp only [Instr.buildSlice, Sem.run_bind, run_under h1, Result.andThen_ok, run_size h2, if_neg hgt, if_neg h0, e1, Sem.run_pure, newRow]
              rw [e3]; rfl
            · intro l k s es; cases es
              refine ⟨Nat.le_refl _, ?_⟩
              rw [fill_len hf, reps_len, hsz]; exact Nat.le_refl _
      · cases h
    · cases h
  · rename_i t l c
    split at h
    · rename_i e sz k l' k' c' hs hl hcc
      obtain ⟨h1, h2⟩ := slElem_spec hs
      split at h
      · rename_i z by_ hz hby
        obtain ⟨hc, h⟩ := cond_some h
        simp only [Bool.and_eq_true] at hc
        obtain ⟨⟨⟨⟨hc1, hc2⟩, hc3⟩, hc4⟩, hc5⟩ := hc
        have hsz : (acells z).length = sz := by rw [← len_eq]; simpa [Nat.beq_eq] using hc2
        have hlc := Nat.le_of_ble_eq_true hc3
        have hc4 := Nat.le_of_ble_eq_true hc4
        have hc5 := Nat.le_of_ble_eq_true hc5
        simp only [Option.some.injEq, Prod.mk.injEq] at h
        obtain ⟨rfl, rfl⟩ := h
        have hxl := ho l (by simp [Op.operands])
        have hxc := ho c (by simp [Op.operands])
        rw [hl] at hxl; rw [hcc] at hxc
        simp only [VRel] at hxl hxc
        obtain ⟨zv, e1, e2⟩ := run_zero hz w ρ
        have hzl := acells_rel e2 (nb_ne hc1)
        have hzs : zv.cells.size = sz := by have := hzl.len; simp at this; omega
        obtain ⟨i, hi, hiby⟩ : ∃ i, P.info? e = some i ∧ i.bytes = by_ := by
          unfold bytesA at hby
          cases hi : P.info? e with
          | none => rw [hi] at hby; cases hby
          | some i => rw [hi] at hby; exact ⟨i, rfl, by simpa using hby⟩
        have hwl : IntKind.i64.wrap (Int.ofNat l') = (l' : Int) := by rw [Int.ofNat_eq_natCast]; exact IntWalk.i64_in _ (by omega)
        have hwc : IntKind.i64.wrap (Int.ofNat c') = (c' : Int) := by rw [Int.ofNat_eq_natCast]; exact IntWalk.i64_in _ (by omega)
        have hmul : by_ * c' ≤ 65536 * 65536 := Nat.mul_le_mul hc5 hc4
        have hbig : ((by_ : Int) * (c' : Int) > 2 ^ 48) = False := by
          have : ((by_ * c' : Nat) : Int) ≤ 4294967296 := by have := hmul; omega
          rw [eq_iff_iff]; constructor
          · intro hq; push_cast at this; omega
          · intro hq; cases hq
        have hr := reps_spec zv.cells c' (acells z) hzl (c' * sz) (by rw [hzs])
        have hneg : ((l' : Int) < 0) = False := by rw [eq_iff_iff]; exact ⟨fun h => by omega, fun h => h.elim⟩
        have hneg2 : ((c' : Int) < 0) = False := by rw [eq_iff_iff]; exact ⟨fun h => by omega, fun h => h.elim⟩
        have hgt : ((l' : Int) > (c' : Int)) = False := by rw [eq_iff_iff]; exact ⟨fun h => by omega, fun h => h.elim⟩
        have hlen : ∀ q k s, Mk.slice l' c' sz = .slice q k s → q ≤ k ∧ k * s ≤ (reps (acells z) c').length := fun q k s es => by
          cases es; exact ⟨hlc, by rw [reps_len, hsz]; exact Nat.le_refl _⟩
        by_cases h0 : c' * sz = 0
        · refine ⟨(Array.range (c' * sz)).map ((#[] : Array Value)[· % (#[] : Array Value).size]!), e, run_val ?_, ?_, hlen⟩
          · simp only [Instr.makeSlice, hxl, hxc, asInt, asIntOf, Sem.run_bind, run_under h1, Result.andThen_ok, Sem.run_pure, run_info hi, hiby, hwl, hwc, hbig, hneg, hneg2, hgt, decide_false, Bool.or_self, Bool.false_eq_true, if_false, Sem.run_ite, run_askRoom, run_size h2, Int.toNat_natCast, h0, if_true, newRow]
            rfl
          · have e0 : reps (acells z) c' = [] := List.length_eq_zero_iff.1 (by rw [reps_len, hsz]; exact h0)
            rw [e0, h0]; simp [LRel]
        · refine ⟨(Array.range (c' * sz)).map (zv.cells[· % zv.cells.size]!), e, run_val ?_, hr, hlen⟩
          simp only [Instr.makeSlice, hxl, hxc, asInt, asIntOf, Sem.run_bind, run_under h1, Result.andThen_ok, Sem.run_pure, run_info hi, hiby, hwl, hwc, hbig, hneg, hneg2, hgt, decide_false, Bool.or_self, Bool.false_eq_true, if_false, Sem.run_ite, run_askRoom, run_size h2, Int.toNat_natCast, h0, e1, newRow]
          rfl
      · cases h
    · cases h
  · cases h
end Go.Fv
