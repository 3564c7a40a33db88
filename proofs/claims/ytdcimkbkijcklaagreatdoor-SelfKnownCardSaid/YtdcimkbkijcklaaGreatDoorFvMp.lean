/-
  Ev, part Mp: maps with keys of one cell, read and written; the functions of the library that have no text.
-/
import Derived.Test.YtdcimkbkijcklaaGreatDoorFvM4
import Derived.MapKept
import Derived.Lib.Bytealg
namespace Go.Fv
open Go.RowKit

variable {P : Program} {w w0 : World} {ρ : Rho} {N : Nat} {base : Nat}

/-- A description of a key of one cell. -/
def KeyD (d : TypeDesc) : Prop := d = .string ∨ ∃ i, d = .int i

theorem mapT_spec {t e : TypeId} {d : TypeDesc} (h : mapT P t = some (d, e)) : ∃ k, P.underlying t = some (.map k e) ∧ P.underlying k = some d ∧ KeyD d := by
  unfold mapT at h
  split at h
  · rename_i k e' hu
    split at h
    · rename_i i hk; obtain ⟨rfl, rfl⟩ := Prod.mk.inj (Option.some.inj h); exact ⟨k, hu, hk, .inr ⟨i, rfl⟩⟩
    · rename_i hk; obtain ⟨rfl, rfl⟩ := Prod.mk.inj (Option.some.inj h); exact ⟨k, hu, hk, .inl rfl⟩
    · cases h
  · cases h

theorem run_checkKey {kt : TypeId} {d : TypeDesc} (hd : P.underlying kt = some d) (hk : KeyD d) (em : Bool) (n : Nat) (v : Value) : (Instr.checkKey em (n + 1) kt v).run P w = .ok () w := by
  unfold Instr.checkKey
  simp only [Sem.run_bind, run_under hd, Result.andThen_ok]
  rcases hk with rfl | ⟨i, rfl⟩ <;> simp

theorem sameNow_eq {d : TypeDesc} {x y : AV} {x' y' : Value} {b : Bool} (hd : KeyD d) (hx : VRel ρ x x') (hy : VRel ρ y y') (h : eq1 d x y = some b) :
    Instr.sameNow d x' y' = some b ∧ (b = true → y' = x' ∧ ∀ n, Instr.sameBits n x' x' = true) := by
  unfold eq1 at h
  split at h
  · rcases hd with hd | ⟨i, hd⟩ <;> cases hd
  · rename_i k k' a c
    simp only [VRel] at hx hy; subst hx; subst hy
    split at h
    · rename_i hk; subst hk; obtain rfl := Option.some.inj h
      exact ⟨by simp [Instr.sameNow, ieq_eq], fun e => ⟨by rw [ieq_eq] at e; simp at e; rw [e], fun n => by simp [Instr.sameBits]⟩⟩
    · cases h
  · simp only [VRel] at hx hy; subst hx; subst hy; obtain rfl := Option.some.inj h
    rename_i a c
    refine ⟨?_, fun e => ⟨by simp only [bytesEq, beq_iff_eq] at e; rw [e], fun n => by simp [Instr.sameBits, beq_toListBytes]⟩⟩
    simp only [Instr.sameNow, beq_toListBytes, bytes_toList, bytesEq]
  · cases h

theorem find_sound {d : TypeDesc} (hd : KeyD d) {k : AV} {k' : Value} (hk : VRel ρ k k') : ∀ (es : List (AV × AV)) (ms : List MapEntry) (i : Nat) (r : Option AV), ERel ρ es ms → findA d k es = some r →
    ∃ q, Instr.findNow d k' ms i = some q ∧ (r = none → q = none) ∧ ∀ v, r = some v → ∃ j u, q = some (j, u) ∧ VRel ρ v u
  | [], ms, i, r, h, hr => by
    simp only [ERel] at h; subst h
    obtain rfl : none = r := Option.some.inj hr
    exact ⟨none, rfl, fun _ => rfl, fun v e => by cases e⟩
  | e :: es, l, i, r, h, hr => by
    simp only [ERel] at h
    obtain ⟨m, ms, rfl, h1, h2, h3⟩ := h
    have hr' : (match eq1 d k e.1 with | some true => some (some e.2) | some false => findA d k es | none => none) = some r := hr
    cases he : eq1 d k e.1 with
    | none => rw [he] at hr'; cases hr'
    | some b =>
      obtain ⟨q1, _⟩ := sameNow_eq hd hk h1 he
      rw [he] at hr'
      cases b with
      | true =>
        obtain rfl := Option.some.inj hr'
        exact ⟨some (i, m.val), by simp [Instr.findNow, q1], (fun e => by cases e), fun v e => by obtain rfl := Option.some.inj e; exact ⟨i, m.val, rfl, h2⟩⟩
      | false =>
        obtain ⟨q, k1, k2, k3⟩ := find_sound hd hk es ms (i + 1) r h3 hr'
        exact ⟨q, by simp [Instr.findNow, q1, k1], k2, k3⟩

theorem ERel.append {ρ : Rho} : ∀ {es : List (AV × AV)} {ms : List MapEntry} {fs : List (AV × AV)} {ns : List MapEntry}, ERel ρ es ms → ERel ρ fs ns → ERel ρ (es ++ fs) (ms ++ ns)
  | [], ms, fs, ns, h, k => by simp only [ERel] at h; subst h; simpa using k
  | e :: es, l, fs, ns, h, k => by
    simp only [ERel] at h
    obtain ⟨m, ms, rfl, h1, h2, h3⟩ := h
    simp only [List.cons_append, ERel]
    exact ⟨m, _, rfl, h1, h2, ERel.append h3 k⟩

theorem put_sound {d : TypeDesc} (hd : KeyD d) {k v : AV} {k' v' : Value} (hk : VRel ρ k k') (hv : VRel ρ v v') : ∀ (es : List (AV × AV)) (ms : List MapEntry) (i : Nat) (es' : List (AV × AV)), ERel ρ es ms → putE d k v es = some es' →
    (Instr.findNow d k' ms i = some none ∧ es' = es ++ [(k, v)]) ∨
    ∃ j u m, Instr.findNow d k' ms i = some (some (i + j, u)) ∧ ms[j]? = some m ∧ m.key = k' ∧ (∀ n, Instr.sameBits n k' k' = true) ∧ ERel ρ es' (ms.modify j fun e => { e with key := k', val := v' })
  | [], ms, i, es', h, hr => by
    simp only [ERel] at h; subst h
    obtain rfl : [(k, v)] = es' := Option.some.inj hr
    exact .inl ⟨rfl, rfl⟩
  | e :: es, l, i, es', h, hr => by
    simp only [ERel] at h
    obtain ⟨m, ms, rfl, h1, h2, h3⟩ := h
    have hr' : (match eq1 d k e.1 with | some true => some ((k, v) :: es) | some false => (putE d k v es).map (e :: ·) | none => none) = some es' := hr
    cases he : eq1 d k e.1 with
    | none => rw [he] at hr'; cases hr'
    | some b =>
      obtain ⟨q1, q2⟩ := sameNow_eq hd hk h1 he
      rw [he] at hr'
      cases b with
      | true =>
        obtain rfl := Option.some.inj hr'
        obtain ⟨q3, q4⟩ := q2 rfl
        refine .inr ⟨0, m.val, m, by simp [Instr.findNow, q1], rfl, q3, q4, ?_⟩
        simp only [List.modify_zero_cons, ERel]
        exact ⟨_, _, rfl, hk, hv, h3⟩
      | false =>
        simp only [Option.map_eq_some_iff] at hr'
        obtain ⟨fs, hf, rfl⟩ := hr'
        rcases put_sound hd hk hv es ms (i + 1) fs h3 hf with ⟨k1, rfl⟩ | ⟨j, u, m', k1, k2, k3, k4, k5⟩
        · exact .inl ⟨by simp [Instr.findNow, q1, k1], rfl⟩
        · refine .inr ⟨j + 1, u, m', ?_, by simpa using k2, k3, k4, ?_⟩
          · simp [Instr.findNow, q1, k1]; omega
          · simp only [List.modify_succ_cons, ERel]
            exact ⟨m, _, rfl, h1, h2, k5⟩

theorem run_findKey {kt : TypeId} {d : TypeDesc} {k : Value} {l : List MapEntry} {q : Option (Nat × Value)} (hd : P.underlying kt = some d) (h : Instr.findNow d k l 0 = some q) : (Instr.findKey kt k l).run P w = .ok q w :=
  MapKept.run_findKey hd h

/-- What a lookup reads, where the entries are at hand. -/
theorem run_lookup {t kt e : TypeId} {d : TypeDesc} (hu : P.underlying t = some (.map kt e)) (hkt : P.underlying kt = some d) (hd : KeyD d) {x' k' z : Value} {ok : Bool} {ms : Array MapEntry} {q : Option (Nat × Value)}
    (hx : (x' = .map none ∧ ms = #[]) ∨ ∃ b c, x' = .map (some b) ∧ w.heap[b]? = some (.map ms c)) (hq : Instr.findNow d k' ms.toList 0 = some q) (hz : q = none → (zeroValue e).run P w = .ok z w) :
    (Instr.lookup t x' k' ok).run P w = .ok (match q with | some (_, v) => (if ok then .tuple #[v, .bool true] else v) | none => (if ok then .tuple #[z, .bool false] else z)) w := by
  have hck : (Instr.checkKey ms.isEmpty 10000 kt k').run P w = .ok () w := run_checkKey hkt hd _ 9999 _
  have hf := run_findKey (w := w) hkt hq
  rcases hx with ⟨rfl, rfl⟩ | ⟨b, c, rfl, hb⟩
  · have hck' : (Instr.checkKey true 10000 kt k').run P w = .ok () w := hck
    have hf' : (Instr.findKey kt k' []).run P w = .ok q w := hf
    cases q with
    | none => simp [Instr.lookup, run_under hu, hck', hf', hz rfl]
    | some p => simp [Instr.lookup, run_under hu, hck', hf']
  · cases q with
    | none => simp [Instr.lookup, run_under hu, MapKept.run_getObj_map hb, hck, hf, hz rfl]
    | some p => simp [Instr.lookup, run_under hu, MapKept.run_getObj_map hb, hck, hf]

theorem ents_sound {hp : Heap} (hR : Rel ρ N hp.get base w0 w) {x : AV} {x' : Value} {es : List (AV × AV)} (hx : VRel ρ x x') (h : entsA x hp = some es) :
    ∃ ms : Array MapEntry, ERel ρ es ms.toList ∧ ((x' = .map none ∧ ms = #[]) ∨ ∃ b c, x' = .map (some b) ∧ w.heap[b]? = some (.map ms c)) := by
  unfold entsA at h
  split at h
  · obtain rfl := Option.some.inj h
    simp only [VRel] at hx; subst hx
    exact ⟨#[], by simp [ERel], .inl ⟨rfl, rfl⟩⟩
  · rename_i id
    split at h
    · rename_i fs hg
      obtain rfl := Option.some.inj h
      simp only [VRel] at hx
      obtain ⟨tt, et, rfl⟩ := hx
      obtain ⟨ms, c, hh, hr⟩ := (hR.maps.blk id tt _ et hg).2.ex
      exact ⟨ms, hr, .inr ⟨_, c, rfl, hh⟩⟩
    · cases h
  · cases h

theorem two_rel {a b : AV} {a' b' : Value} (ha : VRel ρ a a') (hb : VRel ρ b b') : VRel ρ (.tup [a, b]) (.tuple #[a', b']) := by
  simp only [VRel]
  exact ⟨_, rfl, by simp only [LRel]; exact ⟨_, _, rfl, ha, _, _, rfl, hb, rfl⟩⟩

theorem lookA_sound {hp : Heap} (hR : Rel ρ N hp.get base w0 w) {t : TypeId} {x k v : AV} {ok : Bool} {x' k' : Value} (hx : VRel ρ x x') (hk : VRel ρ k k') (h : lookA P t x k ok hp = some v) :
    ∃ u, (Instr.lookup t x' k' ok).run P w = .ok u w ∧ VRel ρ v u := by
  unfold lookA at h
  split at h
  · rename_i d e es hT hE
    obtain ⟨kt, hu, hkt, hd⟩ := mapT_spec hT
    obtain ⟨ms, hms, hent⟩ := ents_sound hR hx hE
    have tt : VRel ρ (.bool true) (.bool true) := by simp only [VRel]
    have ff : VRel ρ (.bool false) (.bool false) := by simp only [VRel]
    cases hf : findA d k es with
    | none => rw [hf] at h; cases h
    | some r =>
      rw [hf] at h
      obtain ⟨q, q1, q2, q3⟩ := find_sound hd hk es ms.toList 0 _ hms hf
      cases r with
      | some y =>
        obtain rfl := Option.some.inj h
        obtain ⟨j, u, rfl, q4⟩ := q3 y rfl
        refine ⟨_, run_lookup (z := .bool false) hu hkt hd hent q1 (fun e => by cases e), ?_⟩
        cases ok with
        | true => exact two_rel q4 tt
        | false => exact q4
      | none =>
        obtain rfl := q2 rfl
        cases hz : zeroA P e with
        | none => rw [hz] at h; cases h
        | some z =>
          rw [hz] at h
          obtain rfl := Option.some.inj h
          obtain ⟨z', e1, e2⟩ := run_zero hz w ρ
          refine ⟨_, run_lookup hu hkt hd hent q1 (fun _ => e1), ?_⟩
          cases ok with
          | true => exact two_rel e2 ff
          | false => exact e2
  · cases h

/-- How many entries a map has. -/
theorem lenE_eq (l : List (AV × AV)) : lenE l = l.length := by
  induction l with
  | nil => rfl
  | cons x xs ih => simp only [lenE] at ih ⊢; simp [ih]
theorem ERel.len : ∀ {es : List (AV × AV)} {ms : List MapEntry}, ERel ρ es ms → ms.length = es.length
  | [], ms, h => by simp only [ERel] at h; simp [h]
  | e :: es, l, h => by
    simp only [ERel] at h
    obtain ⟨m, ms, rfl, _, _, h⟩ := h
    simp [ERel.len h]

theorem lenMap_sound {hp : Heap} (hR : Rel ρ N hp.get base w0 w) {t : Option TypeId} {id : Nat} {v : AV} {x' : Value} {ts : Array TypeId} {ty : TypeId} (ht : ts[0]? = t) (hx : VRel ρ (.map id) x') (h : lenM P t id hp = some v) :
    ∃ u, (Builtin.len_ ts ty #[x']).run P w = .ok u w ∧ VRel ρ v u := by
  unfold lenM at h
  split at h
  · rename_i k e es hu hg
    obtain rfl := Option.some.inj h
    obtain ⟨t, rfl, hu⟩ := Option.bind_eq_some_iff.1 hu
    simp only [VRel] at hx
    obtain ⟨tt, et, rfl⟩ := hx
    obtain ⟨ms, c, hh, hr⟩ := (hR.maps.blk id tt _ et hg).2.ex
    have hl := hr.len
    refine ⟨.int .i64 ms.size, ?_, ?_⟩
    · simp [Builtin.len_, ht, run_under hu, MapKept.run_getObj_map hh, goInt]
    · simp only [VRel, lenE_eq, ← hl]; simp
  · cases h

end Go.Fv
