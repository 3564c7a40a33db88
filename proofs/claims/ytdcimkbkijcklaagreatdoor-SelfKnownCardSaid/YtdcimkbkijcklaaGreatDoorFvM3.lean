/-
  Ev, part M3: conversions, slices, structs that are built.
-/
import Derived.Test.YtdcimkbkijcklaaGreatDoorFvM2
namespace Go.Fv
open Go.RowKit

variable {P : Program} {w w0 : World} {ρ : Rho} {N : Nat} {g : Nat → Blk} {base : Nat}

theorem evs_rel {tm : Tm} {ρ' : Operand → Value} : ∀ (l : List Operand), (∀ x ∈ l, VRel ρ (ev tm x) (ρ' x)) → LRel ρ (evs tm l) (l.map ρ')
  | [], _ => by simp [evs, LRel]
  | x :: l, h => by
    have e : evs tm (x :: l) = ev tm x :: evs tm l := rfl
    rw [e]; simp only [List.map_cons, LRel]
    exact ⟨_, _, rfl, h x (by simp), evs_rel l fun y hy => h y (by simp [hy])⟩

theorem mkIfaceA_sound {t : TypeId} {x v : AV} {x' : Value} (hx : VRel ρ x x') (h : mkIfaceA P t x = some v) : ∃ u, (Instr.makeInterface t x').run P w = .ok u w ∧ VRel ρ v u := by
  unfold mkIfaceA at h
  split at h
  · cases h
  · cases h
  · rename_i d h1 hu
    obtain rfl := Option.some.inj h
    refine ⟨.iface t x', ?_, by simp only [VRel]; exact ⟨x', rfl, hx⟩⟩
    simp only [Instr.makeInterface, Sem.run_bind, run_under hu, Result.andThen_ok]
    rfl

theorem extractA_sound {x v : AV} {i : Nat} {x' : Value} (hx : VRel ρ x x') (h : extractA x i = some v) : ∃ u, (Instr.extract x' i).run P w = .ok u w ∧ VRel ρ v u := by
  unfold extractA at h
  split at h
  · rename_i vs
    simp only [VRel] at hx; obtain ⟨us, rfl, hl⟩ := hx
    rw [nth_eq] at h
    obtain ⟨u, e1, e2⟩ := hl.get h
    have e3 : us[i]? = some u := by simpa using e1
    exact ⟨u, by simp [Instr.extract, e3], e2⟩
  · cases h

theorem ta_hit {t ty : TypeId} {d : TypeDesc} {v : Value} {ok : Bool} (hu : P.underlying t = some d) (h1 : ∀ ms, d ≠ .interface ms) :
    (Instr.typeAssert (.iface t v) ty t ok).run P w = .ok (if ok then .tuple #[v, .bool true] else v) w := by
  cases d <;> first | exact (h1 _ rfl).elim | simp [Instr.typeAssert, run_under hu]
theorem ta_miss {t u ty : TypeId} {d : TypeDesc} {v z : Value} (hu : P.underlying t = some d) (h1 : ∀ ms, d ≠ .interface ms) (hne : ¬ u = t) (hz : (zeroValue t).run P w = .ok z w) :
    (Instr.typeAssert (.iface u v) ty t true).run P w = .ok (.tuple #[z, .bool false]) w := by
  cases d <;> first | exact (h1 _ rfl).elim | simp [Instr.typeAssert, run_under hu, hne, hz]
theorem ta_nil {t ty : TypeId} {d : TypeDesc} {z : Value} (hu : P.underlying t = some d) (hz : (zeroValue t).run P w = .ok z w) :
    (Instr.typeAssert .nilIface ty t true).run P w = .ok (.tuple #[z, .bool false]) w := by
  cases d <;> simp [Instr.typeAssert, run_under hu, hz]

theorem assertA_sound {x v : AV} {t ty : TypeId} {ok : Bool} {x' : Value} (hx : VRel ρ x x') (h : assertA P x t ok = some v) : ∃ u, (Instr.typeAssert x' ty t ok).run P w = .ok u w ∧ VRel ρ v u := by
  unfold assertA at h
  split at h
  · cases h
  · cases h
  · rename_i d h1 hu
    have pair : ∀ {a : AV} {u : Value} {b : Bool}, VRel ρ a u → VRel ρ (.tup [a, .bool b]) (.tuple #[u, .bool b]) := fun {a u b} hr => by
      simp only [VRel, LRel]; exact ⟨_, rfl, _, _, rfl, hr, _, _, rfl, rfl, rfl⟩
    split at h
    · rename_i y u
      simp only [VRel] at hx; obtain ⟨u', rfl, hl⟩ := hx
      split at h
      · rename_i hut; subst hut
        obtain rfl := Option.some.inj h
        refine ⟨if ok then .tuple #[u', .bool true] else u', ta_hit hu (fun ms e => h1 ms e), ?_⟩
        · cases ok
          · exact hl
          · exact pair hl
      · rename_i hut
        cases ok with
        | false => cases h
        | true =>
          simp only [cond_true] at h
          cases hz : zeroA P t with
          | none => rw [hz] at h; cases h
          | some z =>
            rw [hz] at h; simp only [Option.map_some, Option.some.injEq] at h; subst h
            obtain ⟨zv, e1, e2⟩ := run_zero hz w ρ
            exact ⟨.tuple #[zv, .bool false], ta_miss hu (fun ms e => h1 ms e) hut e1, pair e2⟩
    · simp only [VRel] at hx; subst hx
      cases ok with
      | false => cases h
      | true =>
        simp only [cond_true] at h
        cases hz : zeroA P t with
        | none => rw [hz] at h; cases h
        | some z =>
          rw [hz] at h; simp only [Option.map_some, Option.some.injEq] at h; subst h
          obtain ⟨zv, e1, e2⟩ := run_zero hz w ρ
          exact ⟨.tuple #[zv, .bool false], ta_nil hu e1, pair e2⟩
    · cases h

theorem lenA_sound {t : Option TypeId} {x v : AV} {x' : Value} {ts : Array TypeId} {ty : TypeId} (ht : ts[0]? = t) (hx : VRel ρ x x') (h : lenA P t x = some v) :
    ∃ u, (Builtin.len_ ts ty #[x']).run P w = .ok u w ∧ VRel ρ v u := by
  unfold lenA at h
  split at h
  · rename_i hu
    obtain ⟨t', rfl, hu⟩ := Option.bind_eq_some_iff.1 hu
    simp only [VRel] at hx; subst hx; obtain rfl := Option.some.inj h
    exact ⟨_, by simp only [Builtin.len_, ht, List.getElem?_toArray, List.getElem?_cons_zero, Sem.run_bind, run_under hu, Result.andThen_ok, Sem.run_pure]; rfl, by simp only [VRel, goInt, lenB_eq, bytes_size]; rfl⟩
  · rename_i hu
    obtain ⟨t', rfl, hu⟩ := Option.bind_eq_some_iff.1 hu
    obtain ⟨a, c', rfl, _⟩ := slice_pos hx; obtain rfl := Option.some.inj h
    exact ⟨_, by simp only [Builtin.len_, ht, List.getElem?_toArray, List.getElem?_cons_zero, Sem.run_bind, run_under hu, Result.andThen_ok, Sem.run_pure]; rfl, by simp only [VRel, goInt]; rfl⟩
  · rename_i hu
    obtain ⟨t', rfl, hu⟩ := Option.bind_eq_some_iff.1 hu
    simp only [VRel] at hx; subst hx; obtain rfl := Option.some.inj h
    exact ⟨_, by simp only [Builtin.len_, ht, List.getElem?_toArray, List.getElem?_cons_zero, Sem.run_bind, run_under hu, Result.andThen_ok, Sem.run_pure]; rfl, by simp only [VRel, goInt]; rfl⟩
  · cases h

theorem capA_sound {t : Option TypeId} {x v : AV} {x' : Value} {ts : Array TypeId} {ty : TypeId} (ht : ts[0]? = t) (hx : VRel ρ x x') (h : capA P t x = some v) :
    ∃ u, (Builtin.cap_ ts ty #[x']).run P w = .ok u w ∧ VRel ρ v u := by
  unfold capA at h
  split at h
  · rename_i hu
    obtain ⟨t', rfl, hu⟩ := Option.bind_eq_some_iff.1 hu
    obtain ⟨a, c', rfl, _, _, k, _⟩ := slice_pos hx; obtain rfl := Option.some.inj h
    obtain rfl := k rfl
    exact ⟨_, by simp only [Builtin.cap_, ht, List.getElem?_toArray, List.getElem?_cons_zero, Sem.run_bind, run_under hu, Result.andThen_ok, Sem.run_pure]; rfl, by simp only [VRel, goInt]; rfl⟩
  · rename_i hu
    obtain ⟨t', rfl, hu⟩ := Option.bind_eq_some_iff.1 hu
    simp only [VRel] at hx; subst hx; obtain rfl := Option.some.inj h
    exact ⟨_, by simp only [Builtin.cap_, ht, List.getElem?_toArray, List.getElem?_cons_zero, Sem.run_bind, run_under hu, Result.andThen_ok, Sem.run_pure]; rfl, by simp only [VRel, goInt]; rfl⟩
  · cases h

theorem LRel.one {x : AV} {l : List Value} (h : LRel ρ [x] l) : ∃ v, l = [v] ∧ VRel ρ x v := by
  simp only [LRel] at h; obtain ⟨v, vs, rfl, h, rfl⟩ := h; exact ⟨v, rfl, h⟩
theorem LRel.two {x y : AV} {l : List Value} (h : LRel ρ [x, y] l) : ∃ u v, l = [u, v] ∧ VRel ρ x u ∧ VRel ρ y v := by
  simp only [LRel] at h; obtain ⟨u, vs, rfl, h, v, us, rfl, h', rfl⟩ := h; exact ⟨u, v, rfl, h, h'⟩

theorem builtinL_sound {b : Builtin} {ts : Array TypeId} {xs : List AV} {v : AV} {args : Array Value} {ty : TypeId} {cs : Array Bool} (hx : LRel ρ xs args.toList) (h : builtinL P b ts xs = some v) :
    ∃ u, (builtin b ts ty cs args).run P w = .ok (.value u) w ∧ VRel ρ v u := by
  unfold builtinL at h
  split at h
  · obtain ⟨x', e, hx1⟩ := hx.one
    obtain rfl : args = #[x'] := by cases args; simp_all
    obtain ⟨u, e1, e2⟩ := lenA_sound (w := w) (ty := ty) rfl hx1 h
    exact ⟨u, run_val e1, e2⟩
  · obtain ⟨x', e, hx1⟩ := hx.one
    obtain rfl : args = #[x'] := by cases args; simp_all
    obtain ⟨u, e1, e2⟩ := capA_sound (w := w) (ty := ty) rfl hx1 h
    exact ⟨u, run_val e1, e2⟩
  · rename_i k x k' y
    obtain ⟨x', y', e, hx1, hy1⟩ := hx.two
    obtain rfl : args = #[x', y'] := by cases args; simp_all
    clear hx
    simp only [VRel] at hx1 hy1; subst hx1; subst hy1; obtain rfl := Option.some.inj h
    refine ⟨.int k (if y < x then y else x), run_val rfl, ?_⟩
    simp only [VRel, ilt_eq]
    by_cases hc : y < x <;> simp [hc]
  · rename_i k x k' y
    obtain ⟨x', y', e, hx1, hy1⟩ := hx.two
    obtain rfl : args = #[x', y'] := by cases args; simp_all
    clear hx
    simp only [VRel] at hx1 hy1; subst hx1; subst hy1; obtain rfl := Option.some.inj h
    refine ⟨.int k (if y > x then y else x), run_val rfl, ?_⟩
    simp only [VRel, ilt_eq]
    by_cases hc : x < y <;> simp [hc]
  · cases h

theorem toBytes_cons (c : AV) (cs : List AV) : toBytes (c :: cs) = (match c with | .int .u8 (.ofNat n) => (toBytes cs).map (UInt8.ofNat n :: ·) | _ => none) := rfl
theorem toBytes_spec : ∀ {cs : List AV} {bs : List UInt8} {vs : List Value}, toBytes cs = some bs → LRel ρ cs vs → ∃ ns : List Int, vs = ns.map (Value.int .u8) ∧ bs = ns.map fun n => UInt8.ofNat n.toNat
  | [], bs, vs, h, k => by
    simp only [LRel] at k; subst k
    have e : toBytes [] = some [] := rfl
    rw [e] at h; obtain rfl := Option.some.inj h
    exact ⟨[], rfl, rfl⟩
  | c :: cs, bs, l, h, k => by
    rw [toBytes_cons] at h
    simp only [LRel] at k
    obtain ⟨v, vs, rfl, k1, k2⟩ := k
    split at h
    · rename_i n
      simp only [VRel] at k1; subst k1
      cases hb : toBytes cs with
      | none => rw [hb] at h; cases h
      | some b =>
        rw [hb] at h; simp only [Option.map_some, Option.some.injEq] at h; subst h
        obtain ⟨ns, rfl, rfl⟩ := toBytes_spec hb k2
        exact ⟨Int.ofNat n :: ns, rfl, rfl⟩
    · cases h

theorem foldl_push : ∀ (ns : List Int) (r : ByteArray), ns.foldl (fun r n => r.push (UInt8.ofNat n.toNat)) r = ⟨r.data ++ (ns.map fun n => UInt8.ofNat n.toNat).toArray⟩
  | [], r => by simp
  | n :: ns, r => by
    simp only [List.foldl_cons, List.map_cons]
    rw [foldl_push ns]; simp [ByteArray.push]

theorem bytes_run {t : Option Addr} {n c : Nat} {ds : List AV} {vs : Array Value} {bs : List UInt8} {a : Addr} (ht : t = some a) (hl : (loadCells a n).run P w = .ok vs w) (hr : LRel ρ ds vs.toList) (hb : toBytes ds = some bs) :
    (Conv.bytesToString (.slice t n c)).run P w = .ok (.string ⟨⟨bs⟩⟩) w := by
  subst ht
  obtain ⟨ns, e, rfl⟩ := toBytes_spec hb hr
  have e2 : vs = (ns.map (Value.int .u8)).toArray := by rw [← e]
  rw [e2] at hl
  rw [run_bytesToString w a n c ns hl, foldl_push]
  simp

theorem convA_sound {src dst : TypeId} {x v : AV} {hp : Heap} {x' : Value} (hR : Rel ρ N hp.get base w0 w) (hx : VRel ρ x x') (h : convA P src dst x hp = some v) (hsrc : ∃ d, P.underlying src = some d) :
    ∃ u, (convert src dst x').run P w = .ok u w ∧ VRel ρ v u := by
  obtain ⟨sd, hsd⟩ := hsrc
  unfold convA at h
  split at h
  · rename_i k n
    simp only [VRel] at hx; subst hx
    split at h
    · rename_i k' hd
      obtain rfl := Option.some.inj h
      exact ⟨.int k' (k'.wrap n), by simp [convert, run_under hsd, run_under hd, Conv.intToInt], by simp only [VRel, wrapF_eq]⟩
    · cases h
  · rename_i s
    simp only [VRel] at hx; subst hx
    split at h
    · rename_i hd
      obtain rfl := Option.some.inj h
      exact ⟨.string ⟨⟨s⟩⟩, by simp [convert, run_under hsd, run_under hd], by simp only [VRel]⟩
    · cases h
  · rename_i id off n cap es op
    split at h
    · rename_i e hs hd
      split at h
      · rename_i he
        obtain ⟨a, c', rfl, k0, k1, k2, k3⟩ := slice_pos hx
        rw [run_convert_bytes_string w src dst e (some a) n c' hs he hd]
        split at h
        · rename_i cs hc
          rcases k3 with k3 | ⟨t, et, rfl, k4⟩
          · obtain rfl : n = 0 := by omega
            rw [slc_eq] at h
            split at h
            · simp only [List.take_zero, Option.bind_some] at h
              have e0 : toBytes [] = some [] := rfl
              rw [e0] at h; simp only [Option.map_some, Option.some.injEq] at h; subst h
              exact ⟨.string ⟨⟨[]⟩⟩, bytes_run (ρ := ρ) (vs := #[]) rfl (by simp [loadCells, loadCellsFrom]) (ds := []) (by simp [LRel]) rfl, by simp only [VRel]⟩
            · cases h
          · rw [slc_eq] at h
            split at h
            · rename_i hn
              simp only [Option.bind_some] at h
              cases hb : toBytes ((cs.drop off).take n) with
              | none => rw [hb] at h; cases h
              | some bs =>
                rw [hb] at h; simp only [Option.map_some, Option.some.injEq] at h; subst h
                obtain ⟨vs, e1, e2⟩ := hR.loads (P := P) et hc hn
                exact ⟨_, bytes_run rfl e1 e2 hb, by simp only [VRel]⟩
            · cases h
        · obtain ⟨hb, h⟩ := cond_some h
          obtain rfl := Option.some.inj h
          obtain rfl : n = 0 := by simpa [Nat.beq_eq] using hb
          exact ⟨.string ⟨⟨[]⟩⟩, bytes_run (ρ := ρ) (vs := #[]) rfl (by simp [loadCells, loadCellsFrom]) (ds := []) (by simp [LRel]) rfl, by simp only [VRel]⟩
      · cases h
    · cases h
  · simp only [VRel] at hx; subst hx
    split at h
    · rename_i e hs hd
      split at h
      · rename_i he
        obtain rfl := Option.some.inj h
        rw [run_convert_bytes_string w src dst e none 0 0 hs he hd]
        exact ⟨.string .empty, by simp [Conv.bytesToString], by simp only [VRel]; rfl⟩
      · cases h
    · cases h
  · cases h

theorem intArg_spec {o : Option AV} {n : Option Nat} {o' : Option Value} (h : intArg o = some n) (hr : ∀ a, o = some a → ∃ v, o' = some v ∧ VRel ρ a v) (hn : o = none → o' = none) :
    (n = none ∧ o' = none) ∨ ∃ k m, n = some m ∧ o' = some (.int k (Int.ofNat m)) := by
  unfold intArg at h
  split at h
  · obtain rfl := Option.some.inj h; exact .inl ⟨rfl, hn rfl⟩
  · rename_i k m
    obtain rfl := Option.some.inj h
    obtain ⟨v, e, hv⟩ := hr _ rfl
    simp only [VRel] at hv; subst hv
    exact .inr ⟨k, m, rfl, e⟩
  · cases h

theorem run_bound {k : IntKind} {m y : Nat} {code : BoundsCode} (h : m ≤ y) : (Instr.sliceBound (.int k (Int.ofNat m)) y code).run P w = .ok m w := by
  have hc : (0 : Int) ≤ Int.ofNat m ∧ Int.ofNat m ≤ (y : Int) := by rw [Int.ofNat_eq_natCast]; omega
  simp only [Instr.sliceBound, asIntOf, Sem.run_bind, Sem.run_pure, Result.andThen_ok, if_pos hc]; rfl

theorem run_bounds {s : Bool} {len cap : Nat} {lo hi : Option Value} {l h : Option Nat} (hl : (l = none ∧ lo = none) ∨ ∃ k m, l = some m ∧ lo = some (.int k (Int.ofNat m)))
    (hh : (h = none ∧ hi = none) ∨ ∃ k m, h = some m ∧ hi = some (.int k (Int.ofNat m))) (h1 : h.getD len ≤ cap) (h2 : l.getD 0 ≤ h.getD len) :
    (Instr.sliceBounds s len cap lo hi none).run P w = .ok (l.getD 0, h.getD len, cap) w := by
  rcases hl with ⟨rfl, rfl⟩ | ⟨k, m, rfl, rfl⟩ <;> rcases hh with ⟨rfl, rfl⟩ | ⟨k', m', rfl, rfl⟩
  · simp [Instr.sliceBounds]
  · simp only [Instr.sliceBounds, Sem.run_bind, Sem.run_pure, Result.andThen_ok, Option.getD_some, Option.getD_none] at *
    rw [run_bound h1]; simp
  · simp only [Instr.sliceBounds, Sem.run_bind, Sem.run_pure, Result.andThen_ok, Option.getD_some, Option.getD_none] at *
    rw [run_bound h2]; simp
  · simp only [Instr.sliceBounds, Sem.run_bind, Sem.run_pure, Result.andThen_ok, Option.getD_some] at *
    rw [run_bound h1]; simp only [Result.andThen_ok]
    rw [run_bound h2]; simp

theorem run_bounds3 {len cap : Nat} {lo : Option Value} {k k' : IntKind} {l : Option Nat} {h m : Nat} (hl : (l = none ∧ lo = none) ∨ ∃ k m, l = some m ∧ lo = some (.int k (Int.ofNat m)))
    (h1 : h ≤ m) (h2 : l.getD 0 ≤ h) (h3 : m ≤ cap) :
    (Instr.sliceBounds true len cap lo (some (.int k (Int.ofNat h))) (some (.int k' (Int.ofNat m)))).run P w = .ok (l.getD 0, h, m) w := by
  rcases hl with ⟨rfl, rfl⟩ | ⟨k, q, rfl, rfl⟩
  · simp only [Instr.sliceBounds, Sem.run_bind, Sem.run_pure, Result.andThen_ok, if_true]
    rw [run_bound h3]; simp only [Result.andThen_ok]
    rw [run_bound h1]; simp
  · simp only [Instr.sliceBounds, Sem.run_bind, Sem.run_pure, if_true, Option.getD_some] at *
    rw [run_bound h3]; simp only [Result.andThen_ok]
    rw [run_bound h1]; simp only [Result.andThen_ok]
    rw [run_bound h2]; simp

theorem sliceA_sound {t : TypeId} {x v : AV} {lo hi mx : Option AV} {x' : Value} {lo' hi' mx' : Option Value} (hx : VRel ρ x x') (hl : ∀ a, lo = some a → ∃ v, lo' = some v ∧ VRel ρ a v) (hl0 : lo = none → lo' = none)
    (hh : ∀ a, hi = some a → ∃ v, hi' = some v ∧ VRel ρ a v) (hh0 : hi = none → hi' = none) (hm : mx = none → mx' = none) (hmm : ∀ a, mx = some a → ∃ v, mx' = some v ∧ VRel ρ a v) (h : sliceA P t x lo hi mx = some v) :
    ∃ u, (Instr.sliceAt t x' lo' hi' mx').run P w = .ok u w ∧ VRel ρ v u := by
  unfold sliceA at h
  split at h
  · rename_i s l hh' e1 e2
    split at h
    · rename_i hu
      simp only [VRel] at hx; subst hx
      obtain ⟨hc, h⟩ := cond_some h
      rw [Bool.and_eq_true] at hc
      have c1 := Nat.le_of_ble_eq_true hc.1
      have c2 := Nat.le_of_ble_eq_true hc.2
      rw [lenB_eq] at c1 c2 h
      obtain rfl := Option.some.inj h
      have hb := run_bounds (P := P) (w := w) (s := false) (len := s.length) (cap := s.length) (intArg_spec e1 hl hl0) (intArg_spec e2 hh hh0) c1 c2
      refine ⟨.string ⟨⟨(s.take (hh'.getD s.length)).drop (l.getD 0)⟩⟩, ?_, by simp only [VRel]⟩
      simp only [Instr.sliceAt, Sem.run_bind, run_under hu, Result.andThen_ok, Instr.slice, hm rfl, Option.isSome_none, Bool.false_eq_true, if_false, Sem.run_pure, bytes_size]
      rw [hb]; simp only [Result.andThen_ok, bytes_extract]
    · cases h
  · rename_i id off n cap es op l hh' e1 e2
    split at h
    · rename_i e sz hs
      obtain ⟨h1, h2⟩ := slElem_spec hs
      obtain ⟨hc, h⟩ := cond_some h
      rw [Bool.and_eq_true, Bool.and_eq_true] at hc
      have c0 : sz = es := by simpa [Nat.beq_eq] using hc.1.1
      have c1 := Nat.le_of_ble_eq_true hc.1.2
      have c2 := Nat.le_of_ble_eq_true hc.2
      subst c0
      obtain rfl := Option.some.inj h
      simp only [VRel] at hx
      obtain ⟨a, c', tt, rfl, k0, k1, k2, et, k3⟩ := hx
      have hb := run_bounds (P := P) (w := w) (s := true) (len := n) (cap := c') (intArg_spec e1 hl hl0) (intArg_spec e2 hh hh0) (by omega) c2
      refine ⟨.slice (some (if c' = l.getD 0 then a else a.add (l.getD 0 * sz))) (hh'.getD n - l.getD 0) (c' - l.getD 0), ?_, ?_⟩
      · simp only [Instr.sliceAt, Sem.run_bind, run_under h1, Result.andThen_ok, Instr.slice, hm rfl]
        rw [hb]; simp only [Result.andThen_ok, run_size h2, Sem.run_pure]
        by_cases hq : c' = l.getD 0 <;> simp [hq]
      · simp only [VRel]
        refine ⟨_, _, tt, rfl, by omega, by omega, fun ho => by rw [k2 ho], et, ?_⟩
        by_cases hq : c' = l.getD 0
        · left; omega
        · rcases k3 with k3 | ⟨rfl, k4⟩
          · left; omega
          · right
            refine ⟨?_, ?_⟩
            · rw [if_neg hq, addr_add0]
              have e : tt.d + off + l.getD 0 * sz = tt.d + (off + l.getD 0 * sz) := by omega
              rw [e]
            · have : (c' - l.getD 0) * sz + l.getD 0 * sz = c' * sz := by rw [← Nat.add_mul, Nat.sub_add_cancel (by omega)]
              omega
    · cases h
  · rename_i id off n cap es op l hh' km m e1 e2
    split at h
    · rename_i e sz hs
      obtain ⟨h1, h2⟩ := slElem_spec hs
      obtain ⟨hc, h⟩ := cond_some h
      rw [Bool.and_eq_true, Bool.and_eq_true, Bool.and_eq_true] at hc
      have c0 : sz = es := by simpa [Nat.beq_eq] using hc.1.1.1
      have c1 := Nat.le_of_ble_eq_true hc.1.1.2
      have c3 := Nat.le_of_ble_eq_true hc.1.2
      have c2 := Nat.le_of_ble_eq_true hc.2
      subst c0
      obtain rfl := Option.some.inj h
      simp only [VRel] at hx
      obtain ⟨a, c', tt, rfl, k0, k1, k2, et, k3⟩ := hx
      obtain ⟨mv, em, hmv⟩ := hmm _ rfl
      simp only [VRel] at hmv; subst hmv
      obtain ⟨kh, eh⟩ : ∃ kh, hi' = some (.int kh (Int.ofNat hh')) := by
        rcases intArg_spec e2 hh hh0 with ⟨q, _⟩ | ⟨kh, q, eq, eh⟩
        · cases q
        · obtain rfl := Option.some.inj eq; exact ⟨kh, eh⟩
      have hb := run_bounds3 (P := P) (w := w) (len := n) (cap := c') (k := kh) (k' := km) (intArg_spec e1 hl hl0) c1 c2 (by omega : m ≤ c')
      refine ⟨.slice (some (if m = l.getD 0 then a else a.add (l.getD 0 * sz))) (hh' - l.getD 0) (m - l.getD 0), ?_, ?_⟩
      · simp only [Instr.sliceAt, Sem.run_bind, run_under h1, Result.andThen_ok, Instr.slice, em, eh]
        rw [hb]; simp only [Result.andThen_ok, run_size h2, Sem.run_pure]
        by_cases hq : m = l.getD 0 <;> simp [hq]
      · simp only [VRel]
        refine ⟨_, _, tt, rfl, by omega, Nat.le_refl _, fun _ => rfl, et, ?_⟩
        by_cases hq : m = l.getD 0
        · left; omega
        · rcases k3 with k3 | ⟨rfl, k4⟩
          · left; omega
          · right
            refine ⟨?_, ?_⟩
            · rw [if_neg hq, addr_add0]
              have e : tt.d + off + l.getD 0 * sz = tt.d + (off + l.getD 0 * sz) := by omega
              rw [e]
            · have e8 : (m - l.getD 0) * sz + l.getD 0 * sz = m * sz := by rw [← Nat.add_mul, Nat.sub_add_cancel (by omega)]
              have e9 : m * sz ≤ c' * sz := Nat.mul_le_mul_right _ (by omega)
              omega
    · cases h
  · rename_i l hh' e1 e2
    split at h
    · rename_i q hs
      obtain ⟨e, sz⟩ := q
      obtain ⟨h1, h2⟩ := slElem_spec hs
      obtain ⟨hc, h⟩ := cond_some h
      rw [Bool.and_eq_true] at hc
      have c1 : l.getD 0 = 0 := by simpa [Nat.beq_eq] using hc.1
      have c2 : hh'.getD 0 = 0 := by simpa [Nat.beq_eq] using hc.2
      obtain rfl := Option.some.inj h
      simp only [VRel] at hx; subst hx
      have hb := run_bounds (P := P) (w := w) (s := true) (len := 0) (cap := 0) (intArg_spec e1 hl hl0) (intArg_spec e2 hh hh0) (by omega) (by omega)
      refine ⟨.slice none 0 0, ?_, by simp only [VRel]⟩
      simp only [Instr.sliceAt, Sem.run_bind, run_under h1, Result.andThen_ok, Instr.slice, hm rfl]
      rw [hb]; simp only [Result.andThen_ok, run_size h2, Sem.run_pure, c1, c2]; rfl
    · cases h
  · cases h
end Go.Fv
