/-
  Ev, part M2: strings, comparisons, structs that are built.
-/
import Derived.Test.YtdcimkbkijcklaaGreatDoorFvM
import Derived.Laws.IdiomStrings
import Derived.Laws.StructEq
namespace Go.Fv
open Go.RowKit

variable {P : Program} {w w0 : World} {ρ : Rho} {N : Nat} {g : Nat → Blk} {base : Nat}

theorem bytes_get (l : List UInt8) (n : Nat) : (ByteArray.mk (Array.mk l))[n]? = l[n]? := by
  by_cases h : n < l.length
  · have h1 : (ByteArray.mk (Array.mk l))[n]? = some (ByteArray.mk (Array.mk l))[n] := getElem?_pos (ByteArray.mk (Array.mk l)) n h
    have h2 : l[n]? = some l[n] := getElem?_pos l n h
    rw [h1, h2]; rfl
  · have h1 : (ByteArray.mk (Array.mk l))[n]? = none := getElem?_neg (ByteArray.mk (Array.mk l)) n h
    have h2 : l[n]? = none := getElem?_neg l n h
    rw [h1, h2]
theorem bytes_append (a b : List UInt8) : (ByteArray.mk ⟨a⟩) ++ (ByteArray.mk ⟨b⟩) = ByteArray.mk ⟨a ++ b⟩ := by
  apply ByteArray.ext; rw [ByteArray.data_append]; simp
theorem bytes_extract (a : List UInt8) (l h : Nat) : (ByteArray.mk ⟨a⟩).extract l h = ByteArray.mk ⟨(a.take h).drop l⟩ := by
  apply ByteArray.ext; rw [ByteArray.data_extract]; simp [List.extract_eq_take_drop, List.drop_take]
theorem bytes_toList (a : List UInt8) : (ByteArray.mk ⟨a⟩).toList = a := by rw [ByteArray.toList_eq]
theorem bytes_size (a : List UInt8) : (ByteArray.mk ⟨a⟩).size = a.length := rfl

theorem idxA_sound {t : TypeId} {x i v : AV} {x' i' : Value} (hx : VRel ρ x x') (hi : VRel ρ i i') (h : idxA P t x i = some v) :
    ∃ u, (Instr.index t x' i').run P w = .ok u w ∧ VRel ρ v u := by
  unfold idxA at h
  split at h
  · rename_i k n
    simp only [VRel] at hi; subst hi
    split at h
    · rename_i s
      split at h
      · rename_i hu
        simp only [VRel] at hx; subst hx
        rw [nthB_eq] at h
        cases hb : s[n]? with
        | none => rw [hb] at h; cases h
        | some b =>
          rw [hb] at h; simp only [Option.map_some, Option.some.injEq] at h; subst h
          refine ⟨.int .u8 b.toNat, ?_, by simp only [VRel]; rfl⟩
          have h0 : (0 : Int) ≤ Int.ofNat n := by rw [Int.ofNat_eq_natCast]; omega
          have hn : (Int.ofNat n).toNat = n := rfl
          simp only [Instr.index, asIntOf, Sem.run_bind, Sem.run_pure, Result.andThen_ok, run_under hu, if_pos h0, hn, bytes_get, hb]
      · cases h
    · rename_i cs
      split at h
      · rename_i l e sz hs
        obtain ⟨h1, h2⟩ := arElem_spec hs
        obtain ⟨hb, h⟩ := cond_some h
        have hn : n < l := by simpa [Nat.blt_eq] using hb
        simp only [VRel] at hx
        obtain ⟨vs, rfl, hl⟩ := hx
        obtain ⟨u, e1, e2⟩ := partA_sound (P := P) (w := w) hl h
        refine ⟨u, ?_, e2⟩
        have hc : (0 : Int) ≤ Int.ofNat n ∧ Int.ofNat n < (l : Int) := by rw [Int.ofNat_eq_natCast]; omega
        have hn : (Int.ofNat n).toNat = n := rfl
        simp only [Instr.index, asIntOf, Sem.run_bind, Sem.run_pure, Result.andThen_ok, run_under h1, if_pos hc, run_size h2, hn]
        exact e1
      · cases h
    · cases h
  · cases h

theorem strBin_sound {op : BinOp} {t : TypeId} {a b : List UInt8} {v : AV} (h : strBin op a b = some v) : ∃ u, (binOp op t (.string ⟨⟨a⟩⟩) (.string ⟨⟨b⟩⟩)).run P w = .ok u w ∧ VRel ρ v u := by
  have e : binOp op t (.string ⟨⟨a⟩⟩) (.string ⟨⟨b⟩⟩) = Op.stringOp op ⟨⟨a⟩⟩ ⟨⟨b⟩⟩ := by cases op <;> simp [binOp]
  rw [e]
  cases op <;> simp only [strBin] at h
  case add =>
    obtain ⟨hb, h⟩ := cond_some h
    have hb := Nat.le_of_ble_eq_true hb
    rw [lenB_eq, lenB_eq] at hb
    obtain rfl := Option.some.inj h
    refine ⟨.string ⟨⟨a ++ b⟩⟩, ?_, by simp only [VRel]⟩
    have hm : ¬ (((ByteArray.mk ⟨a⟩).size + (ByteArray.mk ⟨b⟩).size : Nat) : Int) > IntKind.i64.max := by
      rw [bytes_size, bytes_size]
      have e : IntKind.i64.max = 9223372036854775807 := by decide
      rw [e]; omega
    simp only [Op.stringOp, if_neg hm, Sem.run_pure, bytes_append]
  all_goals first
    | (obtain rfl := Option.some.inj h; refine ⟨_, rfl, ?_⟩; simp only [VRel, bytesEq, bytes_toList]; done)
    | (cases h; done)

theorem eq1_sound {ty : TypeId} {d : TypeDesc} {x y : AV} {x' y' : Value} {b : Bool} (hd : P.underlying ty = some d) (hx : VRel ρ x x') (hy : VRel ρ y y') (h : eq1 d x y = some b) (n : Nat) :
    (Op.equalIn (n + 1) ty x' y').run P w = .ok b w := by
  unfold eq1 at h
  split at h
  · simp only [VRel] at hx hy; subst hx; subst hy; obtain rfl := Option.some.inj h
    simp [Op.equalIn, run_under hd]
  · rename_i k k' a c
    simp only [VRel] at hx hy; subst hx; subst hy
    split at h
    · rename_i hk; subst hk; obtain rfl := Option.some.inj h
      simp [Op.equalIn, run_under hd, ieq_eq]
    · cases h
  · simp only [VRel] at hx hy; subst hx; subst hy; obtain rfl := Option.some.inj h
    simp only [Op.equalIn, Sem.run_bind, run_under hd, Result.andThen_ok, Sem.run_pure, beq_toListBytes, bytes_toList, bytesEq]
  · cases h

theorem eq1_type {ty : TypeId} {d : TypeDesc} {x y : AV} {b : Bool} (hd : P.underlying ty = some d) (h : eq1 d x y = some b) : (isAgg ty).run P w = .ok false w := by
  unfold eq1 at h
  split at h <;> simp_all [isAgg, underlying]

theorem eqFields_sound {xs ys : List AV} {xs' ys' : Array Value} (hx : LRel ρ xs xs'.toList) (hy : LRel ρ ys ys'.toList) (n : Nat) :
    ∀ (fs : List Field) (b : Bool), eqFields P xs ys fs = some b → (Op.eqFields (n + 1) xs' ys' fs).run P w = .ok b w
  | [], b, h => by
    have e : eqFields P xs ys [] = some true := rfl
    rw [e] at h; obtain rfl := Option.some.inj h; rfl
  | f :: fs, b, h => by
    have e : eqFields P xs ys (f :: fs) = (if f.name = "_" then none else
      match P.underlying f.type, nth xs f.offset, nth ys f.offset with
      | some d, some x, some y => match eq1 d x y with | some true => eqFields P xs ys fs | some false => some false | none => none
      | _, _, _ => none) := rfl
    rw [e] at h
    split at h
    · cases h
    · rename_i hf
      split at h
      · rename_i d x y hd h1 h2
        rw [nth_eq] at h1 h2
        obtain ⟨x', ex, rx⟩ := hx.get h1
        obtain ⟨y', ey, ry⟩ := hy.get h2
        rw [Array.getElem?_toList] at ex ey
        unfold Op.eqFields
        rw [if_pos hf]
        split at h
        · rename_i hq
          have ha := eq1_type (w := w) hd hq
          simp only [Sem.run_bind, part, ha, Result.andThen_ok, ex, ey, Sem.run_pure, Bool.false_eq_true, if_false, eq1_sound hd rx ry hq n, Bool.not_true, Sem.run_ite]
          exact eqFields_sound hx hy n fs b h
        · rename_i hq
          have ha := eq1_type (w := w) hd hq
          obtain rfl := Option.some.inj h
          simp only [Sem.run_bind, part, ha, Result.andThen_ok, ex, ey, Sem.run_pure, Bool.false_eq_true, if_false, eq1_sound hd rx ry hq n, Bool.not_false, if_true]
        · cases h
      · cases h

theorem eqGuard_plain {u v : Value} (h1 : (∀ a, u ≠ .agg a) ∨ ∀ a, v ≠ .agg a) (h2 : u ≠ .nilIface ∨ v ≠ .nilIface) (op : BinOp) (t : TypeId) (ox oy : Operand) : (eqGuard op t ox oy u v).run P w = .ok () w := by
  cases op
  case eql => cases u <;> first | rfl | (cases v <;> first | rfl | (simp at h2; done) | (simp at h1; done))
  case neq => cases u <;> first | rfl | (cases v <;> first | rfl | (simp at h2; done) | (simp at h1; done))
  all_goals rfl

theorem eqGuard_off {op : BinOp} (h1 : op ≠ .eql) (h2 : op ≠ .neq) (t : TypeId) (ox oy : Operand) (u v : Value) : (eqGuard op t ox oy u v).run P w = .ok () w := by
  cases op
  case eql => exact absurd rfl h1
  case neq => exact absurd rfl h2
  all_goals rfl

theorem isNilConst_spec {x : Operand} (h : isNilConst x = true) : x = .const .nilIface := by
  unfold isNilConst at h
  split at h
  · rfl
  · cases h
theorem eqGuard_nils {ox oy : Operand} (hc : (isNilConst ox || isNilConst oy) = true) (op : BinOp) (t : TypeId) : (eqGuard op t ox oy .nilIface .nilIface).run P w = .ok () w := by
  by_cases h1 : op = .eql ∨ op = .neq
  · rw [Bool.or_eq_true] at hc
    rcases hc with hc | hc
    · obtain rfl := isNilConst_spec hc
      rcases h1 with h1 | h1 <;> (subst h1; simp [eqGuard])
    · obtain rfl := isNilConst_spec hc
      rcases h1 with h1 | h1 <;> (subst h1; simp [eqGuard])
  · exact eqGuard_off (fun e => h1 (.inl e)) (fun e => h1 (.inr e)) t ox oy _ _

theorem eqA_sound {t : TypeId} {x y : AV} {x' y' : Value} {b : Bool} (hx : VRel ρ x x') (hy : VRel ρ y y') (h : eqA P t x y = some b) (op : BinOp) (ox oy : Operand) :
    (Op.equal t x' y').run P w = .ok b w ∧ (eqGuard op t ox oy x' y').run P w = .ok () w ∧
    (binOp .eql t x' y' = (do pure (.bool (← Op.equal t x' y')))) ∧ (binOp .neq t x' y' = (do pure (.bool (!(← Op.equal t x' y'))))) := by
  have gd : ∀ {u v : Value}, ((∀ a, u ≠ .agg a) ∨ ∀ a, v ≠ .agg a) → (u ≠ .nilIface ∨ v ≠ .nilIface) → (eqGuard op t ox oy u v).run P w = .ok () w := fun h1 h2 => eqGuard_plain h1 h2 op t ox oy
  have eqi : ∀ (u v : Value), (Op.equal t u v).run P w = (Op.equalIn (9999 + 1) t u v).run P w := fun u v => rfl
  unfold eqA at h
  split at h
  · split at h
    · rename_i hu
      simp only [VRel] at hx hy; subst hx; subst hy; obtain rfl := Option.some.inj h
      exact ⟨by rw [eqi]; generalize 9999 = n; simp [Op.equalIn, run_under hu], gd (by simp) (by simp), rfl, rfl⟩
    · cases h
  · split at h
    · rename_i hu
      simp only [VRel] at hx hy; subst hx; subst hy; obtain rfl := Option.some.inj h
      exact ⟨by rw [eqi]; generalize 9999 = n; simp [Op.equalIn, run_under hu], gd (by simp) (by simp), rfl, rfl⟩
    · cases h
  · split at h
    · rename_i hu
      simp only [VRel] at hx hy; obtain ⟨tt, _, rfl⟩ := hx; subst hy; obtain rfl := Option.some.inj h
      exact ⟨by rw [eqi]; generalize 9999 = n; simp [Op.equalIn, run_under hu], gd (by simp) (by simp), rfl, rfl⟩
    · cases h
  · split at h
    · rename_i hu
      simp only [VRel] at hx hy; obtain ⟨tt, _, rfl⟩ := hy; subst hx; obtain rfl := Option.some.inj h
      exact ⟨by rw [eqi]; generalize 9999 = n; simp [Op.equalIn, run_under hu], gd (by simp) (by simp), rfl, rfl⟩
    · cases h
  · split at h
    · rename_i hu
      simp only [VRel] at hx hy; subst hx; subst hy; obtain rfl := Option.some.inj h
      exact ⟨by rw [eqi]; generalize 9999 = n; simp [Op.equalIn, run_under hu], gd (by simp) (by simp), rfl, rfl⟩
    · cases h
  · split at h
    · rename_i hu
      simp only [VRel] at hx hy; obtain ⟨a, c', _, rfl, _⟩ := hx; subst hy; obtain rfl := Option.some.inj h
      exact ⟨by rw [eqi]; generalize 9999 = n; simp [Op.equalIn, run_under hu], gd (by simp) (by simp), rfl, rfl⟩
    · cases h
  · split at h
    · rename_i hu
      simp only [VRel] at hx hy; obtain ⟨a, c', _, rfl, _⟩ := hy; subst hx; obtain rfl := Option.some.inj h
      exact ⟨by rw [eqi]; generalize 9999 = n; simp [Op.equalIn, run_under hu], gd (by simp) (by simp), rfl, rfl⟩
    · cases h
  · split at h
    · rename_i hu
      simp only [VRel] at hx hy; subst hx; subst hy; obtain rfl := Option.some.inj h
      exact ⟨by rw [eqi]; generalize 9999 = n; simp [Op.equalIn, run_under hu], gd (by simp) (by simp), rfl, rfl⟩
    · cases h
  · split at h
    · rename_i hu
      simp only [VRel] at hx hy; obtain ⟨a, rfl, _⟩ := hx; subst hy; obtain rfl := Option.some.inj h
      exact ⟨by rw [eqi]; generalize 9999 = n; simp [Op.equalIn, run_under hu], gd (by simp) (by simp), rfl, rfl⟩
    · cases h
  · split at h
    · rename_i hu
      simp only [VRel] at hx hy; obtain ⟨a, rfl, _⟩ := hy; subst hx; obtain rfl := Option.some.inj h
      exact ⟨by rw [eqi]; generalize 9999 = n; simp [Op.equalIn, run_under hu], gd (by simp) (by simp), rfl, rfl⟩
    · cases h
  · split at h
    · rename_i hu
      simp only [VRel] at hx hy; obtain ⟨a, rfl, _⟩ := hx; subst hy; obtain rfl := Option.some.inj h
      exact ⟨by rw [eqi]; generalize 9999 = n; simp [Op.equalIn, run_under hu], gd (by simp) (by simp), rfl, rfl⟩
    · cases h
  · split at h
    · rename_i hu
      simp only [VRel] at hx hy; obtain ⟨a, rfl, _⟩ := hy; subst hx; obtain rfl := Option.some.inj h
      exact ⟨by rw [eqi]; generalize 9999 = n; simp [Op.equalIn, run_under hu], gd (by simp) (by simp), rfl, rfl⟩
    · cases h
  · split at h
    · rename_i fs hu
      obtain ⟨hs, h⟩ := cond_none h
      obtain ⟨hg, h⟩ := cond_none h
      simp only [VRel] at hx hy
      obtain ⟨as, rfl, hl⟩ := hx
      obtain ⟨bs, rfl, hl'⟩ := hy
      have hf : P.fieldsOf t = fs := by unfold Program.fieldsOf; rw [hu]
      have hu' : P.underlying t = some (.struct (P.fieldsOf t)) := by rw [hf]; exact hu
      refine ⟨?_, ?_, rfl, rfl⟩
      · rw [eqi, run_equalIn_struct w 9999 t as bs hu' hs, hf]
        exact eqFields_sound hl hl' 9998 _ b h
      · by_cases h1 : op = .eql
        · subst h1; simp [eqGuard, hg]
        · by_cases h2 : op = .neq
          · subst h2; simp [eqGuard, hg]
          · exact eqGuard_off h1 h2 t ox oy _ _
    · cases h
  · cases h

theorem binA_sound {op : BinOp} {t : TypeId} {ox oy : Operand} {x y v : AV} {x' y' : Value} (hx : VRel ρ x x') (hy : VRel ρ y y') (h : binA P op t ox oy x y = some v) :
    ∃ u, ((do eqGuard op t ox oy x' y'; binOp op t x' y') : Sem Value).run P w = .ok u w ∧ VRel ρ v u := by
  unfold binA at h
  split at h
  · rename_i k a k' b
    simp only [VRel] at hx hy; subst hx; subst hy
    have hg : (eqGuard op t ox oy (.int k a) (.int k' b)).run P w = .ok () w := eqGuard_plain (by simp) (by simp) op t ox oy
    split at h
    · obtain ⟨n, rfl, e⟩ := shiftA_eq (k' := k') h P w
      exact ⟨.int k n, by rw [Sem.run_bind, hg]; exact e, by simp only [VRel]⟩
    · obtain ⟨n, rfl, e⟩ := shiftA_eq (k' := k') h P w
      exact ⟨.int k n, by rw [Sem.run_bind, hg]; exact e, by simp only [VRel]⟩
    · rename_i h1 h2
      split at h
      · rename_i hk; subst hk
        obtain ⟨u, e1, e2⟩ := intBin_eq h (fun e => h1 (by rw [e])) (fun e => h2 (by rw [e])) P t w
        exact ⟨u, by rw [Sem.run_bind, hg]; exact e2, e1 ρ⟩
      · cases h
  · rename_i a b
    simp only [VRel] at hx hy; subst hx; subst hy
    have hg : (eqGuard op t ox oy (.string ⟨⟨a⟩⟩) (.string ⟨⟨b⟩⟩)).run P w = .ok () w := eqGuard_plain (by simp) (by simp) op t ox oy
    obtain ⟨u, e1, e2⟩ := strBin_sound (P := P) (w := w) (t := t) (ρ := ρ) h
    exact ⟨u, by rw [Sem.run_bind, hg]; exact e1, e2⟩
  · simp only [VRel] at hx hy; subst hx; subst hy
    obtain ⟨hc, h⟩ := cond_some h
    have hg : (eqGuard op t ox oy .nilIface .nilIface).run P w = .ok () w := eqGuard_nils hc op t
    split at h
    · rename_i ms hu
      have he : (Op.equal t .nilIface .nilIface).run P w = .ok true w := by
        show (Op.equalIn (9999 + 1) t .nilIface .nilIface).run P w = _
        generalize 9999 = n
        simp [Op.equalIn, run_under hu]
      split at h
      · obtain rfl := Option.some.inj h
        exact ⟨.bool true, by rw [Sem.run_bind, hg]; simp [binOp, he], by simp only [VRel]⟩
      · obtain rfl := Option.some.inj h
        exact ⟨.bool false, by rw [Sem.run_bind, hg]; simp [binOp, he], by simp only [VRel]⟩
      · cases h
    · cases h
  · split at h
    · cases hq : eqA P t x y with
      | none => rw [hq] at h; cases h
      | some b =>
        rw [hq] at h; simp only [Option.map_some, Option.some.injEq] at h; subst h
        obtain ⟨h1, h2, h3, h4⟩ := eqA_sound (w := w) hx hy hq .eql ox oy
        exact ⟨.bool b, by rw [Sem.run_bind, h2]; simp only [Result.andThen_ok]; rw [h3, Sem.run_bind, h1]; rfl, by simp only [VRel]⟩
    · cases hq : eqA P t x y with
      | none => rw [hq] at h; cases h
      | some b =>
        rw [hq] at h; simp only [Option.map_some, Option.some.injEq] at h; subst h
        obtain ⟨h1, h2, h3, h4⟩ := eqA_sound (w := w) hx hy hq .neq ox oy
        exact ⟨.bool (!b), by rw [Sem.run_bind, h2]; simp only [Result.andThen_ok]; rw [h4, Sem.run_bind, h1]; rfl, by simp only [VRel]⟩
    · cases h
end Go.Fv
