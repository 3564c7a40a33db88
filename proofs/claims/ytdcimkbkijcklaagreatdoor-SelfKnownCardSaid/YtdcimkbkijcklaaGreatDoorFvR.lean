/-
  Ev, part R: how the abstract machine's values and heap stand to the model's.
-/
import Derived.Test.YtdcimkbkijcklaaGreatDoorFvB
import Derived.Below
namespace Go.Fv
open Go.RowKit

/-- Where an id lies: the block, the place in it, how many cells are there. -/
structure Tgt where
  b : Nat
  d : Nat
  n : Nat

def Rho := Nat → Option Tgt

def Rho.le (ρ ρ' : Rho) : Prop := ∀ i t, ρ i = some t → ρ' i = some t
theorem Rho.le_refl (ρ : Rho) : ρ.le ρ := fun _ _ h => h
theorem Rho.le_trans {ρ ρ' ρ'' : Rho} (h : ρ.le ρ') (k : ρ'.le ρ'') : ρ.le ρ'' := fun i t e => k i t (h i t e)

mutual
def VRel (ρ : Rho) : AV → Value → Prop
  | .bad, _ => True
  | .bool b, v => v = .bool b
  | .int k n, v => v = .int k n
  | .str s, v => v = .string ⟨⟨s⟩⟩
  | .ptr id off, v => ∃ t, ρ id = some t ∧ v = .pointer (some ⟨t.b, t.d + off, none⟩)
  | .nilp, v => v = .pointer none
  | .slice id off len cap es op, v => ∃ a c' t, v = .slice (some a) len c' ∧ len ≤ cap ∧ cap ≤ c' ∧ (op = false → c' = cap) ∧ ρ id = some t ∧ (c' = 0 ∨ (a = ⟨t.b, t.d + off, none⟩ ∧ off + c' * es ≤ t.n))
  | .nils, v => v = .slice none 0 0
  | .fn f cs, v => ∃ vs : Array Value, v = .func (.func f) #[] vs ∧ LRel ρ cs vs.toList
  | .nilf, v => v = .nilFunc
  | .iface t x, v => ∃ y, v = .iface t y ∧ VRel ρ x y
  | .nili, v => v = .nilIface
  | .map id, v => ∃ t, ρ id = some t ∧ v = .map (some t.b)
  | .nilm, v => v = .map none
  | .agg cs, v => ∃ vs : Array Value, v = .agg vs ∧ LRel ρ cs vs.toList
  | .tup cs, v => ∃ vs : Array Value, v = .tuple vs ∧ LRel ρ cs vs.toList
def LRel (ρ : Rho) : List AV → List Value → Prop
  | [], l => l = []
  | c :: cs, l => ∃ v vs, l = v :: vs ∧ VRel ρ c v ∧ LRel ρ cs vs
end

mutual
theorem VRel.mono {ρ ρ' : Rho} (h : ρ.le ρ') : ∀ (a : AV) (v : Value), VRel ρ a v → VRel ρ' a v
  | .bad, _, _ => by simp only [VRel]
  | .bool _, _, k | .int _ _, _, k | .str _, _, k | .nilp, _, k | .nils, _, k | .nilf, _, k | .nili, _, k | .nilm, _, k => by simpa only [VRel] using k
  | .ptr id off, v, k => by
    simp only [VRel] at k ⊢
    obtain ⟨t, e, rfl⟩ := k
    exact ⟨t, h _ _ e, rfl⟩
  | .map id, v, k => by
    simp only [VRel] at k ⊢
    obtain ⟨t, e, rfl⟩ := k
    exact ⟨t, h _ _ e, rfl⟩
  | .slice id off len cap es op, v, k => by
    simp only [VRel] at k ⊢
    obtain ⟨a, c', t, e1, e0, e2, e3, e4, e5⟩ := k
    exact ⟨a, c', t, e1, e0, e2, e3, h _ _ e4, e5⟩
  | .fn f cs, v, k => by
    simp only [VRel] at k ⊢
    obtain ⟨vs, rfl, k⟩ := k
    exact ⟨vs, rfl, LRel.mono h cs _ k⟩
  | .iface t x, v, k => by
    simp only [VRel] at k ⊢
    obtain ⟨y, rfl, k⟩ := k
    exact ⟨y, rfl, VRel.mono h x y k⟩
  | .agg cs, v, k => by
    simp only [VRel] at k ⊢
    obtain ⟨vs, rfl, k⟩ := k
    exact ⟨vs, rfl, LRel.mono h cs _ k⟩
  | .tup cs, v, k => by
    simp only [VRel] at k ⊢
    obtain ⟨vs, rfl, k⟩ := k
    exact ⟨vs, rfl, LRel.mono h cs _ k⟩
theorem LRel.mono {ρ ρ' : Rho} (h : ρ.le ρ') : ∀ (cs : List AV) (vs : List Value), LRel ρ cs vs → LRel ρ' cs vs
  | [], _, k => by simpa only [LRel] using k
  | c :: cs, l, k => by
    simp only [LRel] at k ⊢
    obtain ⟨v, vs, rfl, k1, k2⟩ := k
    exact ⟨v, vs, rfl, VRel.mono h c v k1, LRel.mono h cs vs k2⟩
end

/- The lists' words are the library's. -/
theorem len_eq (l : List AV) : len l = l.length := by
  induction l with
  | nil => rfl
  | cons x xs ih => simp only [len] at ih ⊢; simp [ih]
theorem lenB_eq (l : List UInt8) : lenB l = l.length := by
  induction l with
  | nil => rfl
  | cons x xs ih => simp only [lenB] at ih ⊢; simp [ih]
theorem nth_eq (l : List AV) (i : Nat) : nth l i = l[i]? := by
  induction l generalizing i with
  | nil => rfl
  | cons x xs ih => cases i with
    | zero => rfl
    | succ i => simpa [nth] using ih i
theorem nthB_eq (l : List UInt8) (i : Nat) : nthB l i = l[i]? := by
  induction l generalizing i with
  | nil => rfl
  | cons x xs ih => cases i with
    | zero => rfl
    | succ i => simpa [nthB] using ih i
theorem takeN_eq (l : List AV) (n : Nat) : takeN l n = if n ≤ l.length then some (l.take n) else none := by
  induction l generalizing n with
  | nil => cases n with
    | zero => rfl
    | succ n => rfl
  | cons x xs ih => cases n with
    | zero => simp only [Nat.zero_le, if_true]; rfl
    | succ n =>
      have h : takeN (x :: xs) (n + 1) = (takeN xs n).map (x :: ·) := rfl
      rw [h, ih n]
      by_cases hn : n ≤ xs.length <;> simp [hn]
theorem slc_eq (l : List AV) (off n : Nat) : slc l off n = if off + n ≤ l.length then some ((l.drop off).take n) else none := by
  induction l generalizing off with
  | nil => cases off with
    | zero => cases n with
      | zero => rfl
      | succ n => rfl
    | succ off => rw [if_neg (by simp)]; rfl
  | cons x xs ih => cases off with
    | zero =>
      have h : slc (x :: xs) 0 n = takeN (x :: xs) n := rfl
      rw [h, takeN_eq]; simp
    | succ off =>
      have h : slc (x :: xs) (off + 1) n = slc xs off n := rfl
      rw [h, ih off]
      by_cases hn : off + n ≤ xs.length
      · rw [if_pos hn, if_pos (by simp; omega)]; simp
      · rw [if_neg hn, if_neg (by simp; omega)]
theorem over_eq (vs l : List AV) : over vs l = if vs.length ≤ l.length then some (vs ++ l.drop vs.length) else none := by
  induction vs generalizing l with
  | nil => simp [over]
  | cons v vs ih => cases l with
    | nil => simp [over]
    | cons x xs =>
      have h : over (v :: vs) (x :: xs) = (over vs xs).map (v :: ·) := rfl
      rw [h, ih xs]
      by_cases hn : vs.length ≤ xs.length
      · rw [if_pos hn, if_pos (by simp; omega)]; simp
      · rw [if_neg hn, if_neg (by simp; omega)]; rfl
theorem spl_eq (vs l : List AV) (off : Nat) : spl vs l off = if off + vs.length ≤ l.length then some (l.take off ++ vs ++ l.drop (off + vs.length)) else none := by
  induction l generalizing off with
  | nil => cases off with
    | zero =>
      have h : spl vs [] 0 = over vs [] := rfl
      rw [h, over_eq]; cases vs <;> simp
    | succ off => rw [if_neg (by simp)]; rfl
  | cons x xs ih => cases off with
    | zero =>
      have h : spl vs (x :: xs) 0 = over vs (x :: xs) := rfl
      rw [h, over_eq]; simp
    | succ off =>
      have h : spl vs (x :: xs) (off + 1) = (spl vs xs off).map (x :: ·) := rfl
      rw [h, ih off]
      by_cases hn : off + vs.length ≤ xs.length
      · rw [if_pos hn, if_pos (by simp; omega)]
        have e : off + 1 + vs.length = (off + vs.length) + 1 := by omega
        simp [e]
      · rw [if_neg hn, if_neg (by simp; omega)]; rfl

theorem LRel.len {ρ : Rho} : ∀ {cs : List AV} {vs : List Value}, LRel ρ cs vs → vs.length = cs.length
  | [], vs, h => by simp only [LRel] at h; simp [h]
  | c :: cs, l, h => by
    simp only [LRel] at h
    obtain ⟨v, vs, rfl, _, h⟩ := h
    simp [LRel.len h]

theorem LRel.get {ρ : Rho} : ∀ {cs : List AV} {vs : List Value}, LRel ρ cs vs → ∀ {i : Nat} {a : AV}, cs[i]? = some a → ∃ v, vs[i]? = some v ∧ VRel ρ a v
  | [], _, _, i, a, e => by simp at e
  | c :: cs, l, h, i, a, e => by
    simp only [LRel] at h
    obtain ⟨v, vs, rfl, h1, h⟩ := h
    cases i with
    | zero => simp at e; subst e; exact ⟨v, by simp, h1⟩
    | succ i => simp at e; obtain ⟨u, e1, e2⟩ := LRel.get h e; exact ⟨u, by simpa using e1, e2⟩

/-- A list is related place by place. -/
theorem LRel.of {ρ : Rho} : ∀ {cs : List AV} {vs : List Value}, vs.length = cs.length → (∀ (i : Nat) (a : AV), cs[i]? = some a → ∃ v : Value, vs[i]? = some v ∧ VRel ρ a v) → LRel ρ cs vs
  | [], vs, h, _ => by simp only [LRel]; exact List.length_eq_zero_iff.1 (by simpa using h)
  | c :: cs, [], h, _ => by simp at h
  | c :: cs, v :: vs, h, k => by
    simp only [LRel]
    obtain ⟨u, e1, e2⟩ := k 0 c (by simp)
    simp at e1; subst e1
    exact ⟨v, vs, rfl, e2, LRel.of (by simpa using h) (fun i a e => by obtain ⟨u, e1, e2⟩ := k (i + 1) a (by simpa using e); exact ⟨u, by simpa using e1, e2⟩)⟩

theorem LRel.append {ρ : Rho} : ∀ {cs : List AV} {vs : List Value} {ds : List AV} {us : List Value}, LRel ρ cs vs → LRel ρ ds us → LRel ρ (cs ++ ds) (vs ++ us)
  | [], vs, ds, us, h, k => by simp only [LRel] at h; subst h; simpa using k
  | c :: cs, l, ds, us, h, k => by
    simp only [LRel] at h
    obtain ⟨v, vs, rfl, h1, h⟩ := h
    simp only [List.cons_append, LRel]
    exact ⟨v, _, rfl, h1, LRel.append h k⟩

theorem LRel.take {ρ : Rho} : ∀ {cs : List AV} {vs : List Value} (n : Nat), LRel ρ cs vs → LRel ρ (cs.take n) (vs.take n)
  | _, _, 0, _ => by simp [LRel]
  | [], vs, n + 1, h => by simp only [LRel] at h; subst h; simp [LRel]
  | c :: cs, l, n + 1, h => by
    simp only [LRel] at h
    obtain ⟨v, vs, rfl, h1, h⟩ := h
    simp only [List.take_succ_cons, LRel]
    exact ⟨v, _, rfl, h1, LRel.take n h⟩

theorem LRel.drop {ρ : Rho} : ∀ {cs : List AV} {vs : List Value} (n : Nat), LRel ρ cs vs → LRel ρ (cs.drop n) (vs.drop n)
  | _, _, 0, h => by simpa using h
  | [], vs, n + 1, h => by simp only [LRel] at h; subst h; simp [LRel]
  | c :: cs, l, n + 1, h => by
    simp only [LRel] at h
    obtain ⟨v, vs, rfl, h1, h⟩ := h
    simpa using LRel.drop n h

/- The trees. -/
theorem T.get_node {α : Type} (l r : T α) (n : Nat) (d : α) : (T.node l r).get n d = if n % 2 = 0 then l.get (n / 2) d else r.get (n / 2) d := by
  have e0 : (T.node l r).get n d = Bool.rec (r.get (n / 2) d) (l.get (n / 2) d) (Nat.beq (Nat.mod n 2) 0) := rfl
  rw [e0]
  by_cases h : n % 2 = 0
  · rw [if_pos h]; have : Nat.beq (Nat.mod n 2) 0 = true := by rw [Nat.beq_eq]; exact h
    rw [this]
  · rw [if_neg h]; have : Nat.beq (Nat.mod n 2) 0 = false := by rw [← Bool.not_eq_true, Nat.beq_eq]; exact h
    rw [this]
theorem T.set_node {α : Type} (l r : T α) (n : Nat) (x : α) : (T.node l r).set n x = if n % 2 = 0 then .node (l.set (n / 2) x) r else .node l (r.set (n / 2) x) := by
  have e0 : (T.node l r).set n x = Bool.rec (T.node l (r.set (n / 2) x)) (T.node (l.set (n / 2) x) r) (Nat.beq (Nat.mod n 2) 0) := rfl
  rw [e0]
  by_cases h : n % 2 = 0
  · rw [if_pos h]; have : Nat.beq (Nat.mod n 2) 0 = true := by rw [Nat.beq_eq]; exact h
    rw [this]
  · rw [if_neg h]; have : Nat.beq (Nat.mod n 2) 0 = false := by rw [← Bool.not_eq_true, Nat.beq_eq]; exact h
    rw [this]
theorem T.get_leaf {α : Type} (v : α) (n : Nat) (d : α) : (T.leaf v).get n d = if n = 0 then v else d := by cases n <;> rfl
theorem T.set_leaf {α : Type} (v : α) (n : Nat) (x : α) : (T.leaf v).set n x = if n = 0 then .leaf x else .leaf v := by cases n <;> rfl

theorem T.get_set_ne {α : Type} (t : T α) {i j : Nat} (h : j ≠ i) (x d : α) : (t.set i x).get j d = t.get j d := by
  induction t generalizing i j with
  | leaf v => rw [T.set_leaf]; by_cases hi : i = 0 <;> simp only [hi, if_true, if_false, T.get_leaf] <;> (by_cases hj : j = 0 <;> simp_all)
  | node l r ihl ihr =>
    rw [T.set_node]
    by_cases hi : i % 2 = 0
    · rw [if_pos hi, T.get_node, T.get_node]
      by_cases hj : j % 2 = 0
      · rw [if_pos hj, if_pos hj]; exact ihl (by omega)
      · rw [if_neg hj, if_neg hj]
    · rw [if_neg hi, T.get_node, T.get_node]
      by_cases hj : j % 2 = 0
      · rw [if_pos hj, if_pos hj]
      · rw [if_neg hj, if_neg hj]; exact ihr (by omega)

theorem T.get_set_eq {α : Type} (t : T α) (i : Nat) (x d : α) : (t.set i x).get i d = x ∨ ((t.set i x).get i d = d ∧ t.get i d = d) := by
  induction t generalizing i with
  | leaf v => rw [T.set_leaf]; by_cases hi : i = 0 <;> simp [hi, T.get_leaf]
  | node l r ihl ihr =>
    rw [T.set_node]
    by_cases hi : i % 2 = 0
    · rw [if_pos hi, T.get_node, if_pos hi, T.get_node, if_pos hi]; exact ihl _
    · rw [if_neg hi, T.get_node, if_neg hi, T.get_node, if_neg hi]; exact ihr _

theorem T.get_mk {α : Type} (v : α) (n j : Nat) : (T.mk v n).get j v = v := by
  induction n generalizing j with
  | zero => show (T.leaf v).get j v = v; rw [T.get_leaf]; split <;> rfl
  | succ n ih => show (T.node (T.mk v n) (T.mk v n)).get j v = v; rw [T.get_node]; split <;> exact ih _

def Hx.ofFn {α : Type} (g : Nat → α) : Hx α := ⟨g 0, g 1, g 2, g 3, g 4, g 5, g 6, g 7, g 8, g 9, g 10, g 11, g 12, g 13, g 14, g 15⟩
theorem Hx.sel_ofFn {α : Type} (g : Nat → α) : ∀ k, k < 16 → (Hx.sel k).f (Hx.ofFn g) = g k
  | 0, _ => rfl
  | 1, _ => rfl
  | 2, _ => rfl
  | 3, _ => rfl
  | 4, _ => rfl
  | 5, _ => rfl
  | 6, _ => rfl
  | 7, _ => rfl
  | 8, _ => rfl
  | 9, _ => rfl
  | 10, _ => rfl
  | 11, _ => rfl
  | 12, _ => rfl
  | 13, _ => rfl
  | 14, _ => rfl
  | 15, _ => rfl
  | n + 16, h => absurd h (by omega)
theorem Hx.put_eq {α : Type} (x : Hx α) (u : α → α) : ∀ k, k < 16 → (Hx.put k).f x u = Hx.ofFn fun j => if j = k then u ((Hx.sel j).f x) else (Hx.sel j).f x
  | 0, _ => rfl
  | 1, _ => rfl
  | 2, _ => rfl
  | 3, _ => rfl
  | 4, _ => rfl
  | 5, _ => rfl
  | 6, _ => rfl
  | 7, _ => rfl
  | 8, _ => rfl
  | 9, _ => rfl
  | 10, _ => rfl
  | 11, _ => rfl
  | 12, _ => rfl
  | 13, _ => rfl
  | 14, _ => rfl
  | 15, _ => rfl
  | n + 16, h => absurd h (by omega)
theorem Hx.sel_put_same {α : Type} (x : Hx α) (u : α → α) {k : Nat} (h : k < 16) : (Hx.sel k).f ((Hx.put k).f x u) = u ((Hx.sel k).f x) := by
  rw [Hx.put_eq x u k h, Hx.sel_ofFn _ k h, if_pos rfl]
theorem Hx.sel_put_ne {α : Type} (x : Hx α) (u : α → α) {j k : Nat} (hj : j < 16) (h : k < 16) (hne : j ≠ k) : (Hx.sel j).f ((Hx.put k).f x u) = (Hx.sel j).f x := by
  rw [Hx.put_eq x u k h, Hx.sel_ofFn _ j hj, if_neg hne]
theorem Hx.sel_all {α : Type} (x : α) : ∀ k, (Hx.sel k).f (Hx.all x) = x
  | 0 => rfl
  | 1 => rfl
  | 2 => rfl
  | 3 => rfl
  | 4 => rfl
  | 5 => rfl
  | 6 => rfl
  | 7 => rfl
  | 8 => rfl
  | 9 => rfl
  | 10 => rfl
  | 11 => rfl
  | 12 => rfl
  | 13 => rfl
  | 14 => rfl
  | 15 => rfl
  | _ + 16 => rfl

theorem rget_lt {i : Nat} (h : i < 256) (t : Hx (Hx AV)) : rget t i = (Hx.sel (i % 16)).f ((Hx.sel (α := Hx AV) (i / 16)).f t) := by
  unfold rget
  have : Nat.blt i 256 = true := by rw [Nat.blt_eq]; exact h
  rw [this]; rfl
theorem rget_ge {i : Nat} (h : ¬ i < 256) (t : Hx (Hx AV)) : rget t i = .bad := by
  unfold rget
  have : Nat.blt i 256 = false := by rw [← Bool.not_eq_true, Nat.blt_eq]; exact h
  rw [this]; rfl
theorem rset_lt {i : Nat} (h : i < 256) (t : Hx (Hx AV)) (y : AV) : rset t i y = (Hx.put (α := Hx AV) (i / 16)).f t (fun x => (Hx.put (i % 16)).f x (fun _ => y)) := by
  unfold rset
  have : Nat.blt i 256 = true := by rw [Nat.blt_eq]; exact h
  rw [this]; rfl
theorem rset_ge {i : Nat} (h : ¬ i < 256) (t : Hx (Hx AV)) (y : AV) : rset t i y = t := by
  unfold rset
  have : Nat.blt i 256 = false := by rw [← Bool.not_eq_true, Nat.blt_eq]; exact h
  rw [this]; rfl

theorem rget_set_eq (tm : Hx (Hx AV)) (i : Nat) (x : AV) : rget (rset tm i x) i = x ∨ (rget (rset tm i x) i = .bad ∧ rget tm i = .bad) := by
  by_cases h : i < 256
  · left
    rw [rget_lt h, rset_lt h, Hx.sel_put_same _ _ (by omega), Hx.sel_put_same _ _ (by omega)]
  · right
    exact ⟨rget_ge h _, rget_ge h _⟩
theorem rget_set_ne (tm : Hx (Hx AV)) (i j : Nat) (hne : j ≠ i) (x : AV) : rget (rset tm i x) j = rget tm j := by
  by_cases h : i < 256
  · by_cases hj : j < 256
    · rw [rget_lt hj, rset_lt h, rget_lt hj]
      by_cases hd : j / 16 = i / 16
      · rw [hd, Hx.sel_put_same _ _ (by omega), Hx.sel_put_ne _ _ (by omega) (by omega) (by omega)]
      · rw [Hx.sel_put_ne _ _ (by omega) (by omega) hd]
    · rw [rget_ge hj, rget_ge hj]
  · rw [rset_ge h]
theorem rget_init (i : Nat) : rget (Hx.all (Hx.all AV.bad)) i = .bad := by
  by_cases h : i < 256
  · rw [rget_lt h, Hx.sel_all, Hx.sel_all]
  · exact rget_ge h _
theorem Tm.get_set_eq (tm : Tm) (i : Nat) (x : AV) : (tm.set i x).get i = x ∨ ((tm.set i x).get i = .bad ∧ tm.get i = .bad) := rget_set_eq tm i x
theorem Tm.get_init (i : Nat) : Tm.init.get i = .bad := rget_init i
theorem getT_set_ne (tm : Tm) {i j : Nat} (h : j ≠ i) (x : AV) : getT (tm.set i x) j = getT tm j := rget_set_ne tm i j h x
theorem getT_set (tm : Tm) (i j : Nat) (x : AV) : getT (tm.set i x) j = getT tm j ∨ (j = i ∧ (getT (tm.set i x) j = x ∨ getT (tm.set i x) j = .bad)) := by
  by_cases h : j = i
  · subst h
    rcases Tm.get_set_eq tm j x with e | e
    · exact .inr ⟨rfl, .inl e⟩
    · exact .inr ⟨rfl, .inr e.1⟩
  · exact .inl (getT_set_ne tm h x)

theorem Heap.get_put_ne (h : Heap) {i j : Nat} (hj : j ≠ i) (b : Blk) : (h.put i b).get j = h.get j := T.get_set_ne h.m hj b .none
theorem Heap.get_put_eq (h : Heap) (i : Nat) (b : Blk) : (h.put i b).get i = b ∨ (h.put i b).get i = .none := by
  rcases T.get_set_eq h.m i b .none with e | e
  · exact .inl e
  · exact .inr e.1
theorem Heap.get_put_some (h : Heap) {i : Nat} (b : Blk) (hi : h.get i ≠ .none) : (h.put i b).get i = b := by
  rcases T.get_set_eq h.m i b .none with e | e
  · exact e
  · exact absurd e.2 hi
theorem Heap.get_alloc_ne (h : Heap) {j : Nat} (hj : j ≠ h.next) (cs : List AV) : (h.alloc cs).get j = h.get j := T.get_set_ne h.m hj _ .none
theorem Heap.get_alloc_eq (h : Heap) (cs : List AV) : (h.alloc cs).get h.next = .cells cs ∨ (h.alloc cs).get h.next = .none := by
  rcases T.get_set_eq h.m h.next (.cells cs) .none with e | e
  · exact .inl e
  · exact .inr e.1

/-- A block of the model that bears what an abstract one says. -/
structure BlkRel (ρ : Rho) (w : World) (t : Tgt) (cs : List AV) : Prop where
  ex : ∃ c e f, w.heap[t.b]? = some (.cells c e f) ∧ t.d + t.n ≤ c.size ∧ cs.length ≤ t.n ∧ (∀ o, o < c.size → (decide (f.1 ≤ o) && decide (o < f.2)) = false) ∧
    ∀ (j : Nat) (a : AV), cs[j]? = some a → ∃ v : Value, c[t.d + j]? = some v ∧ VRel ρ a v

/-- The entries of a map. -/
def ERel (ρ : Rho) : List (AV × AV) → List MapEntry → Prop
  | [], l => l = []
  | e :: es, l => ∃ m ms, l = m :: ms ∧ VRel ρ e.1 m.key ∧ VRel ρ e.2 m.val ∧ ERel ρ es ms
theorem ERel.mono {ρ ρ' : Rho} (h : ρ.le ρ') : ∀ (es : List (AV × AV)) (ms : List MapEntry), ERel ρ es ms → ERel ρ' es ms
  | [], _, k => by simpa only [ERel] using k
  | e :: es, l, k => by
    simp only [ERel] at k ⊢
    obtain ⟨m, ms, rfl, k1, k2, k3⟩ := k
    exact ⟨m, ms, rfl, VRel.mono h _ _ k1, VRel.mono h _ _ k2, ERel.mono h es ms k3⟩

structure MapRel (ρ : Rho) (w : World) (b : Nat) (es : List (AV × AV)) : Prop where
  ex : ∃ ms clock, w.heap[b]? = some (.map ms clock) ∧ ERel ρ es ms.toList

structure Maps (ρ : Rho) (g : Nat → Blk) (base : Nat) (w : World) : Prop where
  blk : ∀ i t es, ρ i = some t → g i = .mp es → base ≤ t.b ∧ MapRel ρ w t.b es
  inj : ∀ i j t u es fs, ρ i = some t → ρ j = some u → g i = .mp es → g j = .mp fs → t.b = u.b → i = j

def Blk.live : Blk → Prop
  | .cells _ | .mp _ => True
  | _ => False

theorem MapRel.lt {ρ : Rho} {w : World} {b : Nat} {es : List (AV × AV)} (h : MapRel ρ w b es) : b < w.heap.size := by
  obtain ⟨ms, c, h1, _⟩ := h.ex
  exact (Array.getElem?_eq_some_iff.1 h1).1
theorem MapRel.mono {ρ ρ' : Rho} {w : World} {b : Nat} {es : List (AV × AV)} (h : MapRel ρ w b es) (hρ : ρ.le ρ') : MapRel ρ' w b es := by
  obtain ⟨ms, c, h1, h2⟩ := h.ex
  exact ⟨ms, c, h1, ERel.mono hρ _ _ h2⟩
theorem MapRel.world {ρ : Rho} {w w' : World} {b : Nat} {es : List (AV × AV)} (h : MapRel ρ w b es) (e : w'.heap[b]? = w.heap[b]?) : MapRel ρ w' b es := by
  obtain ⟨ms, c, h1, h2⟩ := h.ex
  exact ⟨ms, c, e.trans h1, h2⟩
/-- A block of cells is no map. -/
theorem MapRel.ne {ρ : Rho} {w : World} {b b' : Nat} {es : List (AV × AV)} {c : Array Value} {e : TypeId} {f : Nat × Nat} (h : MapRel ρ w b es) (hc : w.heap[b']? = some (.cells c e f)) : b ≠ b' := fun q => by
  subst q
  obtain ⟨ms, _, h1, _⟩ := h.ex
  rw [h1] at hc; cases hc

theorem Maps.weaken {ρ : Rho} {g g' : Nat → Blk} {base : Nat} {w : World} (h : Maps ρ g base w) (hg : ∀ j t es, ρ j = some t → g' j = .mp es → g j = .mp es) : Maps ρ g' base w :=
  ⟨fun i t es e k => h.blk i t es e (hg i t es e k), fun i j t u es fs e1 e2 k1 k2 => h.inj i j t u es fs e1 e2 (hg i t es e1 k1) (hg j u fs e2 k2)⟩
theorem Maps.world {ρ : Rho} {g : Nat → Blk} {base : Nat} {w w' : World} (h : Maps ρ g base w) (hw : ∀ j t es, ρ j = some t → g j = .mp es → w'.heap[t.b]? = w.heap[t.b]?) : Maps ρ g base w' :=
  ⟨fun i t es e k => ⟨(h.blk i t es e k).1, (h.blk i t es e k).2.world (hw i t es e k)⟩, h.inj⟩

structure Rel (ρ : Rho) (N : Nat) (g : Nat → Blk) (base : Nat) (w0 w : World) : Prop where
  dom : ∀ i t, ρ i = some t → i < N
  blk : ∀ i t cs, ρ i = some t → g i = .cells cs → base ≤ t.b ∧ BlkRel ρ w t cs
  inj : ∀ i j t u cs ds, ρ i = some t → ρ j = some u → g i = .cells cs → g j = .cells ds → t.b = u.b → i = j
  below : Below base w0 w
  size : base ≤ w.heap.size
  maps : Maps ρ g base w

/-- The abstract heap may forget blocks, and know more that nothing stands for. -/
theorem Rel.weaken {ρ : Rho} {N N' : Nat} {g g' : Nat → Blk} {base : Nat} {w0 w : World} (h : Rel ρ N g base w0 w) (hN : N ≤ N')
    (hg : ∀ j t, ρ j = some t → g' j = g j ∨ ¬ (g' j).live) : Rel ρ N' g' base w0 w := by
  have key : ∀ j t B, ρ j = some t → B.live → g' j = B → g j = B := fun j t B e hl k => by
    rcases hg j t e with q | q
    · rw [← q]; exact k
    · rw [k] at q; exact absurd hl q
  exact ⟨fun i t e => Nat.lt_of_lt_of_le (h.dom i t e) hN, fun i t cs e k => h.blk i t cs e (key i t _ e trivial k),
    fun i j t u cs ds e1 e2 k1 k2 => h.inj i j t u cs ds e1 e2 (key i t _ e1 trivial k1) (key j u _ e2 trivial k2), h.below, h.size, h.maps.weaken fun j t es e k => key j t _ e trivial k⟩

theorem BlkRel.mono {ρ ρ' : Rho} {w : World} {t : Tgt} {cs : List AV} (h : BlkRel ρ w t cs) (hρ : ρ.le ρ') : BlkRel ρ' w t cs := by
  obtain ⟨c, e, f, h1, h2, h3, h4, h5⟩ := h.ex
  exact ⟨c, e, f, h1, h2, h3, h4, fun j a ej => by obtain ⟨v, k1, k2⟩ := h5 j a ej; exact ⟨v, k1, VRel.mono hρ _ _ k2⟩⟩

theorem BlkRel.world {ρ : Rho} {w w' : World} {t : Tgt} {cs : List AV} (h : BlkRel ρ w t cs) (e : w'.heap[t.b]? = w.heap[t.b]?) : BlkRel ρ w' t cs := by
  obtain ⟨c, e', f, h1, h2⟩ := h.ex
  exact ⟨c, e', f, e.trans h1, h2⟩

theorem Rel.drew {ρ : Rho} {N : Nat} {g : Nat → Blk} {base : Nat} {w0 w : World} (h : Rel ρ N g base w0 w) : Rel ρ N g base w0 w.drew :=
  ⟨h.dom, fun i t cs e k => ⟨(h.blk i t cs e k).1, (h.blk i t cs e k).2.world rfl⟩, h.inj, h.below.drew, h.size, h.maps.world fun _ _ _ _ _ => rfl⟩

def Rho.ext (ρ : Rho) (k : Nat) (t : Tgt) : Rho := fun i => if i = k then some t else ρ i
theorem Rho.le_ext {ρ : Rho} {k : Nat} {t : Tgt} (h : ρ k = none) : ρ.le (ρ.ext k t) := fun i u e => by
  unfold Rho.ext
  split
  · rename_i hi; subst hi; rw [h] at e; cases e
  · exact e
theorem Maps.ext {ρ : Rho} {g : Nat → Blk} {base : Nat} {w : World} (h : Maps ρ g base w) {k : Nat} {t : Tgt} (hρ : ρ k = none) (hk : ∀ es, g k ≠ .mp es) : Maps (ρ.ext k t) g base w := by
  have hle := Rho.le_ext (t := t) hρ
  have old : ∀ i u es, ρ.ext k t i = some u → g i = .mp es → ρ i = some u := fun i u es e ke => by
    unfold Rho.ext at e
    split at e
    · rename_i hi; subst hi; exact absurd ke (hk es)
    · exact e
  exact ⟨fun i u es e ke => ⟨(h.blk i u es (old i u es e ke) ke).1, (h.blk i u es (old i u es e ke) ke).2.mono hle⟩, fun i j u v es fs e1 e2 k1 k2 => h.inj i j u v es fs (old i u es e1 k1) (old j v fs e2 k2) k1 k2⟩
theorem Rho.ext_same (ρ : Rho) (k : Nat) (t : Tgt) : ρ.ext k t k = some t := if_pos rfl
theorem Rho.ext_ne (ρ : Rho) {k i : Nat} (t : Tgt) (h : i ≠ k) : ρ.ext k t i = ρ i := if_neg h

theorem heap_alloc_lt {w : World} {o : Obj} {k : Nat} (h : k < w.heap.size) : (w.alloc o).heap[k]? = w.heap[k]? := Below.heap_alloc w o k h
theorem heap_alloc_new (w : World) (o : Obj) : (w.alloc o).heap[w.heap.size]? = some o := by
  show (w.heap.push o)[w.heap.size]? = some o
  simp

theorem BlkRel.lt {ρ : Rho} {w : World} {t : Tgt} {cs : List AV} (h : BlkRel ρ w t cs) : t.b < w.heap.size := by
  obtain ⟨c, e, f, h1, _⟩ := h.ex
  exact (Array.getElem?_eq_some_iff.1 h1).1

/-- A block that is made, for an id that nothing stood for. -/
theorem Rel.extend {ρ : Rho} {N : Nat} {g : Nat → Blk} {base : Nat} {w0 w : World} (h : Rel ρ N g base w0 w) {k n : Nat} {cs : List AV} {c : Array Value} {e : TypeId} {f : Nat × Nat} (hfz : ∀ o, o < c.size → (decide (f.1 ≤ o) && decide (o < f.2)) = false)
    (hk : k < N) (hρ : ρ k = none) (hc : g k = .cells cs ∨ ¬ (g k).live) (hn : cs.length ≤ n) (hs : n ≤ c.size) (hv : ∀ (j : Nat) (a : AV), cs[j]? = some a → ∃ v : Value, c[j]? = some v ∧ VRel ρ a v) :
    Rel (ρ.ext k ⟨w.heap.size, 0, n⟩) N g base w0 (w.alloc (.cells c e f)) := by
  have hle := Rho.le_ext (t := ⟨w.heap.size, 0, n⟩) hρ
  refine ⟨fun i t ei => ?_, fun i t ds ei gi => ?_, fun i j t u as bs ei ej gi gj hb => ?_, h.below.alloc h.size _, by rw [World.size_alloc]; exact Nat.le_succ_of_le h.size, (h.maps.ext hρ fun es q => ?_).world fun j u es ej gj => ?_⟩
  · by_cases hi : i = k
    · exact hi ▸ hk
    · rw [Rho.ext_ne _ _ hi] at ei; exact h.dom i t ei
  · by_cases hi : i = k
    · subst hi
      rw [Rho.ext_same] at ei
      obtain rfl := Option.some.inj ei
      obtain rfl : ds = cs := by
        rcases hc with q | q
        · exact Blk.cells.inj (gi.symm.trans q)
        · rw [gi] at q; exact absurd trivial q
      exact ⟨h.size, ⟨c, e, f, heap_alloc_new _ _, by simpa using hs, hn, hfz, fun j a ej => by obtain ⟨v, k1, k2⟩ := hv j a ej; exact ⟨v, by simpa using k1, VRel.mono hle _ _ k2⟩⟩⟩
    · rw [Rho.ext_ne _ _ hi] at ei
      obtain ⟨b1, b2⟩ := h.blk i t ds ei gi
      exact ⟨b1, (b2.mono hle).world (heap_alloc_lt b2.lt)⟩
  · by_cases hi : i = k
    · by_cases hj : j = k
      · rw [hi, hj]
      · subst hi
        rw [Rho.ext_same] at ei
        rw [Rho.ext_ne _ _ hj] at ej
        obtain rfl := Option.some.inj ei
        have := (h.blk j u bs ej gj).2.lt
        simp only at hb; omega
    · by_cases hj : j = k
      · subst hj
        rw [Rho.ext_same] at ej
        rw [Rho.ext_ne _ _ hi] at ei
        obtain rfl := Option.some.inj ej
        have := (h.blk i t as ei gi).2.lt
        simp only at hb; omega
      · rw [Rho.ext_ne _ _ hi] at ei
        rw [Rho.ext_ne _ _ hj] at ej
        exact h.inj i j t u as bs ei ej gi gj hb
  · rcases hc with q2 | q2
    · rw [q] at q2; cases q2
    · rw [q] at q2; exact absurd trivial q2
  · have hj : j ≠ k := fun e => by
      subst e
      rcases hc with q2 | q2
      · rw [gj] at q2; cases q2
      · rw [gj] at q2; exact absurd trivial q2
    rw [Rho.ext_ne _ _ hj] at ej
    exact heap_alloc_lt (h.maps.blk j u es ej gj).2.lt

theorem Rel.load {ρ : Rho} {N : Nat} {g : Nat → Blk} {base : Nat} {w0 w : World} (h : Rel ρ N g base w0 w) {i j : Nat} {t : Tgt} {cs : List AV} {a : AV} (hi : ρ i = some t) (hg : g i = .cells cs)
    (hj : cs[j]? = some a) : ∃ v, w.cell? ⟨t.b, t.d + j, none⟩ = some v ∧ VRel ρ a v := by
  obtain ⟨c, e, f, h1, h2, h3, h4, h5⟩ := (h.blk i t cs hi hg).2.ex
  obtain ⟨v, k1, k2⟩ := h5 j a hj
  exact ⟨v, by simp [World.cell?, h1, k1], k2⟩

def upd (g : Nat → Blk) (i : Nat) (b : Blk) : Nat → Blk := fun j => if j = i then b else g j
theorem upd_same (g : Nat → Blk) (i : Nat) (b : Blk) : upd g i b i = b := if_pos rfl
theorem upd_ne (g : Nat → Blk) {i j : Nat} (b : Blk) (h : j ≠ i) : upd g i b j = g j := if_neg h

theorem heap_setCell_ne {w : World} {a : Addr} {v : Value} {k : Nat} (h : k ≠ a.block) : (w.setCell a v).heap[k]? = w.heap[k]? := Below.heap_setCell w a v k h
theorem heap_setCell_same {w : World} {b o : Nat} {v : Value} {c : Array Value} {e : TypeId} {f : Nat × Nat} (h : w.heap[b]? = some (.cells c e f)) :
    (w.setCell ⟨b, o, none⟩ v).heap[b]? = some (.cells (c.setIfInBounds o v) e f) := by
  simp only [World.setCell, Array.getElem?_modify, if_true, h, Option.map_some]
  rfl

end Go.Fv
