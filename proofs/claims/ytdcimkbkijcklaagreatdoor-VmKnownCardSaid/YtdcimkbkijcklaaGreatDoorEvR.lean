/-
  Ev, part R: how the abstract machine's values and heap stand to the model's.
-/
import Derived.Test.YtdcimkbkijcklaaGreatDoorEvB
import Derived.Below
namespace Go.Ev
open Go.RowKit

/-- Where an id lies: the block, the place in it, how many cells are there. -/
structure Tgt where
  b : Nat
  d : Nat
  n : Nat

def Rho := Nat → Option Tgt

def Rho.le (ρ ρ' : Rho) : Prop := ∀ i t, ρ i = some t → ρ' i = some t
theorem Rho.le_refl (ρ : Rho) : ρ.le ρ := fun _ _ h => h
theorem Rho.le_trans {ρ ρ' ρ'' : Rho} (h : ρ.le ρ') (k : ρ'.le ρ'') : ρ.le ρ'' := fun i t e => k i t (h i t e)

mutual
def VRel (ρ : Rho) : AV → Value → Prop
  | .bad, _ => True
  | .bool b, v => v = .bool b
  | .int k n, v => v = .int k n
  | .str s, v => v = .string ⟨⟨s⟩⟩
  | .ptr id off, v => ∃ t, ρ id = some t ∧ v = .pointer (some ⟨t.b, t.d + off, none⟩)
  | .nilp, v => v = .pointer none
  | .slice id off len cap es op, v => ∃ a c' t, v = .slice (some a) len c' ∧ len ≤ cap ∧ cap ≤ c' ∧ (op = false → c' = cap) ∧ ρ id = some t ∧ (c' = 0 ∨ (a = ⟨t.b, t.d + off, none⟩ ∧ off + c' * es ≤ t.n))
  | .nils, v => v = .slice none 0 0
  | .fn f cs, v => ∃ vs : Array Value, v = .func (.func f) #[] vs ∧ LRel ρ cs vs.toList
  | .nilf, v => v = .nilFunc
  | .iface t x, v => ∃ y, v = .iface t y ∧ VRel ρ x y
  | .nili, v => v = .nilIface
  | .agg cs, v => ∃ vs : Array Value, v = .agg vs ∧ LRel ρ cs vs.toList
  | .tup cs, v => ∃ vs : Array Value, v = .tuple vs ∧ LRel ρ cs vs.toList
def LRel (ρ : Rho) : List AV → List Value → Prop
  | [], l => l = []
  | c :: cs, l => ∃ v vs, l = v :: vs ∧ VRel ρ c v ∧ LRel ρ cs vs
end

mutual
theorem VRel.mono {ρ ρ' : Rho} (h : ρ.le ρ') : ∀ (a : AV) (v : Value), VRel ρ a v → VRel ρ' a v
  | .bad, _, _ => by simp only [VRel]
  | .bool _, _, k | .int _ _, _, k | .str _, _, k | .nilp, _, k | .nils, _, k | .nilf, _, k | .nili, _, k => by simpa only [VRel] using k
  | .ptr id off, v, k => by
    simp only [VRel] at k ⊢
    obtain ⟨t, e, rfl⟩ := k
    exact ⟨t, h _ _ e, rfl⟩
  | .slice id off len cap es op, v, k => by
    simp only [VRel] at k ⊢
    obtain ⟨a, c', t, e1, e0, e2, e3, e4, e5⟩ := k
    exact ⟨a, c', t, e1, e0, e2, e3, h _ _ e4, e5⟩
  | .fn f cs, v, k => by
    simp only [VRel] at k ⊢
    obtain ⟨vs, rfl, k⟩ := k
    exact ⟨vs, rfl, LRel.mono h cs _ k⟩
  | .iface t x, v, k => by
    simp only [VRel] at k ⊢
    obtain ⟨y, rfl, k⟩ := k
    exact ⟨y, rfl, VRel.mono h x y k⟩
  | .agg cs, v, k => by
    simp only [VRel] at k ⊢
    obtain ⟨vs, rfl, k⟩ := k
    exact ⟨vs, rfl, LRel.mono h cs _ k⟩
  | .tup cs, v, k => by
    simp only [VRel] at k ⊢
    obtain ⟨vs, rfl, k⟩ := k
    exact ⟨vs, rfl, LRel.mono h cs _ k⟩
theorem LRel.mono {ρ ρ' : Rho} (h : ρ.le ρ') : ∀ (cs : List AV) (vs : List Value), LRel ρ cs vs → LRel ρ' cs vs
  | [], _, k => by simpa only [LRel] using k
  | c :: cs, l, k => by
    simp only [LRel] at k ⊢
    obtain ⟨v, vs, rfl, k1, k2⟩ := k
    exact ⟨v, vs, rfl, VRel.mono h c v k1, LRel.mono h cs vs k2⟩
end

/- The lists' words are the library's. -/
theorem len_eq (l : List AV) : len l = l.length := by
  induction l with
  | nil => rfl
  | cons x xs ih => simp only [len] at ih ⊢; simp [ih]
theorem lenB_eq (l : List UInt8) : lenB l = l.length := by
  induction l with
  | nil => rfl
  | cons x xs ih => simp only [lenB] at ih ⊢; simp [ih]
theorem nth_eq (l : List AV) (i : Nat) : nth l i = l[i]? := by
  induction l generalizing i with
  | nil => rfl
  | cons x xs ih => cases i with
    | zero => rfl
    | succ i => simpa [nth] using ih i
theorem nthB_eq (l : List UInt8) (i : Nat) : nthB l i = l[i]? := by
  induction l generalizing i with
  | nil => rfl
  | cons x xs ih => cases i with
    | zero => rfl
    | succ i => simpa [nthB] using ih i
theorem takeN_eq (l : List AV) (n : Nat) : takeN l n = if n ≤ l.length then some (l.take n) else none := by
  induction l generalizing n with
  | nil => cases n with
    | zero => rfl
    | succ n => rfl
  | cons x xs ih => cases n with
    | zero => simp only [Nat.zero_le, if_true]; rfl
    | succ n =>
      have h : takeN (x :: xs) (n + 1) = (takeN xs n).map (x :: ·) := rfl
      rw [h, ih n]
      by_cases hn : n ≤ xs.length <;> simp [hn]
theorem slc_eq (l : List AV) (off n : Nat) : slc l off n = if off + n ≤ l.length then some ((l.drop off).take n) else none := by
  induction l generalizing off with
  | nil => cases off with
    | zero => cases n with
      | zero => rfl
      | succ n => rfl
    | succ off => rw [if_neg (by simp)]; rfl
  | cons x xs ih => cases off with
    | zero =>
      have h : slc (x :: xs) 0 n = takeN (x :: xs) n := rfl
      rw [h, takeN_eq]; simp
    | succ off =>
      have h : slc (x :: xs) (off + 1) n = slc xs off n := rfl
      rw [h, ih off]
      by_cases hn : off + n ≤ xs.length
      · rw [if_pos hn, if_pos (by simp; omega)]; simp
      · rw [if_neg hn, if_neg (by simp; omega)]
theorem over_eq (vs l : List AV) : over vs l = if vs.length ≤ l.length then some (vs ++ l.drop vs.length) else none := by
  induction vs generalizing l with
  | nil => simp [over]
  | cons v vs ih => cases l with
    | nil => simp [over]
    | cons x xs =>
      have h : over (v :: vs) (x :: xs) = (over vs xs).map (v :: ·) := rfl
      rw [h, ih xs]
      by_cases hn : vs.length ≤ xs.length
      · rw [if_pos hn, if_pos (by simp; omega)]; simp
      · rw [if_neg hn, if_neg (by simp; omega)]; rfl
theorem spl_eq (vs l : List AV) (off : Nat) : spl vs l off = if off + vs.length ≤ l.length then some (l.take off ++ vs ++ l.drop (off + vs.length)) else none := by
  induction l generalizing off with
  | nil => cases off with
    | zero =>
      have h : spl vs [] 0 = over vs [] := rfl
      rw [h, over_eq]; cases vs <;> simp
    | succ off => rw [if_neg (by simp)]; rfl
  | cons x xs ih => cases off with
    | zero =>
      have h : spl vs (x :: xs) 0 = over vs (x :: xs) := rfl
      rw [h, over_eq]; simp
    | succ off =>
      have h : spl vs (x :: xs) (off + 1) = (spl vs xs off).map (x :: ·) := rfl
      rw [h, ih off]
      by_cases hn : off + vs.length ≤ xs.length
      · rw [if_pos hn, if_pos (by simp; omega)]
        have e : off + 1 + vs.length = (off + vs.length) + 1 := by omega
        simp [e]
      · rw [if_neg hn, if_neg (by simp; omega)]; rfl

theorem LRel.len {ρ : Rho} : ∀ {cs : List AV} {vs : List Value}, LRel ρ cs vs → vs.length = cs.length
  | [], vs, h => by simp only [LRel] at h; simp [h]
  | c :: cs, l, h => by
    simp only [LRel] at h
    obtain ⟨v, vs, rfl, _, h⟩ := h
    simp [LRel.len h]

theorem LRel.get {ρ : Rho} : ∀ {cs : List AV} {vs : List Value}, LRel ρ cs vs → ∀ {i : Nat} {a : AV}, cs[i]? = some a → ∃ v, vs[i]? = some v ∧ VRel ρ a v
  | [], _, _, i, a, e => by simp at e
  | c :: cs, l, h, i, a, e => by
    simp only [LRel] at h
    obtain ⟨v, vs, rfl, h1, h⟩ := h
    cases i with
    | zero => simp at e; subst e; exact ⟨v, by simp, h1⟩
    | succ i => simp at e; obtain ⟨u, e1, e2⟩ := LRel.get h e; exact ⟨u, by simpa using e1, e2⟩

/-- A list is related place by place. -/
theorem LRel.of {ρ : Rho} : ∀ {cs : List AV} {vs : List Value}, vs.length = cs.length → (∀ (i : Nat) (a : AV), cs[i]? = some a → ∃ v : Value, vs[i]? = some v ∧ VRel ρ a v) → LRel ρ cs vs
  | [], vs, h, _ => by simp only [LRel]; exact List.length_eq_zero_iff.1 (by simpa using h)
  | c :: cs, [], h, _ => by simp at h
  | c :: cs, v :: vs, h, k => by
    simp only [LRel]
    obtain ⟨u, e1, e2⟩ := k 0 c (by simp)
    simp at e1; subst e1
    exact ⟨v, vs, rfl, e2, LRel.of (by simpa using h) (fun i a e => by obtain ⟨u, e1, e2⟩ := k (i + 1) a (by simpa using e); exact ⟨u, by simpa using e1, e2⟩)⟩

theorem LRel.append {ρ : Rho} : ∀ {cs : List AV} {vs : List Value} {ds : List AV} {us : List Value}, LRel ρ cs vs → LRel ρ ds us → LRel ρ (cs ++ ds) (vs ++ us)
  | [], vs, ds, us, h, k => by simp only [LRel] at h; subst h; simpa using k
  | c :: cs, l, ds, us, h, k => by
    simp only [LRel] at h
    obtain ⟨v, vs, rfl, h1, h⟩ := h
    simp only [List.cons_append, LRel]
    exact ⟨v, _, rfl, h1, LRel.append h k⟩

theorem LRel.take {ρ : Rho} : ∀ {cs : List AV} {vs : List Value} (n : Nat), LRel ρ cs vs → LRel ρ (cs.take n) (vs.take n)
  | _, _, 0, _ => by simp [LRel]
  | [], vs, n + 1, h => by simp only [LRel] at h; subst h; simp [LRel]
  | c :: cs, l, n + 1, h => by
    simp only [LRel] at h
    obtain ⟨v, vs, rfl, h1, h⟩ := h
    simp only [List.take_succ_cons, LRel]
    exact ⟨v, _, rfl, h1, LRel.take n h⟩

theorem LRel.drop {ρ : Rho} : ∀ {cs : List AV} {vs : List Value} (n : Nat), LRel ρ cs vs → LRel ρ (cs.drop n) (vs.drop n)
  | _, _, 0, h => by simpa using h
  | [], vs, n + 1, h => by simp only [LRel] at h; subst h; simp [LRel]
  | c :: cs, l, n + 1, h => by
    simp only [LRel] at h
    obtain ⟨v, vs, rfl, h1, h⟩ := h
    simpa using LRel.drop n h

/- The trees. -/
theorem T.get_node {α : Type} (l r : T α) (n : Nat) (d : α) : (T.node l r).get n d = if n % 2 = 0 then l.get (n / 2) d else r.get (n / 2) d := by
  have e0 : (T.node l r).get n d = Bool.rec (r.get (n / 2) d) (l.get (n / 2) d) (Nat.beq (Nat.mod n 2) 0) := rfl
  rw [e0]
  by_cases h : n % 2 = 0
  · rw [if_pos h]; have : Nat.beq (Nat.mod n 2) 0 = true := by rw [Nat.beq_eq]; exact h
    rw [this]
  · rw [if_neg h]; have : Nat.beq (Nat.mod n 2) 0 = false := by rw [← Bool.not_eq_true, Nat.beq_eq]; exact h
    rw [this]
theorem T.set_node {α : Type} (l r : T α) (n : Nat) (x : α) : (T.node l r).set n x = if n % 2 = 0 then .node (l.set (n / 2) x) r else .node l (r.set (n / 2) x) := by
  have e0 : (T.node l r).set n x = Bool.rec (T.node l (r.set (n / 2) x)) (T.node (l.set (n / 2) x) r) (Nat.beq (Nat.mod n 2) 0) := rfl
  rw [e0]
  by_cases h : n % 2 = 0
  · rw [if_pos h]; have : Nat.beq (Nat.mod n 2) 0 = true := by rw [Nat.beq_eq]; exact h
    rw [this]
  · rw [if_neg h]; have : Nat.beq (Nat.mod n 2) 0 = false := by rw [← Bool.not_eq_true, Nat.beq_eq]; exact h
    rw [this]
theorem T.get_leaf {α : Type} (v : α) (n : Nat) (d : α) : (T.leaf v).get n d = if n = 0 then v else d := by cases n <;> rfl
theorem T.set_leaf {α : Type} (v : α) (n : Nat) (x : α) : (T.leaf v).set n x = if n = 0 then .leaf x else .leaf v := by cases n <;> rfl

theorem T.get_set_ne {α : Type} (t : T α) {i j : Nat} (h : j ≠ i) (x d : α) : (t.set i x).get j d = t.get j d := by
  induction t generalizing i j with
  | leaf v => rw [T.set_leaf]; by_cases hi : i = 0 <;> simp only [hi, if_true, if_false, T.get_leaf] <;> (by_cases hj : j = 0 <;> simp_all)
  | node l r ihl ihr =>
    rw [T.set_node]
    by_cases hi : i % 2 = 0
    · rw [if_pos hi, T.get_node, T.get_node]
      by_cases hj : j % 2 = 0
      · rw [if_pos hj, if_pos hj]; exact ihl (by omega)
      · rw [if_neg hj, if_neg hj]
    · rw [if_neg hi, T.get_node, T.get_node]
      by_cases hj : j % 2 = 0
      · rw [if_pos hj, if_pos hj]
      · rw [if_neg hj, if_neg hj]; exact ihr (by omega)

theorem T.get_set_eq {α : Type} (t : T α) (i : Nat) (x d : α) : (t.set i x).get i d = x ∨ ((t.set i x).get i d = d ∧ t.get i d = d) := by
  induction t generalizing i with
  | leaf v => rw [T.set_leaf]; by_cases hi : i = 0 <;> simp [hi, T.get_leaf]
  | node l r ihl ihr =>
    rw [T.set_node]
    by_cases hi : i % 2 = 0
    · rw [if_pos hi, T.get_node, if_pos hi, T.get_node, if_pos hi]; exact ihl _
    · rw [if_neg hi, T.get_node, if_neg hi, T.get_node, if_neg hi]; exact ihr _

theorem T.get_mk {α : Type} (v : α) (n j : Nat) : (T.mk v n).get j v = v := by
  induction n generalizing j with
  | zero => show (T.leaf v).get j v = v; rw [T.get_leaf]; split <;> rfl
  | succ n ih => show (T.node (T.mk v n) (T.mk v n)).get j v = v; rw [T.get_node]; split <;> exact ih _

theorem getT_set_ne (tm : T AV) {i j : Nat} (h : j ≠ i) (x : AV) : getT (tm.set i x) j = getT tm j := T.get_set_ne tm h x .bad
theorem getT_set (tm : T AV) (i j : Nat) (x : AV) : getT (tm.set i x) j = getT tm j ∨ (j = i ∧ (getT (tm.set i x) j = x ∨ getT (tm.set i x) j = .bad)) := by
  by_cases h : j = i
  · subst h
    rcases T.get_set_eq tm j x .bad with e | e
    · exact .inr ⟨rfl, .inl e⟩
    · exact .inr ⟨rfl, .inr e.1⟩
  · exact .inl (getT_set_ne tm h x)

theorem Heap.get_put_ne (h : Heap) {i j : Nat} (hj : j ≠ i) (b : Blk) : (h.put i b).get j = h.get j := T.get_set_ne h.m hj b .none
theorem Heap.get_put_eq (h : Heap) (i : Nat) (b : Blk) : (h.put i b).get i = b ∨ (h.put i b).get i = .none := by
  rcases T.get_set_eq h.m i b .none with e | e
  · exact .inl e
  · exact .inr e.1
theorem Heap.get_put_some (h : Heap) {i : Nat} (b : Blk) (hi : h.get i ≠ .none) : (h.put i b).get i = b := by
  rcases T.get_set_eq h.m i b .none with e | e
  · exact e
  · exact absurd e.2 hi
theorem Heap.get_alloc_ne (h : Heap) {j : Nat} (hj : j ≠ h.next) (cs : List AV) : (h.alloc cs).get j = h.get j := T.get_set_ne h.m hj _ .none
theorem Heap.get_alloc_eq (h : Heap) (cs : List AV) : (h.alloc cs).get h.next = .cells cs ∨ (h.alloc cs).get h.next = .none := by
  rcases T.get_set_eq h.m h.next (.cells cs) .none with e | e
  · exact .inl e
  · exact .inr e.1

/-- A block of the model that bears what an abstract one says. -/
structure BlkRel (ρ : Rho) (w : World) (t : Tgt) (cs : List AV) : Prop where
  ex : ∃ c e f, w.heap[t.b]? = some (.cells c e f) ∧ t.d + t.n ≤ c.size ∧ cs.length ≤ t.n ∧ (∀ o, o < c.size → (decide (f.1 ≤ o) && decide (o < f.2)) = false) ∧
    ∀ (j : Nat) (a : AV), cs[j]? = some a → ∃ v : Value, c[t.d + j]? = some v ∧ VRel ρ a v

structure Rel (ρ : Rho) (N : Nat) (g : Nat → Blk) (base : Nat) (w0 w : World) : Prop where
  dom : ∀ i t, ρ i = some t → i < N
  blk : ∀ i t cs, ρ i = some t → g i = .cells cs → base ≤ t.b ∧ BlkRel ρ w t cs
  inj : ∀ i j t u cs ds, ρ i = some t → ρ j = some u → g i = .cells cs → g j = .cells ds → t.b = u.b → i = j
  below : Below base w0 w
  size : base ≤ w.heap.size

/-- The abstract heap may forget blocks, and know more that nothing stands for. -/
theorem Rel.weaken {ρ : Rho} {N N' : Nat} {g g' : Nat → Blk} {base : Nat} {w0 w : World} (h : Rel ρ N g base w0 w) (hN : N ≤ N')
    (hg : ∀ j t cs, ρ j = some t → g' j = .cells cs → g j = .cells cs) : Rel ρ N' g' base w0 w :=
  ⟨fun i t e => Nat.lt_of_lt_of_le (h.dom i t e) hN, fun i t cs e k => h.blk i t cs e (hg i t cs e k),
    fun i j t u cs ds e1 e2 k1 k2 => h.inj i j t u cs ds e1 e2 (hg i t cs e1 k1) (hg j u ds e2 k2), h.below, h.size⟩

theorem BlkRel.mono {ρ ρ' : Rho} {w : World} {t : Tgt} {cs : List AV} (h : BlkRel ρ w t cs) (hρ : ρ.le ρ') : BlkRel ρ' w t cs := by
  obtain ⟨c, e, f, h1, h2, h3, h4, h5⟩ := h.ex
  exact ⟨c, e, f, h1, h2, h3, h4, fun j a ej => by obtain ⟨v, k1, k2⟩ := h5 j a ej; exact ⟨v, k1, VRel.mono hρ _ _ k2⟩⟩

theorem BlkRel.world {ρ : Rho} {w w' : World} {t : Tgt} {cs : List AV} (h : BlkRel ρ w t cs) (e : w'.heap[t.b]? = w.heap[t.b]?) : BlkRel ρ w' t cs := by
  obtain ⟨c, e', f, h1, h2⟩ := h.ex
  exact ⟨c, e', f, e.trans h1, h2⟩

theorem Rel.drew {ρ : Rho} {N : Nat} {g : Nat → Blk} {base : Nat} {w0 w : World} (h : Rel ρ N g base w0 w) : Rel ρ N g base w0 w.drew :=
  ⟨h.dom, fun i t cs e k => ⟨(h.blk i t cs e k).1, (h.blk i t cs e k).2.world rfl⟩, h.inj, h.below.drew, h.size⟩

def Rho.ext (ρ : Rho) (k : Nat) (t : Tgt) : Rho := fun i => if i = k then some t else ρ i
theorem Rho.le_ext {ρ : Rho} {k : Nat} {t : Tgt} (h : ρ k = none) : ρ.le (ρ.ext k t) := fun i u e => by
  unfold Rho.ext
  split
  · rename_i hi; subst hi; rw [h] at e; cases e
  · exact e
theorem Rho.ext_same (ρ : Rho) (k : Nat) (t : Tgt) : ρ.ext k t k = some t := if_pos rfl
theorem Rho.ext_ne (ρ : Rho) {k i : Nat} (t : Tgt) (h : i ≠ k) : ρ.ext k t i = ρ i := if_neg h

theorem heap_alloc_lt {w : World} {o : Obj} {k : Nat} (h : k < w.heap.size) : (w.alloc o).heap[k]? = w.heap[k]? := Below.heap_alloc w o k h
theorem heap_alloc_new (w : World) (o : Obj) : (w.alloc o).heap[w.heap.size]? = some o := by
  show (w.heap.push o)[w.heap.size]? = some o
  simp

theorem BlkRel.lt {ρ : Rho} {w : World} {t : Tgt} {cs : List AV} (h : BlkRel ρ w t cs) : t.b < w.heap.size := by
  obtain ⟨c, e, f, h1, _⟩ := h.ex
  exact (Array.getElem?_eq_some_iff.1 h1).1

/-- A block that is made, for an id that nothing stood for. -/
theorem Rel.extend {ρ : Rho} {N : Nat} {g : Nat → Blk} {base : Nat} {w0 w : World} (h : Rel ρ N g base w0 w) {k n : Nat} {cs : List AV} {c : Array Value} {e : TypeId} {f : Nat × Nat} (hfz : ∀ o, o < c.size → (decide (f.1 ≤ o) && decide (o < f.2)) = false)
    (hk : k < N) (hρ : ρ k = none) (hc : ∀ ds, g k = .cells ds → ds = cs) (hn : cs.length ≤ n) (hs : n ≤ c.size) (hv : ∀ (j : Nat) (a : AV), cs[j]? = some a → ∃ v : Value, c[j]? = some v ∧ VRel ρ a v) :
    Rel (ρ.ext k ⟨w.heap.size, 0, n⟩) N g base w0 (w.alloc (.cells c e f)) := by
  have hle := Rho.le_ext (t := ⟨w.heap.size, 0, n⟩) hρ
  refine ⟨fun i t ei => ?_, fun i t ds ei gi => ?_, fun i j t u as bs ei ej gi gj hb => ?_, h.below.alloc h.size _, by rw [World.size_alloc]; exact Nat.le_succ_of_le h.size⟩
  · by_cases hi : i = k
    · exact hi ▸ hk
    · rw [Rho.ext_ne _ _ hi] at ei; exact h.dom i t ei
  · by_cases hi : i = k
    · subst hi
      rw [Rho.ext_same] at ei
      obtain rfl := Option.some.inj ei
      obtain rfl := hc ds gi
      exact ⟨h.size, ⟨c, e, f, heap_alloc_new _ _, by simpa using hs, hn, hfz, fun j a ej => by obtain ⟨v, k1, k2⟩ := hv j a ej; exact ⟨v, by simpa using k1, VRel.mono hle _ _ k2⟩⟩⟩
    · rw [Rho.ext_ne _ _ hi] at ei
      obtain ⟨b1, b2⟩ := h.blk i t ds ei gi
      exact ⟨b1, (b2.mono hle).world (heap_alloc_lt b2.lt)⟩
  · by_cases hi : i = k
    · by_cases hj : j = k
      · rw [hi, hj]
      · subst hi
        rw [Rho.ext_same] at ei
        rw [Rho.ext_ne _ _ hj] at ej
        obtain rfl := Option.some.inj ei
        have := (h.blk j u bs ej gj).2.lt
        simp only at hb; omega
    · by_cases hj : j = k
      · subst hj
        rw [Rho.ext_same] at ej
        rw [Rho.ext_ne _ _ hi] at ei
        obtain rfl := Option.some.inj ej
        have := (h.blk i t as ei gi).2.lt
        simp only at hb; omega
      · rw [Rho.ext_ne _ _ hi] at ei
        rw [Rho.ext_ne _ _ hj] at ej
        exact h.inj i j t u as bs ei ej gi gj hb

theorem Rel.load {ρ : Rho} {N : Nat} {g : Nat → Blk} {base : Nat} {w0 w : World} (h : Rel ρ N g base w0 w) {i j : Nat} {t : Tgt} {cs : List AV} {a : AV} (hi : ρ i = some t) (hg : g i = .cells cs)
    (hj : cs[j]? = some a) : ∃ v, w.cell? ⟨t.b, t.d + j, none⟩ = some v ∧ VRel ρ a v := by
  obtain ⟨c, e, f, h1, h2, h3, h4, h5⟩ := (h.blk i t cs hi hg).2.ex
  obtain ⟨v, k1, k2⟩ := h5 j a hj
  exact ⟨v, by simp [World.cell?, h1, k1], k2⟩

def upd (g : Nat → Blk) (i : Nat) (b : Blk) : Nat → Blk := fun j => if j = i then b else g j
theorem upd_same (g : Nat → Blk) (i : Nat) (b : Blk) : upd g i b i = b := if_pos rfl
theorem upd_ne (g : Nat → Blk) {i j : Nat} (b : Blk) (h : j ≠ i) : upd g i b j = g j := if_neg h

theorem heap_setCell_ne {w : World} {a : Addr} {v : Value} {k : Nat} (h : k ≠ a.block) : (w.setCell a v).heap[k]? = w.heap[k]? := Below.heap_setCell w a v k h
theorem heap_setCell_same {w : World} {b o : Nat} {v : Value} {c : Array Value} {e : TypeId} {f : Nat × Nat} (h : w.heap[b]? = some (.cells c e f)) :
    (w.setCell ⟨b, o, none⟩ v).heap[b]? = some (.cells (c.setIfInBounds o v) e f) := by
  simp only [World.setCell, Array.getElem?_modify, if_true, h, Option.map_some]
  rfl

/-- A store into a cell. -/
theorem Rel.store {ρ : Rho} {N : Nat} {g : Nat → Blk} {base : Nat} {w0 w : World} (h : Rel ρ N g base w0 w) {i j : Nat} {t : Tgt} {cs : List AV} {a : AV} {v : Value} (hi : ρ i = some t)
    (hg : g i = .cells cs) (hj : j < cs.length) (hv : VRel ρ a v) :
    Rel ρ N (upd g i (.cells (cs.set j a))) base w0 (w.setCell ⟨t.b, t.d + j, none⟩ v) ∧ w.cell? ⟨t.b, t.d + j, none⟩ ≠ none ∧ w.frozen? ⟨t.b, t.d + j, none⟩ = false := by
  obtain ⟨hb, hbr⟩ := h.blk i t cs hi hg
  obtain ⟨c, e, f, h1, h2, h3, h4, h5⟩ := hbr.ex
  have hlt : t.d + j < c.size := by omega
  refine ⟨⟨h.dom, fun k u ds ek gk => ?_, fun k l u u' as bs ek el gk gl hbb => ?_, h.below.setCell hb _, by rw [World.size_setCell]; exact h.size⟩, ?_, ?_⟩
  · by_cases hk : k = i
    · subst hk
      rw [hi] at ek
      obtain rfl := Option.some.inj ek
      rw [upd_same] at gk
      obtain rfl := Blk.cells.inj gk
      refine ⟨hb, ⟨c.setIfInBounds (t.d + j) v, e, f, heap_setCell_same h1, by simpa using h2, by simpa using h3, by simpa using h4, fun m x em => ?_⟩⟩
      by_cases hm : m = j
      · subst hm
        rw [List.getElem?_set_self hj] at em
        obtain rfl := Option.some.inj em
        exact ⟨v, by simp [hlt], hv⟩
      · rw [List.getElem?_set_ne (fun q => hm q.symm)] at em
        obtain ⟨y, k1, k2⟩ := h5 m x em
        exact ⟨y, by rw [Array.getElem?_setIfInBounds_ne (by omega)]; exact k1, k2⟩
    · rw [upd_ne _ _ hk] at gk
      obtain ⟨b1, b2⟩ := h.blk k u ds ek gk
      refine ⟨b1, b2.world (heap_setCell_ne fun q => hk (h.inj k i u t ds cs ek hi gk hg q))⟩
  · have get : ∀ m ds, upd g i (.cells (cs.set j a)) m = .cells ds → ∃ ds', g m = .cells ds' := fun m ds q => by
      by_cases hm : m = i
      · exact ⟨cs, hm ▸ hg⟩
      · rw [upd_ne _ _ hm] at q; exact ⟨ds, q⟩
    obtain ⟨as', gk'⟩ := get k as gk
    obtain ⟨bs', gl'⟩ := get l bs gl
    exact h.inj k l u u' as' bs' ek el gk' gl' hbb
  · simp [World.cell?, h1, hlt]
  · have := h4 (t.d + j) hlt
    simpa [World.frozen?, h1] using this
end Go.Ev
