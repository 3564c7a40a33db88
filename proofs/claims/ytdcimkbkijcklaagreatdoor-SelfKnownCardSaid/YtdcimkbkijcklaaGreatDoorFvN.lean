/-
  Ev, part N: the numbers' words are the model's.
-/
import Derived.Test.YtdcimkbkijcklaaGreatDoorFvR
import Derived.IntWalk
namespace Go.Fv
open Go.RowKit

theorem ieq_eq (x y : Int) : ieq x y = (x == y) := by
  cases x with
  | ofNat a => cases y with
    | ofNat b =>
      rw [Bool.eq_iff_iff]
      show Nat.beq a b = true ↔ _
      rw [Nat.beq_eq, beq_iff_eq]
      exact ⟨fun h => by rw [h], fun h => Int.ofNat.inj h⟩
    | negSucc b => rfl
  | negSucc a => cases y with
    | ofNat b => rfl
    | negSucc b =>
      rw [Bool.eq_iff_iff]
      show Nat.beq a b = true ↔ _
      rw [Nat.beq_eq, beq_iff_eq]
      exact ⟨fun h => by rw [h], fun h => Int.negSucc.inj h⟩

theorem ilt_eq (x y : Int) : ilt x y = decide (x < y) := by
  cases x with
  | ofNat a => cases y with
    | ofNat b =>
      rw [Bool.eq_iff_iff]
      show Nat.blt a b = true ↔ _
      rw [Nat.blt_eq, decide_eq_true_eq, Int.ofNat_eq_natCast, Int.ofNat_eq_natCast]; omega
    | negSucc b =>
      show false = _
      rw [eq_comm, decide_eq_false_iff_not, Int.ofNat_eq_natCast, Int.negSucc_eq]; omega
  | negSucc a => cases y with
    | ofNat b =>
      show true = _
      rw [eq_comm, decide_eq_true_eq, Int.ofNat_eq_natCast, Int.negSucc_eq]; omega
    | negSucc b =>
      rw [Bool.eq_iff_iff]
      show Nat.blt b a = true ↔ _
      rw [Nat.blt_eq, decide_eq_true_eq, Int.negSucc_eq, Int.negSucc_eq]; omega

theorem iadd_eq (x y : Int) : iadd x y = x + y := by cases x <;> cases y <;> rfl
theorem isub_eq (x y : Int) : isub x y = x - y := by
  cases x with
  | ofNat a => cases y with
    | ofNat b =>
      show cond (Nat.ble b a) (.ofNat (Nat.sub a b)) (Int.ofNat a - Int.ofNat b) = _
      cases h : Nat.ble b a with
      | false => rfl
      | true =>
        have h := Nat.le_of_ble_eq_true h
        show ((a - b : Nat) : Int) = (a : Int) - (b : Int)
        omega
    | negSucc b => rfl
  | negSucc a => cases y <;> rfl

theorem wrap_eq (k : IntKind) (n : Int) : k.wrap n = (let m := n % (2 ^ k.bits : Int); if k.signed && m ≥ (2 ^ (k.bits - 1) : Int) then m - (2 ^ k.bits : Int) else m) := rfl

theorem wrapF_i64 (n : Int) : wrapF .i64 n = IntKind.wrap .i64 n := by
  cases n with
  | ofNat m =>
    show cond (Nat.ble m 9223372036854775807) (.ofNat m) (IntKind.wrap .i64 (.ofNat m)) = _
    cases h : Nat.ble m 9223372036854775807 with
    | false => rw [cond_false]
    | true =>
      have h := Nat.le_of_ble_eq_true h
      rw [cond_true, Int.ofNat_eq_natCast, IntWalk.i64_in _ (by omega)]
  | negSucc m =>
    show cond (Nat.ble m 9223372036854775807) (.negSucc m) (IntKind.wrap .i64 (.negSucc m)) = _
    cases h : Nat.ble m 9223372036854775807 with
    | false => rw [cond_false]
    | true =>
      have h := Nat.le_of_ble_eq_true h
      rw [cond_true, Int.negSucc_eq, IntWalk.i64_in _ (by omega)]

theorem wrapF_u8 (m : Nat) : wrapF .u8 (.ofNat m) = IntKind.wrap .u8 (.ofNat m) := by
  show Int.ofNat (m % 256) = _
  rw [wrap_eq, Int.ofNat_eq_natCast, Int.ofNat_eq_natCast]
  simp only [IntKind.bits, IntKind.signed, Bool.false_and, Bool.false_eq_true, if_false]
  omega
theorem wrapF_u32 (m : Nat) : wrapF .u32 (.ofNat m) = IntKind.wrap .u32 (.ofNat m) := by
  show Int.ofNat (m % 4294967296) = _
  rw [wrap_eq, Int.ofNat_eq_natCast, Int.ofNat_eq_natCast]
  simp only [IntKind.bits, IntKind.signed, Bool.false_and, Bool.false_eq_true, if_false]
  omega
theorem wrapF_u64 (m : Nat) : wrapF .u64 (.ofNat m) = IntKind.wrap .u64 (.ofNat m) := by
  show Int.ofNat (m % 18446744073709551616) = _
  rw [wrap_eq, Int.ofNat_eq_natCast, Int.ofNat_eq_natCast]
  simp only [IntKind.bits, IntKind.signed, Bool.false_and, Bool.false_eq_true, if_false]
  omega
theorem wrapF_eq (k : IntKind) (n : Int) : wrapF k n = k.wrap n := by
  cases k
  case i64 => exact wrapF_i64 n
  case u8 => cases n with
    | ofNat m => exact wrapF_u8 m
    | negSucc m => rw [wrapF] <;> (intro _ e1 e2; first | (cases e1; done) | (cases e2; done))
  case u32 => cases n with
    | ofNat m => exact wrapF_u32 m
    | negSucc m => rw [wrapF] <;> (intro _ e1 e2; first | (cases e1; done) | (cases e2; done))
  case u64 => cases n with
    | ofNat m => exact wrapF_u64 m
    | negSucc m => rw [wrapF] <;> (intro _ e1 e2; first | (cases e1; done) | (cases e2; done))
  all_goals (cases n <;> rw [wrapF] <;> (intro _ e1 e2; first | (cases e1; done) | (cases e2; done)))

theorem toNat_ofInt_ofNat (w a : Nat) : (BitVec.ofInt w (Int.ofNat a)).toNat = a % 2 ^ w := by
  rw [Int.ofNat_eq_natCast, BitVec.toNat_ofInt]
  have e : ((a : Int) % ((2 ^ w : Nat) : Int)) = ((a % 2 ^ w : Nat) : Int) := by rw [Int.natCast_emod]
  rw [e]; rfl

theorem bitsA_eq {op : BinOp} {k : IntKind} {x y : Int} {v : AV} (h : bitsA op k x y = some v) (P : Program) (w : World) :
    ∃ n : Int, v = .int k n ∧ (Op.intBits op k x y).run P w = .ok (.int k n) w := by
  unfold bitsA at h
  split at h
  · obtain rfl := Option.some.inj h; refine ⟨_, rfl, ?_⟩
    simp only [Op.intBits, Sem.run_pure, wrapF_eq, BitVec.toNat_and, toNat_ofInt_ofNat]; rfl
  · obtain rfl := Option.some.inj h; refine ⟨_, rfl, ?_⟩
    simp only [Op.intBits, Sem.run_pure, wrapF_eq, BitVec.toNat_or, toNat_ofInt_ofNat]; rfl
  · obtain rfl := Option.some.inj h; refine ⟨_, rfl, ?_⟩
    simp only [Op.intBits, Sem.run_pure, wrapF_eq, BitVec.toNat_xor, toNat_ofInt_ofNat]; rfl
  · obtain rfl := Option.some.inj h; exact ⟨_, rfl, rfl⟩
  · obtain rfl := Option.some.inj h; exact ⟨_, rfl, rfl⟩
  · obtain rfl := Option.some.inj h; exact ⟨_, rfl, rfl⟩
  · obtain rfl := Option.some.inj h; exact ⟨_, rfl, rfl⟩
  · cases h

theorem shiftA_eq {op : BinOp} {k k' : IntKind} {x y : Int} {v : AV} (h : shiftA op k x y = some v) (P : Program) (w : World) :
    ∃ n : Int, v = .int k n ∧ (Op.shift op k x k' y).run P w = .ok (.int k n) w := by
  unfold shiftA at h
  split at h
  · rename_i a n
    obtain rfl := Option.some.inj h; refine ⟨_, rfl, ?_⟩
    have hn : ¬ (Int.ofNat n < 0) := by rw [Int.ofNat_eq_natCast]; omega
    simp only [Op.shift, if_neg hn, Sem.run_pure, wrapF_eq]
    have e : Int.ofNat (Nat.mul a (Nat.pow 2 (Nat.min n k.bits))) = Int.ofNat a * 2 ^ (min (Int.ofNat n).toNat k.bits) := by
      show ((a * 2 ^ (min n k.bits) : Nat) : Int) = (a : Int) * 2 ^ (min n k.bits)
      push_cast; rfl
    rw [e]
  · rename_i a n
    obtain rfl := Option.some.inj h; refine ⟨_, rfl, ?_⟩
    have hn : ¬ (Int.ofNat n < 0) := by rw [Int.ofNat_eq_natCast]; omega
    simp only [Op.shift, if_neg hn, Sem.run_pure]
    have e : (Int.ofNat a).fdiv (2 ^ (min (Int.ofNat n).toNat k.bits)) = Int.ofNat (Nat.div a (Nat.pow 2 (Nat.min n k.bits))) := by
      show (a : Int).fdiv (2 ^ (min n k.bits)) = ((a / 2 ^ (min n k.bits) : Nat) : Int)
      rw [Int.fdiv_eq_ediv_of_nonneg _ (by exact Int.pow_nonneg (by decide))]
      push_cast; rfl
    rw [e]
  · rename_i n _
    obtain rfl := Option.some.inj h; refine ⟨_, rfl, ?_⟩
    have hn : ¬ (Int.ofNat n < 0) := by rw [Int.ofNat_eq_natCast]; omega
    simp only [Op.shift, if_neg hn, Sem.run_pure]; rfl
  · rename_i n _
    obtain rfl := Option.some.inj h; refine ⟨_, rfl, ?_⟩
    have hn : ¬ (Int.ofNat n < 0) := by rw [Int.ofNat_eq_natCast]; omega
    simp only [Op.shift, if_neg hn, Sem.run_pure]; rfl
  · cases h

theorem cond_none {α : Type} {b : Bool} {x : Option α} {v : α} (h : cond b none x = some v) : b = false ∧ x = some v := by cases b <;> simp_all
theorem cond_some {α : Type} {b : Bool} {x : Option α} {v : α} (h : cond b x none = some v) : b = true ∧ x = some v := by cases b <;> simp_all

theorem divA_eq {op : BinOp} {k : IntKind} {x y : Int} {v : AV} (h : divA op k x y = some v) (P : Program) (w : World) :
    ∃ n : Int, v = .int k n ∧ (Op.intDiv op k x y).run P w = .ok (.int k n) w := by
  unfold divA at h
  split at h
  · rename_i a b
    obtain rfl := Option.some.inj h; refine ⟨_, rfl, ?_⟩
    have hn : ¬ (Int.ofNat (b + 1) = 0) := by rw [Int.ofNat_eq_natCast]; omega
    simp only [Op.intDiv, if_neg hn, Sem.run_pure, wrapF_eq]; rfl
  · rename_i a b
    obtain rfl := Option.some.inj h; refine ⟨_, rfl, ?_⟩
    have hn : ¬ (Int.ofNat (b + 1) = 0) := by rw [Int.ofNat_eq_natCast]; omega
    simp only [Op.intDiv, if_neg hn, Sem.run_pure]; rfl
  · obtain ⟨h1, h⟩ := cond_none h
    obtain rfl := Option.some.inj h; refine ⟨_, rfl, ?_⟩
    have hn : ¬ (y = 0) := by rw [ieq_eq] at h1; simpa using h1
    simp only [Op.intDiv, if_neg hn, Sem.run_pure]
  · obtain ⟨h1, h⟩ := cond_none h
    obtain rfl := Option.some.inj h; refine ⟨_, rfl, ?_⟩
    have hn : ¬ (y = 0) := by rw [ieq_eq] at h1; simpa using h1
    simp only [Op.intDiv, if_neg hn, Sem.run_pure]
  · cases h

theorem binOp_int_run (op : BinOp) (t : TypeId) (k : IntKind) (x y : Int) (h1 : op ≠ .shl) (h2 : op ≠ .shr) : binOp op t (.int k x) (.int k y) = match op with
    | .add | .sub | .mul => Op.intArith op k x y
    | .quo | .rem => Op.intDiv op k x y
    | .and | .or | .xor | .andNot => Op.intBits op k x y
    | _ => Op.intCmp op x y := by
  cases op
  case shl => exact absurd rfl h1
  case shr => exact absurd rfl h2
  all_goals simp [binOp]

theorem intBin_eq {op : BinOp} {k : IntKind} {x y : Int} {v : AV} (h : intBin op k x y = some v) (h1 : op ≠ .shl) (h2 : op ≠ .shr) (P : Program) (t : TypeId) (w : World) :
    ∃ u : Value, (∀ ρ, VRel ρ v u) ∧ (binOp op t (.int k x) (.int k y)).run P w = .ok u w := by
  rw [binOp_int_run op t k x y h1 h2]
  have num : ∀ {n : Int}, ∀ ρ, VRel ρ (.int k n) (.int k n) := fun ρ => by simp only [VRel]
  have bl : ∀ {b : Bool}, ∀ ρ, VRel ρ (.bool b) (.bool b) := fun ρ => by simp only [VRel]
  cases op <;> simp only [intBin] at h
  case add => obtain rfl := Option.some.inj h; exact ⟨_, num, by simp only [Op.intArith, Sem.run_pure, wrapF_eq, iadd_eq]⟩
  case sub => obtain rfl := Option.some.inj h; exact ⟨_, num, by simp only [Op.intArith, Sem.run_pure, wrapF_eq, isub_eq]⟩
  case mul => obtain rfl := Option.some.inj h; exact ⟨_, num, by simp only [Op.intArith, Sem.run_pure, wrapF_eq]⟩
  case quo => obtain ⟨n, rfl, e⟩ := divA_eq h P w; exact ⟨_, num, e⟩
  case rem => obtain ⟨n, rfl, e⟩ := divA_eq h P w; exact ⟨_, num, e⟩
  case and => obtain ⟨n, rfl, e⟩ := bitsA_eq h P w; exact ⟨_, num, e⟩
  case or => obtain ⟨n, rfl, e⟩ := bitsA_eq h P w; exact ⟨_, num, e⟩
  case xor => obtain ⟨n, rfl, e⟩ := bitsA_eq h P w; exact ⟨_, num, e⟩
  case andNot => obtain ⟨n, rfl, e⟩ := bitsA_eq h P w; exact ⟨_, num, e⟩
  case eql => obtain rfl := Option.some.inj h; exact ⟨_, bl, by simp only [Op.intCmp, Sem.run_pure, ieq_eq]⟩
  case neq => obtain rfl := Option.some.inj h; exact ⟨_, bl, by simp only [Op.intCmp, Sem.run_pure, ieq_eq]; rfl⟩
  case lss => obtain rfl := Option.some.inj h; exact ⟨_, bl, by simp only [Op.intCmp, Sem.run_pure, ilt_eq]⟩
  case leq => obtain rfl := Option.some.inj h; exact ⟨_, bl, by simp only [Op.intCmp, Sem.run_pure, ilt_eq]; congr 2; rw [Bool.eq_iff_iff]; simp⟩
  case gtr => obtain rfl := Option.some.inj h; exact ⟨_, bl, by simp only [Op.intCmp, Sem.run_pure, ilt_eq]⟩
  case geq => obtain rfl := Option.some.inj h; exact ⟨_, bl, by simp only [Op.intCmp, Sem.run_pure, ilt_eq]; congr 2; rw [Bool.eq_iff_iff]; simp⟩
  case shl => exact absurd rfl h1
  case shr => exact absurd rfl h2
end Go.Fv
