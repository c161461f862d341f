import Derived.Test.YtmjpidjdbofdjaaYB
import Derived.WideShapes
/- Sy, part C: operations, symbolically. -/
set_option linter.unusedVariables false
set_option linter.unusedSimpArgs false
namespace Go.Sy
open Go

/-! ### Places where the prover speaks -/
def cnd (b : Bool) (p q : Prop) : Prop := match b with | true => p | false => q
theorem cnd_split {b : Bool} {p q : Prop} (h1 : b = true → p) (h2 : b = false → q) : cnd b p q := by cases b; exact h2 rfl; exact h1 rfl
theorem cnd_true {b : Bool} {p q : Prop} (h : b = true) (h1 : p) : cnd b p q := by subst h; exact h1
theorem cnd_false {b : Bool} {p q : Prop} (h : b = false) (h1 : q) : cnd b p q := by subst h; exact h1
theorem cnd_elim {b : Bool} {p q : Prop} (h : cnd b p q) : (b = true ∧ p) ∨ (b = false ∧ q) := by cases b; exact .inr ⟨rfl, h⟩; exact .inl ⟨rfl, h⟩
/-- An index in its bounds. -/
def inb (z : Int) (n : Nat) (k : Nat → Prop) : Prop :=
  match z with
  | .ofNat m => match Nat.blt m n with | true => k m | false => False
  | .negSucc _ => False
theorem inb_mk {z : Int} {n : Nat} {k : Nat → Prop} (h0 : 0 ≤ z) (h1 : z < n) (h : k z.toNat) : inb z n k := by
  obtain ⟨m, rfl⟩ := Int.eq_ofNat_of_zero_le h0
  have : Nat.blt m n = true := by rw [Nat.blt_eq]; omega
  show (match Nat.blt m n with | true => k m | false => False)
  rw [this]; exact h
theorem inb_nat {m n : Nat} {k : Nat → Prop} (h1 : m < n) (h : k m) : inb (m : Int) n k := inb_mk (by omega) (by omega) h
theorem inb_elim {z : Int} {n : Nat} {k : Nat → Prop} (h : inb z n k) : 0 ≤ z ∧ z < n ∧ k z.toNat := by
  cases z with
  | ofNat m =>
    simp only [inb] at h
    split at h
    · rename_i hb
      have : m < n := by rw [Nat.blt_eq] at hb; exact hb
      exact ⟨Int.natCast_nonneg m, Int.ofNat_lt.2 this, h⟩
    · exact h.elim
  | negSucc m => exact h.elim
/-- A count that is not below 0. -/
def nng (z : Int) (k : Nat → Prop) : Prop := match z with | .ofNat m => k m | .negSucc _ => False
theorem nng_mk {z : Int} {k : Nat → Prop} (h0 : 0 ≤ z) (h : k z.toNat) : nng z k := by
  obtain ⟨m, rfl⟩ := Int.eq_ofNat_of_zero_le h0; exact h
theorem nng_elim {z : Int} {k : Nat → Prop} (h : nng z k) : 0 ≤ z ∧ k z.toNat := by
  cases z with
  | ofNat m => exact ⟨Int.natCast_nonneg m, h⟩
  | negSucc m => exact h.elim
/-- A divisor. -/
def nz (z : Int) (p : Prop) : Prop := match z with | .ofNat (_ + 1) => p | .ofNat 0 => False | .negSucc _ => p
theorem nz_mk {z : Int} {p : Prop} (h0 : z ≠ 0) (h : p) : nz z p := by
  cases z with
  | ofNat m => cases m with
    | zero => exact absurd rfl h0
    | succ m => exact h
  | negSucc m => exact h
theorem nz_elim {z : Int} {p : Prop} (h : nz z p) : z ≠ 0 ∧ p := by
  cases z with
  | ofNat m => cases m with
    | zero => exact h.elim
    | succ m => exact ⟨(by intro e; cases e), h⟩
  | negSucc m => exact ⟨(by intro e; cases e), h⟩
def kindEq : IntKind → IntKind → Bool
  | .i8, .i8 | .i16, .i16 | .i32, .i32 | .i64, .i64 | .u8, .u8 | .u16, .u16 | .u32, .u32 | .u64, .u64 => true
  | _, _ => false
theorem kindEq_eq {a b : IntKind} (h : kindEq a b = true) : a = b := by cases a <;> cases b <;> first | rfl | cases h

/-! ### Numbers, texts, bools -/
def bitI (op : BinOp) (k : IntKind) (x y : Int) : Int :=
  match op with
  | .and => k.wrap (BitVec.ofInt k.bits x &&& BitVec.ofInt k.bits y).toNat
  | .or => k.wrap (BitVec.ofInt k.bits x ||| BitVec.ofInt k.bits y).toNat
  | .xor => k.wrap (BitVec.ofInt k.bits x ^^^ BitVec.ofInt k.bits y).toNat
  | _ => k.wrap (BitVec.ofInt k.bits x &&& ~~~ BitVec.ofInt k.bits y).toNat
def binI (op : BinOp) (k : IntKind) (a b : Int) (c : SV → Prop) : Prop :=
  match op with
  | .add => c (.v (.int k (k.wrap (a + b))))
  | .sub => c (.v (.int k (k.wrap (a - b))))
  | .mul => c (.v (.int k (k.wrap (a * b))))
  | .quo => nz b (c (.v (.int k (k.wrap (a.tdiv b)))))
  | .rem => nz b (c (.v (.int k (a.tmod b))))
  | .eql => c (.v (.bool (decide (a = b))))
  | .neq => c (.v (.bool (!decide (a = b))))
  | .lss => c (.v (.bool (decide (a < b))))
  | .leq => c (.v (.bool (decide (a ≤ b))))
  | .gtr => c (.v (.bool (decide (b < a))))
  | .geq => c (.v (.bool (decide (b ≤ a))))
  | .and => c (.v (.int k (bitI .and k a b)))
  | .or => c (.v (.int k (bitI .or k a b)))
  | .xor => c (.v (.int k (bitI .xor k a b)))
  | .andNot => c (.v (.int k (bitI .andNot k a b)))
  | _ => False
def binS (op : BinOp) (x y : SV) (c : SV → Prop) : Prop :=
  match x, y with
  | .v (.int k a), .v (.int k' b) =>
    match op with
    | .shl => nng b fun m => c (.v (.int k (k.wrap (a * 2 ^ (min m k.bits)))))
    | .shr => nng b fun m => c (.v (.int k (a.fdiv (2 ^ (min m k.bits)))))
    | op => match kindEq k k' with | true => binI op k a b c | false => False
  | .v (.string a), .v (.string b) =>
    match op with
    | .add => a.size + b.size ≤ 9223372036854775807 ∧ c (.v (.string (a ++ b)))
    | .eql => c (.v (.bool (decide (a = b))))
    | .neq => c (.v (.bool (!decide (a = b))))
    | .lss => c (.v (.bool (Op.bytesLess a.toList b.toList)))
    | .gtr => c (.v (.bool (!(Op.bytesLess a.toList b.toList || decide (a = b)))))
    | .leq => c (.v (.bool (Op.bytesLess a.toList b.toList || decide (a = b))))
    | .geq => c (.v (.bool (!Op.bytesLess a.toList b.toList)))
    | _ => False
  | _, _ => False

theorem toList_beq (a b : ByteArray) : (a.toList == b.toList) = decide (a = b) := by
  by_cases h : a = b
  · subst h; simp
  · have : a.toList ≠ b.toList := by
      intro e
      apply h
      rw [ByteArray.toList_eq, ByteArray.toList_eq] at e
      exact Go.WideShapes.bytes_inj e
    simp [h, this]

section
variable {P : Program} {β : Gh} {H : Hp} {w : World}
theorem binI_run {op : BinOp} {k : IntKind} {a b : Int} {c : SV → Prop} (h : binI op k a b c) (t : TypeId) (ox oy : Operand) :
    ∃ x, (do eqGuard op t ox oy (.int k a) (.int k b); binOp op t (.int k a) (.int k b) : Sem Value).run P w = .ok x w ∧ c (.v x) := by
  have e1 : (a != b) = !decide (a = b) := by by_cases h : a = b <;> simp [h]
  cases op <;> simp only [binI] at h
  case quo =>
    obtain ⟨hz, h⟩ := nz_elim h
    exact ⟨_, by simp [eqGuard, binOp, Op.intDiv, hz, Sem.run], h⟩
  case rem =>
    obtain ⟨hz, h⟩ := nz_elim h
    exact ⟨_, by simp [eqGuard, binOp, Op.intDiv, hz, Sem.run], h⟩
  all_goals first
    | exact h.elim
    | exact ⟨_, by simp [eqGuard, binOp, Op.intArith, Op.intCmp, Op.intBits, bitI, e1]; rfl, h⟩
    | exact ⟨_, by simp [eqGuard, binOp, Op.intArith, Op.intCmp, Op.intBits, bitI, e1], h⟩
theorem binS_run {op : BinOp} {sx sy : SV} {x y : Value} (hx : Den β sx x) (hy : Den β sy y) {c : SV → Prop} (h : binS op sx sy c) (t : TypeId) (ox oy : Operand) :
    ∃ z, (do eqGuard op t ox oy x y; binOp op t x y : Sem Value).run P w = .ok z w ∧ c (.v z) := by
  unfold binS at h
  split at h
  · rename_i k a k' b
    simp only [Den] at hx hy
    subst hx; subst hy
    split at h
    · obtain ⟨h0, h⟩ := nng_elim h
      exact ⟨_, by simp [eqGuard, binOp, Op.shift, show ¬ b < 0 by omega], h⟩
    · obtain ⟨h0, h⟩ := nng_elim h
      exact ⟨_, by simp [eqGuard, binOp, Op.shift, show ¬ b < 0 by omega], h⟩
    · split at h
      · rename_i hk
        have hk := kindEq_eq hk
        subst hk
        exact binI_run h t ox oy
      · exact h.elim
  · rename_i a b
    simp only [Den] at hx hy
    subst hx; subst hy
    have e1 := toList_beq a b
    split at h
    · obtain ⟨h0, h⟩ := h
      have : ¬ IntKind.i64.max < ((a.size + b.size : Nat) : Int) := by simp [IntKind.max, IntKind.signed, IntKind.bits]; omega
      exact ⟨_, by simp only [eqGuard, binOp, Op.stringOp, Sem.run_bind]; rw [if_neg this]; rfl, h⟩
    all_goals first
      | exact h.elim
      | exact ⟨_, by simp [eqGuard, binOp, Op.stringOp, e1], h⟩
  · exact h.elim
end

/-! ### One operand -/
def unS (op : UnOp) (x : SV) (c : SV → Prop) : Prop :=
  match op, x with
  | .neg, .v (.int k n) => c (.v (.int k (k.wrap (0 - n))))
  | .xor, .v (.int k n) => c (.v (.int k (bitI .xor k (match k.signed with | true => -1 | false => k.max) n)))
  | .not, .v (.bool b) => c (.v (.bool (!b)))
  | _, _ => False
theorem unS_run {P : Program} {β : Gh} {w : World} {op : UnOp} {sx : SV} {x : Value} (hx : Den β sx x) {c : SV → Prop} (h : unS op sx c) :
    ∃ z, (Op.unary op x).run P w = .ok z w ∧ c (.v z) := by
  unfold unS at h
  split at h <;> first
    | exact h.elim
    | (simp only [Den] at hx; subst hx
       refine ⟨_, ?_, h⟩
       simp only [Op.unary, Op.intArith, Op.intBits, bitI]
       first | rfl | (rename_i k n; cases k <;> rfl))

end Go.Sy

