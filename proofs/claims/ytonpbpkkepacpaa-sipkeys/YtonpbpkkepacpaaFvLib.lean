/-
  NUMBERS: the evaluator's operations on whole numbers, as natural numbers. No project text.
-/
import Derived.Test.YtonpbpkkepacpaaFvA
set_option linter.all false
namespace Go.Ev
variable {A : Type}

theorem wrap_u64 (x : Int) : IntKind.wrap .u64 x = x % 18446744073709551616 := by unfold IntKind.wrap; simp [IntKind.bits, IntKind.signed]
theorem wrap_u32 (x : Int) : IntKind.wrap .u32 x = x % 4294967296 := by unfold IntKind.wrap; simp [IntKind.bits, IntKind.signed]
theorem wrap_u16 (x : Int) : IntKind.wrap .u16 x = x % 65536 := by unfold IntKind.wrap; simp [IntKind.bits, IntKind.signed]
theorem wrap_u8 (x : Int) : IntKind.wrap .u8 x = x % 256 := by unfold IntKind.wrap; simp [IntKind.bits, IntKind.signed]
theorem wrap_i64 (x : Int) : IntKind.wrap .i64 x = (if x % 18446744073709551616 ≥ 9223372036854775808 then x % 18446744073709551616 - 18446744073709551616 else x % 18446744073709551616) := by
  unfold IntKind.wrap; simp [IntKind.bits, IntKind.signed]
theorem wrap_id {x : Int} (h1 : -9223372036854775808 ≤ x) (h2 : x < 9223372036854775808) : IntKind.wrap .i64 x = x := by
  rw [wrap_i64]; split <;> omega
theorem wrap_u64_nat (x : Nat) (h : x < 18446744073709551616) : IntKind.wrap .u64 (x : Int) = (x : Int) := by rw [wrap_u64]; omega
theorem wrap_u64_mod (x : Nat) : IntKind.wrap .u64 (x : Int) = ((x % 18446744073709551616 : Nat) : Int) := by rw [wrap_u64]; omega

theorem bits_u64 : IntKind.u64.bits = 64 := rfl
theorem bits_u32 : IntKind.u32.bits = 32 := rfl
theorem bits_u16 : IntKind.u16.bits = 16 := rfl
theorem bits_u8 : IntKind.u8.bits = 8 := rfl

theorem ofInt_nat (w x : Nat) : (BitVec.ofInt w (x : Int)).toNat = x % 2 ^ w := by
  rw [BitVec.ofInt_natCast, BitVec.toNat_ofNat]

theorem ior_u64 (a b : Nat) (ha : a < 18446744073709551616) (hb : b < 18446744073709551616) : ior .u64 (a : Int) (b : Int) = ((a ||| b : Nat) : Int) := by
  unfold ior
  rw [BitVec.toNat_or, ofInt_nat, ofInt_nat, bits_u64, Nat.mod_eq_of_lt (show a < 2 ^ 64 by omega), Nat.mod_eq_of_lt (show b < 2 ^ 64 by omega)]
  exact wrap_u64_nat _ (Nat.or_lt_two_pow (n := 64) (by omega) (by omega))
theorem iand_u64 (a b : Nat) (ha : a < 18446744073709551616) (hb : b < 18446744073709551616) : iand .u64 (a : Int) (b : Int) = ((a &&& b : Nat) : Int) := by
  unfold iand
  rw [BitVec.toNat_and, ofInt_nat, ofInt_nat, bits_u64, Nat.mod_eq_of_lt (show a < 2 ^ 64 by omega), Nat.mod_eq_of_lt (show b < 2 ^ 64 by omega)]
  exact wrap_u64_nat _ (Nat.and_lt_two_pow (n := 64) _ (by omega))
theorem ixor_u64 (a b : Nat) (ha : a < 18446744073709551616) (hb : b < 18446744073709551616) : ixor .u64 (a : Int) (b : Int) = ((a ^^^ b : Nat) : Int) := by
  unfold ixor
  rw [BitVec.toNat_xor, ofInt_nat, ofInt_nat, bits_u64, Nat.mod_eq_of_lt (show a < 2 ^ 64 by omega), Nat.mod_eq_of_lt (show b < 2 ^ 64 by omega)]
  exact wrap_u64_nat _ (Nat.xor_lt_two_pow (n := 64) (by omega) (by omega))

theorem shl_u64 (x k : Nat) (hk : k ≤ 64) : shl .u64 (x : Int) (k : Int) = ((x * 2 ^ k % 18446744073709551616 : Nat) : Int) := by
  unfold shl
  rw [bits_u64, Int.toNat_natCast, Nat.min_eq_left hk, wrap_u64]
  have : (x : Int) * 2 ^ k = ((x * 2 ^ k : Nat) : Int) := by simp
  rw [this]; rfl
theorem shr_u64 (x k : Nat) (hk : k ≤ 64) : shr .u64 (x : Int) (k : Int) = ((x / 2 ^ k : Nat) : Int) := by
  unfold shr
  rw [bits_u64, Int.toNat_natCast, Nat.min_eq_left hk, Int.fdiv_eq_ediv_of_nonneg _ (by exact Int.le_of_lt (Int.pow_pos (by decide)))]
  simp

/-- What lies in a uint64. -/
def U64 (x : Int) : Prop := 0 ≤ x ∧ x < 18446744073709551616
theorem U64.nat {x : Int} (h : U64 x) : ∃ n : Nat, x = (n : Int) ∧ n < 18446744073709551616 := ⟨x.toNat, by have := h.1; omega, by have := h.2; have := h.1; omega⟩
theorem U64.wrap (x : Int) : U64 (IntKind.wrap .u64 x) := by unfold U64; rw [wrap_u64]; omega
theorem U64.of_nat {n : Nat} (h : n < 18446744073709551616) : U64 (n : Int) := ⟨by omega, by omega⟩
theorem U64.xor {a b : Int} (ha : U64 a) (hb : U64 b) : U64 (ixor .u64 a b) := by unfold ixor; exact .wrap _
theorem U64.or {a b : Int} (ha : U64 a) (hb : U64 b) : U64 (ior .u64 a b) := by unfold ior; exact .wrap _

/-- Disjoint parts. -/
theorem or_parts (a b k : Nat) (h : b < 2 ^ k) : a * 2 ^ k ||| b = a * 2 ^ k + b := by
  rw [← Nat.shiftLeft_eq, ← Nat.shiftLeft_add_eq_or_of_lt h]

theorem deq_iff (K : Kind) (x y : K.den) : deq K x y = true ↔ x = y := by
  unfold deq
  exact ⟨fun h => @of_decide_eq_true _ (K.dec x y) h, fun h => @decide_eq_true _ (K.dec x y) h⟩
theorem deq_self (K : Kind) (x : K.den) : deq K x x = true := (deq_iff K x x).2 rfl

theorem tdiv_nat (a b : Nat) : Int.tdiv (a : Int) (b : Int) = ((a / b : Nat) : Int) := rfl
theorem tmod_nat (a b : Nat) : Int.tmod (a : Int) (b : Int) = ((a % b : Nat) : Int) := rfl

end Go.Ev
