/- Numbers of 64 bits: or, and, shifts, as sums and rests. -/
import Derived.Test.YtklfdmnmiadgpaaAbsTab
namespace Go.Proofs.YtklfdmnmiadgpaaAbs
set_option linter.unusedVariables false
open Go

theorem ofInt64 (x : Int) (h0 : 0 ≤ x) (h1 : x < 18446744073709551616) : (BitVec.ofInt 64 x).toNat = x.toNat := by
  rw [BitVec.toNat_ofInt]
  congr 1
  exact Int.emod_eq_of_lt h0 (by simpa using h1)
theorem wrap64_nat (n : Nat) (h : n < 18446744073709551616) : IntKind.u64.wrap (n : Int) = n := by
  rw [IntKind.wrap_u64]; omega
theorem or64 (x y : Int) (h0 : 0 ≤ x) (h1 : x < 18446744073709551616) (h2 : 0 ≤ y) (h3 : y < 18446744073709551616) : bitsOp .or .u64 x y = ((x.toNat ||| y.toNat : Nat) : Int) := by
  show IntKind.u64.wrap ((BitVec.ofInt 64 x ||| BitVec.ofInt 64 y).toNat : Int) = _
  rw [BitVec.toNat_or, ofInt64 x h0 h1, ofInt64 y h2 h3]
  exact wrap64_nat _ (Nat.or_lt_two_pow (n := 64) (by omega) (by omega))
theorem and64 (x y : Int) (h0 : 0 ≤ x) (h1 : x < 18446744073709551616) (h2 : 0 ≤ y) (h3 : y < 18446744073709551616) : bitsOp .and .u64 x y = ((x.toNat &&& y.toNat : Nat) : Int) := by
  show IntKind.u64.wrap ((BitVec.ofInt 64 x &&& BitVec.ofInt 64 y).toNat : Int) = _
  rw [BitVec.toNat_and, ofInt64 x h0 h1, ofInt64 y h2 h3]
  exact wrap64_nat _ (Nat.lt_of_le_of_lt Nat.and_le_left (by omega))
/-- Disjoint bits add up. -/
theorem or64_add (i : Nat) (hi : i < 64) (x a : Int) (h0 : 0 ≤ x) (h1 : x < 2 ^ i) (h2 : 0 ≤ a) (h3 : 2 ^ i * a < 18446744073709551616) : bitsOp .or .u64 x (2 ^ i * a) = x + 2 ^ i * a := by
  have hp : (2 : Int) ^ i ≤ 2 ^ 63 := by
    have : (2 : Nat) ^ i ≤ 2 ^ 63 := Nat.pow_le_pow_right (by omega) (by omega)
    exact_mod_cast this
  have hpos : (0 : Int) < 2 ^ i := by
    have : 0 < (2 : Nat) ^ i := Nat.pow_pos (by omega)
    exact_mod_cast this
  have hm : 0 ≤ (2 : Int) ^ i * a := Int.mul_nonneg (by omega) h2
  rw [or64 x _ h0 (by have : (2:Int)^63 < 18446744073709551616 := by decide
                      omega) hm h3]
  obtain ⟨n, rfl⟩ := Int.eq_ofNat_of_zero_le h0
  obtain ⟨k, rfl⟩ := Int.eq_ofNat_of_zero_le h2
  have e : ((2 : Int) ^ i * (k : Int)).toNat = 2 ^ i * k := by
    have : ((2 : Int) ^ i * (k : Int)) = ((2 ^ i * k : Nat) : Int) := by push_cast; rfl
    rw [this]; exact Int.toNat_natCast _
  rw [e, Int.toNat_natCast]
  have hn : n < 2 ^ i := by exact_mod_cast h1
  rw [Nat.or_comm, ← Nat.two_pow_add_eq_or_of_lt hn]
  push_cast
  omega
theorem and64_mod (i : Nat) (hi : i ≤ 63) (x : Int) (h0 : 0 ≤ x) (h1 : x < 18446744073709551616) : bitsOp .and .u64 x (2 ^ i - 1) = x % 2 ^ i := by
  have hpos : 0 < (2 : Nat) ^ i := Nat.pow_pos (by omega)
  have hp : (2 : Nat) ^ i ≤ 2 ^ 63 := Nat.pow_le_pow_right (by omega) (by omega)
  have e0 : ((2 : Int) ^ i - 1) = ((2 ^ i - 1 : Nat) : Int) := by
    rw [Int.ofNat_sub hpos]; push_cast; rfl
  rw [e0, and64 x _ h0 h1 (by omega) (by omega), Int.toNat_natCast, Nat.and_two_pow_sub_one_eq_mod]
  obtain ⟨n, rfl⟩ := Int.eq_ofNat_of_zero_le h0
  rw [Int.toNat_natCast]
  push_cast
  rfl
end Go.Proofs.YtklfdmnmiadgpaaAbs
