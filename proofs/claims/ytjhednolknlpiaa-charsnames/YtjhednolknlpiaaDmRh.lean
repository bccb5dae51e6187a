/- The D-machine (38): bits; small words for symbolic runs. -/
import Derived.Test.YtjhednolknlpiaaDmRg
namespace Go.Dm
set_option linter.unusedSimpArgs false
set_option linter.unusedVariables false
set_option linter.unnecessarySimpa false
set_option maxRecDepth 10000
attribute [local irreducible] Go.Dm.F Go.Dm.RS Go.Dm.Y Go.Dm.FD Go.Dm.FZ1 Go.Dm.Hold
theorem or_192 : ∀ x, x < 64 → 192 ||| x = 192 + x := by decide
theorem or_128 : ∀ x, x < 128 → 128 ||| x = 128 + x := by decide
theorem or_224 : ∀ x, x < 32 → 224 ||| x = 224 + x := by decide
theorem or_240 : ∀ x, x < 16 → 240 ||| x = 240 + x := by decide
theorem wrap_u8 (n : Int) : IntKind.u8.wrap n = n % 256 := rfl
theorem u8_or (a b : Nat) (ha : a < 256) (hb : b < 256) : (BitVec.ofInt 8 (a : Int) ||| BitVec.ofInt 8 (b : Int)).toNat = a ||| b := by
  simp only [BitVec.toNat_or, BitVec.toNat_ofInt]
  congr 1 <;> omega
theorem u8_and (a b : Nat) (ha : a < 256) (hb : b < 256) : (BitVec.ofInt 8 (a : Int) &&& BitVec.ofInt 8 (b : Int)).toNat = a &&& b := by
  simp only [BitVec.toNat_and, BitVec.toNat_ofInt]
  congr 1 <;> omega
theorem i32_or (a b : Nat) (ha : a < 4294967296) (hb : b < 4294967296) : (BitVec.ofInt 32 (a : Int) ||| BitVec.ofInt 32 (b : Int)).toNat = a ||| b := by
  simp only [BitVec.toNat_or, BitVec.toNat_ofInt]
  congr 1 <;> omega
theorem i32_and (a b : Nat) (ha : a < 4294967296) (hb : b < 4294967296) : (BitVec.ofInt 32 (a : Int) &&& BitVec.ofInt 32 (b : Int)).toNat = a &&& b := by
  simp only [BitVec.toNat_and, BitVec.toNat_ofInt]
  congr 1 <;> omega
theorem i64_and (a b : Nat) (ha : a < 18446744073709551616) (hb : b < 18446744073709551616) : (BitVec.ofInt 64 (a : Int) &&& BitVec.ofInt 64 (b : Int)).toNat = a &&& b := by
  simp only [BitVec.toNat_and, BitVec.toNat_ofInt]
  congr 1 <;> omega
theorem or_shl (a x i : Nat) (h : x < 2 ^ i) : (a * 2 ^ i) ||| x = a * 2 ^ i + x := by
  have := Nat.shiftLeft_add_eq_or_of_lt h a
  rw [Nat.shiftLeft_eq] at this
  exact this.symm
theorem and_63 (x : Nat) : x &&& 63 = x % 64 := Nat.and_two_pow_sub_one_eq_mod x 6
end Go.Dm
