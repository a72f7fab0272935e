/-
  Bit operations on whole numbers of 64 bits, as natural numbers.
-/
import Derived.Laws.BitsAll
import Derived.Laws.Bits128
import GoSem.ClaimData
namespace Go.Proofs.YtkdfbganhohbfaaDoor

theorem i64_toNat {a : Nat} (ha : a < 9223372036854775808) : (BitVec.ofInt 64 (a : Int)).toNat = a := ofInt_u64 a (by omega)
theorem i64_xor_nat {a b : Nat} (ha : a < 9223372036854775808) (hb : b < 9223372036854775808) : bits .xor .i64 (a : Int) (b : Int) = ((a ^^^ b : Nat) : Int) := by
  have hx : a ^^^ b < 2 ^ 63 := Nat.xor_lt_two_pow (by omega) (by omega)
  show IntKind.i64.wrap ((BitVec.ofInt 64 (a : Int) ^^^ BitVec.ofInt 64 (b : Int)).toNat : Int) = _
  rw [BitVec.toNat_xor, i64_toNat ha, i64_toNat hb, IntKind.wrap_i64]
  omega
theorem i64_and_nat {a b : Nat} (ha : a < 9223372036854775808) (hb : b < 9223372036854775808) : bits .and .i64 (a : Int) (b : Int) = ((a &&& b : Nat) : Int) := by
  have hx : a &&& b < 2 ^ 63 := Nat.and_lt_two_pow _ (by omega)
  show IntKind.i64.wrap ((BitVec.ofInt 64 (a : Int) &&& BitVec.ofInt 64 (b : Int)).toNat : Int) = _
  rw [BitVec.toNat_and, i64_toNat ha, i64_toNat hb, IntKind.wrap_i64]
  omega
theorem i64_and8191 (n : Int) : bits .and .i64 n 8191 = n % 8192 := by
  have h127 : (BitVec.ofInt 64 8191).toNat = 2 ^ 13 - 1 := by decide
  have key : (BitVec.ofInt 64 n &&& BitVec.ofInt 64 8191).toNat = (n % ((2 ^ 64 : Nat) : Int)).toNat % 2 ^ 13 := by
    rw [BitVec.toNat_and, BitVec.toNat_ofInt, h127, Nat.and_two_pow_sub_one_eq_mod]
  show IntKind.i64.wrap ((BitVec.ofInt 64 n &&& BitVec.ofInt 64 8191).toNat : Nat) = n % 8192
  rw [key, IntKind.wrap_i64]
  omega
theorem xor_mod (x y n : Nat) : (x ^^^ y) % 2 ^ n = x % 2 ^ n ^^^ y % 2 ^ n := by
  apply Nat.eq_of_testBit_eq
  intro i
  simp only [Nat.testBit_mod_two_pow, Nat.testBit_xor]
  by_cases h : i < n <;> simp [h]
/-- The lowest thirteen bits. -/
def lowN (a : Int) : Nat := (a % 8192).toNat
theorem lowN_lt (a : Int) : lowN a < 8192 := by unfold lowN; omega
theorem lowN_cast (a : Int) : (lowN a : Int) = a % 8192 := by unfold lowN; omega
theorem lowN_nat (a : Nat) : lowN (a : Int) = a % 8192 := by unfold lowN; omega
theorem lowN_of_lt {a : Nat} (h : a < 8192) : lowN (a : Int) = a := by unfold lowN; omega
theorem lowN_xor (a b : Int) : lowN (bits .xor .i64 a b) = lowN a ^^^ lowN b := by
  have e : ∀ z : Int, lowN z = (BitVec.ofInt 64 z).toNat % 2 ^ 13 := fun z => by
    rw [BitVec.toNat_ofInt]
    unfold lowN
    omega
  have e2 : bits .xor .i64 a b = IntKind.i64.wrap ((BitVec.ofInt 64 a ^^^ BitVec.ofInt 64 b).toNat : Int) := rfl
  have e3 : lowN (IntKind.i64.wrap ((BitVec.ofInt 64 a ^^^ BitVec.ofInt 64 b).toNat : Int)) = (BitVec.ofInt 64 a ^^^ BitVec.ofInt 64 b).toNat % 2 ^ 13 := by
    generalize (BitVec.ofInt 64 a ^^^ BitVec.ofInt 64 b).toNat = x
    rw [IntKind.wrap_i64]
    unfold lowN
    omega
  rw [e2, e3, BitVec.toNat_xor, xor_mod, ← e, ← e]
theorem and8191 (a : Int) : bits .and .i64 a 8191 = (lowN a : Int) := by rw [i64_and8191, lowN_cast]
end Go.Proofs.YtkdfbganhohbfaaDoor
