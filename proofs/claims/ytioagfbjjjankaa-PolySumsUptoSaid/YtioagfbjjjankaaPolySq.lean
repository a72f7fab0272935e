/-
  The square of a polynomial has its exponents doubled.
-/
import Derived.Test.YtioagfbjjjankaaPolyMod
namespace Go.Proofs.Ytioagfbjjjankaa.Poly

theorem sq_rec (A : Nat) : clmul A A = clmul (A / 2) (A / 2) * 2 ^ 2 ^^^ A % 2 := by
  have h1 := clmul_rec A A
  have h2 := clmul_rec A (A / 2)
  rw [mul_comm (A / 2) A, h2, mul_xor, Nat.mul_assoc, ← Nat.pow_add] at h1
  rw [h1]
  have h3 : A = A / 2 * 2 ^ 1 + A % 2 := by rw [Nat.pow_one]; omega
  have h4 : A = A / 2 * 2 ^ 1 ^^^ A % 2 := by
    rw [← add_eq_xor (n := 1) (A / 2) (by rw [Nat.pow_one]; omega)]
    exact h3
  rcases Nat.mod_two_eq_zero_or_one A with h | h
  · rw [if_neg (by omega), if_neg (by omega), h, Nat.zero_mul, Nat.xor_zero, Nat.xor_zero]
  · rw [if_pos h, if_pos h]
    conv => lhs; rhs; rw [h4]
    rw [h, show ∀ X Y : Nat, X ^^^ Y ^^^ (Y ^^^ 1) = X ^^^ 1 ^^^ Y ^^^ Y from fun X Y => by ac_rfl, xor_cancel]
theorem sq_tb : ∀ (n A : Nat), A < 2 ^ n → ∀ i, (clmul A A).testBit i = (decide (i % 2 = 0) && A.testBit (i / 2))
  | 0, A, h, i => by
    obtain rfl : A = 0 := by simpa using h
    rw [zero_clmul]; simp
  | n + 1, A, h, i => by
    have hA2 : A / 2 < 2 ^ n := by rw [Nat.pow_succ] at h; omega
    have ih := sq_tb n (A / 2) hA2
    have hb : ∀ j, (A / 2).testBit j = A.testBit (j + 1) := fun j => by
      have := tb_div A 1 j
      rw [Nat.pow_one] at this
      rw [this, Nat.add_comm]
    rw [sq_rec, Nat.testBit_xor, tb_mul]
    by_cases h2 : 2 ≤ i
    · have h1 : (A % 2).testBit i = false := tb_lt (n := 1) (by rw [Nat.pow_one]; omega) (by omega)
      rw [h1, decide_eq_true h2, ih, hb, show (i - 2) % 2 = i % 2 by omega, show (i - 2) / 2 + 1 = i / 2 by omega]
      simp
    · rw [decide_eq_false h2]
      have hm : A.testBit 0 = decide (A % 2 = 1) := by rw [tb]; simp
      have h01 : i = 0 ∨ i = 1 := by omega
      rcases h01 with rfl | rfl
      · rw [show 0 / 2 = 0 from rfl, hm]
        rcases Nat.mod_two_eq_zero_or_one A with h | h <;> simp [h]
      · rcases Nat.mod_two_eq_zero_or_one A with h | h <;> rw [h] <;> simp <;> decide
theorem sq_bit (A i : Nat) : (clmul A A).testBit i = (decide (i % 2 = 0) && A.testBit (i / 2)) := sq_tb A A Nat.lt_two_pow_self i
theorem fall_sq (A : Nat) : ∀ m, fall (2 * m) (clmul A A) = (fall m A).map (2 * ·)
  | 0 => rfl
  | m + 1 => by
    have ih := fall_sq A m
    have h1 : (clmul A A).testBit (2 * m + 1) = false := by rw [sq_bit, decide_eq_false (by omega)]; rfl
    have h0 : (clmul A A).testBit (2 * m) = A.testBit m := by rw [sq_bit, decide_eq_true (by omega), show 2 * m / 2 = m by omega]; rfl
    rw [show 2 * (m + 1) = 2 * m + 1 + 1 by omega, fall_no h1]
    cases hb : A.testBit m
    · rw [fall_no (by rw [h0, hb]), fall_no hb, ih]
    · rw [fall_yes (by rw [h0, hb]), fall_yes hb, ih]; rfl
end Go.Proofs.Ytioagfbjjjankaa.Poly
