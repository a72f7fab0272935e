/-
  Products and remainders of polynomials, as numbers.
-/
import Derived.Test.YtkdfbganhohbfaaDoorPolyPlain
namespace Go.Proofs.YtkdfbganhohbfaaDoor.Poly

/-- Term by term. -/
def mulL (l : List Nat) (B : Nat) : Nat := l.foldl (fun P e => P ^^^ B * 2 ^ e) 0
theorem mulL_snoc (l : List Nat) (B e : Nat) : mulL (l ++ [e]) B = mulL l B ^^^ B * 2 ^ e := by simp [mulL]
theorem foldl_xor (B : Nat) (l : List Nat) : ∀ P Q, l.foldl (fun P e => P ^^^ B * 2 ^ e) (P ^^^ Q) = l.foldl (fun P e => P ^^^ B * 2 ^ e) P ^^^ Q := by
  induction l with
  | nil => intro P Q; rfl
  | cons e l ih =>
    intro P Q
    simp only [List.foldl_cons]
    rw [show P ^^^ Q ^^^ B * 2 ^ e = (P ^^^ B * 2 ^ e) ^^^ Q by ac_rfl, ih]
theorem mulL_cons (e : Nat) (l : List Nat) (B : Nat) : mulL (e :: l) B = B * 2 ^ e ^^^ mulL l B := by
  have := foldl_xor B l 0 (B * 2 ^ e)
  show l.foldl _ (0 ^^^ B * 2 ^ e) = _
  rw [this, Nat.xor_comm]; rfl
theorem mulL_nil (B : Nat) : mulL [] B = 0 := rfl
theorem mulL_lt {B m : Nat} : ∀ (l : List Nat), (∀ e ∈ l, B * 2 ^ e < 2 ^ m) → mulL l B < 2 ^ m
  | [], _ => Nat.pow_pos (by omega)
  | e :: l, h => by
    rw [mulL_cons]
    exact xor_lt2 (h e (by simp)) (mulL_lt l (fun x hx => h x (by simp [hx])))
theorem mulL_zero (l : List Nat) : mulL l 0 = 0 := by
  induction l with
  | nil => rfl
  | cons e l ih => rw [mulL_cons, ih]; simp
theorem mulL_xor (l : List Nat) (B C : Nat) : mulL l (B ^^^ C) = mulL l B ^^^ mulL l C := by
  induction l with
  | nil => simp [mulL]
  | cons e l ih => rw [mulL_cons, mulL_cons, mulL_cons, ih, mul_xor]; ac_rfl
theorem mulL_pow (l : List Nat) (B k : Nat) : mulL l (B * 2 ^ k) = mulL l B * 2 ^ k := by
  induction l with
  | nil => simp [mulL]
  | cons e l ih => rw [mulL_cons, mulL_cons, ih, mul_xor, Nat.mul_right_comm]
/-- The product. -/
def clmul (A B : Nat) : Nat := mulL (fall (A.log2 + 1) A) B
theorem clmul_fall {A n : Nat} (h : A < 2 ^ n) (B : Nat) : mulL (fall n A) B = clmul A B := by
  unfold clmul
  by_cases h0 : A = 0
  · subst h0; rw [fall_zero, fall_zero]
  · have := log2_lt h0 h
    rw [fall_more (m := A.log2 + 1) (by omega) (lt_two_log2 A)]
theorem zero_clmul (B : Nat) : clmul 0 B = 0 := by unfold clmul; rw [fall_zero]; rfl
theorem clmul_zero (A : Nat) : clmul A 0 = 0 := mulL_zero _
theorem clmul_xor_right (A B C : Nat) : clmul A (B ^^^ C) = clmul A B ^^^ clmul A C := mulL_xor _ B C
/-- The lowest bit first. -/
theorem clmul_rec (A B : Nat) : clmul A B = clmul (A / 2) B * 2 ^ 1 ^^^ (if A % 2 = 1 then B else 0) := by
  have key : ∀ n, ∀ A, mulL (fall (n + 1) A) B = mulL (fall n (A / 2)) B * 2 ^ 1 ^^^ (if A % 2 = 1 then B else 0) := by
    intro n
    induction n with
    | zero =>
      intro A
      have hb : A.testBit 0 = decide (A % 2 = 1) := by rw [tb]; simp
      by_cases h : A % 2 = 1
      · rw [fall_yes (by rw [hb]; simp [h]), if_pos h]; simp [fall, mulL]
      · rw [fall_no (by rw [hb]; simp [h]), if_neg h]; simp [fall, mulL]
    | succ n ih =>
      intro A
      have hb : (A / 2).testBit n = A.testBit (n + 1) := by
        have := tb_div A 1 n
        rw [Nat.pow_one] at this
        rw [this, Nat.add_comm]
      cases h : A.testBit (n + 1)
      · rw [fall_no h, fall_no (P := A / 2) (by rw [hb, h]), ih]
      · rw [fall_yes h, fall_yes (P := A / 2) (by rw [hb, h]), mulL_cons, mulL_cons, ih, mul_xor, Nat.mul_assoc, ← Nat.pow_add]
        ac_rfl
  have hA : A < 2 ^ (A.log2 + 1 + 1) := Nat.lt_of_lt_of_le (lt_two_log2 A) (Nat.pow_le_pow_right (by omega) (by omega))
  have hA2 : A / 2 < 2 ^ (A.log2 + 1) := by rw [Nat.pow_succ] at hA; omega
  rw [← clmul_fall hA, ← clmul_fall hA2]
  exact key _ A
theorem half_xor (A C : Nat) : (A ^^^ C) / 2 = A / 2 ^^^ C / 2 := by
  have := div_xor A C 1
  rwa [Nat.pow_one] at this
theorem par_xor (A C : Nat) : (A ^^^ C) % 2 = (A % 2 + C % 2) % 2 := by
  have h := Nat.xor_mod_two_eq_one (a := A) (b := C)
  omega
theorem clmul_xor_left (B : Nat) : ∀ (n A C : Nat), A < 2 ^ n → C < 2 ^ n → clmul (A ^^^ C) B = clmul A B ^^^ clmul C B
  | 0, A, C, hA, hC => by
    obtain rfl : A = 0 := by simpa using hA
    obtain rfl : C = 0 := by simpa using hC
    rw [Nat.xor_self, zero_clmul]; rfl
  | n + 1, A, C, hA, hC => by
    have hA2 : A / 2 < 2 ^ n := by rw [Nat.pow_succ] at hA; omega
    have hC2 : C / 2 < 2 ^ n := by rw [Nat.pow_succ] at hC; omega
    have ih := clmul_xor_left B n _ _ hA2 hC2
    have hp := par_xor A C
    rw [clmul_rec (A ^^^ C), clmul_rec A, clmul_rec C, half_xor, ih, mul_xor]
    generalize clmul (A / 2) B * 2 ^ 1 = X
    generalize clmul (C / 2) B * 2 ^ 1 = Y
    by_cases h1 : A % 2 = 1 <;> by_cases h2 : C % 2 = 1
    · rw [if_pos h1, if_pos h2, if_neg (by omega), Nat.xor_zero, show X ^^^ B ^^^ (Y ^^^ B) = X ^^^ Y ^^^ B ^^^ B by ac_rfl, xor_cancel]
    · rw [if_pos h1, if_neg h2, if_pos (by omega)]; simp only [Nat.xor_zero]; ac_rfl
    · rw [if_neg h1, if_pos h2, if_pos (by omega)]; simp only [Nat.xor_zero]; ac_rfl
    · rw [if_neg h1, if_neg h2, if_neg (by omega)]; simp only [Nat.xor_zero]
theorem clmul_xor (A C B : Nat) : clmul (A ^^^ C) B = clmul A B ^^^ clmul C B := by
  have h1 : A < 2 ^ (A + C) := Nat.lt_of_lt_of_le Nat.lt_two_pow_self (Nat.pow_le_pow_right (by omega) (by omega))
  have h2 : C < 2 ^ (A + C) := Nat.lt_of_lt_of_le Nat.lt_two_pow_self (Nat.pow_le_pow_right (by omega) (by omega))
  exact clmul_xor_left B _ A C h1 h2
theorem pow_clmul (k B : Nat) : clmul (2 ^ k) B = B * 2 ^ k := by
  have h : fall (k + 1) (2 ^ k) = [k] := by
    rw [fall_yes (by rw [tb_pow]; simp), show fall k (2 ^ k) = fall k 0 from fall_congr (fun i hi => by rw [tb_pow, decide_eq_false (by omega)]; simp), fall_zero]
  rw [← clmul_fall (n := k + 1) (Nat.pow_lt_pow_right (by omega) (by omega)), h, mulL_cons, mulL_nil, Nat.xor_zero]
theorem clmul_pow (A k : Nat) : clmul A (2 ^ k) = A * 2 ^ k := by
  have h := mulL_pow (fall (A.log2 + 1) A) 1 k
  rw [Nat.one_mul] at h
  show mulL _ _ = _
  rw [h]
  congr 1
  have key : ∀ n, mulL (fall n A) 1 = A % 2 ^ n := by
    intro n
    induction n with
    | zero => simp [fall, mulL, Nat.mod_one]
    | succ n ih =>
      have hm : A % 2 ^ (n + 1) = (if A.testBit n then 2 ^ n else 0) ^^^ A % 2 ^ n := by
        apply ext; intro i
        rw [Nat.testBit_xor, Nat.testBit_mod_two_pow, Nat.testBit_mod_two_pow]
        by_cases hi : i = n
        · subst hi
          rw [decide_eq_true (show i < i + 1 by omega), decide_eq_false (show ¬ i < i by omega)]
          cases hb : A.testBit i
          · simp
          · rw [if_pos rfl, tb_pow]; simp
        · have hne : (if A.testBit n = true then 2 ^ n else 0).testBit i = false := by
            cases hb : A.testBit n
            · simp
            · rw [if_pos rfl, tb_pow, decide_eq_false (by omega)]
          rw [hne]
          by_cases h1 : i < n
          · rw [decide_eq_true h1, decide_eq_true (show i < n + 1 by omega)]; simp
          · rw [decide_eq_false h1, decide_eq_false (show ¬ i < n + 1 by omega)]; simp
      cases hb : A.testBit n
      · rw [fall_no hb, ih, hm, hb]; simp
      · rw [fall_yes hb, mulL_cons, ih, hm, hb]; simp
  rw [key, Nat.mod_eq_of_lt (lt_two_log2 A)]
theorem clmul_comm (A : Nat) : ∀ (n B : Nat), B < 2 ^ n → clmul A B = clmul B A
  | 0, B, h => by
    obtain rfl : B = 0 := by simpa using h
    rw [clmul_zero, zero_clmul]
  | n + 1, B, h => by
    by_cases h0 : B.testBit n = true
    · have hx : B ^^^ 2 ^ n < 2 ^ n := by
        apply lt_of_tb
        intro i hi
        rw [Nat.testBit_xor, tb_pow]
        by_cases e : n = i
        · subst e; rw [h0]; simp
        · rw [tb_lt h (by omega)]; simp [e]
      have e : B = (B ^^^ 2 ^ n) ^^^ 2 ^ n := (xor_cancel _ _).symm
      have ih := clmul_comm A n _ hx
      rw [e, clmul_xor_right, clmul_xor, ih, clmul_pow, pow_clmul]
    · have hB : B < 2 ^ n := by
        apply lt_of_tb
        intro i hi
        by_cases e : i = n
        · subst e; simpa using h0
        · exact tb_lt h (by omega)
      exact clmul_comm A n B hB
theorem mul_comm (A B : Nat) : clmul A B = clmul B A := clmul_comm A B B (Nat.lt_two_pow_self)

/-- The highest bits multiply. -/
theorem log2_shift {B : Nat} (h : B ≠ 0) (k : Nat) : B * 2 ^ k ≠ 0 ∧ (B * 2 ^ k).log2 = B.log2 + k := by
  have hp : 0 < 2 ^ k := Nat.pow_pos (by omega)
  have h0 : B * 2 ^ k ≠ 0 := by
    have := Nat.mul_pos (Nat.pos_of_ne_zero h) hp
    omega
  refine ⟨h0, ?_⟩
  apply Nat.le_antisymm
  · have : B * 2 ^ k < 2 ^ (B.log2 + k + 1) := by
      rw [show B.log2 + k + 1 = (B.log2 + 1) + k by omega, Nat.pow_add]
      exact Nat.mul_lt_mul_of_pos_right (lt_two_log2 B) hp
    have := (Nat.log2_lt h0).2 this
    omega
  · rw [Nat.le_log2 h0, Nat.pow_add]
    exact Nat.mul_le_mul_right _ (Nat.log2_self_le h)
theorem xor_small {X Y m : Nat} (hX : X.testBit m = true) (hX2 : X < 2 ^ (m + 1)) (hY : Y < 2 ^ m) : X ^^^ Y ≠ 0 ∧ (X ^^^ Y).log2 = m := by
  have h1 : (X ^^^ Y).testBit m = true := by rw [Nat.testBit_xor, hX, tb_lt hY (by omega)]; rfl
  have h0 : X ^^^ Y ≠ 0 := fun e => by rw [e] at h1; simp at h1
  have h2 : X ^^^ Y < 2 ^ (m + 1) := xor_lt2 hX2 (Nat.lt_of_lt_of_le hY (Nat.pow_le_pow_right (by omega) (by omega)))
  refine ⟨h0, ?_⟩
  have h3 := (Nat.log2_lt h0).2 h2
  have h4 : m ≤ (X ^^^ Y).log2 := by
    rcases Nat.lt_or_ge (X ^^^ Y).log2 m with h5 | h5
    · have := lt_two_log2 (X ^^^ Y)
      rw [tb_lt this (by omega)] at h1
      cases h1
    · exact h5
  omega
theorem clmul_top {A B : Nat} (hA : A ≠ 0) (hB : B ≠ 0) : clmul A B ≠ 0 ∧ (clmul A B).log2 = A.log2 + B.log2 := by
  have hx : A ^^^ 2 ^ A.log2 < 2 ^ A.log2 := by
    apply lt_of_tb
    intro i hi
    rw [Nat.testBit_xor, tb_pow]
    by_cases e : A.log2 = i
    · rw [← e, log2_tb hA]; simp
    · rw [tb_lt (lt_two_log2 A) (by omega)]; simp [e]
  have e : A = 2 ^ A.log2 ^^^ (A ^^^ 2 ^ A.log2) := by rw [Nat.xor_comm, xor_cancel]
  obtain ⟨s1, s2⟩ := log2_shift hB A.log2
  have h1 : clmul A B = B * 2 ^ A.log2 ^^^ clmul (A ^^^ 2 ^ A.log2) B := by
    conv => lhs; rw [e]
    rw [clmul_xor, pow_clmul]
  have hsm : clmul (A ^^^ 2 ^ A.log2) B < 2 ^ (A.log2 + B.log2) := by
    rw [← clmul_fall hx]
    apply mulL_lt
    intro i hi
    have := (fall_mem.1 hi).1
    have h2 : B * 2 ^ i < 2 ^ (B.log2 + 1 + i) := by
      rw [Nat.pow_add]
      exact Nat.mul_lt_mul_of_pos_right (lt_two_log2 B) (Nat.pow_pos (by omega))
    exact Nat.lt_of_lt_of_le h2 (Nat.pow_le_pow_right (by omega) (by omega))
  have hb : (B * 2 ^ A.log2).testBit (A.log2 + B.log2) = true := by
    rw [Nat.add_comm, ← s2]; exact log2_tb s1
  have hl : B * 2 ^ A.log2 < 2 ^ (A.log2 + B.log2 + 1) := by
    have := lt_two_log2 (B * 2 ^ A.log2)
    rwa [s2, Nat.add_comm B.log2] at this
  rw [h1]
  exact xor_small hb hl hsm

/-! Long division -/
/-- The bits from n + k - 1 down to n. -/
def modD (Y n : Nat) : Nat → Nat → Nat
  | 0, x => x
  | k + 1, x => modD Y n k (if x.testBit (n + k) then x ^^^ Y * 2 ^ k else x)
def modP (X Y : Nat) : Nat := modD Y Y.log2 (X.log2 + 1) X
/-- A step. -/
theorem red_lt {x Y k : Nat} (hY : Y ≠ 0) (hx : x < 2 ^ (Y.log2 + k + 1)) (h : x.testBit (Y.log2 + k) = true) : x ^^^ Y * 2 ^ k < 2 ^ (Y.log2 + k) := by
  obtain ⟨s1, s2⟩ := log2_shift hY k
  have h2 := lt_two_log2 (Y * 2 ^ k)
  rw [s2] at h2
  have hb := log2_tb s1
  rw [s2] at hb
  apply lt_of_tb
  intro i hi
  rw [Nat.testBit_xor]
  by_cases e : i = Y.log2 + k
  · rw [e, h, hb]; rfl
  · rw [tb_lt hx (by omega), tb_lt h2 (by omega)]; rfl
theorem modD_lt {Y : Nat} (hY : Y ≠ 0) : ∀ (k x : Nat), x < 2 ^ (Y.log2 + k) → modD Y Y.log2 k x < 2 ^ Y.log2
  | 0, x, h => h
  | k + 1, x, h => by
    simp only [modD]
    apply modD_lt hY k
    split
    · rename_i hb
      exact red_lt hY h hb
    · rename_i hb
      apply lt_of_tb
      intro i hi
      by_cases e : i = Y.log2 + k
      · rw [e]; simpa using hb
      · exact tb_lt h (by omega)
theorem modD_skip {Y n : Nat} : ∀ (k m x : Nat), m ≤ k → x < 2 ^ (n + m) → modD Y n k x = modD Y n m x
  | 0, m, x, h, _ => by obtain rfl : m = 0 := by omega
                        rfl
  | k + 1, m, x, h, hx => by
    by_cases e : m = k + 1
    · rw [e]
    · simp only [modD]
      have : x.testBit (n + k) = false := tb_lt hx (by omega)
      rw [this]
      exact modD_skip k m x (by omega) hx
theorem modD_eq {X Y n : Nat} (h : X < 2 ^ (Y.log2 + n)) (_hY : Y ≠ 0) : modD Y Y.log2 n X = modP X Y := by
  unfold modP
  by_cases hle : n ≤ X.log2 + 1
  · exact (modD_skip _ _ _ hle h).symm
  · exact modD_skip _ _ _ (by omega) (Nat.lt_of_lt_of_le (lt_two_log2 X) (Nat.pow_le_pow_right (by omega) (by omega)))
/-- What is taken away is a multiple. -/
theorem modD_mul {Y n : Nat} : ∀ (k x : Nat), ∃ q, x = modD Y n k x ^^^ clmul q Y
  | 0, x => ⟨0, by rw [zero_clmul, Nat.xor_zero]; rfl⟩
  | k + 1, x => by
    simp only [modD]
    split
    · obtain ⟨q, hq⟩ := modD_mul (Y := Y) (n := n) k (x ^^^ Y * 2 ^ k)
      refine ⟨q ^^^ 2 ^ k, ?_⟩
      rw [clmul_xor, pow_clmul]
      have : x = (x ^^^ Y * 2 ^ k) ^^^ Y * 2 ^ k := (xor_cancel _ _).symm
      rw [hq] at this
      rw [← Nat.xor_assoc]
      exact this
    · exact modD_mul k x
theorem modP_lt {X Y : Nat} (hY : Y ≠ 0) : modP X Y < 2 ^ Y.log2 := by
  apply modD_lt hY
  exact Nat.lt_of_lt_of_le (lt_two_log2 X) (Nat.pow_le_pow_right (by omega) (by omega))
/-- The remainder is the only one. -/
theorem modP_unique {X Y R q : Nat} (hY : Y ≠ 0) (hR : R < 2 ^ Y.log2) (h : X = R ^^^ clmul q Y) : modP X Y = R := by
  obtain ⟨p, hp⟩ := modD_mul (Y := Y) (n := Y.log2) (X.log2 + 1) X
  have hM := modP_lt (X := X) hY
  have hp2 : X = modP X Y ^^^ clmul p Y := hp
  have he : modP X Y ^^^ R = clmul (p ^^^ q) Y := by
    rw [clmul_xor]
    have h1 : modP X Y = X ^^^ clmul p Y := by
      conv => rhs; rw [hp2]
      rw [xor_cancel]
    have h2 : R = X ^^^ clmul q Y := by rw [h, xor_cancel]
    rw [h1]
    conv => lhs; rw [h2]
    rw [show X ^^^ clmul p Y ^^^ (X ^^^ clmul q Y) = clmul p Y ^^^ clmul q Y ^^^ X ^^^ X by ac_rfl, xor_cancel]
  by_cases hpq : p ^^^ q = 0
  · rw [hpq, zero_clmul] at he
    have : modP X Y = (modP X Y ^^^ R) ^^^ R := (xor_cancel _ _).symm
    rw [he, Nat.zero_xor] at this
    exact this
  · exfalso
    obtain ⟨t1, t2⟩ := clmul_top hpq hY
    have h3 : clmul (p ^^^ q) Y < 2 ^ Y.log2 := by rw [← he]; exact xor_lt2 hM hR
    have := (Nat.log2_lt t1).2 h3
    omega
end Go.Proofs.YtkdfbganhohbfaaDoor.Poly
