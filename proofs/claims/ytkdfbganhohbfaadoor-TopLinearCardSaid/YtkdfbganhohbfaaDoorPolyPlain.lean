/-
  Polynomials over two numbers as natural numbers' bits: no program in sight.
-/
namespace Go.Proofs.YtkdfbganhohbfaaDoor.Poly

theorem tb (P i : Nat) : P.testBit i = decide (P / 2 ^ i % 2 = 1) := Nat.testBit_eq_decide_div_mod_eq
theorem lt_of_tb {P n : Nat} (h : ∀ i, n ≤ i → P.testBit i = false) : P < 2 ^ n := Nat.lt_pow_two_of_testBit P h
theorem tb_lt {P n i : Nat} (h : P < 2 ^ n) (hi : n ≤ i) : P.testBit i = false := Nat.testBit_lt_two_pow (Nat.lt_of_lt_of_le h (Nat.pow_le_pow_right (by omega) hi))
theorem ext {P Q : Nat} (h : ∀ i, P.testBit i = Q.testBit i) : P = Q := Nat.eq_of_testBit_eq h
theorem xor_lt2 {a b n : Nat} (ha : a < 2 ^ n) (hb : b < 2 ^ n) : a ^^^ b < 2 ^ n := Nat.xor_lt_two_pow ha hb
theorem xor_cancel (a b : Nat) : a ^^^ b ^^^ b = a := by rw [Nat.xor_assoc, Nat.xor_self, Nat.xor_zero]
theorem tb_mul (P k i : Nat) : (P * 2 ^ k).testBit i = (decide (k ≤ i) && P.testBit (i - k)) := by rw [← Nat.shiftLeft_eq, Nat.testBit_shiftLeft]
theorem tb_div (P k i : Nat) : (P / 2 ^ k).testBit i = P.testBit (k + i) := by rw [← Nat.shiftRight_eq_div_pow, Nat.testBit_shiftRight]
theorem tb_pow (k i : Nat) : (2 ^ k).testBit i = decide (k = i) := Nat.testBit_two_pow
theorem mul_xor (P Q k : Nat) : (P ^^^ Q) * 2 ^ k = P * 2 ^ k ^^^ Q * 2 ^ k := by
  apply ext; intro i
  rw [tb_mul, Nat.testBit_xor, Nat.testBit_xor, tb_mul, tb_mul]
  cases decide (k ≤ i) <;> simp
theorem div_xor (P Q k : Nat) : (P ^^^ Q) / 2 ^ k = P / 2 ^ k ^^^ Q / 2 ^ k := by
  apply ext; intro i
  rw [tb_div, Nat.testBit_xor, Nat.testBit_xor, tb_div, tb_div]
theorem mod_xor (P Q k : Nat) : (P ^^^ Q) % 2 ^ k = P % 2 ^ k ^^^ Q % 2 ^ k := by
  apply ext; intro i
  simp only [Nat.testBit_mod_two_pow, Nat.testBit_xor]
  by_cases h : i < k <;> simp [h]
theorem add_eq_xor {a n : Nat} (b : Nat) (ha : a < 2 ^ n) : b * 2 ^ n + a = b * 2 ^ n ^^^ a := by
  apply ext; intro i
  rw [Nat.mul_comm b, Nat.testBit_two_pow_mul_add _ ha, Nat.testBit_xor, Nat.mul_comm, tb_mul]
  by_cases h : i < n
  · rw [if_pos h, decide_eq_false (by omega)]; simp
  · rw [if_neg h, decide_eq_true (by omega), tb_lt ha (by omega)]; simp

/-- The bits below n, falling. -/
def fall : Nat → Nat → List Nat
  | 0, _ => []
  | n + 1, P => if P.testBit n then n :: fall n P else fall n P
theorem fall_yes {n P : Nat} (h : P.testBit n = true) : fall (n + 1) P = n :: fall n P := by simp [fall, h]
theorem fall_no {n P : Nat} (h : P.testBit n = false) : fall (n + 1) P = fall n P := by simp [fall, h]
theorem fall_mem {P : Nat} : ∀ {n x : Nat}, x ∈ fall n P ↔ x < n ∧ P.testBit x = true
  | 0, x => by simp [fall]
  | n + 1, x => by
    have ih := @fall_mem P n x
    cases h : P.testBit n
    · rw [fall_no h, ih]
      constructor
      · rintro ⟨h1, h2⟩; exact ⟨by omega, h2⟩
      · rintro ⟨h1, h2⟩
        have : x ≠ n := fun e => by subst e; rw [h] at h2; cases h2
        exact ⟨by omega, h2⟩
    · rw [fall_yes h, List.mem_cons, ih]
      constructor
      · rintro (rfl | ⟨h1, h2⟩)
        · exact ⟨by omega, h⟩
        · exact ⟨by omega, h2⟩
      · rintro ⟨h1, h2⟩
        by_cases e : x = n
        · exact .inl e
        · exact .inr ⟨by omega, h2⟩
theorem fall_congr : ∀ {n P Q : Nat}, (∀ i, i < n → P.testBit i = Q.testBit i) → fall n P = fall n Q
  | 0, _, _, _ => rfl
  | n + 1, P, Q, h => by
    have h1 := fall_congr (n := n) (fun i hi => h i (by omega))
    have h2 := h n (by omega)
    cases hb : P.testBit n
    · rw [fall_no hb, fall_no (by rw [← h2, hb]), h1]
    · rw [fall_yes hb, fall_yes (by rw [← h2, hb]), h1]
theorem fall_zero (n : Nat) : fall n 0 = [] := by
  induction n with
  | zero => rfl
  | succ n ih => rw [fall_no (by simp), ih]
theorem fall_more {P : Nat} : ∀ {n m : Nat}, m ≤ n → P < 2 ^ m → fall n P = fall m P
  | 0, m, h, _ => by obtain rfl : m = 0 := by omega
                     rfl
  | n + 1, m, h, hP => by
    by_cases e : m = n + 1
    · rw [e]
    · rw [fall_no (tb_lt hP (by omega)), fall_more (by omega) hP]
theorem fall_len (P : Nat) : ∀ n, (fall n P).length ≤ n
  | 0 => by simp [fall]
  | n + 1 => by
    have := fall_len P n
    cases h : P.testBit n
    · rw [fall_no h]; omega
    · rw [fall_yes h]; simp; omega
/-- The upper bits, then the lower ones. -/
theorem fall_split (a P : Nat) : ∀ b, fall (a + b) P = (fall b (P / 2 ^ a)).map (a + ·) ++ fall a P
  | 0 => by simp [fall]
  | b + 1 => by
    have ih := fall_split a P b
    have e : (P / 2 ^ a).testBit b = P.testBit (a + b) := tb_div P a b
    rw [← Nat.add_assoc]
    cases h : P.testBit (a + b)
    · rw [fall_no h, fall_no (by rw [e, h]), ih]
    · rw [fall_yes h, fall_yes (by rw [e, h]), ih]; rfl
theorem log2_tb {P : Nat} (h : P ≠ 0) : P.testBit P.log2 = true := by
  rw [tb, decide_eq_true_eq]
  have h1 : 2 ^ P.log2 ≤ P := Nat.log2_self_le h
  have h2 : P < 2 ^ (P.log2 + 1) := Nat.lt_log2_self
  have : P / 2 ^ P.log2 = 1 := by
    apply Nat.div_eq_of_lt_le
    · omega
    · rw [Nat.pow_succ] at h2; omega
  rw [this]
theorem log2_lt {P n : Nat} (h : P ≠ 0) (hP : P < 2 ^ n) : P.log2 < n := (Nat.log2_lt h).2 hP
theorem lt_two_log2 (P : Nat) : P < 2 ^ (P.log2 + 1) := Nat.lt_log2_self
/-- The highest bit is first. -/
theorem fall_top {P n : Nat} (h : P ≠ 0) (hP : P < 2 ^ n) : fall n P = P.log2 :: fall n (P ^^^ 2 ^ P.log2) := by
  have hl := log2_lt h hP
  have h2 := lt_two_log2 P
  rw [fall_more (m := P.log2 + 1) (by omega) h2, fall_yes (log2_tb h)]
  have hx : P ^^^ 2 ^ P.log2 < 2 ^ P.log2 := by
    apply lt_of_tb
    intro i hi
    rw [Nat.testBit_xor, tb_pow]
    by_cases e : P.log2 = i
    · rw [← e, log2_tb h]; simp
    · rw [tb_lt h2 (by omega)]; simp [e]
  rw [fall_more (m := P.log2) (P := P ^^^ 2 ^ P.log2) (by omega) hx]
  congr 1
  apply fall_congr
  intro i hi
  rw [Nat.testBit_xor, tb_pow, decide_eq_false (by omega)]
  simp
theorem xor_top_lt {P : Nat} (h : P ≠ 0) : P ^^^ 2 ^ P.log2 < P := by
  have hx : P ^^^ 2 ^ P.log2 < 2 ^ P.log2 := by
    apply lt_of_tb
    intro i hi
    rw [Nat.testBit_xor, tb_pow]
    by_cases e : P.log2 = i
    · rw [← e, log2_tb h]; simp
    · rw [tb_lt (lt_two_log2 P) (by omega)]; simp [e]
  exact Nat.lt_of_lt_of_le hx (Nat.log2_self_le h)
theorem fall_nil {P n : Nat} (hP : P < 2 ^ n) : fall n P = [] ↔ P = 0 := by
  constructor
  · intro h
    apply Classical.byContradiction
    intro hne
    rw [fall_top hne hP] at h
    cases h
  · rintro rfl; exact fall_zero n
theorem fall_inj {P Q n : Nat} (hP : P < 2 ^ n) (hQ : Q < 2 ^ n) (h : fall n P = fall n Q) : P = Q := by
  apply ext; intro i
  by_cases hi : i < n
  · have h1 := @fall_mem P n i
    have h2 := @fall_mem Q n i
    rw [h] at h1
    have h3 : P.testBit i = true ↔ Q.testBit i = true := by
      constructor
      · intro hp; exact (h2.1 (h1.2 ⟨hi, hp⟩)).2
      · intro hq; exact (h1.1 (h2.2 ⟨hi, hq⟩)).2
    cases hp : P.testBit i <;> cases hq : Q.testBit i <;> simp_all
  · rw [tb_lt hP (by omega), tb_lt hQ (by omega)]

/-- The bits of a list of exponents: those that are allowed, each as often as it stands there. -/
def lim : Nat := 16385
theorem lim_eq : lim = 16385 := rfl
def put (P : Nat) (e : Int) : Nat := if 0 ≤ e ∧ e ≤ 16384 then P ^^^ 2 ^ e.toNat else P
def bitsOf (l : List Int) : Nat := l.foldl put 0
theorem put_lt {P : Nat} (h : P < 2 ^ lim) (e : Int) : put P e < 2 ^ lim := by
  have hl := lim_eq
  unfold put
  split
  · exact xor_lt2 h (Nat.pow_lt_pow_right (by omega) (by omega))
  · exact h
theorem foldl_put_lt (l : List Int) : ∀ {P : Nat}, P < 2 ^ lim → l.foldl put P < 2 ^ lim := by
  induction l with
  | nil => intro P h; exact h
  | cons e l ih => intro P h; exact ih (put_lt h e)
theorem bitsOf_lt (l : List Int) : bitsOf l < 2 ^ lim := foldl_put_lt l (Nat.pow_pos (by omega))
theorem bitsOf_snoc (l : List Int) (e : Int) : bitsOf (l ++ [e]) = put (bitsOf l) e := by simp [bitsOf]
theorem put_xor (P Q : Nat) (e : Int) : put (P ^^^ Q) e = put P e ^^^ Q := by
  unfold put
  split
  · ac_rfl
  · rfl
theorem foldl_put_xor (l : List Int) : ∀ (P Q : Nat), l.foldl put (P ^^^ Q) = l.foldl put P ^^^ Q := by
  induction l with
  | nil => intro P Q; rfl
  | cons e l ih => intro P Q; simp only [List.foldl_cons]; rw [put_xor, ih]
theorem bitsOf_append (a b : List Int) : bitsOf (a ++ b) = bitsOf a ^^^ bitsOf b := by
  unfold bitsOf
  rw [List.foldl_append]
  have := foldl_put_xor b 0 (a.foldl put 0)
  rw [Nat.zero_xor, Nat.xor_comm] at this
  exact this
def ints (l : List Nat) : List Int := l.map fun n : Nat => (n : Int)
theorem bitsOf_fall {P : Nat} : ∀ {n : Nat}, n ≤ lim → bitsOf (ints (fall n P)) = P % 2 ^ n
  | 0, _ => by simp [fall, ints, bitsOf, Nat.mod_one]
  | n + 1, h => by
    have hl := lim_eq
    have ih := @bitsOf_fall P n (by omega)
    have hstep : ∀ (e : Nat) (l : List Int), e ≤ 16384 → bitsOf ((e : Int) :: l) = 2 ^ e ^^^ bitsOf l := fun e l he => by
      have := bitsOf_append [(e : Int)] l
      rw [List.singleton_append] at this
      rw [this]
      congr 1
      show put 0 e = _
      unfold put
      rw [if_pos ⟨by omega, by omega⟩, Nat.zero_xor, Int.toNat_natCast]
    have hm : P % 2 ^ (n + 1) = (if P.testBit n then 2 ^ n else 0) ^^^ P % 2 ^ n := by
      apply ext; intro i
      rw [Nat.testBit_xor, Nat.testBit_mod_two_pow, Nat.testBit_mod_two_pow]
      by_cases hi : i = n
      · subst hi
        rw [decide_eq_true (show i < i + 1 by omega), decide_eq_false (show ¬ i < i by omega)]
        cases hb : P.testBit i
        · simp
        · rw [if_pos rfl, tb_pow]; simp
      · have hne : (if P.testBit n = true then 2 ^ n else 0).testBit i = false := by
          cases hb : P.testBit n
          · simp
          · rw [if_pos rfl, tb_pow, decide_eq_false (by omega)]
        rw [hne]
        by_cases h1 : i < n
        · rw [decide_eq_true h1, decide_eq_true (show i < n + 1 by omega)]; simp
        · rw [decide_eq_false h1, decide_eq_false (show ¬ i < n + 1 by omega)]; simp
    cases hb : P.testBit n
    · rw [fall_no hb, ih, hm, hb]; simp
    · rw [fall_yes hb]
      show bitsOf ((n : Int) :: ints (fall n P)) = _
      rw [hstep n _ (by omega), ih, hm, hb]; simp

/-! Words of 64 bits -/
def wordN (P i : Nat) : Nat := P / 2 ^ (64 * i) % 2 ^ 64
theorem wordN_lt (P i : Nat) : wordN P i < 18446744073709551616 := Nat.mod_lt _ (by decide)
theorem wordN_tb (P i j : Nat) : (wordN P i).testBit j = (decide (j < 64) && P.testBit (64 * i + j)) := by
  unfold wordN
  rw [Nat.testBit_mod_two_pow, tb_div]
theorem wordN_xor (P Q i : Nat) : wordN (P ^^^ Q) i = wordN P i ^^^ wordN Q i := by
  unfold wordN
  rw [div_xor, mod_xor]
theorem wordN_at {c : Nat} (j i : Nat) (hc : c < 2 ^ 64) : wordN (c * 2 ^ (64 * j)) i = if i = j then c else 0 := by
  apply ext; intro k
  rw [wordN_tb, tb_mul]
  by_cases hij : i = j
  · subst hij
    rw [if_pos rfl, decide_eq_true (show 64 * i ≤ 64 * i + k by omega), show 64 * i + k - 64 * i = k by omega]
    by_cases hk : k < 64
    · simp [hk]
    · rw [tb_lt hc (show 64 ≤ k by omega)]; simp
  · rw [if_neg hij]
    by_cases hk : k < 64
    · by_cases h : 64 * j ≤ 64 * i + k
      · rw [tb_lt hc (show 64 ≤ 64 * i + k - 64 * j by omega)]; simp
      · rw [decide_eq_false h]; simp
    · simp [hk]
/-- One word changed. -/
theorem wordN_put {P c j : Nat} (hc : c < 2 ^ 64) (i : Nat) : wordN (P ^^^ c * 2 ^ (64 * j)) i = if i = j then wordN P j ^^^ c else wordN P i := by
  rw [wordN_xor, wordN_at j i hc]
  split
  · rename_i h; rw [h]
  · rw [Nat.xor_zero]
theorem wordN_zero (i : Nat) : wordN 0 i = 0 := by simp [wordN]
theorem wordN_high {P n i : Nat} (h : P < 2 ^ (64 * n)) (hi : n ≤ i) : wordN P i = 0 := by
  unfold wordN
  rw [Nat.div_eq_of_lt (Nat.lt_of_lt_of_le h (Nat.pow_le_pow_right (by omega) (by omega)))]
/-- The lower words, and one more. -/
theorem low_step (P k : Nat) : P % 2 ^ (64 * (k + 1)) = P % 2 ^ (64 * k) ^^^ wordN P k * 2 ^ (64 * k) := by
  apply ext; intro i
  rw [Nat.testBit_xor, Nat.testBit_mod_two_pow, Nat.testBit_mod_two_pow, tb_mul, wordN_tb]
  by_cases h1 : i < 64 * k
  · rw [decide_eq_true (show i < 64 * (k + 1) by omega), decide_eq_true h1, decide_eq_false (show ¬ 64 * k ≤ i by omega)]; simp
  · rw [decide_eq_false h1, decide_eq_true (show 64 * k ≤ i by omega)]
    by_cases h2 : i < 64 * (k + 1)
    · rw [decide_eq_true h2, decide_eq_true (show i - 64 * k < 64 by omega), show 64 * k + (i - 64 * k) = i by omega]; simp
    · rw [decide_eq_false h2, decide_eq_false (show ¬ i - 64 * k < 64 by omega)]; simp
/-- A word that is laid so many bits higher: its two parts. -/
theorem shift_word (c k up : Nat) :
    c * 2 ^ (64 * k + up) = (c * 2 ^ (up % 64) % 2 ^ 64) * 2 ^ (64 * (k + up / 64)) ^^^ (c / 2 ^ (64 - up % 64)) * 2 ^ (64 * (k + up / 64 + 1)) := by
  apply ext; intro i
  rw [Nat.testBit_xor, tb_mul, tb_mul, tb_mul, Nat.testBit_mod_two_pow, tb_mul, tb_div]
  have hl : up % 64 < 64 := Nat.mod_lt _ (by omega)
  generalize hw : up / 64 = w
  generalize hll : up % 64 = l at *
  have hup : up = 64 * w + l := by omega
  rw [hup]
  clear hw hll hup
  by_cases h1 : 64 * k + (64 * w + l) ≤ i
  · rw [decide_eq_true h1, decide_eq_true (show 64 * (k + w) ≤ i by omega)]
    by_cases h2 : i < 64 * (k + w + 1)
    · rw [decide_eq_true (show i - 64 * (k + w) < 64 by omega), decide_eq_true (show l ≤ i - 64 * (k + w) by omega), decide_eq_false (show ¬ 64 * (k + w + 1) ≤ i by omega), show i - 64 * (k + w) - l = i - (64 * k + (64 * w + l)) by omega]
      simp
    · rw [decide_eq_false (show ¬ i - 64 * (k + w) < 64 by omega), decide_eq_true (show 64 * (k + w + 1) ≤ i by omega), show 64 - l + (i - 64 * (k + w + 1)) = i - (64 * k + (64 * w + l)) by omega]
      simp
  · rw [decide_eq_false h1]
    by_cases h3 : 64 * (k + w) ≤ i
    · rw [decide_eq_false (show ¬ l ≤ i - 64 * (k + w) by omega), decide_eq_false (show ¬ 64 * (k + w + 1) ≤ i by omega)]
      simp
    · rw [decide_eq_false h3, decide_eq_false (show ¬ 64 * (k + w + 1) ≤ i by omega)]
      simp
end Go.Proofs.YtkdfbganhohbfaaDoor.Poly
