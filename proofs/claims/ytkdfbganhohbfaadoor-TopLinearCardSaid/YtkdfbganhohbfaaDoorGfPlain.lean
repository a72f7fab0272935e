/-
  The field of 8192 elements on natural numbers: no program in sight.
-/
namespace Go.Proofs.YtkdfbganhohbfaaDoor.Gf

def stp (x : Nat) : Nat := if 8192 ≤ 2 * x then (2 * x) ^^^ 8219 else 2 * x
def pw : Nat → Nat
  | 0 => 1
  | i + 1 => stp (pw i)
/-- Horner's way over the bits of b from the thirteenth on downwards: k of them. -/
def mulN (a b : Nat) : Nat → Nat
  | 0 => 0
  | k + 1 => if b / 2 ^ (12 - k) % 2 = 1 then stp (mulN a b k) ^^^ a else stp (mulN a b k)
def mul (a b : Nat) : Nat := mulN a b 13

theorem xor_lt {a b : Nat} (ha : a < 8192) (hb : b < 8192) : a ^^^ b < 8192 := Nat.xor_lt_two_pow (n := 13) ha hb
theorem xor_cancel (a b : Nat) : a ^^^ b ^^^ b = a := by rw [Nat.xor_assoc, Nat.xor_self, Nat.xor_zero]
theorem xor_bit (a b n : Nat) : (a ^^^ b) / 2 ^ n % 2 = (a / 2 ^ n % 2 + b / 2 ^ n % 2) % 2 := by
  have h := Nat.testBit_xor a b n
  simp only [Nat.testBit_eq_decide_div_mod_eq] at h
  have h1 : a / 2 ^ n % 2 < 2 := Nat.mod_lt _ (by omega)
  have h2 : b / 2 ^ n % 2 < 2 := Nat.mod_lt _ (by omega)
  have h3 : (a ^^^ b) / 2 ^ n % 2 < 2 := Nat.mod_lt _ (by omega)
  generalize a / 2 ^ n % 2 = x at *
  generalize b / 2 ^ n % 2 = y at *
  generalize (a ^^^ b) / 2 ^ n % 2 = z at *
  by_cases e1 : x = 1 <;> by_cases e2 : y = 1 <;> simp [e1, e2] at h <;> omega
theorem two_xor (a b : Nat) : 2 * (a ^^^ b) = 2 * a ^^^ 2 * b := by
  have := @Nat.shiftLeft_xor_distrib 1 a b
  simpa [Nat.shiftLeft_eq, Nat.mul_comm] using this

theorem stp_lt {x : Nat} (h : x < 8192) : stp x < 8192 := by
  unfold stp
  split
  · apply Nat.lt_pow_two_of_testBit (n := 13)
    intro i hi
    rw [Nat.testBit_xor]
    rcases Nat.lt_or_ge 13 i with h1 | h1
    · have e1 : (2 * x).testBit i = false := Nat.testBit_lt_two_pow (Nat.lt_of_lt_of_le (show 2 * x < 2 ^ 14 by omega) (Nat.pow_le_pow_right (by omega) h1))
      have e2 : Nat.testBit 8219 i = false := Nat.testBit_lt_two_pow (Nat.lt_of_lt_of_le (show 8219 < 2 ^ 14 by omega) (Nat.pow_le_pow_right (by omega) h1))
      rw [e1, e2]; rfl
    · obtain rfl : i = 13 := by omega
      have e1 : (2 * x).testBit 13 = true := by
        rw [Nat.testBit_eq_decide_div_mod_eq]
        simp only [decide_eq_true_eq]
        omega
      rw [e1]; decide
  · omega
theorem stp_xor {x y : Nat} (hx : x < 8192) (hy : y < 8192) : stp (x ^^^ y) = stp x ^^^ stp y := by
  have hb := xor_bit x y 12
  have hz := xor_lt hx hy
  have e := two_xor x y
  unfold stp
  by_cases h1 : 8192 ≤ 2 * x <;> by_cases h2 : 8192 ≤ 2 * y
  · rw [if_pos h1, if_pos h2, if_neg (by omega), e]
    rw [show 2 * x ^^^ 8219 ^^^ (2 * y ^^^ 8219) = 2 * x ^^^ 2 * y ^^^ 8219 ^^^ 8219 by ac_rfl, xor_cancel]
  · rw [if_pos h1, if_neg h2, if_pos (by omega), e]; ac_rfl
  · rw [if_neg h1, if_pos h2, if_pos (by omega), e]; ac_rfl
  · rw [if_neg h1, if_neg h2, if_neg (by omega), e]
theorem stp_zero : stp 0 = 0 := rfl
theorem pw_lt : ∀ i, pw i < 8192
  | 0 => by decide
  | i + 1 => stp_lt (pw_lt i)

theorem mulN_lt {a : Nat} (b : Nat) (ha : a < 8192) : ∀ k, mulN a b k < 8192
  | 0 => by simp [mulN]
  | k + 1 => by
    have := stp_lt (mulN_lt b ha k)
    simp only [mulN]
    split
    · exact xor_lt this ha
    · exact this
theorem mul_lt {a : Nat} (b : Nat) (ha : a < 8192) : mul a b < 8192 := mulN_lt b ha 13
theorem mulN_xor_right {a : Nat} (b c : Nat) (ha : a < 8192) : ∀ k, mulN a (b ^^^ c) k = mulN a b k ^^^ mulN a c k
  | 0 => by simp [mulN]
  | k + 1 => by
    have hb := xor_bit b c (12 - k)
    simp only [mulN, mulN_xor_right b c ha k, stp_xor (mulN_lt b ha k) (mulN_lt c ha k)]
    generalize stp (mulN a b k) = x
    generalize stp (mulN a c k) = y
    by_cases h1 : b / 2 ^ (12 - k) % 2 = 1 <;> by_cases h2 : c / 2 ^ (12 - k) % 2 = 1
    · rw [if_pos h1, if_pos h2, if_neg (by omega)]
      rw [show x ^^^ a ^^^ (y ^^^ a) = x ^^^ y ^^^ a ^^^ a by ac_rfl, xor_cancel]
    · rw [if_pos h1, if_neg h2, if_pos (by omega)]; ac_rfl
    · rw [if_neg h1, if_pos h2, if_pos (by omega)]; ac_rfl
    · rw [if_neg h1, if_neg h2, if_neg (by omega)]
theorem mulN_xor_left {a c : Nat} (b : Nat) (ha : a < 8192) (hc : c < 8192) : ∀ k, mulN (a ^^^ c) b k = mulN a b k ^^^ mulN c b k
  | 0 => by simp [mulN]
  | k + 1 => by
    simp only [mulN, mulN_xor_left b ha hc k, stp_xor (mulN_lt b ha k) (mulN_lt b hc k)]
    split
    · ac_rfl
    · rfl
theorem mul_xor_right {a : Nat} (b c : Nat) (ha : a < 8192) : mul a (b ^^^ c) = mul a b ^^^ mul a c := mulN_xor_right b c ha 13
theorem mul_xor_left {a c : Nat} (b : Nat) (ha : a < 8192) (hc : c < 8192) : mul (a ^^^ c) b = mul a b ^^^ mul c b := mulN_xor_left b ha hc 13

/-- What holds of the powers of two and of sums holds of all. -/
theorem lin_ind {P : Nat → Prop} (h0 : P 0) (hp : ∀ j, j < 13 → P (2 ^ j)) (hx : ∀ a b, a < 8192 → b < 8192 → P a → P b → P (a ^^^ b)) : ∀ x, x < 8192 → P x := by
  have main : ∀ n, n ≤ 13 → ∀ x, x < 2 ^ n → P x := by
    intro n
    induction n with
    | zero => intro _ x hlt; obtain rfl : x = 0 := by simpa using hlt
              exact h0
    | succ n ih =>
      intro hn x hlt
      by_cases hs : x < 2 ^ n
      · exact ih (by omega) x hs
      · have hc : x ^^^ 2 ^ n < 2 ^ n := by
          apply Nat.lt_pow_two_of_testBit
          intro i hi
          rw [Nat.testBit_xor, Nat.testBit_two_pow]
          by_cases e : n = i
          · subst e
            have : x.testBit n = true := by
              rw [Nat.testBit_eq_decide_div_mod_eq, decide_eq_true_eq]
              have h1 : x / 2 ^ n = 1 := by
                apply Nat.div_eq_of_lt_le
                · omega
                · rw [Nat.pow_succ] at hlt; omega
              rw [h1]
            simp [this]
          · have : x.testBit i = false := Nat.testBit_lt_two_pow (Nat.lt_of_lt_of_le hlt (Nat.pow_le_pow_right (by omega) (by omega)))
            simp [this, e]
        have h2 : 2 ^ n < 2 ^ 13 := Nat.pow_lt_pow_right (by omega) (by omega)
        have := hx _ _ (Nat.lt_trans hc h2) h2 (ih (by omega) _ hc) (hp n (by omega))
        rwa [xor_cancel] at this
  exact fun x hx => main 13 (Nat.le_refl _) x hx

theorem mul_zero_right (a : Nat) : mul a 0 = 0 := by
  have : ∀ k, mulN a 0 k = 0 := by
    intro k
    induction k with
    | zero => rfl
    | succ k ih => simp [mulN, ih, stp]
  exact this 13
theorem mul_zero_left (b : Nat) : mul 0 b = 0 := by
  have : ∀ k, mulN 0 b k = 0 := by
    intro k
    induction k with
    | zero => rfl
    | succ k ih => simp [mulN, ih, stp]
  exact this 13
theorem basis_stp : ∀ i, i < 13 → ∀ j, j < 13 → mul (2 ^ i) (stp (2 ^ j)) = stp (mul (2 ^ i) (2 ^ j)) := by decide +kernel
theorem basis_comm : ∀ i, i < 13 → ∀ j, j < 13 → mul (2 ^ i) (2 ^ j) = mul (2 ^ j) (2 ^ i) := by decide +kernel
theorem basis_one : ∀ i, i < 13 → mul (2 ^ i) 1 = 2 ^ i := by decide +kernel
theorem two_pow_lt {j : Nat} (h : j < 13) : 2 ^ j < 8192 := by
  have h2 : 2 ^ j < 2 ^ 13 := Nat.pow_lt_pow_right (by omega) h
  omega

theorem mul_stp {a b : Nat} (ha : a < 8192) (hb : b < 8192) : mul a (stp b) = stp (mul a b) := by
  revert b
  refine fun {b} hb => lin_ind (P := fun a => mul a (stp b) = stp (mul a b)) (by simp [mul_zero_left, stp]) (fun i hi => ?_) (fun x y hx hy h1 h2 => ?_) a ha
  · refine lin_ind (P := fun b => mul (2 ^ i) (stp b) = stp (mul (2 ^ i) b)) (by simp [mul_zero_right, stp]) (fun j hj => basis_stp i hi j hj) (fun x y hx hy h1 h2 => ?_) b hb
    have hi' := two_pow_lt hi
    rw [stp_xor hx hy, mul_xor_right _ _ hi', h1, h2, mul_xor_right _ _ hi', stp_xor (mul_lt _ hi') (mul_lt _ hi')]
  · rw [mul_xor_left _ hx hy, mul_xor_left _ hx hy, h1, h2, stp_xor (mul_lt _ hx) (mul_lt _ hy)]
theorem mul_comm {a b : Nat} (ha : a < 8192) (hb : b < 8192) : mul a b = mul b a := by
  refine lin_ind (P := fun a => mul a b = mul b a) (by rw [mul_zero_left, mul_zero_right]) (fun i hi => ?_) (fun x y hx hy h1 h2 => ?_) a ha
  · have hi' := two_pow_lt hi
    refine lin_ind (P := fun b => mul (2 ^ i) b = mul b (2 ^ i)) (by rw [mul_zero_left, mul_zero_right]) (fun j hj => basis_comm i hi j hj) (fun x y hx hy h1 h2 => ?_) b hb
    rw [mul_xor_right _ _ hi', mul_xor_left _ hx hy, h1, h2]
  · rw [mul_xor_left _ hx hy, mul_xor_right _ _ hb, h1, h2]
theorem mul_one {a : Nat} (ha : a < 8192) : mul a 1 = a :=
  lin_ind (P := fun a => mul a 1 = a) (mul_zero_left _) basis_one (fun x y hx hy h1 h2 => by rw [mul_xor_left _ hx hy, h1, h2]) a ha

/-- The powers of x add up. -/
theorem mul_pw (m : Nat) : ∀ n, mul (pw m) (pw n) = pw (m + n)
  | 0 => mul_one (pw_lt m)
  | n + 1 => by
    rw [show pw (n + 1) = stp (pw n) from rfl, mul_stp (pw_lt m) (pw_lt n), mul_pw m n]
    rfl
theorem pw_order : pw 8191 = 1 := by
  have d : ∀ n, pw (n + n) = mul (pw n) (pw n) := fun n => (mul_pw n n).symm
  have s : ∀ n, pw (n + n + 1) = stp (mul (pw n) (pw n)) := fun n => by rw [← d]; rfl
  have e : ∀ n x y, pw n = x → stp (mul x x) = y → pw (n + n + 1) = y := fun n x y h1 h2 => by rw [s, h1, h2]
  have h1 := e 1 2 _ rfl rfl
  have h2 := e _ _ _ h1 rfl
  have h3 := e _ _ _ h2 rfl
  have h4 := e _ _ _ h3 rfl
  have h5 := e _ _ _ h4 rfl
  have h6 := e _ _ _ h5 rfl
  have h7 := e _ _ _ h6 rfl
  have h8 := e _ _ _ h7 rfl
  have h9 := e _ _ _ h8 rfl
  have h10 := e _ _ _ h9 rfl
  have h11 := e _ _ _ h10 rfl
  have h12 := e _ _ 1 h11 (by decide +kernel)
  exact h12
theorem pw_add_order (n : Nat) : pw (n + 8191) = pw n := by rw [← mul_pw, pw_order, mul_one (pw_lt n)]
theorem pw_mul_order (n : Nat) : ∀ k, pw (n + 8191 * k) = pw n
  | 0 => rfl
  | k + 1 => by rw [Nat.mul_succ, ← Nat.add_assoc, pw_add_order, pw_mul_order n k]
theorem pw_mod (n : Nat) : pw (n % 8191) = pw n := by
  have := pw_mul_order (n % 8191) (n / 8191)
  rw [Nat.mod_add_div] at this
  exact this.symm
theorem pw_pos (n : Nat) : 0 < pw n := by
  rcases Nat.eq_zero_or_pos (pw n) with h | h
  · exfalso
    have h1 := mul_pw n (8191 * n - n)
    rw [h, mul_zero_left, Nat.add_sub_cancel' (by omega)] at h1
    have h2 := pw_mul_order 0 n
    rw [Nat.zero_add] at h2
    rw [h2] at h1
    cases h1
  · exact h
theorem prime_8191 : ∀ d, d < 91 → 2 ≤ d → 8191 % d ≠ 0 := by decide +kernel
theorem coprime {d : Nat} (h0 : 0 < d) (h : d < 8191) : Nat.gcd d 8191 = 1 := by
  have h1 : Nat.gcd d 8191 ∣ 8191 := Nat.gcd_dvd_right _ _
  have h2 : Nat.gcd d 8191 ≤ d := Nat.gcd_le_left _ h0
  have h3 : 0 < Nat.gcd d 8191 := Nat.gcd_pos_of_pos_left _ h0
  generalize Nat.gcd d 8191 = g at *
  obtain ⟨c, hc⟩ := h1
  by_cases e : g = 1
  · exact e
  · exfalso
    by_cases hg : g < 91
    · exact prime_8191 g hg (by omega) (by rw [hc]; exact Nat.mul_mod_right _ _)
    · have hc2 : c < 91 := by
        rcases Nat.lt_or_ge c 91 with h | h
        · exact h
        · have := Nat.mul_le_mul (show 91 ≤ g by omega) h
          omega
      have hc3 : 2 ≤ c := by
        rcases c with _ | _ | c
        · omega
        · omega
        · omega
      exact prime_8191 c hc2 hc3 (by rw [hc]; exact Nat.mul_mod_left _ _)
/-- A power that is one by itself: a multiple of the order. -/
theorem pw_one_gcd : ∀ (m n : Nat), pw m = 1 → pw n = 1 → pw (Nat.gcd m n) = 1 := by
  intro m n
  induction m, n using Nat.gcd.induction with
  | H0 n => intro _ h; simpa using h
  | H1 m n hm ih =>
    intro h1 h2
    rw [Nat.gcd_rec]
    apply ih _ h1
    have h3 : ∀ k r, pw (r + m * k) = pw r := by
      intro k r
      induction k with
      | zero => rfl
      | succ k ih => rw [Nat.mul_succ, ← Nat.add_assoc, ← mul_pw, h1, mul_one (pw_lt _), ih]
    have := h3 (n / m) (n % m)
    rw [Nat.mod_add_div] at this
    rw [← this, h2]
theorem pw_ne_one {d : Nat} (h0 : 0 < d) (h : d < 8191) : pw d ≠ 1 := fun e => by
  have := pw_one_gcd d 8191 e pw_order
  rw [coprime h0 h] at this
  exact absurd this (by decide)
theorem pw_inj {i j : Nat} (hi : i < 8191) (hj : j < 8191) (h : pw i = pw j) : i = j := by
  have main : ∀ i j, i < j → j < 8191 → pw i ≠ pw j := fun i j hij hj e => by
    have h1 := mul_pw i (8191 - i)
    have h2 := mul_pw j (8191 - i)
    rw [Nat.add_sub_cancel' (by omega), pw_order] at h1
    rw [e, h2, show j + (8191 - i) = (j - i) + 8191 by omega, pw_add_order] at h1
    exact pw_ne_one (by omega) (by omega) h1
  rcases Nat.lt_trichotomy i j with h1 | h1 | h1
  · exact absurd h (main i j h1 hj)
  · exact h1
  · exact absurd h.symm (main j i h1 hi)
theorem nodup_le (n : Nat) : ∀ (l : List Nat), l.Nodup → (∀ x, x ∈ l → 0 < x ∧ x ≤ n) → l.length ≤ n := by
  induction n with
  | zero => intro l _ h; cases l with
    | nil => simp
    | cons x l => have := h x (by simp); omega
  | succ n ih =>
    intro l hn h
    by_cases hm : (n + 1) ∈ l
    · have h1 := ih (l.erase (n + 1)) (hn.erase _) (fun x hx => by
        have h2 := h x (List.mem_of_mem_erase hx)
        have h3 : x ≠ n + 1 := fun e => by subst e; exact (List.Nodup.not_mem_erase hn) hx
        omega)
      rw [List.length_erase_of_mem hm] at h1
      omega
    · have h1 := ih l hn (fun x hx => by
        have h2 := h x hx
        have h3 : x ≠ n + 1 := fun e => by subst e; exact hm hx
        omega)
      omega
/-- What isn't nought is a power. -/
theorem pw_surj {x : Nat} (h0 : 0 < x) (h : x < 8192) : ∃ i, i < 8191 ∧ pw i = x := by
  apply Classical.byContradiction
  intro hc
  have hmem : x ∉ (List.range 8191).map pw := fun hm => by
    obtain ⟨i, hi, e⟩ := List.mem_map.1 hm
    exact hc ⟨i, List.mem_range.1 hi, e⟩
  have hnd : ((List.range 8191).map pw).Nodup := by
    rw [List.Nodup, List.pairwise_map]
    have := List.nodup_range (n := 8191)
    refine List.Pairwise.imp_of_mem (fun ha hb hne e => hne (pw_inj (List.mem_range.1 ha) (List.mem_range.1 hb) e)) this
  have := nodup_le 8191 (x :: (List.range 8191).map pw) (List.nodup_cons.2 ⟨hmem, hnd⟩) (fun y hy => by
    rcases List.mem_cons.1 hy with rfl | hy
    · omega
    · obtain ⟨i, hi, rfl⟩ := List.mem_map.1 hy
      have := pw_pos i
      have := pw_lt i
      omega)
  simp at this
/-- The logarithm, 0 of nought. -/
noncomputable def log (x : Nat) : Nat := if h : 0 < x ∧ x < 8192 then Classical.choose (pw_surj h.1 h.2) else 0
theorem log_spec {x : Nat} (h0 : 0 < x) (h : x < 8192) : log x < 8191 ∧ pw (log x) = x := by
  unfold log; rw [dif_pos ⟨h0, h⟩]; exact Classical.choose_spec (pw_surj h0 h)
theorem log_lt (x : Nat) : log x < 8191 := by
  by_cases h : 0 < x ∧ x < 8192
  · exact (log_spec h.1 h.2).1
  · unfold log; rw [dif_neg h]; decide
theorem log_pw {i : Nat} (h : i < 8191) : log (pw i) = i := pw_inj (log_spec (pw_pos i) (pw_lt i)).1 h (log_spec (pw_pos i) (pw_lt i)).2
/-- The product by logarithms. -/
theorem mul_log {a b : Nat} (ha : 0 < a) (ha' : a < 8192) (hb : 0 < b) (hb' : b < 8192) : mul a b = pw (log a + log b) := by
  have h1 := log_spec ha ha'
  have h2 := log_spec hb hb'
  rw [← mul_pw, h1.2, h2.2]
theorem mul_pos {a b : Nat} (ha : 0 < a) (ha' : a < 8192) (hb : 0 < b) (hb' : b < 8192) : 0 < mul a b := by rw [mul_log ha ha' hb hb']; exact pw_pos _
theorem mul_assoc {a b c : Nat} (ha : a < 8192) (hb : b < 8192) (hc : c < 8192) : mul (mul a b) c = mul a (mul b c) := by
  rcases Nat.eq_zero_or_pos a with rfl | ha0
  · rw [mul_zero_left, mul_zero_left, mul_zero_left]
  rcases Nat.eq_zero_or_pos b with rfl | hb0
  · rw [mul_zero_right, mul_zero_left, mul_zero_right]
  rcases Nat.eq_zero_or_pos c with rfl | hc0
  · rw [mul_zero_right, mul_zero_right, mul_zero_right]
  obtain ⟨i, _, rfl⟩ := pw_surj ha0 ha
  obtain ⟨j, _, rfl⟩ := pw_surj hb0 hb
  obtain ⟨k, _, rfl⟩ := pw_surj hc0 hc
  rw [mul_pw, mul_pw, mul_pw, mul_pw, Nat.add_assoc]
/-- The powers of any element. -/
def pow (a : Nat) : Nat → Nat
  | 0 => 1
  | n + 1 => mul (pow a n) a
theorem pow_lt {a : Nat} (ha : a < 8192) : ∀ n, pow a n < 8192
  | 0 => by show 1 < 8192; decide
  | n + 1 => mul_lt _ (pow_lt ha n)
theorem pow_pw (i : Nat) : ∀ n, pow (pw i) n = pw (i * n)
  | 0 => by rw [Nat.mul_zero]; rfl
  | n + 1 => by
    show mul (pow (pw i) n) (pw i) = _
    rw [pow_pw i n, mul_pw, Nat.mul_succ]
theorem pow_zero {n : Nat} (h : 0 < n) : pow 0 n = 0 := by
  cases n with
  | zero => omega
  | succ n => exact mul_zero_right _
theorem one_mul {a : Nat} (ha : a < 8192) : mul 1 a = a := by rw [mul_comm (by omega) ha, mul_one ha]
theorem pow_add {a : Nat} (ha : a < 8192) (m : Nat) : ∀ n, pow a (m + n) = mul (pow a m) (pow a n)
  | 0 => (mul_one (pow_lt ha m)).symm
  | n + 1 => by
    show mul (pow a (m + n)) a = mul (pow a m) (mul (pow a n) a)
    rw [pow_add ha m n, mul_assoc (pow_lt ha m) (pow_lt ha n) ha]
theorem pow_one {a : Nat} (ha : a < 8192) : pow a 1 = a := one_mul ha
theorem pow_two {a : Nat} (ha : a < 8192) : pow a 2 = mul a a := by
  show mul (pow a 1) a = _
  rw [pow_one ha]
theorem pow_mul {a : Nat} (ha : a < 8192) (m : Nat) : ∀ n, pow a (m * n) = pow (pow a m) n
  | 0 => rfl
  | n + 1 => by rw [Nat.mul_succ, pow_add ha, pow_mul ha m n]; rfl
theorem pow_log {a : Nat} (h0 : 0 < a) (h : a < 8192) (n : Nat) : pow a n = pw (log a * n) := by
  have := log_spec h0 h
  rw [← pow_pw, this.2]
theorem pow_order {a : Nat} (h0 : 0 < a) (h : a < 8192) : pow a 8191 = 1 := by
  rw [pow_log h0 h, Nat.mul_comm]
  have := pw_mul_order 0 (log a)
  rwa [Nat.zero_add] at this
theorem pow_mod {a : Nat} (h0 : 0 < a) (h : a < 8192) (n : Nat) : pow a (n % 8191) = pow a n := by
  rw [pow_log h0 h, pow_log h0 h, ← pw_mod, ← pw_mod (log a * n), Nat.mul_mod, Nat.mod_mod, ← Nat.mul_mod]
end Go.Proofs.YtkdfbganhohbfaaDoor.Gf
