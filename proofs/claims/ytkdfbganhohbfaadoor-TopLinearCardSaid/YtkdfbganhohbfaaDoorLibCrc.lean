/-
  Plain facts on checksums bit by bit, on natural numbers: no program in sight.
-/
import Derived.Laws.BitsAll
namespace Go.Proofs.YtkdfbganhohbfaaDoor.Crc

/-- One bit of the checksum's register. -/
def step (r : Nat) : Nat := if r % 2 = 1 then (r / 2) ^^^ 3988292384 else r / 2
/-- The sixteen half bytes' sums. -/
def nib : Nat → Nat
  | 0 => 0 | 1 => 498536548 | 2 => 997073096 | 3 => 651767980 | 4 => 1994146192 | 5 => 1802195444 | 6 => 1303535960 | 7 => 1342533948
  | 8 => 3988292384 | 9 => 4027552580 | 10 => 3604390888 | 11 => 3412177804 | 12 => 2607071920 | 13 => 2262029012 | 14 => 2685067896 | 15 => 3183342108 | _ => 0
def half (r : Nat) : Nat := r / 16 ^^^ nib (r % 16)
def steps : Nat → Nat → Nat
  | 0, r => r
  | k + 1, r => steps k (step r)
def byte (r b : Nat) : Nat := steps 8 (r ^^^ b)
def reg (r : Nat) (l : List UInt8) : Nat := l.foldl (fun r b => byte r b.toNat) r
def ext (c : Nat) (l : List UInt8) : Nat := reg (c ^^^ 4294967295) l ^^^ 4294967295
def sum (l : List UInt8) : Nat := ext 0 l

theorem nib_lt (i : Nat) : nib i < 4294967296 := by unfold nib; split <;> omega
theorem xor_lt32 {a b : Nat} (ha : a < 4294967296) (hb : b < 4294967296) : a ^^^ b < 4294967296 := Nat.xor_lt_two_pow (n := 32) ha hb
theorem step_lt {r : Nat} (h : r < 4294967296) : step r < 4294967296 := by
  unfold step; split
  · exact xor_lt32 (by omega) (by omega)
  · omega
theorem half_lt {r : Nat} (h : r < 4294967296) : half r < 4294967296 := xor_lt32 (by omega) (nib_lt _)
theorem steps_lt (k : Nat) : ∀ {r : Nat}, r < 4294967296 → steps k r < 4294967296 := by
  induction k with
  | zero => intro r h; exact h
  | succ k ih => intro r h; exact ih (step_lt h)
theorem steps_succ (k : Nat) : ∀ r, steps (k + 1) r = step (steps k r) := by
  induction k with
  | zero => intro r; rfl
  | succ k ih => intro r; rw [steps, ih]; rfl
theorem steps_add (j k : Nat) : ∀ r, steps (j + k) r = steps k (steps j r) := by
  induction j with
  | zero => intro r; simp [steps]
  | succ j ih => intro r; rw [Nat.succ_add]; exact ih (step r)
theorem byte_lt {r : Nat} (h : r < 4294967296) (b : UInt8) : byte r b.toNat < 4294967296 :=
  steps_lt 8 (xor_lt32 h (by have := b.toNat_lt; omega))
theorem reg_lt (l : List UInt8) : ∀ {r : Nat}, r < 4294967296 → reg r l < 4294967296 := by
  induction l with
  | nil => intro r h; exact h
  | cons b l ih => intro r h; exact ih (byte_lt h b)
theorem ext_lt {c : Nat} (h : c < 4294967296) (l : List UInt8) : ext c l < 4294967296 := xor_lt32 (reg_lt l (xor_lt32 h (by omega))) (by omega)
theorem sum_lt (l : List UInt8) : sum l < 4294967296 := ext_lt (by omega) l
theorem reg_append (r : Nat) (l m : List UInt8) : reg r (l ++ m) = reg (reg r l) m := List.foldl_append ..
theorem reg_snoc (r : Nat) (l : List UInt8) (b : UInt8) : reg r (l ++ [b]) = byte (reg r l) b.toNat := by rw [reg_append]; rfl
theorem xor_cancel (a b : Nat) : a ^^^ b ^^^ b = a := by rw [Nat.xor_assoc, Nat.xor_self, Nat.xor_zero]
theorem ext_append (c : Nat) (l m : List UInt8) : ext (ext c l) m = ext c (l ++ m) := by
  unfold ext; rw [xor_cancel, reg_append]
theorem sum_append (l m : List UInt8) : ext (sum l) m = sum (l ++ m) := ext_append ..

theorem xor_bit (a b : Nat) : (a ^^^ b) % 2 = (a % 2 + b % 2) % 2 := by
  have h := Nat.xor_mod_two_eq_one (a := a) (b := b)
  omega
/-- A step adds up bit by bit. -/
theorem step_xor (a b : Nat) : step (a ^^^ b) = step a ^^^ step b := by
  unfold step
  rw [xor_bit, Nat.xor_div_two]
  rcases Nat.mod_two_eq_zero_or_one a with h | h <;> rcases Nat.mod_two_eq_zero_or_one b with k | k <;> simp [h, k]
  · rw [Nat.xor_assoc]
  · rw [Nat.xor_assoc, Nat.xor_assoc, Nat.xor_comm (b / 2)]
  · rw [Nat.xor_assoc, Nat.xor_comm 3988292384, Nat.xor_assoc, Nat.xor_self, Nat.xor_zero]
theorem steps_xor (k : Nat) : ∀ a b, steps k (a ^^^ b) = steps k a ^^^ steps k b := by
  induction k with
  | zero => intro a b; rfl
  | succ k ih => intro a b; rw [steps, step_xor, ih]; rfl
/-- Four steps are a half byte's one. -/
theorem steps4_low : ∀ i, i < 16 → steps 4 i = nib i := by decide
theorem steps4_high (q : Nat) : steps 4 (16 * q) = q := by
  have e : ∀ m, step (2 * m) = m := by intro m; unfold step; rw [if_neg (by omega)]; omega
  have h : 16 * q = 2 * (2 * (2 * (2 * q))) := by omega
  rw [h]
  simp only [steps, e]
theorem half_eq (r : Nat) : half r = steps 4 r := by
  have h : r = 16 * (r / 16) ^^^ r % 16 := by
    have h1 : 16 * (r / 16) ||| r % 16 = 16 * (r / 16) + r % 16 := nat_join 4 _ _ (by omega) (by omega)
    have h2 : 16 * (r / 16) ||| r % 16 = 16 * (r / 16) ^^^ r % 16 := by
      apply Nat.eq_of_testBit_eq
      intro i
      rw [Nat.testBit_or, Nat.testBit_xor]
      by_cases hi : i < 4
      · have : (16 * (r / 16)).testBit i = false := by
          have h3 : 16 * (r / 16) = (r / 16) <<< 4 := by rw [Nat.shiftLeft_eq]; omega
          rw [h3, Nat.testBit_shiftLeft]
          simp; omega
        rw [this]; simp
      · have : (r % 16).testBit i = false := Nat.testBit_lt_two_pow (Nat.lt_of_lt_of_le (Nat.mod_lt _ (by omega)) (Nat.pow_le_pow_right (n := 2) (i := 4) (by omega) (by omega)))
        rw [this]; simp
    omega
  conv => rhs; rw [h]
  rw [steps_xor, steps4_high, steps4_low _ (Nat.mod_lt _ (by omega))]
  rfl
theorem byte_half (r b : Nat) : half (half (r ^^^ b)) = byte r b := by
  rw [half_eq, half_eq, ← steps_add]; rfl

/-! Changed texts -/
theorem step_zero {r : Nat} (h : r < 4294967296) (hz : step r = 0) : r = 0 := by
  unfold step at hz
  split at hz
  · have e : r / 2 = 3988292384 := by
      have h1 := congrArg (· ^^^ 3988292384) hz
      simp only [Nat.xor_assoc, Nat.xor_self, Nat.xor_zero, Nat.zero_xor] at h1
      exact h1
    omega
  · omega
theorem steps_zero (k : Nat) : ∀ {r : Nat}, r < 4294967296 → steps k r = 0 → r = 0 := by
  induction k with
  | zero => intro r _ h; exact h
  | succ k ih => intro r h hz; exact step_zero h (ih (step_lt h) hz)
theorem steps_of_zero (k : Nat) : steps k 0 = 0 := by
  induction k with
  | zero => rfl
  | succ k ih => exact ih
theorem xor_eq_zero {a b : Nat} (h : a ^^^ b = 0) : a = b := by
  have h1 := congrArg (· ^^^ b) h
  simp only [Nat.xor_assoc, Nat.xor_self, Nat.xor_zero, Nat.zero_xor] at h1
  exact h1
theorem steps_inj (k : Nat) {a b : Nat} (ha : a < 4294967296) (hb : b < 4294967296) (h : steps k a = steps k b) : a = b := by
  apply xor_eq_zero
  refine steps_zero k (xor_lt32 ha hb) ?_
  rw [steps_xor, h, Nat.xor_self]
theorem steps8_high (q : Nat) : steps 8 (256 * q) = q := by
  have h : 256 * q = 16 * (16 * q) := by omega
  rw [h, show (8 : Nat) = 4 + 4 from rfl, steps_add, steps4_high, steps4_high]
/-- The bytes as one number, the first the lowest. -/
def leN : List UInt8 → Nat
  | [] => 0
  | b :: l => b.toNat ^^^ 256 * leN l
theorem leN_cons (b : UInt8) (l : List UInt8) : leN (b :: l) = b.toNat + 256 * leN l := by
  have hb := b.toNat_lt
  have h1 : 256 * leN l ||| b.toNat = 256 * leN l + b.toNat := nat_join 8 _ _ (by omega) (by omega)
  have h2 : 256 * leN l ||| b.toNat = 256 * leN l ^^^ b.toNat := by
    apply Nat.eq_of_testBit_eq
    intro i
    rw [Nat.testBit_or, Nat.testBit_xor]
    by_cases hi : i < 8
    · have : (256 * leN l).testBit i = false := by
        have h3 : 256 * leN l = (leN l) <<< 8 := by rw [Nat.shiftLeft_eq]; omega
        rw [h3, Nat.testBit_shiftLeft]
        simp; omega
      rw [this]; simp
    · have : b.toNat.testBit i = false := Nat.testBit_lt_two_pow (Nat.lt_of_lt_of_le hb (Nat.pow_le_pow_right (n := 2) (i := 8) (by omega) (by omega)))
      rw [this]; simp
  show b.toNat ^^^ 256 * leN l = _
  rw [Nat.xor_comm, ← h2, h1]; omega
theorem leN_nil : leN [] = 0 := rfl
theorem leN_lt (l : List UInt8) : leN l < 256 ^ l.length := by
  induction l with
  | nil => simp [leN]
  | cons b l ih =>
    have hb := b.toNat_lt
    rw [leN_cons, List.length_cons, Nat.pow_succ]
    omega
theorem leN_zero (l : List UInt8) : leN l = 0 ↔ ∀ b ∈ l, b = 0 := by
  induction l with
  | nil => simp [leN]
  | cons b l ih =>
    rw [leN_cons]
    constructor
    · intro h x hx
      rcases List.mem_cons.1 hx with rfl | hx
      · exact UInt8.toNat_inj.1 (by simpa using (by omega : x.toNat = 0))
      · exact ih.1 (by omega) x hx
    · intro h
      have h1 := h b (List.mem_cons_self ..)
      have h2 := ih.2 fun x hx => h x (List.mem_cons_of_mem _ hx)
      rw [h1, h2]; rfl
theorem leN_snoc (l : List UInt8) (x : UInt8) : leN (l ++ [x]) = leN l ^^^ 256 ^ l.length * x.toNat := by
  induction l with
  | nil => simp [leN]
  | cons b l ih =>
    show b.toNat ^^^ 256 * leN (l ++ [x]) = _
    rw [ih]
    have e : 256 * (leN l ^^^ 256 ^ l.length * x.toNat) = 256 * leN l ^^^ 256 * (256 ^ l.length * x.toNat) := by
      have h := @Nat.shiftLeft_xor_distrib 8 (leN l) (256 ^ l.length * x.toNat)
      simp only [Nat.shiftLeft_eq] at h
      rw [show (2 : Nat) ^ 8 = 256 from rfl] at h
      rw [Nat.mul_comm 256, h, Nat.mul_comm 256, Nat.mul_comm 256]
    rw [e, ← Nat.xor_assoc]
    congr 1
    rw [List.length_cons, Nat.pow_succ, ← Nat.mul_assoc, Nat.mul_comm 256]
/-- A text's register is that of one number, so many steps on. -/
theorem reg_leN (l : List UInt8) : ∀ r, reg r l = steps (8 * l.length) (r ^^^ leN l) := by
  induction l with
  | nil => intro r; simp [reg, steps, leN]
  | cons b l ih =>
    intro r
    show reg (byte r b.toNat) l = _
    rw [ih]
    have e : steps 8 (r ^^^ leN (b :: l)) = byte r b.toNat ^^^ leN l := by
      show steps 8 (r ^^^ (b.toNat ^^^ 256 * leN l)) = _
      rw [← Nat.xor_assoc, steps_xor, steps8_high]; rfl
    rw [← e, ← steps_add, List.length_cons]
    congr 1
    omega
theorem steps_shift (k j x : Nat) (h : j ≤ k) : steps (8 * (k - j)) x = steps (8 * k) (256 ^ j * x) := by
  induction j generalizing x with
  | zero => simp
  | succ j ih =>
    have h1 := ih (256 * x) (by omega)
    rw [show 256 ^ j * (256 * x) = 256 ^ (j + 1) * x by rw [Nat.pow_succ, Nat.mul_assoc]] at h1
    rw [← h1, show 8 * (k - j) = 8 + 8 * (k - (j + 1)) by omega, steps_add, steps8_high]
/-- One byte of a text changed. -/
theorem reg_set (l : List UInt8) (j : Nat) (hj : j < l.length) (x : UInt8) : ∀ r, reg r (l.set j (l[j] ^^^ x)) = reg r l ^^^ steps (8 * (l.length - j)) x.toNat := by
  induction l generalizing j with
  | nil => simp at hj
  | cons b l ih =>
    intro r
    cases j with
    | zero =>
      show reg (byte r (b ^^^ x).toNat) l = reg (byte r b.toNat) l ^^^ _
      rw [UInt8.toNat_xor, reg_leN, reg_leN]
      have e : byte r (b.toNat ^^^ x.toNat) = byte r b.toNat ^^^ steps 8 x.toNat := by
        unfold byte; rw [← Nat.xor_assoc, steps_xor]
      rw [e, show 8 * ((b :: l).length - 0) = 8 + 8 * l.length by simp; omega, steps_add, ← steps_xor]
      congr 1
      rw [Nat.xor_assoc, Nat.xor_comm (steps 8 x.toNat), ← Nat.xor_assoc]
    | succ j =>
      have hj' : j < l.length := by simpa using hj
      show reg (byte r b.toNat) (l.set j (l[j]'hj' ^^^ x)) = reg (byte r b.toNat) l ^^^ _
      rw [ih j hj']
      congr 2
      simp
/-- Registers add up as their texts do. -/
def xorL (a b : List UInt8) : List UInt8 := List.zipWith (· ^^^ ·) a b
theorem reg_xor : ∀ (a b : List UInt8) (r q : Nat), a.length = b.length → reg (r ^^^ q) (xorL a b) = reg r a ^^^ reg q b
  | [], [], r, q, _ => rfl
  | x :: a, y :: b, r, q, h => by
    show reg (byte (r ^^^ q) (x ^^^ y).toNat) (xorL a b) = _
    have e : byte (r ^^^ q) (x ^^^ y).toNat = byte r x.toNat ^^^ byte q y.toNat := by
      unfold byte
      rw [UInt8.toNat_xor, ← steps_xor]
      congr 1
      rw [Nat.xor_assoc, Nat.xor_assoc, ← Nat.xor_assoc q, Nat.xor_comm q, Nat.xor_assoc]
    rw [e, reg_xor a b _ _ (by simpa using h)]
    rfl
theorem sum_three (a b c : List UInt8) (h1 : a.length = b.length) (h2 : b.length = c.length) : sum a ^^^ sum b ^^^ sum c = sum (xorL (xorL a b) c) := by
  have hl : (xorL a b).length = c.length := by simp [xorL]; omega
  have h := reg_xor (xorL a b) c 0 4294967295 hl
  have h' := reg_xor a b 4294967295 4294967295 h1
  rw [Nat.xor_self] at h'
  rw [Nat.zero_xor, h'] at h
  unfold sum ext
  simp only [Nat.zero_xor]
  rw [h]
  generalize reg 4294967295 a = x
  generalize reg 4294967295 b = y
  generalize reg 4294967295 c = z
  rw [Nat.xor_assoc x, Nat.xor_comm 4294967295 (y ^^^ 4294967295), Nat.xor_assoc y, Nat.xor_self, Nat.xor_zero, ← Nat.xor_assoc]
end Go.Proofs.YtkdfbganhohbfaaDoor.Crc
