/-
  Polynomials over two numbers as natural numbers' bits: no program in sight.
  The program's least polynomial of a power.
  Rows of words as polynomials: what the program's row functions do.
  Rows of words as polynomials: the degree, the exponents, one row laid over another.
-/
import Derived.Test.YtkgacnenmflegaaGreatDoorMg5
import Derived.Test.YtkgacnenmflegaaGreatDoorMg6
import Derived.Deep.QuietTactic
import Derived.BigQuiet
import Derived.Test.YtkgacnenmflegaaGreatDoorMg2
import Derived.Test.YtkgacnenmflegaaGreatDoorMg4
import Derived.Lib.BitFns
namespace Go.Proofs.YtkgacnenmflegaaGreatDoor.Poly

theorem tb (P i : Nat) : P.testBit i = decide (P / 2 ^ i % 2 = 1) := Nat.testBit_eq_decide_div_mod_eq
theorem lt_of_tb {P n : Nat} (h : ∀ i, n ≤ i → P.testBit i = false) : P < 2 ^ n := Nat.lt_pow_two_of_testBit P h
theorem tb_lt {P n i : Nat} (h : P < 2 ^ n) (hi : n ≤ i) : P.testBit i = false := Nat.testBit_lt_two_pow (Nat.lt_of_lt_of_le h (Nat.pow_le_pow_right (by omega) hi))
theorem ext {P Q : Nat} (h : ∀ i, P.testBit i = Q.testBit i) : P = Q := Nat.eq_of_testBit_eq h
theorem xor_lt2 {a b n : Nat} (ha : a < 2 ^ n) (hb : b < 2 ^ n) : a ^^^ b < 2 ^ n := Nat.xor_lt_two_pow ha hb
theorem xor_cancel (a b : Nat) : a ^^^ b ^^^ b = a := by rw [Nat.xor_assoc, Nat.xor_self, Nat.xor_zero]
theorem tb_mul (P k i : Nat) : (P * 2 ^ k).testBit i = (decide (k ≤ i) && P.testBit (i - k)) := by rw [← Nat.shiftLeft_eq, Nat.testBit_shiftLeft]
theorem tb_div (P k i : Nat) : (P / 2 ^ k).testBit i = P.testBit (k + i) := by rw [← Nat.shiftRight_eq_div_pow, Nat.testBit_shiftRight]
theorem tb_pow (k i : Nat) : (2 ^ k).testBit i = decide (k = i) := Nat.testBit_two_pow
theorem mul_xor (P Q k : Nat) : (P ^^^ Q) * 2 ^ k = P * 2 ^ k ^^^ Q * 2 ^ k := by
  apply ext; intro i
  rw [tb_mul, Nat.testBit_xor, Nat.testBit_xor, tb_mul, tb_mul]
  cases decide (k ≤ i) <;> simp
theorem div_xor (P Q k : Nat) : (P ^^^ Q) / 2 ^ k = P / 2 ^ k ^^^ Q / 2 ^ k := by
  apply ext; intro i
  rw [tb_div, Nat.testBit_xor, Nat.testBit_xor, tb_div, tb_div]
theorem mod_xor (P Q k : Nat) : (P ^^^ Q) % 2 ^ k = P % 2 ^ k ^^^ Q % 2 ^ k := by
  apply ext; intro i
  simp only [Nat.testBit_mod_two_pow, Nat.testBit_xor]
  by_cases h : i < k <;> simp [h]
theorem add_eq_xor {a n : Nat} (b : Nat) (ha : a < 2 ^ n) : b * 2 ^ n + a = b * 2 ^ n ^^^ a := by
  apply ext; intro i
  rw [Nat.mul_comm b, Nat.testBit_two_pow_mul_add _ ha, Nat.testBit_xor, Nat.mul_comm, tb_mul]
  by_cases h : i < n
  · rw [if_pos h, decide_eq_false (by omega)]; simp
  · rw [if_neg h, decide_eq_true (by omega), tb_lt ha (by omega)]; simp

/-- The bits below n, falling. -/
def fall : Nat → Nat → List Nat
  | 0, _ => []
  | n + 1, P => if P.testBit n then n :: fall n P else fall n P
theorem fall_yes {n P : Nat} (h : P.testBit n = true) : fall (n + 1) P = n :: fall n P := by simp [fall, h]
theorem fall_no {n P : Nat} (h : P.testBit n = false) : fall (n + 1) P = fall n P := by simp [fall, h]
theorem fall_mem {P : Nat} : ∀ {n x : Nat}, x ∈ fall n P ↔ x < n ∧ P.testBit x = true
  | 0, x => by simp [fall]
  | n + 1, x => by
    have ih := @fall_mem P n x
    cases h : P.testBit n
    · rw [fall_no h, ih]
      constructor
      · rintro ⟨h1, h2⟩; exact ⟨by omega, h2⟩
      · rintro ⟨h1, h2⟩
        have : x ≠ n := fun e => by subst e; rw [h] at h2; cases h2
        exact ⟨by omega, h2⟩
    · rw [fall_yes h, List.mem_cons, ih]
      constructor
      · rintro (rfl | ⟨h1, h2⟩)
        · exact ⟨by omega, h⟩
        · exact ⟨by omega, h2⟩
      · rintro ⟨h1, h2⟩
        by_cases e : x = n
        · exact .inl e
        · exact .inr ⟨by omega, h2⟩
theorem fall_congr : ∀ {n P Q : Nat}, (∀ i, i < n → P.testBit i = Q.testBit i) → fall n P = fall n Q
  | 0, _, _, _ => rfl
  | n + 1, P, Q, h => by
    have h1 := fall_congr (n := n) (fun i hi => h i (by omega))
    have h2 := h n (by omega)
    cases hb : P.testBit n
    · rw [fall_no hb, fall_no (by rw [← h2, hb]), h1]
    · rw [fall_yes hb, fall_yes (by rw [← h2, hb]), h1]
theorem fall_zero (n : Nat) : fall n 0 = [] := by
  induction n with
  | zero => rfl
  | succ n ih => rw [fall_no (by simp), ih]
theorem fall_more {P : Nat} : ∀ {n m : Nat}, m ≤ n → P < 2 ^ m → fall n P = fall m P
  | 0, m, h, _ => by obtain rfl : m = 0 := by omega
                     rfl
  | n + 1, m, h, hP => by
    by_cases e : m = n + 1
    · rw [e]
    · rw [fall_no (tb_lt hP (by omega)), fall_more (by omega) hP]
theorem fall_len (P : Nat) : ∀ n, (fall n P).length ≤ n
  | 0 => by simp [fall]
  | n + 1 => by
    have := fall_len P n
    cases h : P.testBit n
    · rw [fall_no h]; omega
    · rw [fall_yes h]; simp; omega
/-- The upper bits, then the lower ones. -/
theorem fall_split (a P : Nat) : ∀ b, fall (a + b) P = (fall b (P / 2 ^ a)).map (a + ·) ++ fall a P
  | 0 => by simp [fall]
  | b + 1 => by
    have ih := fall_split a P b
    have e : (P / 2 ^ a).testBit b = P.testBit (a + b) := tb_div P a b
    rw [← Nat.add_assoc]
    cases h : P.testBit (a + b)
    · rw [fall_no h, fall_no (by rw [e, h]), ih]
    · rw [fall_yes h, fall_yes (by rw [e, h]), ih]; rfl
theorem log2_tb {P : Nat} (h : P ≠ 0) : P.testBit P.log2 = true := by
  rw [tb, decide_eq_true_eq]
  have h1 : 2 ^ P.log2 ≤ P := Nat.log2_self_le h
  have h2 : P < 2 ^ (P.log2 + 1) := Nat.lt_log2_self
  have : P / 2 ^ P.log2 = 1 := by
    apply Nat.div_eq_of_lt_le
    · omega
    · rw [Nat.pow_succ] at h2; omega
  rw [this]
theorem log2_lt {P n : Nat} (h : P ≠ 0) (hP : P < 2 ^ n) : P.log2 < n := (Nat.log2_lt h).2 hP
theorem lt_two_log2 (P : Nat) : P < 2 ^ (P.log2 + 1) := Nat.lt_log2_self
/-- The highest bit is first. -/
theorem fall_top {P n : Nat} (h : P ≠ 0) (hP : P < 2 ^ n) : fall n P = P.log2 :: fall n (P ^^^ 2 ^ P.log2) := by
  have hl := log2_lt h hP
  have h2 := lt_two_log2 P
  rw [fall_more (m := P.log2 + 1) (by omega) h2, fall_yes (log2_tb h)]
  have hx : P ^^^ 2 ^ P.log2 < 2 ^ P.log2 := by
    apply lt_of_tb
    intro i hi
    rw [Nat.testBit_xor, tb_pow]
    by_cases e : P.log2 = i
    · rw [← e, log2_tb h]; simp
    · rw [tb_lt h2 (by omega)]; simp [e]
  rw [fall_more (m := P.log2) (P := P ^^^ 2 ^ P.log2) (by omega) hx]
  congr 1
  apply fall_congr
  intro i hi
  rw [Nat.testBit_xor, tb_pow, decide_eq_false (by omega)]
  simp
theorem xor_top_lt {P : Nat} (h : P ≠ 0) : P ^^^ 2 ^ P.log2 < P := by
  have hx : P ^^^ 2 ^ P.log2 < 2 ^ P.log2 := by
    apply lt_of_tb
    intro i hi
    rw [Nat.testBit_xor, tb_pow]
    by_cases e : P.log2 = i
    · rw [← e, log2_tb h]; simp
    · rw [tb_lt (lt_two_log2 P) (by omega)]; simp [e]
  exact Nat.lt_of_lt_of_le hx (Nat.log2_self_le h)
theorem fall_nil {P n : Nat} (hP : P < 2 ^ n) : fall n P = [] ↔ P = 0 := by
  constructor
  · intro h
    apply Classical.byContradiction
    intro hne
    rw [fall_top hne hP] at h
    cases h
  · rintro rfl; exact fall_zero n
theorem fall_inj {P Q n : Nat} (hP : P < 2 ^ n) (hQ : Q < 2 ^ n) (h : fall n P = fall n Q) : P = Q := by
  apply ext; intro i
  by_cases hi : i < n
  · have h1 := @fall_mem P n i
    have h2 := @fall_mem Q n i
    rw [h] at h1
    have h3 : P.testBit i = true ↔ Q.testBit i = true := by
      constructor
      · intro hp; exact (h2.1 (h1.2 ⟨hi, hp⟩)).2
      · intro hq; exact (h1.1 (h2.2 ⟨hi, hq⟩)).2
    cases hp : P.testBit i <;> cases hq : Q.testBit i <;> simp_all
  · rw [tb_lt hP (by omega), tb_lt hQ (by omega)]

/-- The bits of a list of exponents: those that are allowed, each as often as it stands there. -/
def lim : Nat := 16385
theorem lim_eq : lim = 16385 := rfl
def put (P : Nat) (e : Int) : Nat := if 0 ≤ e ∧ e ≤ 16384 then P ^^^ 2 ^ e.toNat else P
def bitsOf (l : List Int) : Nat := l.foldl put 0
theorem put_lt {P : Nat} (h : P < 2 ^ lim) (e : Int) : put P e < 2 ^ lim := by
  have hl := lim_eq
  unfold put
  split
  · exact xor_lt2 h (Nat.pow_lt_pow_right (by omega) (by omega))
  · exact h
theorem foldl_put_lt (l : List Int) : ∀ {P : Nat}, P < 2 ^ lim → l.foldl put P < 2 ^ lim := by
  induction l with
  | nil => intro P h; exact h
  | cons e l ih => intro P h; exact ih (put_lt h e)
theorem bitsOf_lt (l : List Int) : bitsOf l < 2 ^ lim := foldl_put_lt l (Nat.pow_pos (by omega))
theorem bitsOf_snoc (l : List Int) (e : Int) : bitsOf (l ++ [e]) = put (bitsOf l) e := by simp [bitsOf]
theorem put_xor (P Q : Nat) (e : Int) : put (P ^^^ Q) e = put P e ^^^ Q := by
  unfold put
  split
  · ac_rfl
  · rfl
theorem foldl_put_xor (l : List Int) : ∀ (P Q : Nat), l.foldl put (P ^^^ Q) = l.foldl put P ^^^ Q := by
  induction l with
  | nil => intro P Q; rfl
  | cons e l ih => intro P Q; simp only [List.foldl_cons]; rw [put_xor, ih]
theorem bitsOf_append (a b : List Int) : bitsOf (a ++ b) = bitsOf a ^^^ bitsOf b := by
  unfold bitsOf
  rw [List.foldl_append]
  have := foldl_put_xor b 0 (a.foldl put 0)
  rw [Nat.zero_xor, Nat.xor_comm] at this
  exact this
def ints (l : List Nat) : List Int := l.map fun n : Nat => (n : Int)
theorem bitsOf_fall {P : Nat} : ∀ {n : Nat}, n ≤ lim → bitsOf (ints (fall n P)) = P % 2 ^ n
  | 0, _ => by simp [fall, ints, bitsOf, Nat.mod_one]
  | n + 1, h => by
    have hl := lim_eq
    have ih := @bitsOf_fall P n (by omega)
    have hstep : ∀ (e : Nat) (l : List Int), e ≤ 16384 → bitsOf ((e : Int) :: l) = 2 ^ e ^^^ bitsOf l := fun e l he => by
      have := bitsOf_append [(e : Int)] l
      rw [List.singleton_append] at this
      rw [this]
      congr 1
      show put 0 e = _
      unfold put
      rw [if_pos ⟨by omega, by omega⟩, Nat.zero_xor, Int.toNat_natCast]
    have hm : P % 2 ^ (n + 1) = (if P.testBit n then 2 ^ n else 0) ^^^ P % 2 ^ n := by
      apply ext; intro i
      rw [Nat.testBit_xor, Nat.testBit_mod_two_pow, Nat.testBit_mod_two_pow]
      by_cases hi : i = n
      · subst hi
        rw [decide_eq_true (show i < i + 1 by omega), decide_eq_false (show ¬ i < i by omega)]
        cases hb : P.testBit i
        · simp
        · rw [if_pos rfl, tb_pow]; simp
      · have hne : (if P.testBit n = true then 2 ^ n else 0).testBit i = false := by
          cases hb : P.testBit n
          · simp
          · rw [if_pos rfl, tb_pow, decide_eq_false (by omega)]
        rw [hne]
        by_cases h1 : i < n
        · rw [decide_eq_true h1, decide_eq_true (show i < n + 1 by omega)]; simp
        · rw [decide_eq_false h1, decide_eq_false (show ¬ i < n + 1 by omega)]; simp
    cases hb : P.testBit n
    · rw [fall_no hb, ih, hm, hb]; simp
    · rw [fall_yes hb]
      show bitsOf ((n : Int) :: ints (fall n P)) = _
      rw [hstep n _ (by omega), ih, hm, hb]; simp

/-! Words of 64 bits -/
def wordN (P i : Nat) : Nat := P / 2 ^ (64 * i) % 2 ^ 64
theorem wordN_lt (P i : Nat) : wordN P i < 18446744073709551616 := Nat.mod_lt _ (by decide)
theorem wordN_tb (P i j : Nat) : (wordN P i).testBit j = (decide (j < 64) && P.testBit (64 * i + j)) := by
  unfold wordN
  rw [Nat.testBit_mod_two_pow, tb_div]
theorem wordN_xor (P Q i : Nat) : wordN (P ^^^ Q) i = wordN P i ^^^ wordN Q i := by
  unfold wordN
  rw [div_xor, mod_xor]
theorem wordN_at {c : Nat} (j i : Nat) (hc : c < 2 ^ 64) : wordN (c * 2 ^ (64 * j)) i = if i = j then c else 0 := by
  apply ext; intro k
  rw [wordN_tb, tb_mul]
  by_cases hij : i = j
  · subst hij
    rw [if_pos rfl, decide_eq_true (show 64 * i ≤ 64 * i + k by omega), show 64 * i + k - 64 * i = k by omega]
    by_cases hk : k < 64
    · simp [hk]
    · rw [tb_lt hc (show 64 ≤ k by omega)]; simp
  · rw [if_neg hij]
    by_cases hk : k < 64
    · by_cases h : 64 * j ≤ 64 * i + k
      · rw [tb_lt hc (show 64 ≤ 64 * i + k - 64 * j by omega)]; simp
      · rw [decide_eq_false h]; simp
    · simp [hk]
/-- One word changed. -/
theorem wordN_put {P c j : Nat} (hc : c < 2 ^ 64) (i : Nat) : wordN (P ^^^ c * 2 ^ (64 * j)) i = if i = j then wordN P j ^^^ c else wordN P i := by
  rw [wordN_xor, wordN_at j i hc]
  split
  · rename_i h; rw [h]
  · rw [Nat.xor_zero]
theorem wordN_zero (i : Nat) : wordN 0 i = 0 := by simp [wordN]
theorem wordN_high {P n i : Nat} (h : P < 2 ^ (64 * n)) (hi : n ≤ i) : wordN P i = 0 := by
  unfold wordN
  rw [Nat.div_eq_of_lt (Nat.lt_of_lt_of_le h (Nat.pow_le_pow_right (by omega) (by omega)))]
/-- The lower words, and one more. -/
theorem low_step (P k : Nat) : P % 2 ^ (64 * (k + 1)) = P % 2 ^ (64 * k) ^^^ wordN P k * 2 ^ (64 * k) := by
  apply ext; intro i
  rw [Nat.testBit_xor, Nat.testBit_mod_two_pow, Nat.testBit_mod_two_pow, tb_mul, wordN_tb]
  by_cases h1 : i < 64 * k
  · rw [decide_eq_true (show i < 64 * (k + 1) by omega), decide_eq_true h1, decide_eq_false (show ¬ 64 * k ≤ i by omega)]; simp
  · rw [decide_eq_false h1, decide_eq_true (show 64 * k ≤ i by omega)]
    by_cases h2 : i < 64 * (k + 1)
    · rw [decide_eq_true h2, decide_eq_true (show i - 64 * k < 64 by omega), show 64 * k + (i - 64 * k) = i by omega]; simp
    · rw [decide_eq_false h2, decide_eq_false (show ¬ i - 64 * k < 64 by omega)]; simp
/-- A word that is laid so many bits higher: its two parts. -/
theorem shift_word (c k up : Nat) :
    c * 2 ^ (64 * k + up) = (c * 2 ^ (up % 64) % 2 ^ 64) * 2 ^ (64 * (k + up / 64)) ^^^ (c / 2 ^ (64 - up % 64)) * 2 ^ (64 * (k + up / 64 + 1)) := by
  apply ext; intro i
  rw [Nat.testBit_xor, tb_mul, tb_mul, tb_mul, Nat.testBit_mod_two_pow, tb_mul, tb_div]
  have hl : up % 64 < 64 := Nat.mod_lt _ (by omega)
  generalize hw : up / 64 = w
  generalize hll : up % 64 = l at *
  have hup : up = 64 * w + l := by omega
  rw [hup]
  clear hw hll hup
  by_cases h1 : 64 * k + (64 * w + l) ≤ i
  · rw [decide_eq_true h1, decide_eq_true (show 64 * (k + w) ≤ i by omega)]
    by_cases h2 : i < 64 * (k + w + 1)
    · rw [decide_eq_true (show i - 64 * (k + w) < 64 by omega), decide_eq_true (show l ≤ i - 64 * (k + w) by omega), decide_eq_false (show ¬ 64 * (k + w + 1) ≤ i by omega), show i - 64 * (k + w) - l = i - (64 * k + (64 * w + l)) by omega]
      simp
    · rw [decide_eq_false (show ¬ i - 64 * (k + w) < 64 by omega), decide_eq_true (show 64 * (k + w + 1) ≤ i by omega), show 64 - l + (i - 64 * (k + w + 1)) = i - (64 * k + (64 * w + l)) by omega]
      simp
  · rw [decide_eq_false h1]
    by_cases h3 : 64 * (k + w) ≤ i
    · rw [decide_eq_false (show ¬ l ≤ i - 64 * (k + w) by omega), decide_eq_false (show ¬ 64 * (k + w + 1) ≤ i by omega)]
      simp
    · rw [decide_eq_false h3, decide_eq_false (show ¬ 64 * (k + w + 1) ≤ i by omega)]
      simp
end Go.Proofs.YtkgacnenmflegaaGreatDoor.Poly
namespace Go.Proofs.YtkgacnenmflegaaGreatDoor
open Go.RowKit

def IdxPost (w : World) (l : List Int) (x : Int) (e : Ending) (w' : World) : Prop := ((x ∈ l ∧ ∃ q : Nat, e = .returned (.int .i64 (q : Int))) ∨ (x ∉ l ∧ e = .returned (.int .i64 (-1)))) ∧ w = w'
theorem IdxPost.yes {w w' : World} {l : List Int} {x : Int} {e : Ending} (h : IdxPost w l x e w') (hx : x ∈ l) : (∃ q : Nat, e = .returned (.int .i64 (q : Int))) ∧ w = w' := by
  rcases h.1 with h1 | h1
  · exact ⟨h1.2, h.2⟩
  · exact absurd hx h1.1
theorem IdxPost.no {w w' : World} {l : List Int} {x : Int} {e : Ending} (h : IdxPost w l x e w') (hx : x ∉ l) : e = .returned (.int .i64 (-1)) ∧ w = w' := by
  rcases h.1 with h1 | h1
  · exact absurd h1.1 hx
  · exact ⟨h1.2, h.2⟩
theorem take_succ_mem {l : List Int} {k : Nat} {x : Int} (h : k < l.length) : x ∈ l.take (k + 1) ↔ x ∈ l.take k ∨ x = l.getD k 0 := by
  rw [List.take_add_one, List.getElem?_eq_getElem h, List.mem_append]
  simp [List.getD_eq_getElem?_getD, List.getElem?_eq_getElem h]
set_option maxHeartbeats 400000 in
theorem sl_index (A : Option Addr) (n c : Nat) (l : List Int) (x : Int) (w : World) (hl : n = l.length) (hn : n ≤ 1000000) (hR : Rd w A n (fun i => .int .i64 (l.getD i 0))) :
    Calls Tryz.prog 222 #[.slice A n c, .int .i64 x] w (IdxPost w l x) := by
  have HR := Aside.mk (And.intro hl (And.intro hn hR))
  clear hl hR
  go_enter Tryz.func222, Tryz.ntmps222
  go_wp2
  go_loopw [8] (fun s8 wr => ∃ k : Nat, k ≤ n ∧ s8 = .int .i64 k ∧ Aside (x ∉ l.take k) ∧ w = wr) (fun s8 _ => n - (intOf s8).toNat)
  case atStart => exact ⟨0, by omega, rfl, ⟨by simp⟩, rfl⟩
  case round =>
    obtain ⟨k, hk, rfl, HT, rfl⟩ := hrel
    have hk1 : IntKind.i64.wrap ((k : Int) + 1) = (k : Int) + 1 := by rw [IntKind.wrap_i64]; omega
    by_cases hlt : k < n
    · obtain ⟨b, off, rfl, hb, hc⟩ := HR.out.2.2 k hlt
      have hk2 : (0 : Int) ≤ (k : Int) := by omega
      have hk3 : (k : Int) < (n : Int) := by omega
      have hm := take_succ_mem (l := l) (x := x) (k := k) (by have := HR.out.1; omega)
      obtain ⟨y, hy⟩ : ∃ y, y = l.getD k 0 := ⟨_, rfl⟩
      have hmem : l.getD k 0 ∈ l := by
        rw [List.getD_eq_getElem?_getD, List.getElem?_eq_getElem (by have := HR.out.1; omega)]
        exact List.getElem_mem _
      replace hc : w.cell? ⟨b, off + k, none⟩ = some (.int .i64 (l.getD k 0)) := hc
      rw [← hy] at hc hm hmem
      have HM := Aside.mk (And.intro hm hmem)
      clear hy hm hmem
      by_cases hxy : x = y
      · subst hxy
        go_wp2
        go_ret
        exact ⟨.inl ⟨HM.out.2, k, rfl⟩, rfl⟩
      · have hb1 : (x == y) = false := by simp [hxy]
        have HN := Aside.mk hxy
        clear hxy
        go_wp2
        go_roundw
        case rel => exact ⟨k + 1, by omega, by go_num, ⟨fun h => by rcases HM.out.1.1 h with h | h; exact HT.out h; exact HN.out h⟩, trivial⟩
        case measure => simp [intOf]; omega
    · have hall : l.take k = l := List.take_of_length_le (by have := HR.out.1; omega)
      have hno := HT.out
      rw [hall] at hno
      clear hall HT
      have HN := Aside.mk hno
      clear hno
      go_wp2
      go_ret
      exact ⟨.inr ⟨HN.out, rfl⟩, rfl⟩
theorem sl_contains (A : Option Addr) (n c : Nat) (l : List Int) (x : Int) (w : World) (hl : n = l.length) (hn : n ≤ 1000000) (hR : Rd w A n (fun i => .int .i64 (l.getD i 0))) :
    Calls Tryz.prog 203 #[.slice A n c, .int .i64 x] w fun e w' => e = .returned (.bool (decide (x ∈ l))) ∧ w = w' := by
  have HR := Aside.mk (And.intro hl (And.intro hn hR))
  clear hl hn hR
  by_cases hx : x ∈ l
  · have HX := Aside.mk hx
    rw [decide_eq_true hx]
    clear hx
    go_enter Tryz.func203, Tryz.ntmps203
    go_wp2_with (go_at_call 222; refine (sl_index A n c l x _ HR.out.1 HR.out.2.1 HR.out.2.2).mono ?_; intro e w1 h1; obtain ⟨⟨q, rfl⟩, rfl⟩ := h1.yes HX.out)
    go_ret
    exact ⟨rfl, rfl⟩
  · have HX := Aside.mk hx
    rw [decide_eq_false hx]
    clear hx
    go_enter Tryz.func203, Tryz.ntmps203
    go_wp2_with (go_at_call 222; refine (sl_index A n c l x _ HR.out.1 HR.out.2.1 HR.out.2.2).mono ?_; intro e w1 h1; obtain ⟨rfl, rfl⟩ := h1.no HX.out)
    go_ret
    exact ⟨rfl, rfl⟩

/-- The state of the walk: the tables stand below B, the walk's own rows from B on. -/
structure MS [Host] (w : World) (B f ge gl q : Nat) (wr : World) : Prop where
  at_ : MadeAt wr f ge gl q
  old : w.grownBy wr (some f)
  base : B ≤ wr.heap.size
  bf : f < B
  bge : ge < B
  bgl : gl < B
  ws : w.heap.size ≤ B
theorem Row.of_blockM {w w' : World} {base : Nat} {e : TypeId} {size : Nat} {v : Value} {n : Nat} {xs : List Value} (h : Row w base e size v n xs) (hg : ∀ k, v.ownBlock = some k → w'.heap[k]? = w.heap[k]?) : Row w' base e size v n xs := by
  refine ⟨h.1, ?_⟩
  rcases h.2 with hn | ⟨g, off, cap, cur, fr, rfl, hb, hgg, rest⟩
  · exact .inl hn
  · exact .inr ⟨g, off, cap, cur, fr, rfl, hb, (hg g rfl).trans hgg, rest⟩
theorem MadeAt.low [Host] {w w' : World} {B f ge gl q : Nat} (h : MadeAt w f ge gl q) (hf : f < B) (hge : ge < B) (hgl : gl < B) (hb : Below B w w') : MadeAt w' f ge gl q :=
  ⟨(hb.block f hf).trans h.fb, h.ex.of_blockM (fun k hk => by simp only [Value.ownBlock, Option.some.injEq] at hk; subst hk; exact hb.block _ hge), h.lg.of_blockM (fun k hk => by simp only [Value.ownBlock, Option.some.injEq] at hk; subst hk; exact hb.block _ hgl), h.ne⟩
theorem MS.below [Host] {w wr w' : World} {B f ge gl q : Nat} (h : MS w B f ge gl q wr) (hb : Below B wr w') : MS w B f ge gl q w' :=
  ⟨h.at_.low h.bf h.bge h.bgl hb, ⟨hb.os.trans h.old.os, hb.tape.trans h.old.tape, hb.output.trans h.old.output, Nat.le_trans h.old.size hb.size, fun k hk hne => (hb.block k (Nat.lt_of_lt_of_le hk h.ws)).trans (h.old.block k hk hne)⟩, Nat.le_trans h.base hb.size, h.bf, h.bge, h.bgl, h.ws⟩
theorem MS.call [Host] {w wr w' : World} {B f ge gl q q' : Nat} (h : MS w B f ge gl q wr) (hg : wr.grownBy w' (some f)) (hM : MadeAt w' f ge gl q') : MS w B f ge gl q' w' :=
  ⟨hM, World.grownBy.trans h.old hg, Nat.le_trans h.base hg.size, h.bf, h.bge, h.bgl, h.ws⟩
theorem Row.call [Host] {w wr w' : World} {B f ge gl q : Nat} {e : TypeId} {size n : Nat} {v : Value} {xs : List Value} (h : Row wr B e size v n xs) (hm : MS w B f ge gl q wr) (hg : wr.grownBy w' (some f)) : Row w' B e size v n xs := by
  refine h.kept hg ?_
  cases hv : v.ownBlock with
  | none => exact .inl rfl
  | some b => exact .inr fun e => by injection e with e; have := (h.blk b hv).1; have := hm.bf; omega
def lenOf : Value → Nat
  | .slice _ n _ => n
  | _ => 0
theorem ints_mem {l : List Nat} {x : Nat} : (x : Int) ∈ Poly.ints l ↔ x ∈ l := by
  unfold Poly.ints
  rw [List.mem_map]
  constructor
  · rintro ⟨y, hy, e⟩
    obtain rfl : y = x := by omega
    exact hy
  · exact fun h => ⟨x, h, rfl⟩
theorem ints_len (l : List Nat) : (Poly.ints l).length = l.length := by simp [Poly.ints]
theorem ints_app (l m : List Nat) : Poly.ints (l ++ m) = Poly.ints l ++ Poly.ints m := by simp [Poly.ints]
theorem sqsL_len (r n : Nat) : (Gf.sqsL r n).length = n := by simp [Gf.sqsL]
theorem powN_sq {x : Nat} (h : x < 8192) : powN (lowN (x : Int)) 2 = Gf.mul x x := by
  rw [lowN_of_lt h, ← Gf.pow_two h]
  exact powN_nat h 2
def nextC (c : List Nat) (a e1 e k : Nat) : Nat := (if 1 ≤ k ∧ k ≤ e1 then c.getD (k - 1) 0 else 0) ^^^ (if k < e then Gf.mul (c.getD k 0) a else 0)
def nextV (c : List Nat) (a e1 e : Nat) : List Value := (List.range (c.length + 1)).map fun k => .int .i64 ((nextC c a e1 e k : Nat) : Int)
theorem nextV_len (c : List Nat) (a e1 e : Nat) : (nextV c a e1 e).length = c.length + 1 := by simp [nextV]
theorem nextV_get {c : List Nat} {a e1 e k : Nat} (h : k < c.length + 1) : (nextV c a e1 e).getD k undef = .int .i64 ((nextC c a e1 e k : Nat) : Int) := by simp [nextV, List.getD_eq_getElem?_getD, h]
theorem nextV_zero (c : List Nat) (a : Nat) : nextV c a 0 0 = List.replicate (c.length + 1) (.int .i64 0) := by
  apply List.ext_getElem
  · simp [nextV]
  · intro i h1 h2
    simp only [nextV, List.getElem_map, List.getElem_range, List.getElem_replicate, nextC]
    rw [if_neg (by omega), if_neg (by omega)]
    rfl
theorem nextV_one {c : List Nat} {a e : Nat} (_h : e < c.length) : (nextV c a e e).set (e + 1) (.int .i64 (((nextC c a e e (e + 1) ^^^ c.getD e 0 : Nat)) : Int)) = nextV c a (e + 1) e := by
  refine set_map_lt ?_ fun j hj hne => ?_
  · unfold nextC
    rw [if_pos (by omega), if_neg (by omega), if_neg (by omega), show e + 1 - 1 = e by omega, Nat.xor_zero, Nat.xor_zero, Nat.zero_xor]
  · unfold nextC
    congr 3
    by_cases h1 : 1 ≤ j ∧ j ≤ e
    · rw [if_pos h1, if_pos (by omega)]
    · rw [if_neg h1, if_neg (by omega)]
theorem nextV_two {c : List Nat} {a e : Nat} (_h : e < c.length) : (nextV c a (e + 1) e).set e (.int .i64 (((nextC c a (e + 1) e e ^^^ Gf.mul (c.getD e 0) a : Nat)) : Int)) = nextV c a (e + 1) (e + 1) := by
  refine set_map_lt ?_ fun j hj hne => ?_
  · unfold nextC
    rw [if_pos (show e < e + 1 by omega), if_neg (show ¬ e < e by omega), Nat.xor_zero]
  · unfold nextC
    congr 3
    by_cases h1 : j < e
    · rw [if_pos h1, if_pos (by omega)]
    · rw [if_neg h1, if_neg (by omega)]
theorem nextV_end (c : List Nat) (a : Nat) : nextV c a c.length c.length = intsV (Poly.ints (Gf.mulx c a)) := by
  have hl := Gf.mulx_len c a
  apply List.ext_getElem
  · simp [nextV, intsV, Poly.ints, hl]
  · intro k h1 h2
    have hk : k < c.length + 1 := by simpa [nextV] using h1
    have hg : (intsV (Poly.ints (Gf.mulx c a)))[k]'h2 = .int .i64 (((Gf.mulx c a).getD k 0 : Nat) : Int) := by
      simp [intsV, Poly.ints, List.getD_eq_getElem?_getD, List.getElem?_eq_getElem (show k < (Gf.mulx c a).length by omega)]
    rw [hg]
    simp only [nextV, List.getElem_map, List.getElem_range]
    congr 2
    unfold Gf.mulx nextC
    match k with
    | 0 =>
      rw [Gf.mulAux_zero, if_neg (by omega)]
      by_cases h0 : 0 < c.length
      · rw [if_pos h0]
      · have : c = [] := List.eq_nil_of_length_eq_zero (by omega)
        subst this
        simp [Gf.mul_zero_left]
    | k + 1 =>
      rw [Gf.mulAux_succ, if_pos (by omega), show k + 1 - 1 = k by omega]
      by_cases h0 : k + 1 < c.length
      · rw [if_pos h0]
      · rw [if_neg h0, show c.getD (k + 1) 0 = 0 by rw [List.getD_eq_getElem?_getD, List.getElem?_eq_none (by omega)]; rfl, Gf.mul_zero_left]
def MinPost [Host] (w : World) (f p : Nat) (Q : Nat → Nat → Prop) (P : Nat) (e : Ending) (w' : World) : Prop :=
  ∃ v ge gl q, e = .returned v ∧ Q ge gl ∧ MadeAt w' f ge gl q ∧ p ≤ q ∧ q ≤ p + 200 ∧ w.grownBy w' (some f) ∧ Row w' w.heap.size 3 1 v (Poly.fall 14 P).length (intsV (Poly.ints (Poly.fall 14 P)))
def ExpPost [Host] (w : World) (f p : Nat) (Q : Nat → Nat → Prop) (r : Nat) (e : Ending) (w' : World) : Prop :=
  e = .returned (.int .i64 (r : Int)) ∧ ∃ ge gl, Q ge gl ∧ MadeAt w' f ge gl p ∧ w.grownBy w' (some f)
theorem make_ints (m : Nat) (h : m ≤ 1000000) (W : World) : (Instr.makeSlice 36 (.int .i64 (m : Int)) (.int .i64 (m : Int))).run Tryz.prog W = .ok (.slice (some ⟨W.heap.size, 0, none⟩) m m) (W.alloc (.cells (madeCells #[.int .i64 0] m) 3)) :=
  run_make_row' 36 3 (.int .i64 0) 8 Tryz.underlying36 infoInt rfl .i64 .i64 m (by omega) (by omega) W
set_option maxRecDepth 100000 in
set_option maxHeartbeats 2000000 in
theorem poly_minimal [Host] (f p : Nat) (k : Int) (r : Nat) (w : World) (Q : Nat → Nat → Prop) (hp : p ≤ 900000) (hfw : f < w.heap.size) (hr0 : 0 < r) (hr : r < 8192)
    (HE : Calls Tryz.prog 152 #[.pointer (some ⟨f, 5, none⟩), .int .i64 k] w (ExpPost w f p Q r)) :
    Calls Tryz.prog 173 #[.pointer (some ⟨f, 5, none⟩), .int .i64 k] w (MinPost w f p Q (Gf.minN r)) := by
  have HEA := Aside.mk HE
  have HR := Aside.mk (And.intro hr0 (And.intro hr (And.intro hp hfw)))
  clear HE hr0 hr hp hfw
  go_enter Tryz.func173, Tryz.ntmps173
  go_wp2_with (go_at_call 152; refine HEA.out.mono ?_; rintro e w1 ⟨rfl, ge, gl, hQ, hM, hg⟩)
  have HS0 : Aside (Q ge gl ∧ MS w w1.heap.size f ge gl p w1) := ⟨hQ, hM, hg, Nat.le_refl _, Nat.lt_of_lt_of_le HR.out.2.2.2 hg.size, (hM.ex.blk ge rfl).2.1, (hM.lg.blk gl rfl).2.1, hg.size⟩
  clear hQ hM hg HEA
  obtain ⟨B, hB⟩ : ∃ B, B = w1.heap.size := ⟨_, rfl⟩
  rw [← hB] at HS0
  clear hB
  go_loopw [5, 6] (fun s5 s6 wr => ∃ j : Nat, s6 = .int .i64 (Gf.sqs r j : Nat) ∧ j ≤ 13 ∧ Aside ((Gf.sqsL r j).Nodup ∧ Gf.rootsAux (14 - j) (Gf.sqsL r j) (Gf.sqs r j) = Gf.rootsF r) ∧ Row wr B 3 1 s5 j (intsV (Poly.ints (Gf.sqsL r j))) ∧ MS w B f ge gl p wr) (fun s5 _ _ => 14 - lenOf s5)
  case atStart => exact ⟨0, rfl, by omega, ⟨by simp [Gf.sqsL], rfl⟩, Row.nil _ _ _ _, HS0.out.2⟩
  case round =>
    obtain ⟨j, rfl, hj, HD, hrow, hms⟩ := hrel
    obtain ⟨A5, c5, rfl, hjl, hc5, hc5m, hrd⟩ := hrow.readInts
    clear hjl
    have HRW := Aside.mk (And.intro hrow (And.intro hrd hms))
    have hx := Gf.sqs_lt HR.out.2.1 j
    clear hrow hrd hms
    by_cases hin : Gf.sqs r j ∈ Gf.sqsL r j
    · have hroots : Gf.rootsF r = Gf.sqsL r j := by
        rw [← HD.out.2, show 14 - j = (13 - j) + 1 by omega, Gf.rootsAux, if_pos hin]
      have HRT := Aside.mk hroots
      have HIN := Aside.mk (decide_eq_true (ints_mem.2 hin))
      clear hin hroots
      go_upto_region 8 with (go_at_call 203; refine (sl_contains A5 j c5 (Poly.ints (Gf.sqsL r j)) _ _ (by rw [ints_len, sqsL_len]) (by omega) HRW.out.2.1).mono ?_; rw [HIN.out]; rintro e wc ⟨rfl, rfl⟩)
      obtain ⟨N, hN⟩ : ∃ N, N = j := ⟨_, rfl⟩
      rw [← hN] at HRT
      have HNJ := Aside.mk hN
      clear hN
      go_wp2_with fail
      have hc0 : Row (wr.alloc (.cells #[.int .i64 1] 3)) B 3 1 (.slice (some ⟨wr.heap.size, 0, none⟩) 1 1) 1 (intsV (Poly.ints [1])) := Row.lit wr B 3 1 #[.int .i64 1] 1 HRW.out.2.2.base (by decide) rfl
      have HC0 := Aside.mk (And.intro hc0 (And.intro (HRW.out.1.alloc (.cells #[.int .i64 1] 3)) (HRW.out.2.2.below ((Below.refl _ _).alloc HRW.out.2.2.base (.cells #[.int .i64 1] 3)))))
      clear hc0
      go_loopw [7, 34] (fun s7 s34 w2 => ∃ i m q : Nat, s34 = .int .i64 (i : Int) ∧ i ≤ j ∧ Aside (m = i + 1) ∧ Row w2 B 3 1 s7 m (intsV (Poly.ints (Gf.prodL [1] ((Gf.sqsL r j).take i)))) ∧ Row w2 B 3 1 (.slice A5 j c5) j (intsV (Poly.ints (Gf.sqsL r j))) ∧ MS w B f ge gl q w2 ∧ p ≤ q ∧ q ≤ p + 14 * i) (fun _ s34 _ => j - (intOf s34).toNat)
      case atStart => exact ⟨0, 1, p, rfl, by omega, ⟨rfl⟩, HC0.out.1, HC0.out.2.1, HC0.out.2.2, Nat.le_refl _, by omega⟩
      case round =>
        obtain ⟨i, m, q, rfl, hij, HMI, hrc, hrr, hms, hq1, hq2⟩ := hrel
        obtain ⟨A7, c7, rfl, hjl, hc7, hc7m, hrd7⟩ := hrc.readInts
        obtain ⟨c, hcd⟩ : ∃ c, c = Gf.prodL [1] ((Gf.sqsL r j).take i) := ⟨_, rfl⟩
        rw [← hcd] at hrc hrd7 hjl
        have HRI := Aside.mk (And.intro hrc (And.intro hrr (And.intro hms (And.intro hrd7 (And.intro hcd (And.intro hjl (And.intro hq1 hq2)))))))
        have hms0 := hms.base
        clear hrc hrr hms hrd7 hcd hjl hq1 hq2
        have hi1 : IntKind.i64.wrap ((i : Int) + 1) = ((i + 1 : Nat) : Int) := by rw [IntKind.wrap_i64]; omega
        by_cases hlt : i < j
        · obtain ⟨A5', c5', he5, hl5, _, _, hrd5⟩ := HRI.out.2.1.readInts
          injection he5 with hA5 _ hc5'
          subst hA5; subst hc5'
          obtain ⟨b5, o5, rfl, hb5, hy5⟩ := hrd5 i hlt
          obtain ⟨a, ha⟩ : ∃ a, a = Gf.sqs r i := ⟨_, rfl⟩
          replace hy5 : wr.cell? ⟨b5, o5 + i, none⟩ = some (.int .i64 (a : Int)) := by
            rw [hy5, ha]
            simp [Poly.ints, Gf.sqsL, List.getD_eq_getElem?_getD, hlt]
          have HA := Aside.mk (And.intro ha hl5)
          have hi0 : (0 : Int) ≤ (i : Int) := by omega
          have hi2 : (i : Int) < (j : Int) := by omega
          obtain ⟨m2, hm2⟩ : ∃ m2, m2 = m + 1 := ⟨_, rfl⟩
          have hm13 : m ≤ 13 := by have := HMI.out; omega
          have wm : IntKind.i64.wrap ((m : Int) + 1) = (m2 : Int) := by rw [IntKind.wrap_i64]; omega
          have hmk := make_ints m2 (by omega)
          have HM2 := Aside.mk (And.intro hm2 hm13)
          have HZ := Row.zeros wr B 3 (.int .i64 0) m2 hms0 (by simp only [maxLen]; omega)
          have hz0 : List.replicate m2 (Value.int .i64 0) = nextV c a 0 0 := by
            rw [nextV_zero]
            congr 1
            have := HRI.out.2.2.2.2.2.1
            rw [ints_len] at this
            omega
          rw [hz0] at HZ
          have bZ := (Below.refl B wr).alloc hms0 (.cells (madeCells #[.int .i64 0] m2) 3)
          have HN0 := Aside.mk (And.intro HZ (And.intro (HRI.out.1.alloc (.cells (madeCells #[.int .i64 0] m2) 3)) (And.intro (HRI.out.2.1.alloc (.cells (madeCells #[.int .i64 0] m2) 3)) (HRI.out.2.2.1.below bZ))))
          have HBL := Aside.mk (And.intro (fun k (hk : (Value.slice A7 m c7).ownBlock = some k) => (HRI.out.1.blk k hk).2.1) (HRI.out.2.1.blk b5 rfl).2.1)
          clear ha hl5 hm2 hm13 HZ hz0 bZ hrd5
          go_wp2_with fail
          clear hmk
          obtain ⟨gn, hgn⟩ : ∃ gn, gn = wr.heap.size := ⟨_, rfl⟩
          rw [← hgn] at HN0 HBL hms0 ⊢
          generalize wr.alloc (.cells (madeCells #[.int .i64 0] m2) 3) = w4 at *
          have HGN := Aside.mk hms0
          clear hgn hms0 hy5
          have hcl : c.length = m := by have := HRI.out.2.2.2.2.2.1; rw [ints_len] at this; exact this.symm
          have hcF : Gf.AllF c := by rw [HRI.out.2.2.2.2.1]; exact Gf.prodL_lt _ Gf.one_lt
          have HCL := Aside.mk (And.intro hcl hcF)
          clear hcl hcF
          go_loopw [44] (fun s44 w5 => ∃ e q2 : Nat, s44 = .int .i64 (e : Int) ∧ e ≤ m ∧ Row w5 B 3 1 (.slice (some ⟨gn, 0, none⟩) m2 m2) m2 (nextV c a e e) ∧ Row w5 B 3 1 (.slice A7 m c7) m (intsV (Poly.ints c)) ∧ Row w5 B 3 1 (.slice (some ⟨b5, o5, none⟩) j c5) j (intsV (Poly.ints (Gf.sqsL r j))) ∧ MS w B f ge gl q2 w5 ∧ q ≤ q2 ∧ q2 ≤ q + e) (fun s44 _ => m - (intOf s44).toNat)
          case atStart => exact ⟨0, q, rfl, by omega, HN0.out.1, HN0.out.2.1, HN0.out.2.2.1, HN0.out.2.2.2, Nat.le_refl _, by omega⟩
          case round =>
            obtain ⟨e, q2, rfl, hem, hrn, hrc, hrr, hms, hq3, hq4⟩ := hrel
            have he1 : IntKind.i64.wrap ((e : Int) + 1) = ((e + 1 : Nat) : Int) := by have := HM2.out.2; rw [IntKind.wrap_i64]; omega
            by_cases helt : e < m
            · obtain ⟨A7', c7', hev7, hl7, _, _, hrd7⟩ := hrc.readInts
              injection hev7 with hA7 _ hc7'
              subst hA7; subst hc7'
              obtain ⟨b7, o7, rfl, hb7, hy7⟩ := hrd7 e helt
              obtain ⟨v, hv⟩ : ∃ v, v = c.getD e 0 := ⟨_, rfl⟩
              replace hy7 : wr.cell? ⟨b7, o7 + e, none⟩ = some (.int .i64 (v : Int)) := by
                rw [hy7, hv]
                have hel : e < c.length := by rw [HCL.out.1]; exact helt
                simp [Poly.ints, List.getD_eq_getElem?_getD, hel]
              have hv8 : v < 8192 := by rw [hv]; exact HCL.out.2.getD e
              have ha8 : a < 8192 := by rw [HA.out.1]; exact Gf.sqs_lt HR.out.2.1 i
              obtain ⟨e1, hee⟩ : ∃ e1, e1 = e + 1 := ⟨_, rfl⟩
              rw [← hee] at he1
              have hat1 := hrn.at_ rfl e1 (by rw [hee, HM2.out.1]; omega)
              rw [Nat.zero_add, nextV_get (by rw [HCL.out.1]; omega)] at hat1
              have hst1 := hrn.store rfl e1 (by rw [hee, HM2.out.1]; omega) (.int .i64 ((nextC c a e e e1 ^^^ v : Nat) : Int))
              have hn1 : (nextV c a e e).set e1 (.int .i64 ((nextC c a e e e1 ^^^ v : Nat) : Int)) = nextV c a (e + 1) e := by
                rw [hee, hv]; exact nextV_one (by rw [HCL.out.1]; exact helt)
              rw [hn1, Nat.zero_add] at hst1
              have hx8 : ∀ d k, nextC c a d e k < 8192 := fun d k => by
                unfold nextC
                refine Gf.xor_lt ?_ ?_
                · split
                  · exact HCL.out.2.getD _
                  · omega
                · split
                  · exact Gf.mul_lt _ (HCL.out.2.getD _)
                  · omega
              obtain ⟨x1, hx1⟩ : ∃ x1, x1 = nextC c a e e e1 := ⟨_, rfl⟩
              have hx18 : x1 < 8192 := by rw [hx1]; exact hx8 _ _
              rw [← hx1] at hat1 hst1
              have xr1 : bits .xor .i64 (x1 : Int) (v : Int) = ((x1 ^^^ v : Nat) : Int) := i64_xor_nat (by omega) (by omega)
              have hne7 : b7 ≠ gn := by have := HBL.out.1 b7 rfl; omega
              have hne5 : b5 ≠ gn := by have := HBL.out.2; omega
              have bW : Below B wr (wr.setCell ⟨gn, e1, none⟩ (.int .i64 ((x1 ^^^ v : Nat) : Int))) := (Below.refl _ _).setCell (p := ⟨gn, e1, none⟩) HGN.out _
              have hrc6 := hrc.kept hst1.2 (.inr (by simp only [Value.ownBlock, ne_eq, Option.some.injEq]; exact hne7))
              have hrr6 := hrr.kept hst1.2 (.inr (by simp only [Value.ownBlock, ne_eq, Option.some.injEq]; exact hne5))
              have hms6 := hms.below bW
              have h01 : (0 : Int) ≤ (e1 : Int) := by omega
              have h02 : (e1 : Int) < (m2 : Int) := by rw [hee, HM2.out.1]; omega
              have h03 : (0 : Int) ≤ (e : Int) := by omega
              have h04 : (e : Int) < (m : Int) := by omega
              have h05 : (e : Int) < (m2 : Int) := by rw [HM2.out.1]; omega
              have H6 := Aside.mk (And.intro hst1.1 (And.intro hrc6 (And.intro hrr6 (And.intro hms6 (And.intro hq3 (And.intro hq4 (And.intro hee (And.intro hv (And.intro hv8 (And.intro ha8 helt))))))))))
              clear hl7 hrd7 hb7 hv hee hn1 hx8 hx1 hst1 hrc6 hrr6 hms6 bW hrn hrc hrr hms hq3 hq4 hne7 hne5
              go_upto_region 17 with fail
              generalize wr.setCell ⟨gn, e1, none⟩ (.int .i64 ((x1 ^^^ v : Nat) : Int)) = w6 at *
              obtain ⟨hrn6, hrc6, hrr6, hms6, hq3, hq4, hee, hv, hv8, ha8, helt⟩ := H6.out
              have hat2 := hrn6.at_ rfl e (by have := HM2.out.1; omega)
              rw [Nat.zero_add, nextV_get (by rw [HCL.out.1]; omega)] at hat2
              obtain ⟨x2, hx2⟩ : ∃ x2, x2 = nextC c a (e + 1) e e := ⟨_, rfl⟩
              have hx28 : x2 < 8192 := by
                rw [hx2]
                unfold nextC
                rw [if_neg (show ¬ e < e by omega), Nat.xor_zero]
                split
                · exact HCL.out.2.getD _
                · omega
              obtain ⟨z, hz⟩ : ∃ z, z = Gf.mul v a := ⟨_, rfl⟩
              have hz8 : z < 8192 := by rw [hz]; exact Gf.mul_lt _ hv8
              have xr2 : bits .xor .i64 (x2 : Int) (z : Int) = ((x2 ^^^ z : Nat) : Int) := i64_xor_nat (by omega) (by omega)
              have hn2 : (nextV c a (e + 1) e).set e (.int .i64 ((x2 ^^^ z : Nat) : Int)) = nextV c a (e + 1) (e + 1) := by
                rw [hx2, hz, hv]; exact nextV_two (by rw [HCL.out.1]; exact helt)
              have hzz : Gf.mul (lowN (v : Int)) (lowN (a : Int)) = z := by rw [lowN_of_lt hv8, lowN_of_lt ha8, hz]
              rw [← hx2] at hat2
              obtain ⟨y2c, y2f⟩ := hat2
              have b6 : Below B w6 w6.drew := (Below.refl _ _).drew
              have H7 := Aside.mk (And.intro hrn6.drew (And.intro hrc6.drew (And.intro hrr6.drew (And.intro (hms6.below b6) (And.intro hn2 (And.intro hzz (And.intro hq3 hq4)))))))
              have HQ2 : Aside (q2 ≤ 1000000) := ⟨by have := HRI.out.2.2.2.2.2.2; have := HR.out.2.2.1; have := HM2.out.2; omega⟩
              have HEE := Aside.mk (And.intro hee helt)
              clear hrn6 hrc6 hrr6 hms6 hee hv hv8 ha8 helt hz hn2 hzz b6 hq3 hq4
              have HCALL : Aside (∀ e' w7, AtPost w6.drew f ge gl (q2 + 1) (.int .i64 ((z : Nat) : Int)) e' w7 → e' = .returned (.int .i64 (z : Int)) ∧ w7.cell? ⟨gn, e, none⟩ = some (.int .i64 (x2 : Int)) ∧ w7.frozen? ⟨gn, e, none⟩ = false ∧ Aside (Row w7 B 3 1 (.slice (some ⟨gn, 0, none⟩) m2 m2) m2 (nextV c a (e + 1) e) ∧ Row w7 B 3 1 (.slice (some ⟨b7, o7, none⟩) m c7) m (intsV (Poly.ints c)) ∧ Row w7 B 3 1 (.slice (some ⟨b5, o5, none⟩) j c5) j (intsV (Poly.ints (Gf.sqsL r j))) ∧ MS w B f ge gl (q2 + 1) w7)) := ⟨by
                rintro e' w7 ⟨rfl, hM7, hg7⟩
                have hr7 := Row.call H7.out.1 H7.out.2.2.2.1 hg7
                have h7 := hr7.at_ rfl e (by have := HM2.out.1; have := HEE.out.2; omega)
                rw [Nat.zero_add, nextV_get (by rw [HCL.out.1]; have := HEE.out.2; omega), ← hx2] at h7
                exact ⟨rfl, h7.1, h7.2, ⟨hr7, Row.call H7.out.2.1 H7.out.2.2.2.1 hg7, Row.call H7.out.2.2.1 H7.out.2.2.2.1 hg7, H7.out.2.2.2.1.call hg7 hM7⟩⟩⟩
              clear hx2 H6 hat1
              go_region_with ((go_at_call 153; refine (gf_mul_at f ge gl q2 v a _ H7.out.2.2.2.1.at_ HQ2.out).mono ?_; rw [H7.out.2.2.2.2.2.1]; intro e' w7 h7; obtain ⟨rfl, c7c, c7f, HR7⟩ := HCALL.out e' w7 h7; clear h7))
              all_goals go_wp2
              all_goals
                go_roundw
                case rel =>
                  obtain ⟨hr7, hc7r, hrr7, hms7⟩ := HR7.out
                  obtain ⟨hee, helt⟩ := HEE.out
                  have hst := hr7.store rfl e (by have := HM2.out.1; omega) (.int .i64 ((x2 ^^^ z : Nat) : Int))
                  rw [H7.out.2.2.2.2.1, Nat.zero_add] at hst
                  refine ⟨e1, q2 + 1, rfl, by omega, by rw [hee]; exact hst.1, hc7r.kept hst.2 (.inr (by simp only [Value.ownBlock, ne_eq, Option.some.injEq]; have := HBL.out.1 b7 rfl; omega)), hrr7.kept hst.2 (.inr (by simp only [Value.ownBlock, ne_eq, Option.some.injEq]; have := HBL.out.2; omega)), hms7.below ((Below.refl _ _).setCell (p := ⟨gn, e, none⟩) HGN.out _), ?_, ?_⟩
                  · have := H7.out.2.2.2.2.2.2.1; omega
                  · have := H7.out.2.2.2.2.2.2.2; omega
                case measure => have := HEE.out; simp [intOf]; omega
            · obtain rfl : e = m := by omega
              have hnx := nextV_end c a
              rw [HCL.out.1] at hnx
              rw [hnx] at hrn
              have H6 := Aside.mk (And.intro hrn (And.intro hrr (And.intro hms (And.intro hq3 hq4))))
              clear hnx hrn hrr hms hrc hq3 hq4
              go_wp2
              go_roundw
              case rel =>
                have hpr : Gf.prodL [1] ((Gf.sqsL r j).take (i + 1)) = Gf.mulx c a := by
                  rw [List.take_add_one, show (Gf.sqsL r j)[i]? = some a by rw [HA.out.1]; simp [Gf.sqsL, hlt], HRI.out.2.2.2.2.1]
                  simp [Gf.prodL]
                refine ⟨i + 1, m2, q2, rfl, by omega, ⟨by rw [HM2.out.1, HMI.out]⟩, by rw [hpr]; exact H6.out.1, H6.out.2.1, H6.out.2.2.1, ?_, ?_⟩
                · have := H6.out.2.2.2; have := HRI.out.2.2.2.2.2.2; omega
                · have := H6.out.2.2.2; have := HRI.out.2.2.2.2.2.2; have := HM2.out.2; omega
              case measure => simp [intOf]; omega
        · obtain rfl : i = j := by omega
          have hcc : c = Gf.coefs r := by
            rw [HRI.out.2.2.2.2.1, List.take_of_length_le (by rw [sqsL_len]; exact Nat.le_refl _), ← HNJ.out, ← HRT.out]
            rfl
          have hbin := Gf.coefs_bin HR.out.1 HR.out.2.1
          have hmn : Gf.minN r = Gf.mask c := by rw [hcc]; rfl
          have hclen : c.length = m := by have := HRI.out.2.2.2.2.2.1; rw [ints_len] at this; exact this.symm
          have hm14 : m ≤ 14 := by have := HMI.out; omega
          have HCC := Aside.mk (And.intro hmn (And.intro hclen (And.intro hm14 (show ∀ v ∈ c, v = 0 ∨ v = 1 by rw [hcc]; exact hbin))))
          clear hcc hbin hmn hclen hm14 hms0
          have wm : IntKind.i64.wrap ((m : Int) - 1) = (m : Int) - 1 := by have := HCC.out.2.2.1; rw [IntKind.wrap_i64]; omega
          obtain ⟨P, hP⟩ : ∃ P, P = Gf.minN r := ⟨_, rfl⟩
          obtain ⟨w0, hw0⟩ : ∃ w0, w0 = wr := ⟨_, rfl⟩
          have HW0 := Aside.mk hw0
          have HPP := Aside.mk hP
          rw [← hP]
          clear hP hw0
          go_wp2
          go_loopw [13, 14] (fun s13 s14 w5 => ∃ (e : Nat) (L : List Nat), s14 = .int .i64 ((e : Int) - 1) ∧ e ≤ m ∧ Aside (Poly.fall m P = L ++ Poly.fall e P) ∧ Row w5 w0.heap.size 3 1 s13 L.length (intsV (Poly.ints L)) ∧ Below w0.heap.size w0 w5) (fun _ s14 _ => ((intOf s14) + 1).toNat)
          case atStart => exact ⟨m, [], rfl, Nat.le_refl _, ⟨rfl⟩, Row.nil _ _ _ _, by rw [HW0.out]; exact Below.refl _ _⟩
          case round =>
            rw [← HW0.out] at HRI
            obtain ⟨e, L, rfl, hem, HL, hrl, hbl⟩ := hrel
            have we : IntKind.i64.wrap ((e : Int) - 1 - 1) = (e : Int) - 1 - 1 := by have := HCC.out.2.2.1; rw [IntKind.wrap_i64]; omega
            cases e with
            | zero =>
              have hn0 : ¬ (0 : Int) ≤ ((0 : Nat) : Int) - 1 := by omega
              have HLF := Aside.mk (And.intro hrl hbl)
              clear hrl hbl
              go_wp2
              go_ret
              have hms := HRI.out.2.2.1.below (HLF.out.2.mono HRI.out.2.2.1.base)
              have hfall : Poly.fall 14 P = L := by
                have h1 := HL.out
                rw [show Poly.fall 0 P = [] from rfl, List.append_nil] at h1
                rw [← h1]
                refine Poly.fall_more HCC.out.2.2.1 ?_
                rw [HPP.out, HCC.out.1, ← HCC.out.2.1]
                exact Gf.mask_lt c
              refine ⟨_, ge, gl, q, rfl, HS0.out.1, hms.at_, ?_, ?_, hms.old, ?_⟩
              · exact HRI.out.2.2.2.2.2.2.1
              · have := HRI.out.2.2.2.2.2.2.2; omega
              · rw [← HPP.out, hfall]; exact HLF.out.1.mono (Nat.le_trans HS0.out.2.ws HRI.out.2.2.1.base)
            | succ e =>
              obtain ⟨b7, o7, rfl, hb7, hy7⟩ := HRI.out.2.2.2.1 e (by omega)
              obtain ⟨v, hv⟩ : ∃ v, v = c.getD e 0 := ⟨_, rfl⟩
              have hel : e < c.length := by rw [HCC.out.2.1]; omega
              have hvv : v = 0 ∨ v = 1 := HCC.out.2.2.2 v (by rw [hv, List.getD_eq_getElem?_getD, List.getElem?_eq_getElem hel]; exact List.getElem_mem _)
              have hy : wr.cell? ⟨b7, o7 + e, none⟩ = some (.int .i64 (v : Int)) := by
                rw [hbl.cell (p := ⟨b7, o7 + e, none⟩) hb7, hy7, hv]
                simp [Poly.ints, List.getD_eq_getElem?_getD, hel]
              have hbit : P.testBit e = decide (v = 1) := by rw [HPP.out, HCC.out.1, Gf.mask_bit, hv]
              have hsub : ((e + 1 : Nat) : Int) - 1 = (e : Int) := by omega
              have he0 : (0 : Int) ≤ (e : Int) := by omega
              have hem2 : (e : Int) < (m : Int) := by omega
              rw [hsub] at we ⊢
              have HB7 := Aside.mk (And.intro hbit (And.intro hem hsub))
              clear hy7 hv hel hbit hem hsub
              rcases hvv with rfl | rfl
              · have HLF := Aside.mk (And.intro hrl hbl)
                clear hrl hbl
                go_wp2
                go_roundw
                case rel => exact ⟨e, L, rfl, by have := HB7.out.2.1; omega, ⟨by rw [HL.out, Poly.fall_no (by rw [HB7.out.1]; rfl)]⟩, HLF.out.1, HLF.out.2⟩
                case measure => simp [intOf]
              · obtain ⟨A13, c13, rfl, _⟩ := hrl.slice
                have HLF := Aside.mk (And.intro hrl (And.intro hbl (show L.length ≤ 14 by
                  have h1 := congrArg List.length HL.out
                  rw [List.length_append] at h1
                  have h2 := Poly.fall_len P m
                  have := HCC.out.2.2.1
                  omega)))
                clear hrl hbl
                go_wp2_with (at_builtin; refine wpList_append_one (w0 := w0) w0.heap.size rfl _ _ 270 3 1 8 (.int .i64 0) rfl Tryz.underlying270 infoInt rfl (by decide) (.slice A13 L.length c13) L.length (intsV (Poly.ints L)) #[.int .i64 (e : Int)] rfl rfl rfl HLF.out.1 (by simp [Value.oneCell']) HLF.out.2.1 HLF.out.2.1.size (by have := HLF.out.2.2; omega) (by have := HLF.out.2.2; simp only [maxLen]; omega) ?_; intro v1 w3 hr1 hb1 hg1 hat1; have H1 := Aside.mk (And.intro hr1 hb1); clear hr1 hb1 hg1 hat1)
                go_roundw
                case rel =>
                  refine ⟨e, L ++ [e], rfl, by have := HB7.out.2.1; omega, ⟨by rw [HL.out, Poly.fall_yes (by rw [HB7.out.1]; rfl), List.append_assoc]; rfl⟩, ?_, H1.out.2⟩
                  rw [ints_app, intsV_append, List.length_append]
                  exact H1.out.1
                case measure => simp [intOf]
    · have HIN := Aside.mk (decide_eq_false (fun h => hin (ints_mem.1 h)))
      have HNI := Aside.mk hin
      clear hin
      go_upto_region 7 with (go_at_call 203; refine (sl_contains A5 j c5 (Poly.ints (Gf.sqsL r j)) _ _ (by rw [ints_len, sqsL_len]) (by omega) HRW.out.2.1).mono ?_; rw [HIN.out]; rintro e wc ⟨rfl, rfl⟩)
      have hj13 : j < 13 := by
        rcases Nat.lt_or_ge j 13 with h | h
        · exact h
        · exfalso
          obtain rfl : j = 13 := by omega
          rw [Gf.sqs_13 HR.out.1 HR.out.2.1] at HNI
          exact HNI.out (Gf.sqsL_mem.2 ⟨0, by omega, rfl⟩)
      have hpw := powN_sq hx
      have HPW := Aside.mk (And.intro hpw hj13)
      clear hpw hj13
      go_wp2_with (first | (at_builtin; refine wpList_append_one (w0 := wr) B rfl _ _ 36 3 1 8 (.int .i64 0) rfl Tryz.underlying36 infoInt rfl (by decide) (.slice A5 j c5) j (intsV (Poly.ints (Gf.sqsL r j))) #[.int .i64 ((Gf.sqs r j : Nat) : Int)] rfl rfl rfl HRW.out.1 (by simp [Value.oneCell']) (Below.refl _ _) HRW.out.2.2.base (by omega) (by simp only [maxLen]; omega) ?_; intro v1 w3 hr1 hb1 hg1 hat1; have H1 := Aside.mk (And.intro hr1 hb1); clear hr1 hb1 hg1 hat1) | (go_at_call 204; refine (gf_pow_at f ge gl p _ 2 _ (HRW.out.2.2.below H1.out.2).at_ (by omega) (by omega)).mono ?_; rw [HPW.out.1]; rintro e w4 ⟨rfl, hM4, hg4⟩))
      go_roundw
      case rel =>
        refine ⟨j + 1, rfl, by have := HPW.out.2; omega, ⟨?_, ?_⟩, ?_, (HRW.out.2.2.below H1.out.2).call hg4 hM4⟩
        · rw [Gf.sqsL_succ, List.nodup_append]
          exact ⟨HD.out.1, by simp, by intro a ha b hb; simp at hb; subst hb; intro e; subst e; exact HNI.out ha⟩
        · rw [← HD.out.2, show 14 - j = (14 - (j + 1)) + 1 by have := HPW.out.2; omega, Gf.rootsAux, if_neg HNI.out, ← Gf.sqsL_succ]
          rfl
        · have := H1.out.1
          rw [Gf.sqsL_succ, ints_app, intsV_append]
          exact Row.call this (HRW.out.2.2.below H1.out.2) hg4
      case measure =>
        have := H1.out.1
        obtain ⟨A1, c1, rfl, _⟩ := this.slice
        have := HPW.out.2
        simp [lenOf]
        omega
end Go.Proofs.YtkgacnenmflegaaGreatDoor
namespace Go.Proofs.YtkgacnenmflegaaGreatDoor
open Go.RowKit

def wordsV (n P : Nat) : List Value := (List.range n).map fun i => .int .u64 (Poly.wordN P i : Nat)
theorem wordsV_length (n P : Nat) : (wordsV n P).length = n := by simp [wordsV]
theorem wordsV_get {n P i : Nat} (h : i < n) : (wordsV n P).getD i undef = .int .u64 (Poly.wordN P i : Nat) := by simp [wordsV, List.getD_eq_getElem?_getD, h]
theorem wordsV_set {n P c j : Nat} (hc : c < 2 ^ 64) : (wordsV n P).set j (.int .u64 ((Poly.wordN P j ^^^ c : Nat) : Int)) = wordsV n (P ^^^ c * 2 ^ (64 * j)) := by
  apply List.ext_getElem
  · simp [wordsV]
  · intro i h1 h2
    simp only [wordsV, List.getElem_set, List.getElem_map, List.getElem_range]
    rw [Poly.wordN_put hc]
    by_cases e : j = i
    · subst e; simp
    · rw [if_neg e, if_neg (Ne.symm e)]
theorem wordsV_zero (n : Nat) : wordsV n 0 = List.replicate n (.int .u64 0) := by
  apply List.ext_getElem
  · rw [wordsV_length, List.length_replicate]
  · intro i h1 h2
    simp only [wordsV, List.getElem_map, List.getElem_range, List.getElem_replicate]
    rw [Poly.wordN_zero]; rfl
abbrev RowP (w : World) (b : Nat) (v : Value) (n P : Nat) : Prop := Row w b 239 1 v n (wordsV n P)
theorem RowP.cell {w : World} {b g off n c P : Nat} (h : RowP w b (.slice (some ⟨g, off, none⟩) n c) n P) {i : Nat} (hi : i < n) :
    w.cell? ⟨g, off + i, none⟩ = some (.int .u64 (Poly.wordN P i : Nat)) ∧ w.frozen? ⟨g, off + i, none⟩ = false := by
  have := Row.at_ h rfl i hi
  rwa [wordsV_get hi] at this
theorem RowP.set {w : World} {b g off n c P : Nat} (h : RowP w b (.slice (some ⟨g, off, none⟩) n c) n P) {i : Nat} (hi : i < n) {d : Nat} (hd : d < 2 ^ 64) :
    RowP (w.setCell ⟨g, off + i, none⟩ (.int .u64 ((Poly.wordN P i ^^^ d : Nat) : Int))) b (.slice (some ⟨g, off, none⟩) n c) n (P ^^^ d * 2 ^ (64 * i)) ∧
    w.grownBy (w.setCell ⟨g, off + i, none⟩ (.int .u64 ((Poly.wordN P i ^^^ d : Nat) : Int))) (some g) := by
  have := Row.store h rfl i (by omega) (.int .u64 ((Poly.wordN P i ^^^ d : Nat) : Int))
  rwa [wordsV_set hd] at this
theorem u64_xor {a b : Nat} (ha : a < 18446744073709551616) (hb : b < 18446744073709551616) : bits .xor .u64 (a : Int) (b : Int) = ((a ^^^ b : Nat) : Int) := u64_xor_nat a b ha hb

def FlipPost (w : World) (b g : Nat) (v : Value) (n P : Nat) (e : Ending) (w' : World) : Prop := e = .returned (.tuple #[]) ∧ RowP w' b v n P ∧ w.grownBy w' (some g)
theorem FlipPost.drew {w : World} {b g : Nat} {v : Value} {n P : Nat} {e : Ending} {w' : World} (h : FlipPost w b g v n P e w') : FlipPost w b g v n P e w'.drew :=
  ⟨h.1, h.2.1.drew, ⟨h.2.2.os, h.2.2.tape, h.2.2.output, h.2.2.size, h.2.2.block⟩⟩
set_option maxHeartbeats 1600000 in
theorem row_flip (b g off n c P e : Nat) (w : World) (hR : RowP w b (.slice (some ⟨g, off, none⟩) n c) n P) (he : e < 64 * n) (hn : n ≤ 1000000) :
    Calls Tryz.prog 223 #[.slice (some ⟨g, off, none⟩) n c, .int .i64 (e : Int)] w (FlipPost w b g (.slice (some ⟨g, off, none⟩) n c) n (P ^^^ 2 ^ e)) := by
  obtain ⟨q, hq⟩ : ∃ q, q = e / 64 := ⟨_, rfl⟩
  obtain ⟨r, hr⟩ : ∃ r, r = e % 64 := ⟨_, rfl⟩
  have hqn : q < n := by omega
  have hr64 : r < 64 := by omega
  have hd : 2 ^ r < 2 ^ 64 := Nat.pow_lt_pow_right (by omega) hr64
  obtain ⟨c1, z1⟩ := hR.cell hqn
  have hS := hR.set hqn hd
  have hwl := Poly.wordN_lt P q
  have hpe : P ^^^ 2 ^ r * 2 ^ (64 * q) = P ^^^ 2 ^ e := by rw [← Nat.pow_add]; congr 2; omega
  rw [hpe] at hS
  have hq1 : (e : Int) / 64 = (q : Int) := by omega
  have hr1 : (e : Int) % 64 = (r : Int) := by omega
  have hq2 : (0 : Int) ≤ (q : Int) := by omega
  have hq3 : (q : Int) < (n : Int) := by omega
  obtain ⟨d, hde⟩ : ∃ d, d = 2 ^ r := ⟨_, rfl⟩
  rw [← hde] at hS hd
  have hd2 : d < 18446744073709551616 := hd
  have hw : IntKind.u64.wrap ((2 : Int) ^ r) = (d : Int) := by
    rw [show ((2 : Int) ^ r) = (d : Int) by rw [hde, Int.natCast_pow]; rfl, IntKind.wrap_u64]
    omega
  have hx := u64_xor hwl hd2
  have HS := Aside.mk hS
  generalize Poly.wordN P q = x at *
  clear hS hpe hq hr hR hde hd
  go_enter Tryz.func223, Tryz.ntmps223
  go_region
  all_goals
    go_wp2
    go_end0
    exact FlipPost.drew ⟨rfl, HS.out⟩

/-! rowOf -/
theorem make_words (m : Nat) (h : m ≤ 1000000) (W : World) :
    (Instr.makeSlice 325 (.int .i64 (m : Int)) (.int .i64 (m : Int))).run Tryz.prog W = .ok (.slice (some ⟨W.heap.size, 0, none⟩) m m) (W.alloc (.cells (madeCells #[.int .u64 0] m) 239)) :=
  run_make_row' 325 239 (.int .u64 0) 8 Tryz.underlying325 (by kernel_rfl) rfl .i64 .i64 m (by omega) (by omega) W
theorem RowP.made (w : World) (b n : Nat) (hb : b ≤ w.heap.size) (hn : n ≤ 1000000) : RowP (w.alloc (.cells (madeCells #[.int .u64 0] n) 239)) b (.slice (some ⟨w.heap.size, 0, none⟩) n n) n 0 := by
  have h := Row.zeros w b 239 (.int .u64 0) n hb (by simp only [maxLen]; omega)
  rwa [← wordsV_zero] at h
/-- A row of 257 words of the call's own. -/
def RowOf (w : World) (n P : Nat) (e : Ending) (w' : World) : Prop := ∃ g, w.heap.size ≤ g ∧ e = .returned (.slice (some ⟨g, 0, none⟩) n n) ∧ RowP w' w.heap.size (.slice (some ⟨g, 0, none⟩) n n) n P ∧ Below w.heap.size w w'

set_option maxHeartbeats 1600000 in
theorem row_of (A : Option Addr) (len c : Nat) (l : List Int) (w : World) (hl : len = l.length) (hn : len ≤ 9223372036854775807) (hR : Rd w A len (fun i => .int .i64 (l.getD i 0))) :
    Calls Tryz.prog 206 #[.slice A len c] w (RowOf w 257 (Poly.bitsOf l)) := by
  have HR := Aside.mk (And.intro hl hR)
  have hmk : ∀ W : World, (Instr.makeSlice 325 (.int .i64 257) (.int .i64 257)).run Tryz.prog W = .ok (.slice (some ⟨W.heap.size, 0, none⟩) 257 257) (W.alloc (.cells (madeCells #[.int .u64 0] 257) 239)) := make_words 257 (by omega)
  have hm := RowP.made w w.heap.size 257 (Nat.le_refl _) (by omega)
  have hb := (Below.refl w.heap.size w).alloc (Nat.le_refl _) (.cells (madeCells #[.int .u64 0] 257) 239)
  obtain ⟨cs, hcs⟩ : ∃ cs, cs = madeCells #[Value.int .u64 0] 257 := ⟨_, rfl⟩
  rw [← hcs] at hmk hm hb
  have HM := Aside.mk (And.intro hm hb)
  clear hl hR hcs hm hb
  obtain ⟨g, hg⟩ : ∃ g, g = w.heap.size := ⟨_, rfl⟩
  have HG := Aside.mk hg
  clear hg
  go_enter Tryz.func206, Tryz.ntmps206
  go_wp2
  rw [← HG.out]
  go_loopw [9] (fun s9 wr => ∃ k : Nat, k ≤ len ∧ s9 = .int .i64 k ∧ RowP wr w.heap.size (.slice (some ⟨g, 0, none⟩) 257 257) 257 (Poly.bitsOf (l.take k)) ∧ Below w.heap.size w wr) (fun s9 _ => len - (intOf s9).toNat)
  case atStart => exact ⟨0, by omega, rfl, by rw [HG.out]; exact HM.out.1, HM.out.2⟩
  case round =>
    obtain ⟨k, hk, rfl, hr, hb⟩ := hrel
    have HK := Aside.mk (And.intro hr hb)
    clear hr hb
    by_cases hlt : k < len
    · obtain ⟨b, off, rfl, hbl, hc⟩ := HR.out.2 k hlt
      have y1 : wr.cell? ⟨b, off + k, none⟩ = some (.int .i64 (l.getD k 0)) := (HK.out.2.cell (p := ⟨b, off + k, none⟩) hbl).trans hc
      have hts : Poly.bitsOf (l.take (k + 1)) = Poly.put (Poly.bitsOf (l.take k)) (l.getD k 0) := by
        have h : k < l.length := by have := HR.out.1; omega
        rw [List.take_succ_eq_append_getElem h, Poly.bitsOf_snoc]
        simp [List.getD_eq_getElem?_getD, List.getElem?_eq_getElem h]
      generalize l.getD k 0 = y at *
      have hk2 : (k : Int) < (len : Int) := by omega
      have HT := Aside.mk hts
      clear hts hc
      by_cases h1 : 0 ≤ y
      · obtain ⟨e, rfl⟩ := Int.eq_ofNat_of_zero_le h1
        by_cases h2 : e ≤ 16384
        · have h3 : (e : Int) ≤ 16384 := by omega
          have hp : Poly.put (Poly.bitsOf (l.take k)) (e : Int) = Poly.bitsOf (l.take k) ^^^ 2 ^ e := by
            unfold Poly.put
            rw [if_pos ⟨h1, h3⟩, Int.toNat_natCast]
          have HP := Aside.mk hp
          clear hp
          go_wp2_with (go_at_call 223; refine (row_flip w.heap.size g 0 257 257 _ e _ HK.out.1 (by omega) (by omega)).mono ?_; rintro e w3 ⟨rfl, hr3, hg3⟩)
          go_roundw
          case rel => exact ⟨k + 1, by omega, by go_num, by rw [HT.out, HP.out]; exact hr3, HK.out.2.grown hg3 HK.out.2.size (fun j hj => by injection hj with hj; have := HG.out; omega)⟩
          case measure => simp [intOf]; omega
        · have h3 : ¬ (e : Int) ≤ 16384 := by omega
          have hp : Poly.put (Poly.bitsOf (l.take k)) (e : Int) = Poly.bitsOf (l.take k) := by
            unfold Poly.put
            rw [if_neg (by omega)]
          have HP := Aside.mk hp
          clear hp
          go_wp2
          go_roundw
          case rel => exact ⟨k + 1, by omega, by go_num, by rw [HT.out, HP.out]; exact HK.out.1, HK.out.2⟩
          case measure => simp [intOf]; omega
      · have hp : Poly.put (Poly.bitsOf (l.take k)) y = Poly.bitsOf (l.take k) := by
          unfold Poly.put
          rw [if_neg (by omega)]
        have HP := Aside.mk hp
        clear hp
        go_wp2
        go_roundw
        case rel => exact ⟨k + 1, by omega, by go_num, by rw [HT.out, HP.out]; exact HK.out.1, HK.out.2⟩
        case measure => simp [intOf]; omega
    · have hkl : l.take k = l := List.take_of_length_le (by have := HR.out.1; omega)
      have HL := Aside.mk hkl
      clear hkl
      go_wp2
      go_ret
      exact ⟨g, by rw [HG.out]; exact Nat.le_refl _, rfl, by have := HK.out.1; rwa [HL.out] at this, HK.out.2⟩
end Go.Proofs.YtkgacnenmflegaaGreatDoor
namespace Go.Proofs.YtkgacnenmflegaaGreatDoor
open Go.RowKit

theorem bitLen_log2 {x : Nat} (h0 : x ≠ 0) (h : x < 18446744073709551616) : Lib.bitLen x = x.log2 + 1 := by
  have h1 := Lib.bitLen_shift x.log2 x (Nat.log2_self_le h0) h
  have h2 : x / 2 ^ x.log2 = 1 := by
    have h3 := Nat.log2_self_le h0
    have h4 := Poly.lt_two_log2 x
    apply Nat.div_eq_of_lt_le
    · omega
    · rw [Nat.pow_succ] at h4; omega
  rw [h1, h2]
  have : Lib.bitLen 1 = 1 := by decide
  rw [this]
theorem log2_lt64 {x : Nat} (h0 : x ≠ 0) (h : x < 18446744073709551616) : x.log2 < 64 := Poly.log2_lt h0 (n := 64) h
theorem len64 (x : Nat) (w : World) (h0 : x ≠ 0) (h : x < 18446744073709551616) :
    Calls Tryz.prog 195 #[.int .u64 (x : Int)] w fun e w' => e = .returned (.int .i64 ((x.log2 + 1 : Nat) : Int)) ∧ w = w' :=
  (Tryz.bits_Len64 x w (by omega) (by omega)).mono fun e w' ⟨h1, h2⟩ => ⟨by rw [h1, Int.toNat_natCast, bitLen_log2 h0 h], h2.symm⟩
def deg (P : Nat) : Int := if P = 0 then -1 else (P.log2 : Int)
theorem low_of_zero {P j : Nat} (h : P < 2 ^ (64 * (j + 1))) (h0 : Poly.wordN P j = 0) : P < 2 ^ (64 * j) := by
  have h1 := Poly.low_step P j
  rw [Nat.mod_eq_of_lt h, h0, Nat.zero_mul, Nat.xor_zero] at h1
  rw [h1]
  exact Nat.mod_lt _ (Nat.pow_pos (by omega))
theorem word_top {P j : Nat} (h : P < 2 ^ (64 * (j + 1))) (h0 : Poly.wordN P j ≠ 0) : P ≠ 0 ∧ P.log2 = 64 * j + (Poly.wordN P j).log2 := by
  have hd : P / 2 ^ (64 * j) < 2 ^ 64 := by
    apply Nat.div_lt_of_lt_mul
    rw [← Nat.pow_add]
    exact h
  have he : Poly.wordN P j = P / 2 ^ (64 * j) := Nat.mod_eq_of_lt hd
  rw [he] at h0 ⊢
  have hP : P ≠ 0 := fun e => by rw [e, Nat.zero_div] at h0; exact h0 rfl
  refine ⟨hP, ?_⟩
  have hl : 64 * j ≤ P.log2 := by
    rcases Nat.lt_or_ge P.log2 (64 * j) with h1 | h1
    · exfalso
      apply h0
      exact Nat.div_eq_of_lt ((Nat.log2_lt hP).1 h1)
    · exact h1
  have h2 : (P / 2 ^ (64 * j)).log2 = P.log2 - 64 * j := by
    have ha := Nat.log2_self_le hP
    have hb := Poly.lt_two_log2 P
    apply Nat.le_antisymm
    · have : P / 2 ^ (64 * j) < 2 ^ (P.log2 - 64 * j + 1) := by
        apply Nat.div_lt_of_lt_mul
        rw [← Nat.pow_add, show 64 * j + (P.log2 - 64 * j + 1) = P.log2 + 1 by omega]
        exact hb
      have := (Nat.log2_lt h0).2 this
      omega
    · rw [Nat.le_log2 h0]
      rw [Nat.le_div_iff_mul_le (Nat.pow_pos (by omega)), ← Nat.pow_add, show P.log2 - 64 * j + 64 * j = P.log2 by omega]
      exact ha
  omega

set_option maxHeartbeats 1600000 in
theorem row_degree (b g off n c P : Nat) (w : World) (hR : RowP w b (.slice (some ⟨g, off, none⟩) n c) n P) (hP : P < 2 ^ (64 * n)) (hn : n ≤ 1000000) :
    Calls Tryz.prog 207 #[.slice (some ⟨g, off, none⟩) n c] w fun e w' => e = .returned (.int .i64 (deg P)) ∧ w = w' := by
  have HR := Aside.mk hR
  have HP := Aside.mk hP
  clear hR hP
  go_enter Tryz.func207, Tryz.ntmps207
  go_wp2
  go_loop [3] (fun s3 => ∃ j : Nat, j ≤ n ∧ s3 = .int .i64 ((j : Int) - 1) ∧ Aside (P < 2 ^ (64 * j))) (fun s3 => ((intOf s3) + 1).toNat)
  case atStart => exact ⟨n, by omega, rfl, HP⟩
  case round =>
    obtain ⟨j, hj, rfl, HJ⟩ := hrel
    by_cases h0 : j = 0
    · subst h0
      have hd : deg P = -1 := by
        have := HJ.out
        rw [Nat.mul_zero, Nat.pow_zero] at this
        unfold deg
        rw [if_pos (by omega)]
      have HD := Aside.mk hd
      clear hd
      go_wp2
      go_ret
      exact ⟨by rw [HD.out]; rfl, rfl⟩
    · obtain ⟨i, rfl⟩ : ∃ i, j = i + 1 := ⟨j - 1, by omega⟩
      have hin : i < n := by omega
      have c1 := (HR.out.cell hin).1
      have hwl := Poly.wordN_lt P i
      have e1 : ((i + 1 : Nat) : Int) - 1 = (i : Int) := by omega
      have e2 : IntKind.i64.wrap ((i : Int) - 1) = (i : Int) - 1 := by rw [IntKind.wrap_i64]; omega
      have hi0 : (0 : Int) ≤ (i : Int) := by omega
      have hi1 : (i : Int) < (n : Int) := by omega
      rw [e1]
      clear e1
      by_cases hz : Poly.wordN P i = 0
      · have hlow := low_of_zero HJ.out hz
        rw [hz] at c1
        have c2 : w.cell? ⟨g, off + i, none⟩ = some (.int .u64 0) := c1
        have HL := Aside.mk hlow
        clear hz hlow c1 hwl
        go_wp2
        go_round
        case rel => exact ⟨i, by omega, rfl, HL⟩
        case measure => simp [intOf]
      · obtain ⟨hP0, htop⟩ := word_top HJ.out hz
        have hd : deg P = ((64 * i + (Poly.wordN P i).log2 : Nat) : Int) := by
          unfold deg
          rw [if_neg hP0, htop]
        have hl6 := log2_lt64 hz hwl
        have hL := Aside.mk (fun W => len64 (Poly.wordN P i) W hz hwl)
        have hz2 : ((Poly.wordN P i : Int) == 0) = false := by simp; omega
        have hz3 : ((Poly.wordN P i : Int) != 0) = true := by simp; omega
        have HD := Aside.mk hd
        clear hP0 htop hd hz
        generalize Poly.wordN P i = x at *
        generalize x.log2 = t at *
        have hs : IntKind.i64.wrap (64 * (i : Int) + ((t + 1 : Nat) : Int) - 1) = 64 * (i : Int) + (t : Int) := by rw [IntKind.wrap_i64]; omega
        go_wp2_with (go_at_call 195; refine (hL.out _).mono ?_; rintro e w1 ⟨rfl, rfl⟩)
        go_ret
        exact ⟨by rw [HD.out]; (first | rfl | (show Ending.returned (.int .i64 _) = _; congr 2; omega)), rfl⟩

/-- The exponents that are answered. -/
def ListOf (w : World) (l : List Nat) (e : Ending) (w' : World) : Prop := ∃ v, e = .returned v ∧ Row w' w.heap.size 3 1 v l.length (intsV (Poly.ints l)) ∧ Below w.heap.size w w'
theorem ints_length (l : List Nat) : (Poly.ints l).length = l.length := by simp [Poly.ints]
theorem ints_append (l m : List Nat) : Poly.ints (l ++ m) = Poly.ints l ++ Poly.ints m := by simp [Poly.ints]
end Go.Proofs.YtkgacnenmflegaaGreatDoor
