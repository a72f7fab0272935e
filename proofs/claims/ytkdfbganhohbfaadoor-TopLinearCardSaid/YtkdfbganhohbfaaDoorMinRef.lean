/-
  The least polynomial by elimination, as the document does it; that it is the product over the roots.
-/
import Derived.Test.YtkdfbganhohbfaaDoorMinLaw
namespace Go.Proofs.YtkdfbganhohbfaaDoor.Gf

/-- The polynomial of the element, as a number. -/
def minN (r : Nat) : Nat := mask (coefs r)
theorem minN_lt {r : Nat} (h0 : 0 < r) (h : r < 8192) : minN r < 16384 := by
  obtain ⟨n, e, hR⟩ := roots_round h0 h
  have h1 := mask_lt (coefs r)
  rw [coefs_len, e, show (sqsL r n).length = n by simp [sqsL]] at h1
  exact Nat.lt_of_lt_of_le h1 (show 2 ^ (n + 1) ≤ 2 ^ 14 from Nat.pow_le_pow_right (by omega) (by have := hR.le; omega))
theorem minN_ev {r x : Nat} (h0 : 0 < r) (h : r < 8192) : evN 14 (minN r) x = ev (coefs r) x := by
  rw [← evN_mask (coefs_bin h0 h)]
  obtain ⟨n, e, hR⟩ := roots_round h0 h
  exact evN_more _ _ _ (by rw [coefs_len, e, show (sqsL r n).length = n by simp [sqsL]]; have := hR.le; omega) (mask_lt _)
theorem minN_zero {r x : Nat} (h0 : 0 < r) (h : r < 8192) (hx : x < 8192) : evN 14 (minN r) x = 0 ↔ x ∈ rootsF r := by rw [minN_ev h0 h, coefs_zero h0 h hx]
/-- What is known of it. -/
structure Least (r n P : Nat) : Prop where
  ge : 2 ^ n ≤ P
  lt : P < 2 ^ (n + 1)
  le : n ≤ 13
  root : evN 14 P r = 0
  few : ∀ d M, 2 ^ d ≤ M → M < 2 ^ (d + 1) → d ≤ 13 → evN 14 M r = 0 → n ≤ d
theorem minN_least {r : Nat} (h0 : 0 < r) (h : r < 8192) : Least r (rootsF r).length (minN r) := by
  obtain ⟨n, e, hR⟩ := roots_round h0 h
  have hl : (rootsF r).length = n := by rw [e]; simp [sqsL]
  have hlt := mask_lt (coefs r)
  rw [coefs_len] at hlt
  refine ⟨?_, hlt, by rw [hl]; exact hR.le, (minN_zero h0 h h).2 ?_, ?_⟩
  · have hb : (minN r).testBit (rootsF r).length = true := by
      unfold minN
      rw [mask_bit, coefs_top]
      rfl
    exact Nat.ge_two_pow_of_testBit hb
  · rw [e]; exact sqsL_mem.2 ⟨0, hR.pos, rfl⟩
  · intro d M h1 h2 h3 h4
    rw [hl]
    apply Nat.le_of_not_lt
    intro hdn
    have h5 : evN (d + 1) M r = 0 := by rw [← evN_more (d + 1) 14 M (by omega) h2]; exact h4
    have hz := few_roots (sqsL r n) (c := bitl (d + 1) M) (bitl_lt _ _) (sqsL_lt h n) hR.nodup (by rw [bitl_len]; simp [sqsL]; omega) (fun a ha => by
      obtain ⟨j, _, rfl⟩ := sqsL_mem.1 ha
      rw [ev_bitl]
      exact evN_sqs h h5 j)
    have := bitl_zero _ _ h2 hz
    have := Nat.two_pow_pos d
    omega

/-! elimination -/
def reduce : List (Nat × Nat) → Nat → Nat → Nat × Nat
  | [], v, m => (v, m)
  | (a, b) :: rest, v, m => if v ^^^ a < v then reduce rest (v ^^^ a) (m ^^^ b) else reduce rest v m
def insertR (v m : Nat) : List (Nat × Nat) → List (Nat × Nat)
  | [] => [(v, m)]
  | (a, b) :: rest => if v < a then (a, b) :: insertR v m rest else (v, m) :: (a, b) :: rest
def refAux (r : Nat) : Nat → Nat → Nat → List (Nat × Nat) → Nat
  | 0, _, _, _ => 0
  | f + 1, d, p, rows => if (reduce rows p (2 ^ d)).1 = 0 then (reduce rows p (2 ^ d)).2 else refAux r f (d + 1) (mul p r) (insertR (reduce rows p (2 ^ d)).1 (reduce rows p (2 ^ d)).2 rows)
def refN (r : Nat) : Nat := refAux r 14 0 1 []
theorem log2_bit {P : Nat} (h : P ≠ 0) : P.testBit P.log2 = true := by
  have h1 := Nat.log2_self_le h
  have h2 : P < 2 ^ (P.log2 + 1) := Nat.lt_log2_self
  rw [Nat.testBit_eq_decide_div_mod_eq, decide_eq_true_eq]
  have h3 : P / 2 ^ P.log2 = 1 := by
    rw [Nat.pow_succ] at h2
    have hp := Nat.two_pow_pos P.log2
    have := (Nat.le_div_iff_mul_le hp).2 (show 1 * 2 ^ P.log2 ≤ P by omega)
    have := (Nat.div_lt_iff_lt_mul hp).2 (show P < 2 * 2 ^ P.log2 by omega)
    omega
  rw [h3]
theorem log2_high {P i : Nat} (h : P.log2 < i) : P.testBit i = false := Nat.testBit_lt_two_pow (Nat.lt_of_lt_of_le Nat.lt_log2_self (Nat.pow_le_pow_right (by omega) h))
theorem log2_of {P k : Nat} (h1 : P.testBit k = true) (h2 : ∀ i, k < i → P.testBit i = false) : P ≠ 0 ∧ P.log2 = k := by
  have h0 : P ≠ 0 := by intro e; rw [e] at h1; simp at h1
  refine ⟨h0, ?_⟩
  have hb := log2_bit h0
  rcases Nat.lt_trichotomy P.log2 k with h | h | h
  · rw [log2_high h] at h1; cases h1
  · exact h
  · rw [h2 _ h] at hb; cases hb
theorem lt_of_bits {x y : Nat} (i : Nat) (hx : x.testBit i = false) (hy : y.testBit i = true) (h : ∀ j, i < j → x.testBit j = y.testBit j) : x < y := by
  have e : x / 2 ^ i / 2 = y / 2 ^ i / 2 := by
    apply Nat.eq_of_testBit_eq
    intro j
    rw [Nat.testBit_div_two, Nat.testBit_div_two, Nat.testBit_div_two_pow, Nat.testBit_div_two_pow]
    exact h _ (by omega)
  rw [Nat.testBit_eq_decide_div_mod_eq, decide_eq_false_iff_not] at hx
  rw [Nat.testBit_eq_decide_div_mod_eq, decide_eq_true_eq] at hy
  apply Nat.lt_of_not_le
  intro hle
  have := Nat.div_le_div_right (c := 2 ^ i) hle
  omega
theorem xor_lt_iff {v a : Nat} (ha : a ≠ 0) : v ^^^ a < v ↔ v.testBit a.log2 = true := by
  have hb := log2_bit ha
  constructor
  · intro h
    cases hv : v.testBit a.log2 with
    | true => rfl
    | false =>
      exfalso
      have : v < v ^^^ a := lt_of_bits a.log2 hv (by rw [Nat.testBit_xor, hv, hb]; rfl) (fun j hj => by rw [Nat.testBit_xor, log2_high hj, Bool.xor_false])
      omega
  · intro h
    exact lt_of_bits a.log2 (by rw [Nat.testBit_xor, h, hb]; rfl) h (fun j hj => by rw [Nat.testBit_xor, log2_high hj, Bool.xor_false])
structure Rows (r d : Nat) (rows : List (Nat × Nat)) : Prop where
  row : ∀ x ∈ rows, x.1 ≠ 0 ∧ x.2 < 2 ^ d ∧ x.1 = evN 14 x.2 r
  fall : rows.Pairwise fun x y => y.1.log2 < x.1.log2
theorem reduce_high {k : Nat} : ∀ {rows : List (Nat × Nat)} {v m : Nat}, (∀ x ∈ rows, x.1.log2 < k) → ∀ i, k ≤ i → (reduce rows v m).1.testBit i = v.testBit i
  | [], _, _, _, _, _ => rfl
  | (a, b) :: rest, v, m, h, i, hi => by
    have h1 := h (a, b) (by simp)
    have ih := fun v m => reduce_high (rows := rest) (v := v) (m := m) (fun x hx => h x (by simp [hx])) i hi
    simp only [reduce]
    split
    · rw [ih, Nat.testBit_xor, log2_high (show a.log2 < i by simp only at h1; omega), Bool.xor_false]
    · exact ih v m
theorem reduce_spec {r d : Nat} : ∀ {rows : List (Nat × Nat)} {v m : Nat}, Rows r d rows → v = evN 14 m r →
    (reduce rows v m).1 = evN 14 (reduce rows v m).2 r ∧ (∃ y, y < 2 ^ d ∧ (reduce rows v m).2 = m ^^^ y) ∧ ∀ x ∈ rows, (reduce rows v m).1.testBit x.1.log2 = false
  | [], v, m, _, h => ⟨h, ⟨0, Nat.two_pow_pos d, by simp [reduce]⟩, by simp⟩
  | (a, b) :: rest, v, m, hR, h => by
    obtain ⟨ha, hb, hab⟩ := hR.row (a, b) (by simp)
    simp only at ha hb hab
    have hf := List.pairwise_cons.1 hR.fall
    have hR' : Rows r d rest := ⟨fun x hx => hR.row x (by simp [hx]), hf.2⟩
    have hhigh : ∀ v m, (reduce rest v m).1.testBit a.log2 = v.testBit a.log2 := fun v m => reduce_high (fun x hx => hf.1 x hx) _ (Nat.le_refl _)
    simp only [reduce]
    split
    · rename_i hlt
      have hbit := (xor_lt_iff ha).1 hlt
      obtain ⟨h1, ⟨y, hy, hm⟩, h3⟩ := reduce_spec (v := v ^^^ a) (m := m ^^^ b) hR' (by rw [evN_xor, ← h, ← hab])
      refine ⟨h1, ⟨b ^^^ y, Nat.xor_lt_two_pow hb hy, by rw [hm, Nat.xor_assoc]⟩, fun x hx => ?_⟩
      rcases List.mem_cons.1 hx with rfl | hx
      · rw [hhigh, Nat.testBit_xor, hbit, log2_bit ha]; rfl
      · exact h3 x hx
    · rename_i hlt
      obtain ⟨h1, h2, h3⟩ := reduce_spec (v := v) (m := m) hR' h
      refine ⟨h1, h2, fun x hx => ?_⟩
      rcases List.mem_cons.1 hx with rfl | hx
      · rw [hhigh]
        cases hv : v.testBit a.log2 with
        | false => rfl
        | true => exact absurd ((xor_lt_iff ha).2 hv) hlt
      · exact h3 x hx
theorem mem_insertR {v m : Nat} {x : Nat × Nat} : ∀ {rows : List (Nat × Nat)}, x ∈ insertR v m rows ↔ x = (v, m) ∨ x ∈ rows
  | [] => by simp [insertR]
  | (a, b) :: rest => by
    simp only [insertR]
    split
    · rw [List.mem_cons, mem_insertR (rows := rest), List.mem_cons]
      constructor
      · rintro (h | h | h)
        · exact .inr (.inl h)
        · exact .inl h
        · exact .inr (.inr h)
      · rintro (h | h | h)
        · exact .inr (.inl h)
        · exact .inl h
        · exact .inr (.inr h)
    · simp
theorem log2_lt_of_lt {v a : Nat} (h : v < a) (h0 : v ≠ 0) (hne : v.log2 ≠ a.log2) : v.log2 < a.log2 := by
  rcases Nat.lt_or_ge v.log2 a.log2 with h1 | h1
  · exact h1
  · have h2 : a < 2 ^ (a.log2 + 1) := Nat.lt_log2_self
    have h3 := Nat.log2_self_le h0
    have h4 : 2 ^ (a.log2 + 1) ≤ 2 ^ v.log2 := Nat.pow_le_pow_right (by omega) (by omega)
    omega
theorem insertR_fall {v m : Nat} (h0 : v ≠ 0) : ∀ {rows : List (Nat × Nat)}, (∀ x ∈ rows, x.1 ≠ 0 ∧ v.log2 ≠ x.1.log2) → rows.Pairwise (fun x y => y.1.log2 < x.1.log2) → (insertR v m rows).Pairwise fun x y => y.1.log2 < x.1.log2
  | [], _, _ => by simp [insertR]
  | (a, b) :: rest, hne, hf => by
    have hf2 := List.pairwise_cons.1 hf
    obtain ⟨ha, hna⟩ := hne (a, b) (by simp)
    simp only at ha hna
    simp only [insertR]
    split
    · rename_i hlt
      have hl := log2_lt_of_lt hlt h0 hna
      refine List.pairwise_cons.2 ⟨fun x hx => ?_, insertR_fall h0 (fun x hx => hne x (by simp [hx])) hf2.2⟩
      rcases mem_insertR.1 hx with rfl | hx
      · exact hl
      · exact hf2.1 x hx
    · rename_i hlt
      have hl : a.log2 < v.log2 := by
        rcases Nat.lt_or_ge a v with h | h
        · exact log2_lt_of_lt h ha (fun e => hna e.symm)
        · exact absurd (show v = a by omega) (fun e => hna (by rw [e]))
      refine List.pairwise_cons.2 ⟨fun x hx => ?_, hf⟩
      rcases List.mem_cons.1 hx with rfl | hx
      · exact hl
      · have := hf2.1 x hx; simp only at this ⊢; omega
/-- No polynomial below has the root; the values' greatest bits are the rows'. -/
def Span (r d : Nat) (rows : List (Nat × Nat)) : Prop := ∀ M, M < 2 ^ d → M ≠ 0 → evN 14 M r ≠ 0 ∧ ∃ x ∈ rows, (evN 14 M r).log2 = x.1.log2
theorem two_pow_xor {d m y : Nat} (hm : m = 2 ^ d ^^^ y) (hy : y < 2 ^ d) : 2 ^ d ≤ m ∧ m < 2 ^ (d + 1) := by
  have h1 : (2 ^ d ^^^ y).testBit d = true := by rw [Nat.testBit_xor, Nat.testBit_two_pow_self, Nat.testBit_lt_two_pow hy]; rfl
  subst hm
  refine ⟨Nat.ge_two_pow_of_testBit h1, Nat.xor_lt_two_pow ?_ ?_⟩
  · rw [Nat.pow_succ]; have := Nat.two_pow_pos d; omega
  · rw [Nat.pow_succ]; omega
theorem refAux_least {r n P : Nat} (hL : Least r n P) : ∀ (f d : Nat) (rows : List (Nat × Nat)), d + f = 14 → Rows r d rows → Span r d rows → refAux r f d (pow r d) rows = P
  | 0, d, rows, hf, hR, hS => by
    exfalso
    have hP := hL.lt
    have h1 : P < 2 ^ d := Nat.lt_of_lt_of_le hP (Nat.pow_le_pow_right (by omega) (by have := hL.le; omega))
    have h2 := Nat.two_pow_pos n
    exact (hS P h1 (by have := hL.ge; omega)).1 hL.root
  | f + 1, d, rows, hf, hR, hS => by
    have hv0 : pow r d = evN 14 (2 ^ d) r := (evN_pow 14 d (by omega)).symm
    obtain ⟨h1, ⟨y, hy, hm⟩, h3⟩ := reduce_spec hR hv0
    simp only [refAux]
    generalize (reduce rows (pow r d) (2 ^ d)).1 = v at *
    generalize (reduce rows (pow r d) (2 ^ d)).2 = m at *
    obtain ⟨hmge, hmlt⟩ := two_pow_xor hm hy
    split
    · rename_i hz
      rw [hz] at h1
      have hnd := hL.few d m hmge hmlt (by omega) h1.symm
      have hdn : d ≤ n := by
        apply Nat.le_of_not_lt
        intro hlt
        have h4 : P < 2 ^ d := Nat.lt_of_lt_of_le hL.lt (Nat.pow_le_pow_right (by omega) hlt)
        have h2 := Nat.two_pow_pos n
        exact (hS P h4 (by have := hL.ge; omega)).1 hL.root
      obtain rfl : d = n := by omega
      have hx : P ^^^ m < 2 ^ d := by
        apply Nat.lt_pow_two_of_testBit
        intro i hi
        rw [Nat.testBit_xor]
        rcases Nat.lt_or_ge d i with h5 | h5
        · rw [Nat.testBit_lt_two_pow (Nat.lt_of_lt_of_le hL.lt (Nat.pow_le_pow_right (by omega) h5)), Nat.testBit_lt_two_pow (Nat.lt_of_lt_of_le hmlt (Nat.pow_le_pow_right (by omega) h5))]
          rfl
        · obtain rfl : i = d := by omega
          have e : ∀ Q, 2 ^ i ≤ Q → Q < 2 ^ (i + 1) → Q.testBit i = true := fun Q q1 q2 => by
            rw [Nat.testBit_eq_decide_div_mod_eq, decide_eq_true_eq]
            rw [Nat.pow_succ] at q2
            have hp := Nat.two_pow_pos i
            have := (Nat.le_div_iff_mul_le hp).2 (show 1 * 2 ^ i ≤ Q by omega)
            have := (Nat.div_lt_iff_lt_mul hp).2 (show Q < 2 * 2 ^ i by omega)
            omega
          rw [e P hL.ge hL.lt, e m hmge hmlt]
          rfl
      have hev : evN 14 (P ^^^ m) r = 0 := by rw [evN_xor, hL.root, ← h1]; rfl
      by_cases h0 : P ^^^ m = 0
      · exact (xor_eq_zero h0).symm
      · exact absurd hev (hS _ hx h0).1
    · rename_i hz
      have hne : ∀ x ∈ rows, x.1 ≠ 0 ∧ v.log2 ≠ x.1.log2 := fun x hx => ⟨(hR.row x hx).1, fun e => by
        have := h3 x hx
        rw [← e, log2_bit hz] at this
        cases this⟩
      have hd2 : 2 ^ d < 2 ^ (d + 1) := by rw [Nat.pow_succ]; have := Nat.two_pow_pos d; omega
      refine refAux_least hL f (d + 1) (insertR v m rows) (by omega) ⟨fun x hx => ?_, insertR_fall hz hne hR.fall⟩ ?_
      · rcases mem_insertR.1 hx with rfl | hx
        · exact ⟨hz, hmlt, h1⟩
        · have := hR.row x hx; exact ⟨this.1, by omega, this.2.2⟩
      · intro M hM hM0
        rcases Nat.lt_or_ge M (2 ^ d) with hlt | hge
        · obtain ⟨s1, x, hx, s2⟩ := hS M hlt hM0
          exact ⟨s1, x, mem_insertR.2 (.inr hx), s2⟩
        · -- M = m ^ M', M' below 2^d
          obtain ⟨M', hM'⟩ : ∃ M', M' = M ^^^ m := ⟨_, rfl⟩
          have hlt' : M' < 2 ^ d := by
            subst hM'
            apply Nat.lt_pow_two_of_testBit
            intro i hi
            rw [Nat.testBit_xor]
            rcases Nat.lt_or_ge d i with h5 | h5
            · rw [Nat.testBit_lt_two_pow (Nat.lt_of_lt_of_le hM (Nat.pow_le_pow_right (by omega) h5)), Nat.testBit_lt_two_pow (Nat.lt_of_lt_of_le hmlt (Nat.pow_le_pow_right (by omega) h5))]
              rfl
            · obtain rfl : i = d := by omega
              have e : ∀ Q, 2 ^ i ≤ Q → Q < 2 ^ (i + 1) → Q.testBit i = true := fun Q q1 q2 => by
                rw [Nat.testBit_eq_decide_div_mod_eq, decide_eq_true_eq]
                rw [Nat.pow_succ] at q2
                have hp := Nat.two_pow_pos i
                have := (Nat.le_div_iff_mul_le hp).2 (show 1 * 2 ^ i ≤ Q by omega)
                have := (Nat.div_lt_iff_lt_mul hp).2 (show Q < 2 * 2 ^ i by omega)
                omega
              rw [e M hge hM, e m hmge hmlt]
              rfl
          have hMe : M = M' ^^^ m := by rw [hM', xor_cancel]
          have hev : evN 14 M r = evN 14 M' r ^^^ v := by rw [hMe, evN_xor, ← h1]
          rw [hev]
          by_cases h0 : M' = 0
          · rw [h0, evN_zero, Nat.zero_xor]
            exact ⟨hz, (v, m), mem_insertR.2 (.inl rfl), rfl⟩
          · obtain ⟨s1, x, hx, s2⟩ := hS M' hlt' h0
            generalize evN 14 M' r = y' at *
            have hvx := h3 x hx
            rw [← s2] at hvx
            rcases Nat.lt_trichotomy y'.log2 v.log2 with h5 | h5 | h5
            · have := log2_of (P := y' ^^^ v) (k := v.log2) (by rw [Nat.testBit_xor, log2_high h5, log2_bit hz]; rfl) (fun i hi => by rw [Nat.testBit_xor, log2_high (show y'.log2 < i by omega), log2_high hi]; rfl)
              exact ⟨this.1, (v, m), mem_insertR.2 (.inl rfl), this.2⟩
            · rw [h5, log2_bit hz] at hvx; cases hvx
            · have := log2_of (P := y' ^^^ v) (k := y'.log2) (by rw [Nat.testBit_xor, log2_high h5, log2_bit s1]; rfl) (fun i hi => by rw [Nat.testBit_xor, log2_high hi, log2_high (show v.log2 < i by omega)]; rfl)
              exact ⟨this.1, x, mem_insertR.2 (.inr hx), by rw [this.2, s2]⟩
/-- The document's least polynomial is the product over the roots. -/
theorem refN_eq {r : Nat} (h0 : 0 < r) (h : r < 8192) : refN r = minN r :=
  refAux_least (minN_least h0 h) 14 0 [] rfl ⟨by simp, by simp⟩ (fun M hM hM0 => absurd (by simpa using hM) hM0)
end Go.Proofs.YtkdfbganhohbfaaDoor.Gf
