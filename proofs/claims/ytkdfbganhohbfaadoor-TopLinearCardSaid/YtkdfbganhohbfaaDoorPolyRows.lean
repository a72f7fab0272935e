/-
  Rows of words as polynomials: the degree, the exponents, one row laid over another.
-/
import Derived.Test.YtkdfbganhohbfaaDoorPolyWalks
import Derived.Lib.BitFns
namespace Go.Proofs.YtkdfbganhohbfaaDoor
open Go.RowKit

theorem bitLen_log2 {x : Nat} (h0 : x ≠ 0) (h : x < 18446744073709551616) : Lib.bitLen x = x.log2 + 1 := by
  have h1 := Lib.bitLen_shift x.log2 x (Nat.log2_self_le h0) h
  have h2 : x / 2 ^ x.log2 = 1 := by
    have h3 := Nat.log2_self_le h0
    have h4 := Poly.lt_two_log2 x
    apply Nat.div_eq_of_lt_le
    · omega
    · rw [Nat.pow_succ] at h4; omega
  rw [h1, h2]
  have : Lib.bitLen 1 = 1 := by decide
  rw [this]
theorem log2_lt64 {x : Nat} (h0 : x ≠ 0) (h : x < 18446744073709551616) : x.log2 < 64 := Poly.log2_lt h0 (n := 64) h
theorem len64 (x : Nat) (w : World) (h0 : x ≠ 0) (h : x < 18446744073709551616) :
    Calls Tryd.prog 46 #[.int .u64 (x : Int)] w fun e w' => e = .returned (.int .i64 ((x.log2 + 1 : Nat) : Int)) ∧ w = w' :=
  (Tryd.bits_Len64 x w (by omega) (by omega)).mono fun e w' ⟨h1, h2⟩ => ⟨by rw [h1, Int.toNat_natCast, bitLen_log2 h0 h], h2.symm⟩
def deg (P : Nat) : Int := if P = 0 then -1 else (P.log2 : Int)
theorem low_of_zero {P j : Nat} (h : P < 2 ^ (64 * (j + 1))) (h0 : Poly.wordN P j = 0) : P < 2 ^ (64 * j) := by
  have h1 := Poly.low_step P j
  rw [Nat.mod_eq_of_lt h, h0, Nat.zero_mul, Nat.xor_zero] at h1
  rw [h1]
  exact Nat.mod_lt _ (Nat.pow_pos (by omega))
theorem word_top {P j : Nat} (h : P < 2 ^ (64 * (j + 1))) (h0 : Poly.wordN P j ≠ 0) : P ≠ 0 ∧ P.log2 = 64 * j + (Poly.wordN P j).log2 := by
  have hd : P / 2 ^ (64 * j) < 2 ^ 64 := by
    apply Nat.div_lt_of_lt_mul
    rw [← Nat.pow_add]
    exact h
  have he : Poly.wordN P j = P / 2 ^ (64 * j) := Nat.mod_eq_of_lt hd
  rw [he] at h0 ⊢
  have hP : P ≠ 0 := fun e => by rw [e, Nat.zero_div] at h0; exact h0 rfl
  refine ⟨hP, ?_⟩
  have hl : 64 * j ≤ P.log2 := by
    rcases Nat.lt_or_ge P.log2 (64 * j) with h1 | h1
    · exfalso
      apply h0
      exact Nat.div_eq_of_lt ((Nat.log2_lt hP).1 h1)
    · exact h1
  have h2 : (P / 2 ^ (64 * j)).log2 = P.log2 - 64 * j := by
    have ha := Nat.log2_self_le hP
    have hb := Poly.lt_two_log2 P
    apply Nat.le_antisymm
    · have : P / 2 ^ (64 * j) < 2 ^ (P.log2 - 64 * j + 1) := by
        apply Nat.div_lt_of_lt_mul
        rw [← Nat.pow_add, show 64 * j + (P.log2 - 64 * j + 1) = P.log2 + 1 by omega]
        exact hb
      have := (Nat.log2_lt h0).2 this
      omega
    · rw [Nat.le_log2 h0]
      rw [Nat.le_div_iff_mul_le (Nat.pow_pos (by omega)), ← Nat.pow_add, show P.log2 - 64 * j + 64 * j = P.log2 by omega]
      exact ha
  omega

set_option maxHeartbeats 1600000 in
theorem row_degree (b g off n c P : Nat) (w : World) (hR : RowP w b (.slice (some ⟨g, off, none⟩) n c) n P) (hP : P < 2 ^ (64 * n)) (hn : n ≤ 1000000) :
    Calls Tryd.prog 32 #[.slice (some ⟨g, off, none⟩) n c] w fun e w' => e = .returned (.int .i64 (deg P)) ∧ w = w' := by
  have HR := Aside.mk hR
  have HP := Aside.mk hP
  clear hR hP
  go_enter Tryd.func32, Tryd.ntmps32
  go_wp2
  go_loop [3] (fun s3 => ∃ j : Nat, j ≤ n ∧ s3 = .int .i64 ((j : Int) - 1) ∧ Aside (P < 2 ^ (64 * j))) (fun s3 => ((intOf s3) + 1).toNat)
  case atStart => exact ⟨n, by omega, rfl, HP⟩
  case round =>
    obtain ⟨j, hj, rfl, HJ⟩ := hrel
    by_cases h0 : j = 0
    · subst h0
      have hd : deg P = -1 := by
        have := HJ.out
        rw [Nat.mul_zero, Nat.pow_zero] at this
        unfold deg
        rw [if_pos (by omega)]
      have HD := Aside.mk hd
      clear hd
      go_wp2
      go_ret
      exact ⟨by rw [HD.out]; rfl, rfl⟩
    · obtain ⟨i, rfl⟩ : ∃ i, j = i + 1 := ⟨j - 1, by omega⟩
      have hin : i < n := by omega
      have c1 := (HR.out.cell hin).1
      have hwl := Poly.wordN_lt P i
      have e1 : ((i + 1 : Nat) : Int) - 1 = (i : Int) := by omega
      have e2 : IntKind.i64.wrap ((i : Int) - 1) = (i : Int) - 1 := by rw [IntKind.wrap_i64]; omega
      have hi0 : (0 : Int) ≤ (i : Int) := by omega
      have hi1 : (i : Int) < (n : Int) := by omega
      rw [e1]
      clear e1
      by_cases hz : Poly.wordN P i = 0
      · have hlow := low_of_zero HJ.out hz
        rw [hz] at c1
        have c2 : w.cell? ⟨g, off + i, none⟩ = some (.int .u64 0) := c1
        have HL := Aside.mk hlow
        clear hz hlow c1 hwl
        go_wp2
        go_round
        case rel => exact ⟨i, by omega, rfl, HL⟩
        case measure => simp [intOf]
      · obtain ⟨hP0, htop⟩ := word_top HJ.out hz
        have hd : deg P = ((64 * i + (Poly.wordN P i).log2 : Nat) : Int) := by
          unfold deg
          rw [if_neg hP0, htop]
        have hl6 := log2_lt64 hz hwl
        have hL := Aside.mk (fun W => len64 (Poly.wordN P i) W hz hwl)
        have hz2 : ((Poly.wordN P i : Int) == 0) = false := by simp; omega
        have hz3 : ((Poly.wordN P i : Int) != 0) = true := by simp; omega
        have HD := Aside.mk hd
        clear hP0 htop hd hz
        generalize Poly.wordN P i = x at *
        generalize x.log2 = t at *
        have hs : IntKind.i64.wrap (64 * (i : Int) + ((t + 1 : Nat) : Int) - 1) = 64 * (i : Int) + (t : Int) := by rw [IntKind.wrap_i64]; omega
        go_wp2_with (go_at_call 46; refine (hL.out _).mono ?_; rintro e w1 ⟨rfl, rfl⟩)
        go_ret
        exact ⟨by rw [HD.out]; (first | rfl | (show Ending.returned (.int .i64 _) = _; congr 2; omega)), rfl⟩

/-- The exponents that are answered. -/
def ListOf (w : World) (l : List Nat) (e : Ending) (w' : World) : Prop := ∃ v, e = .returned v ∧ Row w' w.heap.size 3 1 v l.length (intsV (Poly.ints l)) ∧ Below w.heap.size w w'
theorem ints_length (l : List Nat) : (Poly.ints l).length = l.length := by simp [Poly.ints]
theorem ints_append (l m : List Nat) : Poly.ints (l ++ m) = Poly.ints l ++ Poly.ints m := by simp [Poly.ints]
end Go.Proofs.YtkdfbganhohbfaaDoor
