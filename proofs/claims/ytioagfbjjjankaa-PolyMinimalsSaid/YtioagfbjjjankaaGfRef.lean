/-
  What the document's functions of the field answer.
-/
import Derived.Test.YtioagfbjjjankaaGfMore
namespace Go.Proofs.Ytioagfbjjjankaa
open Go.RowKit

theorem ref_low (a : Int) (w : World) : Calls Try.prog 48 #[.int .i64 a] w fun e w' => e = .returned (.int .i64 (lowN a : Nat)) ∧ w = w' := by
  have hl := lowN_lt a
  have ht : (IntKind.u64.wrap a).tmod 8192 = (lowN a : Int) := by
    have h1 : 0 ≤ IntKind.u64.wrap a := by rw [IntKind.wrap_u64]; omega
    rw [Int.tmod_eq_emod_of_nonneg h1, lowN_cast, IntKind.wrap_u64]; omega
  generalize lowN a = x at *
  have hl2 : (x : Int) < 8192 := by omega
  go_enter Try.func48, Try.ntmps48
  go_wp2
  go_ret
  exact ⟨rfl, rfl⟩

set_option maxRecDepth 100000 in
set_option maxHeartbeats 1600000 in
theorem ref_mul (a b : Int) (w : World) :
    Calls Try.prog 37 #[.int .i64 a, .int .i64 b] w fun e w' => e = .returned (.int .i64 (Gf.mul (lowN a) (lowN b) : Nat)) ∧ w = w' := by
  have ha := lowN_lt a
  have hb := lowN_lt b
  have HA := Aside.mk (And.intro (ref_low a) (ref_low b))
  have HA1 := HA
  generalize lowN a = x at *
  generalize lowN b = y at *
  go_enter Try.func37, Try.ntmps37
  go_wp2_with (first | (obtain ⟨HI⟩ := HA1; go_at_call 48; refine (HI.1 _).mono ?_; rintro e w1 ⟨rfl, rfl⟩) | (obtain ⟨HI⟩ := HA; go_at_call 48; refine (HI.2 _).mono ?_; rintro e w1 ⟨rfl, rfl⟩))
  go_loop [5, 6] (fun s5 s6 => ∃ j : Nat, j ≤ 13 ∧ s6 = .int .i64 ((j : Int) - 1) ∧ s5 = .int .i64 (Gf.mulN x y (13 - j) : Nat)) (fun _ s6 => ((intOf s6) + 1).toNat)
  case atStart => exact ⟨13, by omega, rfl, rfl⟩
  case round =>
    obtain ⟨j, hj, rfl, rfl⟩ := hrel
    by_cases h0 : j = 0
    · subst h0
      go_wp2
      go_ret
      exact ⟨rfl, rfl⟩
    · obtain ⟨i, rfl⟩ : ∃ i, j = i + 1 := ⟨j - 1, by omega⟩
      have e1 : ((i + 1 : Nat) : Int) - 1 = (i : Int) := by omega
      rw [e1]
      clear e1
      have hs : Gf.mulN x y (13 - i) = if y / 2 ^ i % 2 = 1 then Gf.stp (Gf.mulN x y (13 - (i + 1))) ^^^ x else Gf.stp (Gf.mulN x y (13 - (i + 1))) := by
        rw [show 13 - i = (13 - (i + 1)) + 1 by omega]
        show (if y / 2 ^ (12 - (13 - (i + 1))) % 2 = 1 then _ else _) = _
        rw [show 12 - (13 - (i + 1)) = i by omega]
      have hq := Gf.mulN_lt (a := x) y ha (13 - (i + 1))
      have hi12 : i ≤ 12 := by omega
      have HS := Aside.mk hs
      clear hs
      generalize Gf.mulN x y (13 - (i + 1)) = q at *
      go_upto_if 18 with fail
      go_cut [5] (fun s5 wx => s5 = .int .i64 (Gf.stp q : Nat) ∧ w = wx)
      case first =>
        by_cases h8 : 8192 ≤ 2 * q
        · have hx : bits .xor .i64 ((q : Int) * 2) 8219 = ((Gf.stp q : Nat) : Int) := by
            have h := i64_xor_nat (a := 2 * q) (b := 8219) (by omega) (by omega)
            have e : Gf.stp q = 2 * q ^^^ 8219 := by unfold Gf.stp; rw [if_pos h8]
            rw [show (q : Int) * 2 = ((2 * q : Nat) : Int) by omega, e]
            exact h
          have h9 : (8192 : Int) ≤ (q : Int) * 2 := by omega
          clear h8
          go_wp2
          go_meet
          exact ⟨rfl, rfl⟩
        · have h9 : ¬ (8192 : Int) ≤ (q : Int) * 2 := by omega
          have hst : Gf.stp q = 2 * q := by unfold Gf.stp; rw [if_neg h8]
          have HT := Aside.mk hst
          clear h8 hst
          go_wp2
          go_meet
          exact ⟨by rw [HT.out]; go_num, rfl⟩
      case rest =>
        obtain ⟨rfl, rfl⟩ := hcut
        have hst := Gf.stp_lt hq
        generalize Gf.stp q = r at *
        have hz : y / 2 ^ i < 9223372036854775808 := by
          have := Nat.div_le_self y (2 ^ i)
          omega
        have hbit : bits .and .i64 ((y : Int) / 2 ^ i) 1 = ((y / 2 ^ i % 2 : Nat) : Int) := by
          have h := i64_and_nat (a := y / 2 ^ i) (b := 1) hz (by omega)
          rw [Nat.and_one_is_mod] at h
          rw [show (y : Int) / 2 ^ i = ((y / 2 ^ i : Nat) : Int) by rw [Int.natCast_ediv, Int.natCast_pow]; rfl]
          exact h
        have hs := HS.out
        clear HS hz
        have e2 : IntKind.i64.wrap ((i : Int) - 1) = (i : Int) - 1 := by rw [IntKind.wrap_i64]; omega
        by_cases hb1 : y / 2 ^ i % 2 = 1
        · rw [if_pos hb1] at hs
          rw [hb1] at hbit
          have hxx := i64_xor_nat (a := r) (b := x) (by omega) (by omega)
          have HS := Aside.mk hs
          clear hs hb1
          go_wp2
          go_round
          case rel => exact ⟨i, by omega, rfl, by rw [HS.out]⟩
          case measure => simp [intOf]
        · have hb0 : y / 2 ^ i % 2 = 0 := by omega
          rw [if_neg hb1] at hs
          rw [hb0] at hbit
          have HS := Aside.mk hs
          clear hs hb1 hb0
          go_wp2
          go_round
          case rel => exact ⟨i, by omega, rfl, by rw [HS.out]⟩
          case measure => simp [intOf]

/-! Pow -/
theorem pow_sq {a : Nat} (ha : a < 8192) (n : Nat) : Gf.pow a n = if n % 2 = 1 then Gf.mul (Gf.pow (Gf.mul a a) (n / 2)) a else Gf.pow (Gf.mul a a) (n / 2) := by
  have h1 : Gf.pow (Gf.mul a a) (n / 2) = Gf.pow a (2 * (n / 2)) := by rw [Gf.pow_mul ha, Gf.pow_two ha]
  rw [h1]
  split
  · rw [show n = 2 * (n / 2) + 1 by omega]
    rw [show (2 * (n / 2) + 1) / 2 = n / 2 by omega]
    rfl
  · rw [show 2 * (n / 2) = n by omega]
set_option maxRecDepth 100000 in
set_option maxHeartbeats 1600000 in
theorem ref_pow (a : Int) (n : Nat) (w : World) (hn : n ≤ 9223372036854775807) :
    Calls Try.prog 38 #[.int .i64 a, .int .i64 (n : Int)] w fun e w' => e = .returned (.int .i64 (Gf.pow (lowN a) n : Nat)) ∧ w = w' := by
  have ha := lowN_lt a
  have HA := Aside.mk (ref_low a)
  generalize lowN a = x at *
  obtain ⟨R, hR⟩ : ∃ R, R = Gf.pow x n := ⟨_, rfl⟩
  rw [← hR]
  have HR := Aside.mk hR
  clear hR
  go_enter Try.func38, Try.ntmps38
  go_wp2_with (go_at_call 48; refine (HA.out _).mono ?_; rintro e w1 ⟨rfl, rfl⟩)
  go_loop [0, 1, 5] (fun s0 s1 s5 => ∃ b m o : Nat, b < 8192 ∧ o < 8192 ∧ m ≤ 9223372036854775807 ∧ s0 = .int .i64 (b : Int) ∧ s1 = .int .i64 (m : Int) ∧ s5 = .int .i64 (o : Int) ∧ Aside (Gf.mul o (Gf.pow b m) = R)) (fun _ s1 _ => (intOf s1).toNat)
  case atStart => exact ⟨x, n, 1, ha, by omega, hn, rfl, rfl, rfl, ⟨by rw [HR.out, Gf.one_mul (Gf.pow_lt ha n)]⟩⟩
  case round =>
    obtain ⟨b, m, o, hb, ho, hm, rfl, rfl, rfl, HX⟩ := hrel
    by_cases h0 : m = 0
    · subst h0
      have hR : R = o := by rw [← HX.out]; exact Gf.mul_one ho
      have HR2 := Aside.mk hR
      clear hR HR HX
      go_wp2
      go_ret
      exact ⟨by rw [HR2.out]; rfl, rfl⟩
    · have h1 : (0 : Int) < (m : Int) := by omega
      have hp := pow_sq hb m
      have hmb : Gf.mul b b < 8192 := Gf.mul_lt _ hb
      have hlb := lowN_of_lt hb
      have hlo := lowN_of_lt ho
      have HP := Aside.mk (And.intro hp (And.intro hlb hlo))
      clear hp hlb hlo
      have hbb : ∀ W, Calls Try.prog 37 #[.int .i64 (b : Int), .int .i64 (b : Int)] W fun e w' => e = .returned (.int .i64 (Gf.mul b b : Nat)) ∧ W = w' := fun W => by
        have := ref_mul b b W
        rwa [HP.out.2.1] at this
      have HBB := Aside.mk hbb
      clear hbb
      by_cases h2 : m % 2 = 1
      · have h3 : (m : Int) % 2 = 1 := by omega
        have hob : ∀ W, Calls Try.prog 37 #[.int .i64 (o : Int), .int .i64 (b : Int)] W fun e w' => e = .returned (.int .i64 (Gf.mul o b : Nat)) ∧ W = w' := fun W => by
          have := ref_mul o b W
          rwa [HP.out.2.1, HP.out.2.2] at this
        have HOB := Aside.mk hob
        have hre : Gf.mul (Gf.mul o b) (Gf.pow (Gf.mul b b) (m / 2)) = R := by
          have h4 := HP.out.1
          rw [if_pos h2] at h4
          rw [← HX.out, h4, Gf.mul_assoc ho hb (Gf.pow_lt hmb _), Gf.mul_comm hb (Gf.pow_lt hmb _)]
        have hmo : Gf.mul o b < 8192 := Gf.mul_lt _ ho
        have HRE := Aside.mk hre
        clear hob hre HP HX h2
        generalize Gf.mul o b = ob at *
        generalize Gf.mul b b = bb at *
        go_wp2_with (first | (obtain ⟨HI⟩ := HOB; go_at_call 37; refine (HI _).mono ?_; clear HI; rintro e w1 ⟨rfl, rfl⟩) | (obtain ⟨HI⟩ := HBB; go_at_call 37; refine (HI _).mono ?_; clear HI; rintro e w1 ⟨rfl, rfl⟩))
        go_round
        case rel => exact ⟨bb, m / 2, ob, hmb, hmo, by omega, rfl, by go_num, rfl, HRE⟩
        case measure => simp [intOf]; omega
      · have h3 : (m : Int) % 2 = 0 := by omega
        have hre : Gf.mul o (Gf.pow (Gf.mul b b) (m / 2)) = R := by
          have h4 := HP.out.1
          rw [if_neg h2] at h4
          rw [← HX.out, h4]
        have HRE := Aside.mk hre
        clear hre HP HX h2
        generalize Gf.mul b b = bb at *
        go_wp2_with (obtain ⟨HI⟩ := HBB; go_at_call 37; refine (HI _).mono ?_; clear HI; rintro e w1 ⟨rfl, rfl⟩)
        go_round
        case rel => exact ⟨bb, m / 2, o, hmb, ho, by omega, rfl, by go_num, rfl, HRE⟩
        case measure => simp [intOf]; omega

/-! Inv, Exp -/
def invN (a : Nat) : Nat := if a = 0 then 0 else Gf.pow a 8190
theorem pow_two_pw (n : Nat) : Gf.pow 2 n = Gf.pw n := by
  have := Gf.pow_pw 1 n
  rw [Nat.one_mul] at this
  exact this
set_option maxHeartbeats 400000 in
theorem ref_exp (n : Int) (w : World) (h1 : -9223372036854775808 ≤ n) (h2 : n ≤ 9223372036854775807) :
    Calls Try.prog 25 #[.int .i64 n] w fun e w' => e = .returned (.int .i64 (Gf.pw (arN n) : Nat)) ∧ w = w' := by
  have hl := arN_lt n
  have hP : ∀ W, Calls Try.prog 38 #[.int .i64 2, .int .i64 (arN n : Int)] W fun e w' => e = .returned (.int .i64 (Gf.pw (arN n) : Nat)) ∧ W = w' := fun W => by
    have := ref_pow 2 (arN n) W (by omega)
    rwa [show lowN 2 = 2 from rfl, pow_two_pw] at this
  have HP := Aside.mk hP
  clear hP
  generalize hz : Gf.pw (arN n) = z at *
  clear hz
  by_cases h0 : 0 ≤ n
  · have he : n % 8191 = (arN n : Int) := by unfold arN; omega
    generalize arN n = r at *
    go_enter Try.func25, Try.ntmps25
    go_wp2_with (go_at_call 38; refine (HP.out _).mono ?_; rintro e w1 ⟨rfl, rfl⟩)
    go_ret
    exact ⟨rfl, rfl⟩
  · rcases tmod_neg (show n < 0 by omega) with ht | ⟨ht, h00⟩
    · have hw : IntKind.i64.wrap ((arN n : Int) - 8191 + 8191) = (arN n : Int) := by rw [IntKind.wrap_i64]; omega
      have hw2 : (arN n : Int) - 8191 + 8191 = (arN n : Int) := by omega
      generalize arN n = r at *
      have hlt : (r : Int) - 8191 < 0 := by omega
      go_enter Try.func25, Try.ntmps25
      go_wp2_with (go_at_call 38; refine (HP.out _).mono ?_; rintro e w1 ⟨rfl, rfl⟩)
      go_ret
      exact ⟨rfl, rfl⟩
    · rw [h00] at HP
      go_enter Try.func25, Try.ntmps25
      go_wp2_with (go_at_call 38; refine (HP.out _).mono ?_; rintro e w1 ⟨rfl, rfl⟩)
      go_ret
      exact ⟨rfl, rfl⟩
end Go.Proofs.Ytioagfbjjjankaa
