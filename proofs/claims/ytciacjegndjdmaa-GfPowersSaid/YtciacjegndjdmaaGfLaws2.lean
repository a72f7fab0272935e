/-
  More statements of the field: rules, squares, logarithms, no field, powers.
-/
import Derived.Test.YtciacjegndjdmaaGfLaws
namespace Go.Proofs.Ytciacjegndjdmaa
open Go.RowKit

/-! Rules -/
theorem lowN_mulV (a b : Int) : lowN ((mulV a b : Nat) : Int) = mulV a b := lowN_of_lt (mulV_lt a b)
theorem mulV_xor (a b c : Int) : mulV a (bits .xor .i64 b c) = mulV a b ^^^ mulV a c := by
  unfold mulV
  rw [lowN_xor, Gf.mul_xor_right _ _ (lowN_lt a)]
theorem mulV_assoc (a b c : Int) : mulV ((mulV a b : Nat) : Int) c = mulV a ((mulV b c : Nat) : Int) := by
  show Gf.mul (lowN ((mulV a b : Nat) : Int)) (lowN c) = Gf.mul (lowN a) (lowN ((mulV b c : Nat) : Int))
  rw [lowN_mulV, lowN_mulV]
  exact Gf.mul_assoc (lowN_lt a) (lowN_lt b) (lowN_lt c)
theorem mulV_one (a : Int) : mulV a 1 = lowN a := Gf.mul_one (lowN_lt a)
theorem mulV_zero (a : Int) : mulV a 0 = 0 := Gf.mul_zero_right _
theorem invN_lt {a : Nat} (h : a < 8192) : invN a < 8192 := by
  unfold invN
  split
  · omega
  · exact Gf.pow_lt h _
theorem mul_inv {a : Nat} (h0 : 0 < a) (h : a < 8192) : Gf.mul a (invN a) = 1 := by
  unfold invN
  rw [if_neg (by omega), Gf.mul_comm h (Gf.pow_lt h _)]
  exact Gf.pow_order h0 h
theorem mulV_inv {a : Int} (h0 : lowN a ≠ 0) : mulV a ((invN (lowN a) : Nat) : Int) = 1 := by
  show Gf.mul (lowN a) (lowN ((invN (lowN a) : Nat) : Int)) = 1
  rw [lowN_of_lt (invN_lt (lowN_lt a)), mul_inv (by omega) (lowN_lt a)]
theorem mulV_back {a : Int} (b : Int) (h0 : lowN a ≠ 0) : mulV ((mulV a b : Nat) : Int) ((invN (lowN a) : Nat) : Int) = lowN b := by
  rw [mulV_comm a b, mulV_assoc, mulV_inv h0]
  exact mulV_one b

set_option maxRecDepth 100000 in
set_option maxHeartbeats 3200000 in
theorem gfRules_walk (a b c : Int) (w : World) (_h1 : (Lit.int .i64 a).wf = true) (_h2 : (Lit.int .i64 b).wf = true) (_h3 : (Lit.int .i64 c).wf = true) :
    Calls Try.prog 4 #[.int .i64 a, .int .i64 b, .int .i64 c] w fun e w' => e = .returned (.bool true) ∧ Below w.heap.size w w' := by
  have f1 : bits .xor .i64 ((mulV a b : Nat) : Int) ((mulV a c : Nat) : Int) = ((mulV a (bits .xor .i64 b c) : Nat) : Int) := by
    rw [mulV_xor]
    exact i64_xor_nat (by have := mulV_lt a b; omega) (by have := mulV_lt a c; omega)
  have f2 := mulV_assoc a b c
  have f3 := mulV_one a
  have f4 := mulV_zero a
  have f5 := and8191 a
  have f6 := and8191 b
  go_enter Try.func4, Try.ntmps4
  go_upto_region 4 with (go_at_call 10; refine (gf_speaks _).mono ?_; rintro e w1 ⟨rfl, hb1⟩)
  have HT := Aside.mk (St.new hb1)
  clear hb1
  generalize w1.alloc (.cells #[.int .u32 0, .int .i32 0, .int .u32 0, .slice none 0 0, .slice none 0 0, .int .i64 0] 40) = W at *
  generalize w1.heap.size = f at *
  have HA := Aside.mk (fun W (h : St w f 0 W) => h.inv a)
  by_cases h0 : lowN a = 0
  · rw [decide_eq_true h0] at HA
    rw [h0] at f3
    rw [h0, Int.natCast_zero] at f5
    clear h0
    go_wp2_with (first | (obtain ⟨HI⟩ := HA; go_at_call 11; refine (HI _ HT.out).mono ?_; clear HI; rintro e w2 ⟨rfl, h⟩; clear HT; have HT := Aside.mk h; clear h) | (go_at_call 12; refine (HT.out.mul (by omega) _ _).mono ?_; rintro e w2 ⟨rfl, h⟩; clear HT; have HT := Aside.mk h; clear h))
    go_ret
    exact ⟨rfl, HT.out.bel⟩
  · have f7 := mulV_inv h0
    have f8 := mulV_back b h0
    have f9 : ((lowN a : Int) == 0) = false := by simp; omega
    rw [decide_eq_false h0] at HA
    clear h0
    go_wp2_with (first | (obtain ⟨HI⟩ := HA; go_at_call 11; refine (HI _ HT.out).mono ?_; clear HI; rintro e w2 ⟨rfl, h⟩; clear HT; have HT := Aside.mk h; clear h) | (go_at_call 12; refine (HT.out.mul (by omega) _ _).mono ?_; rintro e w2 ⟨rfl, h⟩; clear HT; have HT := Aside.mk h; clear h))
    go_ret
    exact ⟨rfl, HT.out.bel⟩

/-! Logarithms -/
theorem logV2_spec {a : Int} (h : lowN a ≠ 0) : Gf.pw (logV2 a) = lowN a := by
  unfold logV2
  rw [if_neg h]
  exact (Gf.log_spec (by omega) (lowN_lt a)).2
theorem arN_log (a : Int) : arN (logV2 a : Int) = logV2 a := by
  have := logV2_lt a
  rw [arN_nat]; omega
theorem exp_log {a : Int} (h : lowN a ≠ 0) : Gf.pw (arN (logV2 a : Int)) = lowN a := by rw [arN_log, logV2_spec h]
theorem exp_logs {a b : Int} (ha : lowN a ≠ 0) (hb : lowN b ≠ 0) : Gf.pw (arN ((logV2 a : Int) + (logV2 b : Int))) = mulV a b := by
  rw [show (logV2 a : Int) + (logV2 b : Int) = ((logV2 a + logV2 b : Nat) : Int) by omega, arN_nat, Gf.pw_mod, ← Gf.mul_pw, logV2_spec ha, logV2_spec hb]
  rfl
theorem logV2_none {a : Int} (h : lowN a = 0) : logV2 a = 0 := by unfold logV2; rw [if_pos h]

set_option maxRecDepth 100000 in
set_option maxHeartbeats 3200000 in
theorem gfLogs_walk (a b : Int) (w : World) (_h1 : (Lit.int .i64 a).wf = true) (_h2 : (Lit.int .i64 b).wf = true) :
    Calls Try.prog 6 #[.int .i64 a, .int .i64 b] w fun e w' => e = .returned (.bool true) ∧ Below w.heap.size w w' := by
  have f5 := and8191 a
  have f6 := and8191 b
  have l1 := logV2_lt a
  have l2 := logV2_lt b
  have f7 : ¬ (8190 : Int) < (logV2 a : Int) := by omega
  have f8 : IntKind.i64.wrap ((logV2 a : Int) + (logV2 b : Int)) = (logV2 a : Int) + (logV2 b : Int) := by rw [IntKind.wrap_i64]; omega
  have g1 := @exp_log a
  have g2 := @exp_logs a b
  have HG := Aside.mk (And.intro g1 g2)
  clear g1 g2
  go_enter Try.func6, Try.ntmps6
  go_upto_region 4 with (go_at_call 10; refine (gf_speaks _).mono ?_; rintro e w1 ⟨rfl, hb1⟩)
  have HT := Aside.mk (St.new hb1)
  clear hb1
  generalize w1.alloc (.cells #[.int .u32 0, .int .i32 0, .int .u32 0, .slice none 0 0, .slice none 0 0, .int .i64 0] 40) = W at *
  generalize w1.heap.size = f at *
  have HA := Aside.mk (fun W (h : St w f 0 W) => h.log a)
  have HB := Aside.mk (fun W (h : St w f 0 W) => h.log b)
  by_cases h0 : lowN a = 0
  · rw [decide_eq_true h0, logV2_none h0] at HA
    rw [h0, Int.natCast_zero] at f5
    clear f7 f8 l1 h0 HG
    by_cases h1 : lowN b = 0
    · rw [decide_eq_true h1] at HB
      rw [h1, Int.natCast_zero] at f6
      clear h1
      go_wp2_with (first | (obtain ⟨HI⟩ := HA; go_at_call 19; refine (HI _ HT.out).mono ?_; clear HI; rintro e w2 ⟨rfl, h⟩; clear HT; have HT := Aside.mk h; clear h) | (obtain ⟨HI⟩ := HB; go_at_call 19; refine (HI _ HT.out).mono ?_; clear HI; rintro e w2 ⟨rfl, h⟩; clear HT; have HT := Aside.mk h; clear h))
      go_ret
      exact ⟨rfl, HT.out.bel⟩
    · have f9 : ((lowN b : Int) != 0) = true := by simp; omega
      rw [decide_eq_false h1] at HB
      clear h1
      go_wp2_with (first | (obtain ⟨HI⟩ := HA; go_at_call 19; refine (HI _ HT.out).mono ?_; clear HI; rintro e w2 ⟨rfl, h⟩; clear HT; have HT := Aside.mk h; clear h) | (obtain ⟨HI⟩ := HB; go_at_call 19; refine (HI _ HT.out).mono ?_; clear HI; rintro e w2 ⟨rfl, h⟩; clear HT; have HT := Aside.mk h; clear h))
      go_ret
      exact ⟨rfl, HT.out.bel⟩
  · have f9 : ((lowN a : Int) != 0) = true := by simp; omega
    have g1 := HG.out.1 h0
    by_cases h1 : lowN b = 0
    · rw [decide_eq_true h1] at HB
      rw [decide_eq_false h0] at HA
      rw [h1, Int.natCast_zero] at f6
      clear h1 h0 HG
      go_wp2_with (first | (obtain ⟨HI⟩ := HA; go_at_call 19; refine (HI _ HT.out).mono ?_; clear HI; rintro e w2 ⟨rfl, h⟩; clear HT; have HT := Aside.mk h; clear h) | (obtain ⟨HI⟩ := HB; go_at_call 19; refine (HI _ HT.out).mono ?_; clear HI; rintro e w2 ⟨rfl, h⟩; clear HT; have HT := Aside.mk h; clear h) | (go_at_call 20; refine (HT.out.exp _ (by omega) (by omega)).mono ?_; rintro e w2 ⟨rfl, h⟩; clear HT; have HT := Aside.mk h; clear h))
      go_ret
      exact ⟨rfl, HT.out.bel⟩
    · have g2 := HG.out.2 h0 h1
      have fb : ((lowN b : Int) != 0) = true := by simp; omega
      rw [decide_eq_false h1] at HB
      rw [decide_eq_false h0] at HA
      clear h1 h0 HG
      go_wp2_with (first | (obtain ⟨HI⟩ := HA; go_at_call 19; refine (HI _ HT.out).mono ?_; clear HI; rintro e w2 ⟨rfl, h⟩; clear HT; have HT := Aside.mk h; clear h) | (obtain ⟨HI⟩ := HB; go_at_call 19; refine (HI _ HT.out).mono ?_; clear HI; rintro e w2 ⟨rfl, h⟩; clear HT; have HT := Aside.mk h; clear h) | (go_at_call 20; refine (HT.out.exp _ (by omega) (by omega)).mono ?_; rintro e w2 ⟨rfl, h⟩; clear HT; have HT := Aside.mk h; clear h) | (go_at_call 12; refine (HT.out.mul (by omega) _ _).mono ?_; rintro e w2 ⟨rfl, h⟩; clear HT; have HT := Aside.mk h; clear h))
      go_ret
      exact ⟨rfl, HT.out.bel⟩
end Go.Proofs.Ytciacjegndjdmaa
