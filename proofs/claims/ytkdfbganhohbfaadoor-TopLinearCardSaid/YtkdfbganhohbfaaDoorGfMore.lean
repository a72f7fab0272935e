/-
  Powers and values of polynomials, by the field.
-/
import Derived.Test.YtkdfbganhohbfaaDoorGfMethods
import Derived.Test.YtkdfbganhohbfaaDoorDrew
namespace Go.Proofs.YtkdfbganhohbfaaDoor
open Go.RowKit

/-- What Pow answers. -/
noncomputable def powN (a : Nat) (n : Int) : Nat := if n = 0 then 1 else if a = 0 then 0 else Gf.pw (Gf.log a * arN n % 8191)
theorem powN_zero (a : Nat) : powN a 0 = 1 := by unfold powN; rw [if_pos rfl]
theorem powN_none {n : Int} (h : n ≠ 0) : powN 0 n = 0 := by unfold powN; rw [if_neg h, if_pos rfl]
theorem powN_some {a : Nat} {n : Int} (h : n ≠ 0) (h0 : 0 < a) : powN a n = Gf.pw (Gf.log a * arN n % 8191) := by unfold powN; rw [if_neg h, if_neg (by omega)]
/-- Of a natural number it is the power. -/
theorem powN_nat {a : Nat} (ha : a < 8192) (n : Nat) : powN a (n : Int) = Gf.pow a n := by
  rcases Nat.eq_zero_or_pos n with rfl | hn
  · exact powN_zero a
  · have hn' : (n : Int) ≠ 0 := by omega
    rcases Nat.eq_zero_or_pos a with rfl | h0
    · rw [powN_none hn', Gf.pow_zero hn]
    · rw [powN_some hn' h0, Gf.pw_mod, arN_nat, ← Gf.pow_log h0 ha, Gf.pow_mod h0 ha]

set_option maxHeartbeats 800000 in
set_option maxRecDepth 100000 in
theorem gf_pow [Host] (f p : Nat) (a n : Int) (w : World) (hF : Fld w f p) (h1 : -9223372036854775808 ≤ n) (h2 : n ≤ 9223372036854775807) :
    Calls Tryd.prog 28 #[.pointer (some ⟨f, 5, none⟩), .int .i64 a, .int .i64 n] w (Fpost w f p (.int .i64 (powN (lowN a) n : Nat))) := by
  have hl := lowN_lt a
  have HA := Aside.mk (gf_low a)
  generalize lowN a = x at *
  by_cases hn : n = 0
  · subst hn
    rw [powN_zero]
    go_enter Tryd.func28, Tryd.ntmps28
    go_wp2_with (go_at_call 42; refine (HA.out _).mono ?_; rintro e w1 ⟨rfl, rfl⟩)
    go_ret
    exact ⟨rfl, hF, World.grownBy.refl _ _⟩
  · have hn1 : (n == 0) = false := by simp [hn]
    rcases Nat.eq_zero_or_pos x with rfl | h0
    · rw [powN_none hn]
      clear hn
      go_enter Tryd.func28, Tryd.ntmps28
      go_wp2_with (go_at_call 42; refine (HA.out _).mono ?_; rintro e w1 ⟨rfl, rfl⟩)
      go_ret
      exact ⟨rfl, hF, World.grownBy.refl _ _⟩
    · rw [powN_some hn h0]
      have hr := arN_lt n
      have HR := Aside.mk (fun W => gf_around n W h1 h2)
      generalize arN n = r at *
      obtain ⟨k, hk⟩ : ∃ k, k = Gf.log x * r % 8191 := ⟨_, rfl⟩
      rw [← hk]
      have HK := Aside.mk hk
      have hx1 : (0 : Int) ≤ (x : Int) := by omega
      have hx2 : (x : Int) < 8192 := by omega
      have hx3 : ((x : Int) == 0) = false := by simp; omega
      clear hk hn
      go_enter Tryd.func28, Tryd.ntmps28
      go_upto_region 9 with (first | (go_at_call 42; refine (HA.out _).mono ?_; rintro e w1 ⟨rfl, rfl⟩) | (go_at_call 39; refine (gf_tables f p _ hF).mono ?_; rintro e w1 ⟨rfl, hM, hg⟩))
      obtain ⟨ge, gl, hM⟩ := hM
      have c3 := hM.c3
      have c4 := hM.c4
      have e1 := hM.logCell h0 hl
      have li := Gf.log_lt x
      have e2 := hM.expCell (show k < 16382 by rw [HK.out]; omega)
      have hk := HK.out
      clear HK
      generalize Gf.log x = i at *
      have hm0 : i * r ≤ 8190 * 8190 := Nat.mul_le_mul (by omega) (by omega)
      obtain ⟨m, hm⟩ : ∃ m, m = i * r := ⟨_, rfl⟩
      rw [← hm] at hk hm0
      have hm2 : IntKind.i64.wrap ((i : Int) * (r : Int)) = (m : Int) := by rw [hm, IntKind.wrap_i64, ← Int.natCast_mul, ← hm]; omega
      have hm3 : Int.tmod (m : Int) 8191 = (k : Int) := by rw [Int.tmod_eq_emod_of_nonneg (by omega)]; omega
      have hm4 : (m : Int) % 8191 = (k : Int) := by omega
      have hk3 : (0 : Int) ≤ (k : Int) := by omega
      have hk4 : (k : Int) < 16382 := by omega
      clear hk hm
      generalize Gf.pw k = z at *
      go_quiet ((go_at_call 40; exact Calls.quiet_of_same ((HR.out _).mono fun e w' ⟨h1, h2⟩ => ⟨h1, h2.symm⟩)))
      go_wp2
      go_ret
      exact ⟨rfl, .inr ⟨ge, gl, hM.drewN _⟩, grownBy_drewN hg _⟩
theorem gf_pow_nil (a n : Int) (w : World) :
    Calls Tryd.prog 28 #[.pointer none, .int .i64 a, .int .i64 n] w fun e w' => e = .returned (.int .i64 0) ∧ w = w' := by
  go_enter Tryd.func28, Tryd.ntmps28
  go_wp2_with (go_at_call 42; refine (gf_low a _).mono ?_; rintro e w1 ⟨rfl, rfl⟩)
  go_ret
  exact ⟨rfl, rfl⟩

/-- A polynomial's value, from the highest coefficient on downwards. -/
def evalH (l : List Int) (x : Nat) : Nat := l.foldr (fun c v => Gf.mul v x ^^^ lowN c) 0
theorem evalH_lt (l : List Int) (x : Nat) : evalH l x < 8192 := by
  induction l with
  | nil => exact (by decide : 0 < 8192)
  | cons c l ih => exact Gf.xor_lt (Gf.mul_lt _ ih) (lowN_lt c)
theorem evalH_drop {l : List Int} {k : Nat} (h : k < l.length) (x : Nat) : evalH (l.drop k) x = Gf.mul (evalH (l.drop (k + 1)) x) x ^^^ lowN (l.getD k 0) := by
  have e : l.getD k 0 = l[k] := by simp [List.getD_eq_getElem?_getD, List.getElem?_eq_getElem h]
  rw [List.drop_eq_getElem_cons h, e]
  rfl

end Go.Proofs.YtkdfbganhohbfaaDoor
