/-
  Powers and values of polynomials, by the field.
-/
import Derived.Test.YtciacjegndjdmaaGfMethods
namespace Go.Proofs.Ytciacjegndjdmaa
open Go.RowKit

/-- What Pow answers. -/
noncomputable def powN (a : Nat) (n : Int) : Nat := if n = 0 then 1 else if a = 0 then 0 else Gf.pw (Gf.log a * arN n % 8191)
theorem powN_zero (a : Nat) : powN a 0 = 1 := by unfold powN; rw [if_pos rfl]
theorem powN_none {n : Int} (h : n ≠ 0) : powN 0 n = 0 := by unfold powN; rw [if_neg h, if_pos rfl]
theorem powN_some {a : Nat} {n : Int} (h : n ≠ 0) (h0 : 0 < a) : powN a n = Gf.pw (Gf.log a * arN n % 8191) := by unfold powN; rw [if_neg h, if_neg (by omega)]
/-- Of a natural number it is the power. -/
theorem powN_nat {a : Nat} (ha : a < 8192) (n : Nat) : powN a (n : Int) = Gf.pow a n := by
  rcases Nat.eq_zero_or_pos n with rfl | hn
  · exact powN_zero a
  · have hn' : (n : Int) ≠ 0 := by omega
    rcases Nat.eq_zero_or_pos a with rfl | h0
    · rw [powN_none hn', Gf.pow_zero hn]
    · rw [powN_some hn' h0, Gf.pw_mod, arN_nat, ← Gf.pow_log h0 ha, Gf.pow_mod h0 ha]

set_option maxHeartbeats 800000 in
set_option maxRecDepth 100000 in
theorem gf_pow (f p : Nat) (a n : Int) (w : World) (hF : Fld w f p) (h1 : -9223372036854775808 ≤ n) (h2 : n ≤ 9223372036854775807) :
    Calls Try.prog 22 #[.pointer (some ⟨f, 0, none⟩), .int .i64 a, .int .i64 n] w (Fpost w f p (.int .i64 (powN (lowN a) n : Nat))) := by
  have hl := lowN_lt a
  have HA := Aside.mk (gf_low a)
  generalize lowN a = x at *
  by_cases hn : n = 0
  · subst hn
    rw [powN_zero]
    go_enter Try.func22, Try.ntmps22
    go_wp2_with (go_at_call 24; refine (HA.out _).mono ?_; rintro e w1 ⟨rfl, rfl⟩)
    go_ret
    exact ⟨rfl, hF, World.grownBy.refl _ _⟩
  · have hn1 : (n == 0) = false := by simp [hn]
    rcases Nat.eq_zero_or_pos x with rfl | h0
    · rw [powN_none hn]
      clear hn
      go_enter Try.func22, Try.ntmps22
      go_wp2_with (go_at_call 24; refine (HA.out _).mono ?_; rintro e w1 ⟨rfl, rfl⟩)
      go_ret
      exact ⟨rfl, hF, World.grownBy.refl _ _⟩
    · rw [powN_some hn h0]
      have hr := arN_lt n
      have HR := Aside.mk (fun W => gf_around n W h1 h2)
      generalize arN n = r at *
      obtain ⟨k, hk⟩ : ∃ k, k = Gf.log x * r % 8191 := ⟨_, rfl⟩
      rw [← hk]
      have HK := Aside.mk hk
      have hx1 : (0 : Int) ≤ (x : Int) := by omega
      have hx2 : (x : Int) < 8192 := by omega
      have hx3 : ((x : Int) == 0) = false := by simp; omega
      clear hk hn
      go_enter Try.func22, Try.ntmps22
      go_upto_region 9 with (first | (go_at_call 24; refine (HA.out _).mono ?_; rintro e w1 ⟨rfl, rfl⟩) | (go_at_call 25; refine (gf_tables f p _ hF).mono ?_; rintro e w1 ⟨rfl, hM, hg⟩))
      obtain ⟨ge, gl, hM⟩ := hM
      have c3 := hM.c3
      have c4 := hM.c4
      have e1 := hM.logCell h0 hl
      have li := Gf.log_lt x
      have e2 := hM.expCell (show k < 16382 by rw [HK.out]; omega)
      have hk := HK.out
      clear HK
      generalize Gf.log x = i at *
      have hm0 : i * r ≤ 8190 * 8190 := Nat.mul_le_mul (by omega) (by omega)
      obtain ⟨m, hm⟩ : ∃ m, m = i * r := ⟨_, rfl⟩
      rw [← hm] at hk hm0
      have hm2 : IntKind.i64.wrap ((i : Int) * (r : Int)) = (m : Int) := by rw [hm, IntKind.wrap_i64, ← Int.natCast_mul, ← hm]; omega
      have hm3 : Int.tmod (m : Int) 8191 = (k : Int) := by rw [Int.tmod_eq_emod_of_nonneg (by omega)]; omega
      have hm4 : (m : Int) % 8191 = (k : Int) := by omega
      have hk3 : (0 : Int) ≤ (k : Int) := by omega
      have hk4 : (k : Int) < 16382 := by omega
      clear hk hm
      generalize Gf.pw k = z at *
      go_quiet ((go_at_call 29; exact Calls.quiet_of_same ((HR.out _).mono fun e w' ⟨h1, h2⟩ => ⟨h1, h2.symm⟩)))
      go_wp2
      go_ret
      exact ⟨rfl, .inr ⟨ge, gl, hM.drewN _⟩, grownBy_drewN hg _⟩
theorem gf_pow_nil (a n : Int) (w : World) :
    Calls Try.prog 22 #[.pointer none, .int .i64 a, .int .i64 n] w fun e w' => e = .returned (.int .i64 0) ∧ w = w' := by
  go_enter Try.func22, Try.ntmps22
  go_wp2_with (go_at_call 24; refine (gf_low a _).mono ?_; rintro e w1 ⟨rfl, rfl⟩)
  go_ret
  exact ⟨rfl, rfl⟩

/-- A polynomial's value, from the highest coefficient on downwards. -/
def evalH (l : List Int) (x : Nat) : Nat := l.foldr (fun c v => Gf.mul v x ^^^ lowN c) 0
theorem evalH_lt (l : List Int) (x : Nat) : evalH l x < 8192 := by
  induction l with
  | nil => exact (by decide : 0 < 8192)
  | cons c l ih => exact Gf.xor_lt (Gf.mul_lt _ ih) (lowN_lt c)
theorem evalH_drop {l : List Int} {k : Nat} (h : k < l.length) (x : Nat) : evalH (l.drop k) x = Gf.mul (evalH (l.drop (k + 1)) x) x ^^^ lowN (l.getD k 0) := by
  have e : l.getD k 0 = l[k] := by simp [List.getD_eq_getElem?_getD, List.getElem?_eq_getElem h]
  rw [List.drop_eq_getElem_cons h, e]
  rfl
/-- Some draws later. -/
def DrewOf (a b : World) : Prop := ∃ m, b = a.drewN m
theorem DrewOf.refl (a : World) : DrewOf a a := ⟨0, rfl⟩
theorem DrewOf.more {a b : World} (h : DrewOf a b) (m : Nat) : DrewOf a (b.drewN m) := by
  obtain ⟨k, rfl⟩ := h
  exact ⟨k + m, by rw [World.drewN_drewN]⟩

set_option maxHeartbeats 1600000 in
set_option maxRecDepth 100000 in
theorem gf_eval (f p : Nat) (A : Option Addr) (n c : Nat) (l : List Int) (x : Int) (w : World) (hF : Fld w f p) (hn : n ≤ 9223372036854775807) (hl : n = l.length) (hR : Rd w A n (fun k => .int .i64 (l.getD k 0))) (hA : ∀ b off, A = some ⟨b, off, none⟩ → b ≠ f) :
    Calls Try.prog 17 #[.pointer (some ⟨f, 0, none⟩), .slice A n c, .int .i64 x] w (Mpost w f p (.int .i64 (evalH l (lowN x) : Nat))) := by
  have HR := Aside.mk (And.intro hl (And.intro hR hA))
  clear hl hR hA
  go_enter Try.func17, Try.ntmps17
  go_wp2_with (go_at_call 25; refine (gf_tables f p _ hF).mono ?_; rintro e w1 ⟨rfl, hM, hg⟩)
  go_loopw [7, 8] (fun s7 s8 wr => ∃ k : Nat, k ≤ n ∧ s8 = .int .i64 ((k : Int) - 1) ∧ s7 = .int .i64 (evalH (l.drop k) (lowN x) : Nat) ∧ DrewOf w1 wr) (fun _ s8 _ => ((intOf s8) + 1).toNat)
  case atStart => exact ⟨n, by omega, rfl, by rw [HR.out.1, List.drop_length]; rfl, DrewOf.refl _⟩
  case round =>
    obtain ⟨k, hk, rfl, rfl, hD⟩ := hrel
    have hMr : Made wr f p ∧ w.grownBy wr (some f) := by
      obtain ⟨m, rfl⟩ := hD
      exact ⟨hM.drewN m, grownBy_drewN hg m⟩
    have HM := Aside.mk (And.intro hMr hD)
    clear hMr hD
    by_cases h0 : k = 0
    · subst h0
      rw [List.drop_zero]
      go_wp2
      go_ret
      exact ⟨rfl, HM.out.1.1, HM.out.1.2⟩
    · obtain ⟨j, rfl⟩ : ∃ j, k = j + 1 := ⟨k - 1, by omega⟩
      have hjn : j < n := by omega
      obtain ⟨b, off, rfl, hlt, hc⟩ := HR.out.2.1 j hjn
      have y1 : wr.cell? ⟨b, off + j, none⟩ = some (.int .i64 (l.getD j 0)) := HM.out.1.2.cell hc (by have := HR.out.2.2 b off rfl; simp; omega)
      have hev := evalH_drop (l := l) (k := j) (by have := HR.out.1; omega) (lowN x)
      have hel := evalH_lt (l.drop (j + 1)) (lowN x)
      have hel2 := evalH_lt (l.drop j) (lowN x)
      generalize l.getD j 0 = y at *
      have hlow := lowN_of_lt hel
      have HV := Aside.mk (And.intro hev hlow)
      generalize evalH (l.drop (j + 1)) (lowN x) = v at *
      have hml := Gf.mul_lt (lowN x) hel
      have hyl := lowN_lt y
      have hx := i64_xor_nat (a := Gf.mul v (lowN x)) (b := lowN y) (by omega) (by omega)
      rw [← HV.out.1] at hx
      have hT : ∀ W, Made W f p → Calls Try.prog 27 #[.pointer (some ⟨f, 0, none⟩), .int .i64 (v : Int), .int .i64 x] W fun e w' => e = .returned (.int .i64 (Gf.mul v (lowN x) : Nat)) ∧ ∃ m, w' = W.drewN m := fun W h => by
        have := gf_times f p (v : Int) x W h
        rwa [HV.out.2] at this
      have HT := Aside.mk hT
      have e1 : ((j + 1 : Nat) : Int) - 1 = (j : Int) := by omega
      have e2 : IntKind.i64.wrap ((j : Int) - 1) = (j : Int) - 1 := by rw [IntKind.wrap_i64]; omega
      have hj0 : (0 : Int) ≤ (j : Int) := by omega
      have hj1 : (j : Int) < (n : Int) := by omega
      rw [e1]
      clear hev hlow hT e1
      generalize Gf.mul v (lowN x) = mm at *
      go_upto_region 8 with fail
      go_quiet ((first | (go_at_call 27; exact Calls.quiet_of (HT.out _ (HM.out.1.1.drewN _))) | (go_at_call 24; exact Calls.quiet_of_same ((gf_low y _).mono fun e w' ⟨h1, h2⟩ => ⟨h1, h2.symm⟩))))
      go_wp2
      go_roundw
      case rel => exact ⟨j, by omega, rfl, rfl, HM.out.2.more _⟩
      case measure => simp [intOf]
theorem gf_eval_nil (A : Value) (x : Int) (w : World) :
    Calls Try.prog 17 #[.pointer none, A, .int .i64 x] w fun e w' => e = .returned (.int .i64 0) ∧ w = w' := by
  go_enter Try.func17, Try.ntmps17
  go_wp2
  go_ret
  exact ⟨rfl, rfl⟩
end Go.Proofs.Ytciacjegndjdmaa
