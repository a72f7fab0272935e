/-
  What the field's methods answer.
-/
import Derived.Test.YtkdfbganhohbfaaDoorGfField
import Derived.Deep.QuietTactic
import Derived.BigQuiet
namespace Go.Proofs.YtkdfbganhohbfaaDoor
open Go.RowKit

theorem gf_low (a : Int) (w : World) : Calls Tryd.prog 42 #[.int .i64 a] w fun e w' => e = .returned (.int .i64 (lowN a : Nat)) ∧ w = w' := by
  have h := and8191 a
  go_enter Tryd.func42, Tryd.ntmps42
  go_wp2
  go_ret
  exact ⟨rfl, rfl⟩
/-- A number's remainder, 0 and more. -/
def arN (n : Int) : Nat := (n % 8191).toNat
theorem arN_lt (n : Int) : arN n < 8191 := by unfold arN; omega
theorem arN_nat (n : Nat) : arN (n : Int) = n % 8191 := by unfold arN; omega
theorem tmod_nonneg {n : Int} (h : 0 ≤ n) : n.tmod 8191 = (arN n : Int) := by rw [Int.tmod_eq_emod_of_nonneg h]; unfold arN; omega
theorem tmod_neg {n : Int} (h : n < 0) : n.tmod 8191 = (arN n : Int) - 8191 ∨ (n.tmod 8191 = 0 ∧ arN n = 0) := by
  have h1 := Int.tmod_eq_emod (a := n) (b := 8191)
  rw [h1]
  unfold arN
  split
  · rename_i hc
    rcases hc with hc | hc
    · omega
    · right; omega
  · simp; omega
set_option maxHeartbeats 400000 in
theorem gf_around (n : Int) (w : World) (h1 : -9223372036854775808 ≤ n) (h2 : n ≤ 9223372036854775807) :
    Calls Tryd.prog 40 #[.int .i64 n] w fun e w' => e = .returned (.int .i64 (arN n : Nat)) ∧ w = w' := by
  have hl := arN_lt n
  by_cases h0 : 0 ≤ n
  · have ht := tmod_nonneg h0
    have HT := Aside.mk ht
    have he : n % 8191 = (arN n : Int) := by unfold arN; omega
    generalize arN n = r at *
    clear ht
    go_enter Tryd.func40, Tryd.ntmps40
    go_wp2
    go_ret
    exact ⟨by show Ending.returned (.int .i64 (n % 8191)) = _; rw [he], rfl⟩
  · rcases tmod_neg (show n < 0 by omega) with ht | ⟨ht, h00⟩
    · have hw : IntKind.i64.wrap ((arN n : Int) - 8191 + 8191) = (arN n : Int) := by rw [IntKind.wrap_i64]; omega
      generalize arN n = r at *
      have hlt : (r : Int) - 8191 < 0 := by omega
      go_enter Tryd.func40, Tryd.ntmps40
      go_wp2
      go_ret
      exact ⟨by first | rfl | (congr 2; omega), rfl⟩
    · rw [h00]
      go_enter Tryd.func40, Tryd.ntmps40
      go_wp2
      go_ret
      exact ⟨rfl, rfl⟩

set_option maxHeartbeats 800000 in
set_option maxRecDepth 100000 in
theorem gf_times [Host] (f p : Nat) (a b : Int) (w : World) (hM : Made w f p) :
    Calls Tryd.prog 44 #[.pointer (some ⟨f, 5, none⟩), .int .i64 a, .int .i64 b] w fun e w' => e = .returned (.int .i64 (Gf.mul (lowN a) (lowN b) : Nat)) ∧ ∃ m, w' = w.drewN m := by
  have ha := lowN_lt a
  have hb := lowN_lt b
  have HA := Aside.mk (And.intro (gf_low a) (gf_low b))
  generalize lowN a = x at *
  generalize lowN b = y at *
  rcases Nat.eq_zero_or_pos x with rfl | hx
  · rw [Gf.mul_zero_left]
    go_enter Tryd.func44, Tryd.ntmps44
    have HA1 := HA
    go_wp2_with (first | (obtain ⟨HI⟩ := HA1; go_at_call 42; refine (HI.1 _).mono ?_; rintro e w1 ⟨rfl, rfl⟩) | (obtain ⟨HI⟩ := HA; go_at_call 42; refine (HI.2 _).mono ?_; rintro e w1 ⟨rfl, rfl⟩))
    go_ret
    exact ⟨rfl, 0, rfl⟩
  · rcases Nat.eq_zero_or_pos y with rfl | hy
    · rw [Gf.mul_zero_right]
      have hx2 : ((x : Int) == 0) = false := by simp; omega
      go_enter Tryd.func44, Tryd.ntmps44
      have HA1 := HA
      go_wp2_with (first | (obtain ⟨HI⟩ := HA1; go_at_call 42; refine (HI.1 _).mono ?_; rintro e w1 ⟨rfl, rfl⟩) | (obtain ⟨HI⟩ := HA; go_at_call 42; refine (HI.2 _).mono ?_; rintro e w1 ⟨rfl, rfl⟩))
      go_ret
      exact ⟨rfl, 0, rfl⟩
    · obtain ⟨ge, gl, hM⟩ := hM
      have c3 := hM.c3
      have c4 := hM.c4
      have x1 := hM.logCell hx ha
      have y1 := hM.logCell hy hb
      have lx := Gf.log_lt x
      have ly := Gf.log_lt y
      have e1 := hM.expCell (show Gf.log x + Gf.log y < 16382 by omega)
      rw [← Gf.mul_log hx ha hy hb] at e1
      generalize Gf.log x = i at *
      generalize Gf.log y = j at *
      generalize Gf.mul x y = z at *
      have hx2 : ((x : Int) == 0) = false := by simp; omega
      have hy2 : ((y : Int) == 0) = false := by simp; omega
      have hx3 : (0 : Int) ≤ (x : Int) := by omega
      have hy3 : (0 : Int) ≤ (y : Int) := by omega
      have hx4 : (x : Int) < 8192 := by omega
      have hy4 : (y : Int) < 8192 := by omega
      obtain ⟨k, hk⟩ : ∃ k, k = i + j := ⟨_, rfl⟩
      rw [← hk] at e1
      have hk2 : IntKind.i64.wrap ((i : Int) + (j : Int)) = (k : Int) := by rw [IntKind.wrap_i64]; omega
      have hk3 : (0 : Int) ≤ (k : Int) := by omega
      have hk4 : (k : Int) < 16382 := by omega
      clear hk
      go_enter Tryd.func44, Tryd.ntmps44
      have HA1 := HA
      go_upto_region 4 with (first | (obtain ⟨HI⟩ := HA1; go_at_call 42; refine (HI.1 _).mono ?_; rintro e w1 ⟨rfl, rfl⟩) | (obtain ⟨HI⟩ := HA; go_at_call 42; refine (HI.2 _).mono ?_; rintro e w1 ⟨rfl, rfl⟩))
      go_quiet (fail)
      go_wp2
      go_ret
      exact ⟨rfl, _, rfl⟩

/-- What is left of a call of a method. -/
def Fpost [Host] (w : World) (f p : Nat) (v : Value) (e : Ending) (w' : World) : Prop := e = .returned v ∧ Fld w' f p ∧ w.grownBy w' (some f)
/-- The same, the tables made. -/
def Mpost [Host] (w : World) (f p : Nat) (v : Value) (e : Ending) (w' : World) : Prop := e = .returned v ∧ Made w' f p ∧ w.grownBy w' (some f)
theorem grownBy_drewN {w w' : World} {row : Option Nat} (h : w.grownBy w' row) (m : Nat) : w.grownBy (w'.drewN m) row := ⟨h.os, h.tape, h.output, h.size, h.block⟩
theorem Made.drewN [Host] {w : World} {f p : Nat} (h : Made w f p) (m : Nat) : Made (w.drewN m) f p := by
  obtain ⟨ge, gl, h⟩ := h
  exact ⟨ge, gl, h.drewN m⟩
theorem Made.count [Host] {w : World} {f p : Nat} (h : Made w f p) : Made (w.setCell ⟨f, 10, none⟩ (.int .i64 ((p : Int) + 1))) f (p + 1) := by
  obtain ⟨ge, gl, h⟩ := h
  have g := grownBy_setCell w f 10 (.int .i64 ((p : Int) + 1))
  have n := h.ne
  exact ⟨ge, gl, h.fb.set5 _, h.ex.kept g (.inr (by simp only [Value.ownBlock, ne_eq, Option.some.injEq]; omega)), h.lg.kept g (.inr (by simp only [Value.ownBlock, ne_eq, Option.some.injEq]; omega)), n⟩

theorem gf_mul [Host] (f p : Nat) (a b : Int) (w : World) (hF : Fld w f p) (hp : p ≤ 1000000) :
    Calls Tryd.prog 29 #[.pointer (some ⟨f, 5, none⟩), .int .i64 a, .int .i64 b] w (Mpost w f (p + 1) (.int .i64 (Gf.mul (lowN a) (lowN b) : Nat))) := by
  go_enter Tryd.func29, Tryd.ntmps29
  go_wp2_with (first | (go_at_call 39; refine (gf_tables f p _ hF).mono ?_; rintro e w1 ⟨rfl, hM, hg⟩; have c5 : w1.cell? ⟨f, 10, none⟩ = some (.int .i64 (p : Int)) := (by obtain ⟨ge, gl, h⟩ := hM; exact h.fb.cell (i := 10) rfl); have z5 : w1.frozen? ⟨f, 10, none⟩ = false := (by obtain ⟨ge, gl, h⟩ := hM; exact h.fb.free 10)) | (go_at_call 43; refine (Once.int_add ⟨f, 10, none⟩ p _ c5 z5 (by omega) (by omega)).mono ?_; rintro e w2 ⟨rfl, rfl⟩; have hM2 := hM.count; have hg2 := World.grownBy.trans hg (grownBy_setCell w1 f 10 (.int .i64 ((p : Int) + 1))); clear c5 z5) | (go_at_call 44; refine (gf_times f (p + 1) a b _ hM2).mono ?_; rintro e w3 ⟨rfl, m, rfl⟩))
  go_ret
  exact ⟨rfl, hM2.drewN _, grownBy_drewN hg2 _⟩
theorem gf_mul_nil (a b : Int) (w : World) :
    Calls Tryd.prog 29 #[.pointer none, .int .i64 a, .int .i64 b] w fun e w' => e = .returned (.int .i64 0) ∧ w = w' := by
  go_enter Tryd.func29, Tryd.ntmps29
  go_wp2
  go_ret
  exact ⟨rfl, rfl⟩
/-! Exp -/
set_option maxHeartbeats 800000 in
set_option maxRecDepth 100000 in
theorem gf_exp [Host] (f p : Nat) (n : Int) (w : World) (hF : Fld w f p) (h1 : -9223372036854775808 ≤ n) (h2 : n ≤ 9223372036854775807) :
    Calls Tryd.prog 26 #[.pointer (some ⟨f, 5, none⟩), .int .i64 n] w (Mpost w f p (.int .i64 (Gf.pw (arN n) : Nat))) := by
  have hl := arN_lt n
  have HA := Aside.mk (fun W => gf_around n W h1 h2)
  generalize arN n = r at *
  have hr1 : (0 : Int) ≤ (r : Int) := by omega
  have hr2 : (r : Int) < 16382 := by omega
  go_enter Tryd.func26, Tryd.ntmps26
  go_upto_region 4 with (go_at_call 39; refine (gf_tables f p _ hF).mono ?_; rintro e w1 ⟨rfl, hM, hg⟩)
  obtain ⟨ge, gl, hM⟩ := hM
  have c3 := hM.c3
  have e1 := hM.expCell (show r < 16382 by omega)
  generalize Gf.pw r = z at *
  go_quiet ((go_at_call 40; exact Calls.quiet_of_same ((HA.out _).mono fun e w' ⟨h1, h2⟩ => ⟨h1, h2.symm⟩)))
  go_wp2
  go_ret
  exact ⟨rfl, ⟨ge, gl, hM.drewN _⟩, grownBy_drewN hg _⟩
theorem gf_exp_nil (n : Int) (w : World) :
    Calls Tryd.prog 26 #[.pointer none, .int .i64 n] w fun e w' => e = .returned (.int .i64 0) ∧ w = w' := by
  go_enter Tryd.func26, Tryd.ntmps26
  go_wp2
  go_ret
  exact ⟨rfl, rfl⟩

/-! Log -/
/-! Inv -/
end Go.Proofs.YtkdfbganhohbfaaDoor
