/-
  The field's methods once the tables are made: the tables stay where they are.
-/
import Derived.Test.YtkdfbganhohbfaaDoorGfMore
namespace Go.Proofs.YtkdfbganhohbfaaDoor
open Go.RowKit

def AtPost [Host] (w : World) (f ge gl p : Nat) (v : Value) (e : Ending) (w' : World) : Prop := e = .returned v ∧ MadeAt w' f ge gl p ∧ w.grownBy w' (some f)
theorem MadeAt.count [Host] {w : World} {f ge gl p : Nat} (h : MadeAt w f ge gl p) : MadeAt (w.setCell ⟨f, 10, none⟩ (.int .i64 ((p : Int) + 1))) f ge gl (p + 1) := by
  have g := grownBy_setCell w f 10 (.int .i64 ((p : Int) + 1))
  have n := h.ne
  exact ⟨h.fb.set5 _, h.ex.kept g (.inr (by simp only [Value.ownBlock, ne_eq, Option.some.injEq]; omega)), h.lg.kept g (.inr (by simp only [Value.ownBlock, ne_eq, Option.some.injEq]; omega)), n⟩
set_option maxHeartbeats 800000 in
theorem gf_tables_at [Host] (f ge gl p : Nat) (w : World) (hF : MadeAt w f ge gl p) :
    Calls Tryd.prog 39 #[.pointer (some ⟨f, 5, none⟩)] w (AtPost w f ge gl p (.tuple #[])) := by
  have hmf : ∀ (fn : Fn) (first cap : Array Value) (w : World), (Instr.makeFunc fn first cap).run Tryd.prog w = .ok (.func fn first cap) w := fun _ _ _ _ => rfl
  have g0 := World.grownBy_alloc w (.cells #[.pointer (some ⟨f, 5, none⟩)] 60) (some f)
  have g1 := World.grownBy_alloc w (.cells #[.pointer (some ⟨f, 5, none⟩)] 60) none
  have h := hF.kept g1 (by simp) (by simp) (by simp)
  have HA := Aside.mk (And.intro g0 h)
  clear g0 g1
  have c0 := h.fb.cell (i := 5) rfl
  have HC := Aside.mk c0
  clear c0 h hF
  go_enter Tryd.func39, Tryd.ntmps39
  go_wp2_with (go_at_call 11; refine (once_again f _ _ HC.out).mono ?_; rintro e w2 ⟨rfl, rfl⟩)
  go_end0
  exact ⟨rfl, HA.out.2, HA.out.1⟩
theorem gf_mul_at [Host] (f ge gl p : Nat) (a b : Int) (w : World) (hF : MadeAt w f ge gl p) (hp : p ≤ 1000000) :
    Calls Tryd.prog 29 #[.pointer (some ⟨f, 5, none⟩), .int .i64 a, .int .i64 b] w (AtPost w f ge gl (p + 1) (.int .i64 (Gf.mul (lowN a) (lowN b) : Nat))) := by
  go_enter Tryd.func29, Tryd.ntmps29
  go_wp2_with (first | (go_at_call 39; refine (gf_tables_at f ge gl p _ hF).mono ?_; rintro e w1 ⟨rfl, hM, hg⟩; have c5 : w1.cell? ⟨f, 10, none⟩ = some (.int .i64 (p : Int)) := (by exact hM.fb.cell (i := 10) rfl); have z5 : w1.frozen? ⟨f, 10, none⟩ = false := (by exact hM.fb.free 10)) | (go_at_call 43; refine (Once.int_add ⟨f, 10, none⟩ p _ c5 z5 (by omega) (by omega)).mono ?_; rintro e w2 ⟨rfl, rfl⟩; have hM2 := hM.count; have hg2 := World.grownBy.trans hg (grownBy_setCell w1 f 10 (.int .i64 ((p : Int) + 1))); clear c5 z5) | (go_at_call 44; refine (gf_times f (p + 1) a b _ ⟨ge, gl, hM2⟩).mono ?_; rintro e w3 ⟨rfl, m, rfl⟩))
  go_ret
  exact ⟨rfl, hM2.drewN _, grownBy_drewN hg2 _⟩
set_option maxHeartbeats 800000 in
set_option maxRecDepth 100000 in
theorem gf_exp_at [Host] (f ge gl p : Nat) (n : Int) (w : World) (hF : MadeAt w f ge gl p) (h1 : -9223372036854775808 ≤ n) (h2 : n ≤ 9223372036854775807) :
    Calls Tryd.prog 26 #[.pointer (some ⟨f, 5, none⟩), .int .i64 n] w (AtPost w f ge gl p (.int .i64 (Gf.pw (arN n) : Nat))) := by
  have hl := arN_lt n
  have HA := Aside.mk (fun W => gf_around n W h1 h2)
  generalize arN n = r at *
  have hr1 : (0 : Int) ≤ (r : Int) := by omega
  have hr2 : (r : Int) < 16382 := by omega
  go_enter Tryd.func26, Tryd.ntmps26
  go_upto_region 4 with (go_at_call 39; refine (gf_tables_at f ge gl p _ hF).mono ?_; rintro e w1 ⟨rfl, hM, hg⟩)
  have c3 := hM.c3
  have e1 := hM.expCell (show r < 16382 by omega)
  generalize Gf.pw r = z at *
  go_quiet ((go_at_call 40; exact Calls.quiet_of_same ((HA.out _).mono fun e w' ⟨h1, h2⟩ => ⟨h1, h2.symm⟩)))
  go_wp2
  go_ret
  exact ⟨rfl, hM.drewN _, grownBy_drewN hg _⟩
set_option maxHeartbeats 800000 in
set_option maxRecDepth 100000 in
theorem gf_pow_at [Host] (f ge gl p : Nat) (a n : Int) (w : World) (hF : MadeAt w f ge gl p) (h1 : -9223372036854775808 ≤ n) (h2 : n ≤ 9223372036854775807) :
    Calls Tryd.prog 28 #[.pointer (some ⟨f, 5, none⟩), .int .i64 a, .int .i64 n] w (AtPost w f ge gl p (.int .i64 (powN (lowN a) n : Nat))) := by
  have hl := lowN_lt a
  have HA := Aside.mk (gf_low a)
  generalize lowN a = x at *
  by_cases hn : n = 0
  · subst hn
    rw [powN_zero]
    go_enter Tryd.func28, Tryd.ntmps28
    go_wp2_with (go_at_call 42; refine (HA.out _).mono ?_; rintro e w1 ⟨rfl, rfl⟩)
    go_ret
    exact ⟨rfl, hF, World.grownBy.refl _ _⟩
  · have hn1 : (n == 0) = false := by simp [hn]
    rcases Nat.eq_zero_or_pos x with rfl | h0
    · rw [powN_none hn]
      clear hn
      go_enter Tryd.func28, Tryd.ntmps28
      go_wp2_with (go_at_call 42; refine (HA.out _).mono ?_; rintro e w1 ⟨rfl, rfl⟩)
      go_ret
      exact ⟨rfl, hF, World.grownBy.refl _ _⟩
    · rw [powN_some hn h0]
      have hr := arN_lt n
      have HR := Aside.mk (fun W => gf_around n W h1 h2)
      generalize arN n = r at *
      obtain ⟨k, hk⟩ : ∃ k, k = Gf.log x * r % 8191 := ⟨_, rfl⟩
      rw [← hk]
      have HK := Aside.mk hk
      have hx1 : (0 : Int) ≤ (x : Int) := by omega
      have hx2 : (x : Int) < 8192 := by omega
      have hx3 : ((x : Int) == 0) = false := by simp; omega
      clear hk hn
      go_enter Tryd.func28, Tryd.ntmps28
      go_upto_region 9 with (first | (go_at_call 42; refine (HA.out _).mono ?_; rintro e w1 ⟨rfl, rfl⟩) | (go_at_call 39; refine (gf_tables_at f ge gl p _ hF).mono ?_; rintro e w1 ⟨rfl, hM, hg⟩))
      have c3 := hM.c3
      have c4 := hM.c4
      have e1 := hM.logCell h0 hl
      have li := Gf.log_lt x
      have e2 := hM.expCell (show k < 16382 by rw [HK.out]; omega)
      have hk := HK.out
      clear HK
      generalize Gf.log x = i at *
      have hm0 : i * r ≤ 8190 * 8190 := Nat.mul_le_mul (by omega) (by omega)
      obtain ⟨m, hm⟩ : ∃ m, m = i * r := ⟨_, rfl⟩
      rw [← hm] at hk hm0
      have hm2 : IntKind.i64.wrap ((i : Int) * (r : Int)) = (m : Int) := by rw [hm, IntKind.wrap_i64, ← Int.natCast_mul, ← hm]; omega
      have hm3 : Int.tmod (m : Int) 8191 = (k : Int) := by rw [Int.tmod_eq_emod_of_nonneg (by omega)]; omega
      have hm4 : (m : Int) % 8191 = (k : Int) := by omega
      have hk3 : (0 : Int) ≤ (k : Int) := by omega
      have hk4 : (k : Int) < 16382 := by omega
      clear hk hm
      generalize Gf.pw k = z at *
      go_quiet ((go_at_call 40; exact Calls.quiet_of_same ((HR.out _).mono fun e w' ⟨h1, h2⟩ => ⟨h1, h2.symm⟩)))
      go_wp2
      go_ret
      exact ⟨rfl, hM.drewN _, grownBy_drewN hg _⟩
end Go.Proofs.YtkdfbganhohbfaaDoor
