/-
  A field in memory, fresh or with its tables; the tables are made once.
  What the field's methods answer.
  A world some draws later.
  Powers and values of polynomials, by the field.
  The field's methods once the tables are made: the tables stay where they are.
  Polynomials over two numbers as natural numbers' bits: no program in sight.
-/
import Derived.Test.YtffdpmejilmnnaaMg2
import Derived.Laws.NewBlocks
import Derived.Deep.QuietTactic
import Derived.BigQuiet
namespace Go.Proofs.Ytffdpmejilmnnaa
open Go.RowKit

def Fresh [Host] (w : World) (f p : Nat) : Prop := FB w f (.int .u32 0) (.int .i32 0) (.int .u32 0) (.slice none 0 0) (.slice none 0 0) (.int .i64 p)
/-- The tables are there. -/
structure MadeAt [Host] (w : World) (f ge gl p : Nat) : Prop where
  fb : FB w f (.int .u32 1) (.int .i32 0) (.int .u32 0) (.slice (some ⟨ge, 0, none⟩) 16382 16382) (.slice (some ⟨gl, 0, none⟩) 8192 8192) (.int .i64 p)
  ex : ExpR w ge 8191
  lg : LogR w gl 8191
  ne : ge ≠ f ∧ gl ≠ f
def Made [Host] (w : World) (f p : Nat) : Prop := ∃ ge gl, MadeAt w f ge gl p
def Fld [Host] (w : World) (f p : Nat) : Prop := Fresh w f p ∨ Made w f p

theorem MadeAt.drewN [Host] {w : World} {f ge gl p : Nat} (h : MadeAt w f ge gl p) (m : Nat) : MadeAt (w.drewN m) f ge gl p := ⟨h.fb, h.ex.drewN m, h.lg.drewN m, h.ne⟩
theorem MadeAt.drew [Host] {w : World} {f ge gl p : Nat} (h : MadeAt w f ge gl p) : MadeAt w.drew f ge gl p := ⟨h.fb, h.ex.drew, h.lg.drew, h.ne⟩
theorem MadeAt.expCell [Host] {w : World} {f ge gl p : Nat} (h : MadeAt w f ge gl p) {i : Nat} (hi : i < 16382) : w.cell? ⟨ge, i, none⟩ = some (.int .i64 (Gf.pw i : Nat)) := by
  have h1 := Row.cells h.ex rfl i _ (expV_get hi)
  rw [add_plain, Nat.zero_add] at h1
  rw [h1]
  unfold expAt
  rw [if_pos (by omega)]
theorem MadeAt.logCell [Host] {w : World} {f ge gl p : Nat} (h : MadeAt w f ge gl p) {x : Nat} (h0 : 0 < x) (hx : x < 8192) : w.cell? ⟨gl, x, none⟩ = some (.int .i64 (Gf.log x : Nat)) := by
  have h1 := Row.cells h.lg rfl x _ (logV_get hx)
  rw [add_plain, Nat.zero_add] at h1
  rw [h1]
  have h2 := Gf.log_lt x
  unfold logAt
  rw [if_pos ⟨h0, h2⟩]
theorem MadeAt.c3 [Host] {w : World} {f ge gl p : Nat} (h : MadeAt w f ge gl p) : w.cell? ⟨f, 8, none⟩ = some (.slice (some ⟨ge, 0, none⟩) 16382 16382) := h.fb.cell (i := 8) rfl
theorem MadeAt.c4 [Host] {w : World} {f ge gl p : Nat} (h : MadeAt w f ge gl p) : w.cell? ⟨f, 9, none⟩ = some (.slice (some ⟨gl, 0, none⟩) 8192 8192) := h.fb.cell (i := 9) rfl
theorem MadeAt.kept [Host] {w w' : World} {f ge gl p : Nat} {row : Option Nat} (h : MadeAt w f ge gl p) (hg : w.grownBy w' row) (h1 : some f ≠ row) (h2 : some ge ≠ row) (h3 : some gl ≠ row) : MadeAt w' f ge gl p :=
  ⟨h.fb.kept hg h1, h.ex.kept hg (.inr h2), h.lg.kept hg (.inr h3), h.ne⟩
theorem Made.below [Host] {w w' : World} {f p : Nat} (h : Made w f p) (hb : Below w.heap.size w w') : Made w' f p := by
  obtain ⟨ge, gl, h⟩ := h
  exact ⟨ge, gl, h.kept (grownBy_of_below hb none) (by simp) (by simp) (by simp)⟩
theorem Fld.below [Host] {w w' : World} {f p : Nat} (h : Fld w f p) (hb : Below w.heap.size w w') : Fld w' f p := by
  rcases h with h | h
  · exact .inl (FB.kept h (grownBy_of_below hb none) (by simp))
  · exact .inr (h.below hb)
theorem Fld.lt [Host] {w : World} {f p : Nat} (h : Fld w f p) : f < w.heap.size := by
  rcases h with h | ⟨_, _, h⟩
  · exact FB.lt h
  · exact h.fb.lt

def SlowPost [Host] (w : World) (f p : Nat) (e : Ending) (w' : World) : Prop := e = .returned (.tuple #[]) ∧ Made w' f p ∧ w.grownBy w' (some f)

set_option maxRecDepth 100000 in
set_option maxHeartbeats 1600000 in
theorem once_slow [Host] (f bx p : Nat) (w : World) (hF : Fresh w f p) (hbx : w.cell? ⟨bx, 0, none⟩ = some (.pointer (some ⟨f, 5, none⟩))) (hne : bx ≠ f) (hlt : bx < w.heap.size) :
    Calls Try.prog 43 #[.pointer (some ⟨f, 5, none⟩), .func (.func 88) #[] #[.pointer (some ⟨bx, 0, none⟩)]] w (SlowPost w f p) := by
  have h1 := FB.set1 hF (.int .i32 1)
  have c0 : (w.setCell ⟨f, 6, none⟩ (.int .i32 1)).cell? ⟨f, 5, none⟩ = some (.int .u32 0) := h1.cell (i := 5) rfl
  have l0 : w.cell? ⟨f, 6, none⟩ = some (.int .i32 0) := FB.cell hF (i := 6) rfl
  have z0 : w.frozen? ⟨f, 6, none⟩ = false := FB.free hF 6
  have hb1 : (w.setCell ⟨f, 6, none⟩ (.int .i32 1)).cell? ⟨bx, 0, none⟩ = some (.pointer (some ⟨f, 5, none⟩)) := by rw [cell_setCell_far _ _ _ _ (Ne.symm hne)]; exact hbx
  have hg1 := grownBy_setCell w f 6 (.int .i32 1)
  have hs1 := size_setCell' w ⟨f, 6, none⟩ (.int .i32 1)
  have HA := Aside.mk (And.intro h1 (And.intro c0 (And.intro hb1 (And.intro hg1 (And.intro hs1 (And.intro l0 z0))))))
  clear h1 c0 hb1 hg1 hs1 l0 z0
  go_enter_defers Try.func43, Try.ntmps43
  go_wp2_with (first | (go_at_call 54; refine (Once.lock_free ⟨f, 6, none⟩ _ HA.out.2.2.2.2.2.1 HA.out.2.2.2.2.2.2).mono ?_; rintro e w1 ⟨rfl, rfl⟩) | (go_at_call 42; refine (Once.bool_load ⟨f, 5, none⟩ 0 false _ HA.out.2.1 rfl).mono ?_; rintro e w1 ⟨rfl, rfl⟩) | (go_at_call 88; refine (tables_fill f bx _ _ _ _ _ HA.out.1 HA.out.2.2.1 hne (by rw [HA.out.2.2.2.2.1]; exact hlt)).mono ?_; rintro e w2 ⟨rfl, ge, gl, hT⟩))
  have hF2 := hT.fb
  refine leaves_cons (f := 56) (args := #[.pointer (some ⟨f, 5, none⟩), .bool true]) (by simp) (by simp [go_sem]) ?_
  refine (Once.store_deferred ⟨f, 5, none⟩ (.int .u32 0) .returning _ (hF2.cell (i := 5) rfl) (hF2.free 5)).mono ?_
  rintro e u' w3 ⟨rfl, rfl, rfl⟩
  have hF3 := FB.set0 hF2.drew (.int .u32 1)
  refine leaves_cons (f := 55) (args := #[.pointer (some ⟨f, 6, none⟩)]) (by simp [settle]) (by simp [go_sem]) ?_
  refine (Once.unlock_deferred ⟨f, 6, none⟩ _ _ (hF3.cell (i := 6) rfl) (hF3.free 6)).mono ?_
  rintro e u' w4 ⟨rfl, rfl, rfl⟩
  have hF4 := FB.set1 hF3 (.int .i32 0)
  have o := hT.old
  have g1 := grownBy_setCell w2.drew f 5 (.int .u32 1)
  have g2 := grownBy_setCell (w2.drew.setCell ⟨f, 5, none⟩ (.int .u32 1)) f 6 (.int .i32 0)
  have hsz := HA.out.2.2.2.2.1
  have hfl := FB.lt hF
  have hP : SlowPost w f p (.returned (.tuple #[])) ((w2.drew.setCell ⟨f, 5, none⟩ (.int .u32 1)).setCell ⟨f, 6, none⟩ (.int .i32 0)) := by
    refine ⟨rfl, ⟨ge, gl, hF4, (hT.ex.drew.kept g1 (.inr (by simp only [Value.ownBlock, ne_eq, Option.some.injEq]; omega))).kept g2 (.inr (by simp only [Value.ownBlock, ne_eq, Option.some.injEq]; omega)), (hT.lg.drew.kept g1 (.inr (by simp only [Value.ownBlock, ne_eq, Option.some.injEq]; omega))).kept g2 (.inr (by simp only [Value.ownBlock, ne_eq, Option.some.injEq]; omega)), by omega, by omega⟩, ?_⟩
    exact World.grownBy.trans (World.grownBy.trans (World.grownBy.trans HA.out.2.2.2.1 hT.gr) (grownBy_drew (World.grownBy.refl _ _))) (World.grownBy.trans g1 g2)
  simp [Leaves, settle, results, Try.results43]
  exact hP

/-- Not yet done. -/
theorem once_first [Host] (f bx p : Nat) (w : World) (hF : Fresh w f p) (hbx : w.cell? ⟨bx, 0, none⟩ = some (.pointer (some ⟨f, 5, none⟩))) (hne : bx ≠ f) (hlt : bx < w.heap.size) :
    Calls Try.prog 36 #[.pointer (some ⟨f, 5, none⟩), .func (.func 88) #[] #[.pointer (some ⟨bx, 0, none⟩)]] w (SlowPost w f p) := by
  have c0 : w.cell? ⟨f, 5, none⟩ = some (.int .u32 0) := FB.cell hF (i := 5) rfl
  go_enter Try.func36, Try.ntmps36
  go_wp2_with (first | (go_at_call 42; refine (Once.bool_load ⟨f, 5, none⟩ 0 false _ c0 rfl).mono ?_; rintro e w1 ⟨rfl, rfl⟩) | (go_at_call 43; refine (once_slow f bx p _ hF hbx hne hlt).mono ?_; rintro e w2 ⟨rfl, hM, hg⟩))
  go_end0
  exact ⟨rfl, hM, hg⟩
/-- Done already. -/
theorem once_again (f : Nat) (fv : Value) (w : World) (hc : w.cell? ⟨f, 5, none⟩ = some (.int .u32 1)) :
    Calls Try.prog 36 #[.pointer (some ⟨f, 5, none⟩), fv] w fun e w' => e = .returned (.tuple #[]) ∧ w' = w := by
  go_enter Try.func36, Try.ntmps36
  go_wp2_with (go_at_call 42; refine (Once.bool_load ⟨f, 5, none⟩ 1 true _ hc rfl).mono ?_; rintro e w1 ⟨rfl, rfl⟩)
  go_end0
  exact ⟨rfl, rfl⟩

set_option maxHeartbeats 800000 in
theorem gf_tables [Host] (f p : Nat) (w : World) (hF : Fld w f p) :
    Calls Try.prog 72 #[.pointer (some ⟨f, 5, none⟩)] w (SlowPost w f p) := by
  have hmf : ∀ (fn : Fn) (first cap : Array Value) (w : World), (Instr.makeFunc fn first cap).run Try.prog w = .ok (.func fn first cap) w := fun _ _ _ _ => rfl
  have hfl := hF.lt
  have g0 := World.grownBy_alloc w (.cells #[.pointer (some ⟨f, 5, none⟩)] 98) (some f)
  have b0 : (w.alloc (.cells #[.pointer (some ⟨f, 5, none⟩)] 98)).cell? ⟨w.heap.size, 0, none⟩ = some (.pointer (some ⟨f, 5, none⟩)) := by simp
  have hF1 := hF.below ((Below.refl w.heap.size w).alloc (Nat.le_refl _) (.cells #[.pointer (some ⟨f, 5, none⟩)] 98))
  have HA := Aside.mk (And.intro g0 (And.intro b0 hF1))
  clear g0 b0 hF1
  rcases HA.out.2.2 with h | h
  · go_enter Try.func72, Try.ntmps72
    go_wp2_with (go_at_call 36; refine (once_first f w.heap.size p _ h HA.out.2.1 (by omega) (by simp)).mono ?_; rintro e w2 ⟨rfl, hM, hg⟩)
    go_end0
    exact ⟨rfl, hM, World.grownBy.trans HA.out.1 hg⟩
  · have c0 : (w.alloc (.cells #[.pointer (some ⟨f, 5, none⟩)] 98)).cell? ⟨f, 5, none⟩ = some (.int .u32 1) := by
      obtain ⟨ge, gl, h⟩ := h
      exact h.fb.cell (i := 5) rfl
    have HC := Aside.mk c0
    clear c0
    go_enter Try.func72, Try.ntmps72
    go_wp2_with (go_at_call 36; refine (once_again f _ _ HC.out).mono ?_; rintro e w2 ⟨rfl, rfl⟩)
    go_end0
    exact ⟨rfl, h, HA.out.1⟩
end Go.Proofs.Ytffdpmejilmnnaa
namespace Go.Proofs.Ytffdpmejilmnnaa
open Go.RowKit

theorem gf_low (a : Int) (w : World) : Calls Try.prog 75 #[.int .i64 a] w fun e w' => e = .returned (.int .i64 (lowN a : Nat)) ∧ w = w' := by
  have h := and8191 a
  go_enter Try.func75, Try.ntmps75
  go_wp2
  go_ret
  exact ⟨rfl, rfl⟩
/-- A number's remainder, 0 and more. -/
def arN (n : Int) : Nat := (n % 8191).toNat
theorem arN_lt (n : Int) : arN n < 8191 := by unfold arN; omega
theorem arN_nat (n : Nat) : arN (n : Int) = n % 8191 := by unfold arN; omega
theorem tmod_nonneg {n : Int} (h : 0 ≤ n) : n.tmod 8191 = (arN n : Int) := by rw [Int.tmod_eq_emod_of_nonneg h]; unfold arN; omega
theorem tmod_neg {n : Int} (h : n < 0) : n.tmod 8191 = (arN n : Int) - 8191 ∨ (n.tmod 8191 = 0 ∧ arN n = 0) := by
  have h1 := Int.tmod_eq_emod (a := n) (b := 8191)
  rw [h1]
  unfold arN
  split
  · rename_i hc
    rcases hc with hc | hc
    · omega
    · right; omega
  · simp; omega
set_option maxHeartbeats 400000 in
theorem gf_around (n : Int) (w : World) (h1 : -9223372036854775808 ≤ n) (h2 : n ≤ 9223372036854775807) :
    Calls Try.prog 73 #[.int .i64 n] w fun e w' => e = .returned (.int .i64 (arN n : Nat)) ∧ w = w' := by
  have hl := arN_lt n
  by_cases h0 : 0 ≤ n
  · have ht := tmod_nonneg h0
    have HT := Aside.mk ht
    have he : n % 8191 = (arN n : Int) := by unfold arN; omega
    generalize arN n = r at *
    clear ht
    go_enter Try.func73, Try.ntmps73
    go_wp2
    go_ret
    exact ⟨by show Ending.returned (.int .i64 (n % 8191)) = _; rw [he], rfl⟩
  · rcases tmod_neg (show n < 0 by omega) with ht | ⟨ht, h00⟩
    · have hw : IntKind.i64.wrap ((arN n : Int) - 8191 + 8191) = (arN n : Int) := by rw [IntKind.wrap_i64]; omega
      generalize arN n = r at *
      have hlt : (r : Int) - 8191 < 0 := by omega
      go_enter Try.func73, Try.ntmps73
      go_wp2
      go_ret
      exact ⟨by first | rfl | (congr 2; omega), rfl⟩
    · rw [h00]
      go_enter Try.func73, Try.ntmps73
      go_wp2
      go_ret
      exact ⟨rfl, rfl⟩

set_option maxHeartbeats 800000 in
set_option maxRecDepth 100000 in
theorem gf_times [Host] (f p : Nat) (a b : Int) (w : World) (hM : Made w f p) :
    Calls Try.prog 77 #[.pointer (some ⟨f, 5, none⟩), .int .i64 a, .int .i64 b] w fun e w' => e = .returned (.int .i64 (Gf.mul (lowN a) (lowN b) : Nat)) ∧ ∃ m, w' = w.drewN m := by
  have ha := lowN_lt a
  have hb := lowN_lt b
  have HA := Aside.mk (And.intro (gf_low a) (gf_low b))
  generalize lowN a = x at *
  generalize lowN b = y at *
  rcases Nat.eq_zero_or_pos x with rfl | hx
  · rw [Gf.mul_zero_left]
    go_enter Try.func77, Try.ntmps77
    have HA1 := HA
    go_wp2_with (first | (obtain ⟨HI⟩ := HA1; go_at_call 75; refine (HI.1 _).mono ?_; rintro e w1 ⟨rfl, rfl⟩) | (obtain ⟨HI⟩ := HA; go_at_call 75; refine (HI.2 _).mono ?_; rintro e w1 ⟨rfl, rfl⟩))
    go_ret
    exact ⟨rfl, 0, rfl⟩
  · rcases Nat.eq_zero_or_pos y with rfl | hy
    · rw [Gf.mul_zero_right]
      have hx2 : ((x : Int) == 0) = false := by simp; omega
      go_enter Try.func77, Try.ntmps77
      have HA1 := HA
      go_wp2_with (first | (obtain ⟨HI⟩ := HA1; go_at_call 75; refine (HI.1 _).mono ?_; rintro e w1 ⟨rfl, rfl⟩) | (obtain ⟨HI⟩ := HA; go_at_call 75; refine (HI.2 _).mono ?_; rintro e w1 ⟨rfl, rfl⟩))
      go_ret
      exact ⟨rfl, 0, rfl⟩
    · obtain ⟨ge, gl, hM⟩ := hM
      have c3 := hM.c3
      have c4 := hM.c4
      have x1 := hM.logCell hx ha
      have y1 := hM.logCell hy hb
      have lx := Gf.log_lt x
      have ly := Gf.log_lt y
      have e1 := hM.expCell (show Gf.log x + Gf.log y < 16382 by omega)
      rw [← Gf.mul_log hx ha hy hb] at e1
      generalize Gf.log x = i at *
      generalize Gf.log y = j at *
      generalize Gf.mul x y = z at *
      have hx2 : ((x : Int) == 0) = false := by simp; omega
      have hy2 : ((y : Int) == 0) = false := by simp; omega
      have hx3 : (0 : Int) ≤ (x : Int) := by omega
      have hy3 : (0 : Int) ≤ (y : Int) := by omega
      have hx4 : (x : Int) < 8192 := by omega
      have hy4 : (y : Int) < 8192 := by omega
      obtain ⟨k, hk⟩ : ∃ k, k = i + j := ⟨_, rfl⟩
      rw [← hk] at e1
      have hk2 : IntKind.i64.wrap ((i : Int) + (j : Int)) = (k : Int) := by rw [IntKind.wrap_i64]; omega
      have hk3 : (0 : Int) ≤ (k : Int) := by omega
      have hk4 : (k : Int) < 16382 := by omega
      clear hk
      go_enter Try.func77, Try.ntmps77
      have HA1 := HA
      go_upto_region 4 with (first | (obtain ⟨HI⟩ := HA1; go_at_call 75; refine (HI.1 _).mono ?_; rintro e w1 ⟨rfl, rfl⟩) | (obtain ⟨HI⟩ := HA; go_at_call 75; refine (HI.2 _).mono ?_; rintro e w1 ⟨rfl, rfl⟩))
      go_quiet (fail)
      go_wp2
      go_ret
      exact ⟨rfl, _, rfl⟩

/-- What is left of a call of a method. -/
def Fpost [Host] (w : World) (f p : Nat) (v : Value) (e : Ending) (w' : World) : Prop := e = .returned v ∧ Fld w' f p ∧ w.grownBy w' (some f)
/-- The same, the tables made. -/
def Mpost [Host] (w : World) (f p : Nat) (v : Value) (e : Ending) (w' : World) : Prop := e = .returned v ∧ Made w' f p ∧ w.grownBy w' (some f)
theorem grownBy_drewN {w w' : World} {row : Option Nat} (h : w.grownBy w' row) (m : Nat) : w.grownBy (w'.drewN m) row := ⟨h.os, h.tape, h.output, h.size, h.block⟩
theorem Made.drewN [Host] {w : World} {f p : Nat} (h : Made w f p) (m : Nat) : Made (w.drewN m) f p := by
  obtain ⟨ge, gl, h⟩ := h
  exact ⟨ge, gl, h.drewN m⟩
theorem Made.count [Host] {w : World} {f p : Nat} (h : Made w f p) : Made (w.setCell ⟨f, 10, none⟩ (.int .i64 ((p : Int) + 1))) f (p + 1) := by
  obtain ⟨ge, gl, h⟩ := h
  have g := grownBy_setCell w f 10 (.int .i64 ((p : Int) + 1))
  have n := h.ne
  exact ⟨ge, gl, h.fb.set5 _, h.ex.kept g (.inr (by simp only [Value.ownBlock, ne_eq, Option.some.injEq]; omega)), h.lg.kept g (.inr (by simp only [Value.ownBlock, ne_eq, Option.some.injEq]; omega)), n⟩

theorem gf_mul [Host] (f p : Nat) (a b : Int) (w : World) (hF : Fld w f p) (hp : p ≤ 1000000) :
    Calls Try.prog 60 #[.pointer (some ⟨f, 5, none⟩), .int .i64 a, .int .i64 b] w (Mpost w f (p + 1) (.int .i64 (Gf.mul (lowN a) (lowN b) : Nat))) := by
  go_enter Try.func60, Try.ntmps60
  go_wp2_with (first | (go_at_call 72; refine (gf_tables f p _ hF).mono ?_; rintro e w1 ⟨rfl, hM, hg⟩; have c5 : w1.cell? ⟨f, 10, none⟩ = some (.int .i64 (p : Int)) := (by obtain ⟨ge, gl, h⟩ := hM; exact h.fb.cell (i := 10) rfl); have z5 : w1.frozen? ⟨f, 10, none⟩ = false := (by obtain ⟨ge, gl, h⟩ := hM; exact h.fb.free 10)) | (go_at_call 76; refine (Once.int_add ⟨f, 10, none⟩ p _ c5 z5 (by omega) (by omega)).mono ?_; rintro e w2 ⟨rfl, rfl⟩; have hM2 := hM.count; have hg2 := World.grownBy.trans hg (grownBy_setCell w1 f 10 (.int .i64 ((p : Int) + 1))); clear c5 z5) | (go_at_call 77; refine (gf_times f (p + 1) a b _ hM2).mono ?_; rintro e w3 ⟨rfl, m, rfl⟩))
  go_ret
  exact ⟨rfl, hM2.drewN _, grownBy_drewN hg2 _⟩
theorem gf_mul_nil (a b : Int) (w : World) :
    Calls Try.prog 60 #[.pointer none, .int .i64 a, .int .i64 b] w fun e w' => e = .returned (.int .i64 0) ∧ w = w' := by
  go_enter Try.func60, Try.ntmps60
  go_wp2
  go_ret
  exact ⟨rfl, rfl⟩
/-! Exp -/
set_option maxHeartbeats 800000 in
set_option maxRecDepth 100000 in
theorem gf_exp [Host] (f p : Nat) (n : Int) (w : World) (hF : Fld w f p) (h1 : -9223372036854775808 ≤ n) (h2 : n ≤ 9223372036854775807) :
    Calls Try.prog 57 #[.pointer (some ⟨f, 5, none⟩), .int .i64 n] w (Mpost w f p (.int .i64 (Gf.pw (arN n) : Nat))) := by
  have hl := arN_lt n
  have HA := Aside.mk (fun W => gf_around n W h1 h2)
  generalize arN n = r at *
  have hr1 : (0 : Int) ≤ (r : Int) := by omega
  have hr2 : (r : Int) < 16382 := by omega
  go_enter Try.func57, Try.ntmps57
  go_upto_region 4 with (go_at_call 72; refine (gf_tables f p _ hF).mono ?_; rintro e w1 ⟨rfl, hM, hg⟩)
  obtain ⟨ge, gl, hM⟩ := hM
  have c3 := hM.c3
  have e1 := hM.expCell (show r < 16382 by omega)
  generalize Gf.pw r = z at *
  go_quiet ((go_at_call 73; exact Calls.quiet_of_same ((HA.out _).mono fun e w' ⟨h1, h2⟩ => ⟨h1, h2.symm⟩)))
  go_wp2
  go_ret
  exact ⟨rfl, ⟨ge, gl, hM.drewN _⟩, grownBy_drewN hg _⟩
theorem gf_exp_nil (n : Int) (w : World) :
    Calls Try.prog 57 #[.pointer none, .int .i64 n] w fun e w' => e = .returned (.int .i64 0) ∧ w = w' := by
  go_enter Try.func57, Try.ntmps57
  go_wp2
  go_ret
  exact ⟨rfl, rfl⟩

/-! Log -/
/-! Inv -/
end Go.Proofs.Ytffdpmejilmnnaa
namespace Go.Proofs.Ytffdpmejilmnnaa
open Go.RowKit
/-- Some draws later. -/
def DrewOf (a b : World) : Prop := ∃ m, b = a.drewN m
theorem DrewOf.refl (a : World) : DrewOf a a := ⟨0, rfl⟩
theorem DrewOf.more {a b : World} (h : DrewOf a b) (m : Nat) : DrewOf a (b.drewN m) := by
  obtain ⟨k, rfl⟩ := h
  exact ⟨k + m, by rw [World.drewN_drewN]⟩
theorem DrewOf.below {B : Nat} {w a b : World} (h : DrewOf a b) (hb : Below B w a) : Below B w b := by
  obtain ⟨k, rfl⟩ := h
  exact ⟨hb.os, hb.tape, hb.output, hb.size, hb.block⟩
theorem DrewOf.same {a b : World} (h : DrewOf a b) : Below a.heap.size a b := h.below (Below.refl _ _)
end Go.Proofs.Ytffdpmejilmnnaa
namespace Go.Proofs.Ytffdpmejilmnnaa
open Go.RowKit

/-- What Pow answers. -/
noncomputable def powN (a : Nat) (n : Int) : Nat := if n = 0 then 1 else if a = 0 then 0 else Gf.pw (Gf.log a * arN n % 8191)
theorem powN_zero (a : Nat) : powN a 0 = 1 := by unfold powN; rw [if_pos rfl]
theorem powN_none {n : Int} (h : n ≠ 0) : powN 0 n = 0 := by unfold powN; rw [if_neg h, if_pos rfl]
theorem powN_some {a : Nat} {n : Int} (h : n ≠ 0) (h0 : 0 < a) : powN a n = Gf.pw (Gf.log a * arN n % 8191) := by unfold powN; rw [if_neg h, if_neg (by omega)]
/-- Of a natural number it is the power. -/
theorem powN_nat {a : Nat} (ha : a < 8192) (n : Nat) : powN a (n : Int) = Gf.pow a n := by
  rcases Nat.eq_zero_or_pos n with rfl | hn
  · exact powN_zero a
  · have hn' : (n : Int) ≠ 0 := by omega
    rcases Nat.eq_zero_or_pos a with rfl | h0
    · rw [powN_none hn', Gf.pow_zero hn]
    · rw [powN_some hn' h0, Gf.pw_mod, arN_nat, ← Gf.pow_log h0 ha, Gf.pow_mod h0 ha]

set_option maxHeartbeats 800000 in
set_option maxRecDepth 100000 in
theorem gf_pow [Host] (f p : Nat) (a n : Int) (w : World) (hF : Fld w f p) (h1 : -9223372036854775808 ≤ n) (h2 : n ≤ 9223372036854775807) :
    Calls Try.prog 59 #[.pointer (some ⟨f, 5, none⟩), .int .i64 a, .int .i64 n] w (Fpost w f p (.int .i64 (powN (lowN a) n : Nat))) := by
  have hl := lowN_lt a
  have HA := Aside.mk (gf_low a)
  generalize lowN a = x at *
  by_cases hn : n = 0
  · subst hn
    rw [powN_zero]
    go_enter Try.func59, Try.ntmps59
    go_wp2_with (go_at_call 75; refine (HA.out _).mono ?_; rintro e w1 ⟨rfl, rfl⟩)
    go_ret
    exact ⟨rfl, hF, World.grownBy.refl _ _⟩
  · have hn1 : (n == 0) = false := by simp [hn]
    rcases Nat.eq_zero_or_pos x with rfl | h0
    · rw [powN_none hn]
      clear hn
      go_enter Try.func59, Try.ntmps59
      go_wp2_with (go_at_call 75; refine (HA.out _).mono ?_; rintro e w1 ⟨rfl, rfl⟩)
      go_ret
      exact ⟨rfl, hF, World.grownBy.refl _ _⟩
    · rw [powN_some hn h0]
      have hr := arN_lt n
      have HR := Aside.mk (fun W => gf_around n W h1 h2)
      generalize arN n = r at *
      obtain ⟨k, hk⟩ : ∃ k, k = Gf.log x * r % 8191 := ⟨_, rfl⟩
      rw [← hk]
      have HK := Aside.mk hk
      have hx1 : (0 : Int) ≤ (x : Int) := by omega
      have hx2 : (x : Int) < 8192 := by omega
      have hx3 : ((x : Int) == 0) = false := by simp; omega
      clear hk hn
      go_enter Try.func59, Try.ntmps59
      go_upto_region 9 with (first | (go_at_call 75; refine (HA.out _).mono ?_; rintro e w1 ⟨rfl, rfl⟩) | (go_at_call 72; refine (gf_tables f p _ hF).mono ?_; rintro e w1 ⟨rfl, hM, hg⟩))
      obtain ⟨ge, gl, hM⟩ := hM
      have c3 := hM.c3
      have c4 := hM.c4
      have e1 := hM.logCell h0 hl
      have li := Gf.log_lt x
      have e2 := hM.expCell (show k < 16382 by rw [HK.out]; omega)
      have hk := HK.out
      clear HK
      generalize Gf.log x = i at *
      have hm0 : i * r ≤ 8190 * 8190 := Nat.mul_le_mul (by omega) (by omega)
      obtain ⟨m, hm⟩ : ∃ m, m = i * r := ⟨_, rfl⟩
      rw [← hm] at hk hm0
      have hm2 : IntKind.i64.wrap ((i : Int) * (r : Int)) = (m : Int) := by rw [hm, IntKind.wrap_i64, ← Int.natCast_mul, ← hm]; omega
      have hm3 : Int.tmod (m : Int) 8191 = (k : Int) := by rw [Int.tmod_eq_emod_of_nonneg (by omega)]; omega
      have hm4 : (m : Int) % 8191 = (k : Int) := by omega
      have hk3 : (0 : Int) ≤ (k : Int) := by omega
      have hk4 : (k : Int) < 16382 := by omega
      clear hk hm
      generalize Gf.pw k = z at *
      go_quiet ((go_at_call 73; exact Calls.quiet_of_same ((HR.out _).mono fun e w' ⟨h1, h2⟩ => ⟨h1, h2.symm⟩)))
      go_wp2
      go_ret
      exact ⟨rfl, .inr ⟨ge, gl, hM.drewN _⟩, grownBy_drewN hg _⟩
theorem gf_pow_nil (a n : Int) (w : World) :
    Calls Try.prog 59 #[.pointer none, .int .i64 a, .int .i64 n] w fun e w' => e = .returned (.int .i64 0) ∧ w = w' := by
  go_enter Try.func59, Try.ntmps59
  go_wp2_with (go_at_call 75; refine (gf_low a _).mono ?_; rintro e w1 ⟨rfl, rfl⟩)
  go_ret
  exact ⟨rfl, rfl⟩

/-- A polynomial's value, from the highest coefficient on downwards. -/
def evalH (l : List Int) (x : Nat) : Nat := l.foldr (fun c v => Gf.mul v x ^^^ lowN c) 0
theorem evalH_lt (l : List Int) (x : Nat) : evalH l x < 8192 := by
  induction l with
  | nil => exact (by decide : 0 < 8192)
  | cons c l ih => exact Gf.xor_lt (Gf.mul_lt _ ih) (lowN_lt c)
theorem evalH_drop {l : List Int} {k : Nat} (h : k < l.length) (x : Nat) : evalH (l.drop k) x = Gf.mul (evalH (l.drop (k + 1)) x) x ^^^ lowN (l.getD k 0) := by
  have e : l.getD k 0 = l[k] := by simp [List.getD_eq_getElem?_getD, List.getElem?_eq_getElem h]
  rw [List.drop_eq_getElem_cons h, e]
  rfl

end Go.Proofs.Ytffdpmejilmnnaa
namespace Go.Proofs.Ytffdpmejilmnnaa
open Go.RowKit

def AtPost [Host] (w : World) (f ge gl p : Nat) (v : Value) (e : Ending) (w' : World) : Prop := e = .returned v ∧ MadeAt w' f ge gl p ∧ w.grownBy w' (some f)
theorem MadeAt.count [Host] {w : World} {f ge gl p : Nat} (h : MadeAt w f ge gl p) : MadeAt (w.setCell ⟨f, 10, none⟩ (.int .i64 ((p : Int) + 1))) f ge gl (p + 1) := by
  have g := grownBy_setCell w f 10 (.int .i64 ((p : Int) + 1))
  have n := h.ne
  exact ⟨h.fb.set5 _, h.ex.kept g (.inr (by simp only [Value.ownBlock, ne_eq, Option.some.injEq]; omega)), h.lg.kept g (.inr (by simp only [Value.ownBlock, ne_eq, Option.some.injEq]; omega)), n⟩
set_option maxHeartbeats 800000 in
theorem gf_tables_at [Host] (f ge gl p : Nat) (w : World) (hF : MadeAt w f ge gl p) :
    Calls Try.prog 72 #[.pointer (some ⟨f, 5, none⟩)] w (AtPost w f ge gl p (.tuple #[])) := by
  have hmf : ∀ (fn : Fn) (first cap : Array Value) (w : World), (Instr.makeFunc fn first cap).run Try.prog w = .ok (.func fn first cap) w := fun _ _ _ _ => rfl
  have g0 := World.grownBy_alloc w (.cells #[.pointer (some ⟨f, 5, none⟩)] 98) (some f)
  have g1 := World.grownBy_alloc w (.cells #[.pointer (some ⟨f, 5, none⟩)] 98) none
  have h := hF.kept g1 (by simp) (by simp) (by simp)
  have HA := Aside.mk (And.intro g0 h)
  clear g0 g1
  have c0 := h.fb.cell (i := 5) rfl
  have HC := Aside.mk c0
  clear c0 h hF
  go_enter Try.func72, Try.ntmps72
  go_wp2_with (go_at_call 36; refine (once_again f _ _ HC.out).mono ?_; rintro e w2 ⟨rfl, rfl⟩)
  go_end0
  exact ⟨rfl, HA.out.2, HA.out.1⟩
theorem gf_mul_at [Host] (f ge gl p : Nat) (a b : Int) (w : World) (hF : MadeAt w f ge gl p) (hp : p ≤ 1000000) :
    Calls Try.prog 60 #[.pointer (some ⟨f, 5, none⟩), .int .i64 a, .int .i64 b] w (AtPost w f ge gl (p + 1) (.int .i64 (Gf.mul (lowN a) (lowN b) : Nat))) := by
  go_enter Try.func60, Try.ntmps60
  go_wp2_with (first | (go_at_call 72; refine (gf_tables_at f ge gl p _ hF).mono ?_; rintro e w1 ⟨rfl, hM, hg⟩; have c5 : w1.cell? ⟨f, 10, none⟩ = some (.int .i64 (p : Int)) := (by exact hM.fb.cell (i := 10) rfl); have z5 : w1.frozen? ⟨f, 10, none⟩ = false := (by exact hM.fb.free 10)) | (go_at_call 76; refine (Once.int_add ⟨f, 10, none⟩ p _ c5 z5 (by omega) (by omega)).mono ?_; rintro e w2 ⟨rfl, rfl⟩; have hM2 := hM.count; have hg2 := World.grownBy.trans hg (grownBy_setCell w1 f 10 (.int .i64 ((p : Int) + 1))); clear c5 z5) | (go_at_call 77; refine (gf_times f (p + 1) a b _ ⟨ge, gl, hM2⟩).mono ?_; rintro e w3 ⟨rfl, m, rfl⟩))
  go_ret
  exact ⟨rfl, hM2.drewN _, grownBy_drewN hg2 _⟩
set_option maxHeartbeats 800000 in
set_option maxRecDepth 100000 in
theorem gf_exp_at [Host] (f ge gl p : Nat) (n : Int) (w : World) (hF : MadeAt w f ge gl p) (h1 : -9223372036854775808 ≤ n) (h2 : n ≤ 9223372036854775807) :
    Calls Try.prog 57 #[.pointer (some ⟨f, 5, none⟩), .int .i64 n] w (AtPost w f ge gl p (.int .i64 (Gf.pw (arN n) : Nat))) := by
  have hl := arN_lt n
  have HA := Aside.mk (fun W => gf_around n W h1 h2)
  generalize arN n = r at *
  have hr1 : (0 : Int) ≤ (r : Int) := by omega
  have hr2 : (r : Int) < 16382 := by omega
  go_enter Try.func57, Try.ntmps57
  go_upto_region 4 with (go_at_call 72; refine (gf_tables_at f ge gl p _ hF).mono ?_; rintro e w1 ⟨rfl, hM, hg⟩)
  have c3 := hM.c3
  have e1 := hM.expCell (show r < 16382 by omega)
  generalize Gf.pw r = z at *
  go_quiet ((go_at_call 73; exact Calls.quiet_of_same ((HA.out _).mono fun e w' ⟨h1, h2⟩ => ⟨h1, h2.symm⟩)))
  go_wp2
  go_ret
  exact ⟨rfl, hM.drewN _, grownBy_drewN hg _⟩
set_option maxHeartbeats 800000 in
set_option maxRecDepth 100000 in
theorem gf_pow_at [Host] (f ge gl p : Nat) (a n : Int) (w : World) (hF : MadeAt w f ge gl p) (h1 : -9223372036854775808 ≤ n) (h2 : n ≤ 9223372036854775807) :
    Calls Try.prog 59 #[.pointer (some ⟨f, 5, none⟩), .int .i64 a, .int .i64 n] w (AtPost w f ge gl p (.int .i64 (powN (lowN a) n : Nat))) := by
  have hl := lowN_lt a
  have HA := Aside.mk (gf_low a)
  generalize lowN a = x at *
  by_cases hn : n = 0
  · subst hn
    rw [powN_zero]
    go_enter Try.func59, Try.ntmps59
    go_wp2_with (go_at_call 75; refine (HA.out _).mono ?_; rintro e w1 ⟨rfl, rfl⟩)
    go_ret
    exact ⟨rfl, hF, World.grownBy.refl _ _⟩
  · have hn1 : (n == 0) = false := by simp [hn]
    rcases Nat.eq_zero_or_pos x with rfl | h0
    · rw [powN_none hn]
      clear hn
      go_enter Try.func59, Try.ntmps59
      go_wp2_with (go_at_call 75; refine (HA.out _).mono ?_; rintro e w1 ⟨rfl, rfl⟩)
      go_ret
      exact ⟨rfl, hF, World.grownBy.refl _ _⟩
    · rw [powN_some hn h0]
      have hr := arN_lt n
      have HR := Aside.mk (fun W => gf_around n W h1 h2)
      generalize arN n = r at *
      obtain ⟨k, hk⟩ : ∃ k, k = Gf.log x * r % 8191 := ⟨_, rfl⟩
      rw [← hk]
      have HK := Aside.mk hk
      have hx1 : (0 : Int) ≤ (x : Int) := by omega
      have hx2 : (x : Int) < 8192 := by omega
      have hx3 : ((x : Int) == 0) = false := by simp; omega
      clear hk hn
      go_enter Try.func59, Try.ntmps59
      go_upto_region 9 with (first | (go_at_call 75; refine (HA.out _).mono ?_; rintro e w1 ⟨rfl, rfl⟩) | (go_at_call 72; refine (gf_tables_at f ge gl p _ hF).mono ?_; rintro e w1 ⟨rfl, hM, hg⟩))
      have c3 := hM.c3
      have c4 := hM.c4
      have e1 := hM.logCell h0 hl
      have li := Gf.log_lt x
      have e2 := hM.expCell (show k < 16382 by rw [HK.out]; omega)
      have hk := HK.out
      clear HK
      generalize Gf.log x = i at *
      have hm0 : i * r ≤ 8190 * 8190 := Nat.mul_le_mul (by omega) (by omega)
      obtain ⟨m, hm⟩ : ∃ m, m = i * r := ⟨_, rfl⟩
      rw [← hm] at hk hm0
      have hm2 : IntKind.i64.wrap ((i : Int) * (r : Int)) = (m : Int) := by rw [hm, IntKind.wrap_i64, ← Int.natCast_mul, ← hm]; omega
      have hm3 : Int.tmod (m : Int) 8191 = (k : Int) := by rw [Int.tmod_eq_emod_of_nonneg (by omega)]; omega
      have hm4 : (m : Int) % 8191 = (k : Int) := by omega
      have hk3 : (0 : Int) ≤ (k : Int) := by omega
      have hk4 : (k : Int) < 16382 := by omega
      clear hk hm
      generalize Gf.pw k = z at *
      go_quiet ((go_at_call 73; exact Calls.quiet_of_same ((HR.out _).mono fun e w' ⟨h1, h2⟩ => ⟨h1, h2.symm⟩)))
      go_wp2
      go_ret
      exact ⟨rfl, hM.drewN _, grownBy_drewN hg _⟩
end Go.Proofs.Ytffdpmejilmnnaa
namespace Go.Proofs.Ytffdpmejilmnnaa.Poly

theorem tb (P i : Nat) : P.testBit i = decide (P / 2 ^ i % 2 = 1) := Nat.testBit_eq_decide_div_mod_eq
theorem lt_of_tb {P n : Nat} (h : ∀ i, n ≤ i → P.testBit i = false) : P < 2 ^ n := Nat.lt_pow_two_of_testBit P h
theorem tb_lt {P n i : Nat} (h : P < 2 ^ n) (hi : n ≤ i) : P.testBit i = false := Nat.testBit_lt_two_pow (Nat.lt_of_lt_of_le h (Nat.pow_le_pow_right (by omega) hi))
theorem ext {P Q : Nat} (h : ∀ i, P.testBit i = Q.testBit i) : P = Q := Nat.eq_of_testBit_eq h
theorem xor_lt2 {a b n : Nat} (ha : a < 2 ^ n) (hb : b < 2 ^ n) : a ^^^ b < 2 ^ n := Nat.xor_lt_two_pow ha hb
theorem xor_cancel (a b : Nat) : a ^^^ b ^^^ b = a := by rw [Nat.xor_assoc, Nat.xor_self, Nat.xor_zero]
theorem tb_mul (P k i : Nat) : (P * 2 ^ k).testBit i = (decide (k ≤ i) && P.testBit (i - k)) := by rw [← Nat.shiftLeft_eq, Nat.testBit_shiftLeft]
theorem tb_div (P k i : Nat) : (P / 2 ^ k).testBit i = P.testBit (k + i) := by rw [← Nat.shiftRight_eq_div_pow, Nat.testBit_shiftRight]
theorem tb_pow (k i : Nat) : (2 ^ k).testBit i = decide (k = i) := Nat.testBit_two_pow
theorem mul_xor (P Q k : Nat) : (P ^^^ Q) * 2 ^ k = P * 2 ^ k ^^^ Q * 2 ^ k := by
  apply ext; intro i
  rw [tb_mul, Nat.testBit_xor, Nat.testBit_xor, tb_mul, tb_mul]
  cases decide (k ≤ i) <;> simp
theorem div_xor (P Q k : Nat) : (P ^^^ Q) / 2 ^ k = P / 2 ^ k ^^^ Q / 2 ^ k := by
  apply ext; intro i
  rw [tb_div, Nat.testBit_xor, Nat.testBit_xor, tb_div, tb_div]
theorem mod_xor (P Q k : Nat) : (P ^^^ Q) % 2 ^ k = P % 2 ^ k ^^^ Q % 2 ^ k := by
  apply ext; intro i
  simp only [Nat.testBit_mod_two_pow, Nat.testBit_xor]
  by_cases h : i < k <;> simp [h]
theorem add_eq_xor {a n : Nat} (b : Nat) (ha : a < 2 ^ n) : b * 2 ^ n + a = b * 2 ^ n ^^^ a := by
  apply ext; intro i
  rw [Nat.mul_comm b, Nat.testBit_two_pow_mul_add _ ha, Nat.testBit_xor, Nat.mul_comm, tb_mul]
  by_cases h : i < n
  · rw [if_pos h, decide_eq_false (by omega)]; simp
  · rw [if_neg h, decide_eq_true (by omega), tb_lt ha (by omega)]; simp

/-- The bits below n, falling. -/
def fall : Nat → Nat → List Nat
  | 0, _ => []
  | n + 1, P => if P.testBit n then n :: fall n P else fall n P
theorem fall_yes {n P : Nat} (h : P.testBit n = true) : fall (n + 1) P = n :: fall n P := by simp [fall, h]
theorem fall_no {n P : Nat} (h : P.testBit n = false) : fall (n + 1) P = fall n P := by simp [fall, h]
theorem fall_mem {P : Nat} : ∀ {n x : Nat}, x ∈ fall n P ↔ x < n ∧ P.testBit x = true
  | 0, x => by simp [fall]
  | n + 1, x => by
    have ih := @fall_mem P n x
    cases h : P.testBit n
    · rw [fall_no h, ih]
      constructor
      · rintro ⟨h1, h2⟩; exact ⟨by omega, h2⟩
      · rintro ⟨h1, h2⟩
        have : x ≠ n := fun e => by subst e; rw [h] at h2; cases h2
        exact ⟨by omega, h2⟩
    · rw [fall_yes h, List.mem_cons, ih]
      constructor
      · rintro (rfl | ⟨h1, h2⟩)
        · exact ⟨by omega, h⟩
        · exact ⟨by omega, h2⟩
      · rintro ⟨h1, h2⟩
        by_cases e : x = n
        · exact .inl e
        · exact .inr ⟨by omega, h2⟩
theorem fall_congr : ∀ {n P Q : Nat}, (∀ i, i < n → P.testBit i = Q.testBit i) → fall n P = fall n Q
  | 0, _, _, _ => rfl
  | n + 1, P, Q, h => by
    have h1 := fall_congr (n := n) (fun i hi => h i (by omega))
    have h2 := h n (by omega)
    cases hb : P.testBit n
    · rw [fall_no hb, fall_no (by rw [← h2, hb]), h1]
    · rw [fall_yes hb, fall_yes (by rw [← h2, hb]), h1]
theorem fall_zero (n : Nat) : fall n 0 = [] := by
  induction n with
  | zero => rfl
  | succ n ih => rw [fall_no (by simp), ih]
theorem fall_more {P : Nat} : ∀ {n m : Nat}, m ≤ n → P < 2 ^ m → fall n P = fall m P
  | 0, m, h, _ => by obtain rfl : m = 0 := by omega
                     rfl
  | n + 1, m, h, hP => by
    by_cases e : m = n + 1
    · rw [e]
    · rw [fall_no (tb_lt hP (by omega)), fall_more (by omega) hP]
theorem fall_len (P : Nat) : ∀ n, (fall n P).length ≤ n
  | 0 => by simp [fall]
  | n + 1 => by
    have := fall_len P n
    cases h : P.testBit n
    · rw [fall_no h]; omega
    · rw [fall_yes h]; simp; omega
/-- The upper bits, then the lower ones. -/
theorem fall_split (a P : Nat) : ∀ b, fall (a + b) P = (fall b (P / 2 ^ a)).map (a + ·) ++ fall a P
  | 0 => by simp [fall]
  | b + 1 => by
    have ih := fall_split a P b
    have e : (P / 2 ^ a).testBit b = P.testBit (a + b) := tb_div P a b
    rw [← Nat.add_assoc]
    cases h : P.testBit (a + b)
    · rw [fall_no h, fall_no (by rw [e, h]), ih]
    · rw [fall_yes h, fall_yes (by rw [e, h]), ih]; rfl
theorem log2_tb {P : Nat} (h : P ≠ 0) : P.testBit P.log2 = true := by
  rw [tb, decide_eq_true_eq]
  have h1 : 2 ^ P.log2 ≤ P := Nat.log2_self_le h
  have h2 : P < 2 ^ (P.log2 + 1) := Nat.lt_log2_self
  have : P / 2 ^ P.log2 = 1 := by
    apply Nat.div_eq_of_lt_le
    · omega
    · rw [Nat.pow_succ] at h2; omega
  rw [this]
theorem log2_lt {P n : Nat} (h : P ≠ 0) (hP : P < 2 ^ n) : P.log2 < n := (Nat.log2_lt h).2 hP
theorem lt_two_log2 (P : Nat) : P < 2 ^ (P.log2 + 1) := Nat.lt_log2_self
/-- The highest bit is first. -/
theorem fall_top {P n : Nat} (h : P ≠ 0) (hP : P < 2 ^ n) : fall n P = P.log2 :: fall n (P ^^^ 2 ^ P.log2) := by
  have hl := log2_lt h hP
  have h2 := lt_two_log2 P
  rw [fall_more (m := P.log2 + 1) (by omega) h2, fall_yes (log2_tb h)]
  have hx : P ^^^ 2 ^ P.log2 < 2 ^ P.log2 := by
    apply lt_of_tb
    intro i hi
    rw [Nat.testBit_xor, tb_pow]
    by_cases e : P.log2 = i
    · rw [← e, log2_tb h]; simp
    · rw [tb_lt h2 (by omega)]; simp [e]
  rw [fall_more (m := P.log2) (P := P ^^^ 2 ^ P.log2) (by omega) hx]
  congr 1
  apply fall_congr
  intro i hi
  rw [Nat.testBit_xor, tb_pow, decide_eq_false (by omega)]
  simp
theorem xor_top_lt {P : Nat} (h : P ≠ 0) : P ^^^ 2 ^ P.log2 < P := by
  have hx : P ^^^ 2 ^ P.log2 < 2 ^ P.log2 := by
    apply lt_of_tb
    intro i hi
    rw [Nat.testBit_xor, tb_pow]
    by_cases e : P.log2 = i
    · rw [← e, log2_tb h]; simp
    · rw [tb_lt (lt_two_log2 P) (by omega)]; simp [e]
  exact Nat.lt_of_lt_of_le hx (Nat.log2_self_le h)
theorem fall_nil {P n : Nat} (hP : P < 2 ^ n) : fall n P = [] ↔ P = 0 := by
  constructor
  · intro h
    apply Classical.byContradiction
    intro hne
    rw [fall_top hne hP] at h
    cases h
  · rintro rfl; exact fall_zero n
theorem fall_inj {P Q n : Nat} (hP : P < 2 ^ n) (hQ : Q < 2 ^ n) (h : fall n P = fall n Q) : P = Q := by
  apply ext; intro i
  by_cases hi : i < n
  · have h1 := @fall_mem P n i
    have h2 := @fall_mem Q n i
    rw [h] at h1
    have h3 : P.testBit i = true ↔ Q.testBit i = true := by
      constructor
      · intro hp; exact (h2.1 (h1.2 ⟨hi, hp⟩)).2
      · intro hq; exact (h1.1 (h2.2 ⟨hi, hq⟩)).2
    cases hp : P.testBit i <;> cases hq : Q.testBit i <;> simp_all
  · rw [tb_lt hP (by omega), tb_lt hQ (by omega)]

/-- The bits of a list of exponents: those that are allowed, each as often as it stands there. -/
def lim : Nat := 16385
theorem lim_eq : lim = 16385 := rfl
def put (P : Nat) (e : Int) : Nat := if 0 ≤ e ∧ e ≤ 16384 then P ^^^ 2 ^ e.toNat else P
def bitsOf (l : List Int) : Nat := l.foldl put 0
theorem put_lt {P : Nat} (h : P < 2 ^ lim) (e : Int) : put P e < 2 ^ lim := by
  have hl := lim_eq
  unfold put
  split
  · exact xor_lt2 h (Nat.pow_lt_pow_right (by omega) (by omega))
  · exact h
theorem foldl_put_lt (l : List Int) : ∀ {P : Nat}, P < 2 ^ lim → l.foldl put P < 2 ^ lim := by
  induction l with
  | nil => intro P h; exact h
  | cons e l ih => intro P h; exact ih (put_lt h e)
theorem bitsOf_lt (l : List Int) : bitsOf l < 2 ^ lim := foldl_put_lt l (Nat.pow_pos (by omega))
theorem bitsOf_snoc (l : List Int) (e : Int) : bitsOf (l ++ [e]) = put (bitsOf l) e := by simp [bitsOf]
theorem put_xor (P Q : Nat) (e : Int) : put (P ^^^ Q) e = put P e ^^^ Q := by
  unfold put
  split
  · ac_rfl
  · rfl
theorem foldl_put_xor (l : List Int) : ∀ (P Q : Nat), l.foldl put (P ^^^ Q) = l.foldl put P ^^^ Q := by
  induction l with
  | nil => intro P Q; rfl
  | cons e l ih => intro P Q; simp only [List.foldl_cons]; rw [put_xor, ih]
theorem bitsOf_append (a b : List Int) : bitsOf (a ++ b) = bitsOf a ^^^ bitsOf b := by
  unfold bitsOf
  rw [List.foldl_append]
  have := foldl_put_xor b 0 (a.foldl put 0)
  rw [Nat.zero_xor, Nat.xor_comm] at this
  exact this
def ints (l : List Nat) : List Int := l.map fun n : Nat => (n : Int)
theorem bitsOf_fall {P : Nat} : ∀ {n : Nat}, n ≤ lim → bitsOf (ints (fall n P)) = P % 2 ^ n
  | 0, _ => by simp [fall, ints, bitsOf, Nat.mod_one]
  | n + 1, h => by
    have hl := lim_eq
    have ih := @bitsOf_fall P n (by omega)
    have hstep : ∀ (e : Nat) (l : List Int), e ≤ 16384 → bitsOf ((e : Int) :: l) = 2 ^ e ^^^ bitsOf l := fun e l he => by
      have := bitsOf_append [(e : Int)] l
      rw [List.singleton_append] at this
      rw [this]
      congr 1
      show put 0 e = _
      unfold put
      rw [if_pos ⟨by omega, by omega⟩, Nat.zero_xor, Int.toNat_natCast]
    have hm : P % 2 ^ (n + 1) = (if P.testBit n then 2 ^ n else 0) ^^^ P % 2 ^ n := by
      apply ext; intro i
      rw [Nat.testBit_xor, Nat.testBit_mod_two_pow, Nat.testBit_mod_two_pow]
      by_cases hi : i = n
      · subst hi
        rw [decide_eq_true (show i < i + 1 by omega), decide_eq_false (show ¬ i < i by omega)]
        cases hb : P.testBit i
        · simp
        · rw [if_pos rfl, tb_pow]; simp
      · have hne : (if P.testBit n = true then 2 ^ n else 0).testBit i = false := by
          cases hb : P.testBit n
          · simp
          · rw [if_pos rfl, tb_pow, decide_eq_false (by omega)]
        rw [hne]
        by_cases h1 : i < n
        · rw [decide_eq_true h1, decide_eq_true (show i < n + 1 by omega)]; simp
        · rw [decide_eq_false h1, decide_eq_false (show ¬ i < n + 1 by omega)]; simp
    cases hb : P.testBit n
    · rw [fall_no hb, ih, hm, hb]; simp
    · rw [fall_yes hb]
      show bitsOf ((n : Int) :: ints (fall n P)) = _
      rw [hstep n _ (by omega), ih, hm, hb]; simp

/-! Words of 64 bits -/
def wordN (P i : Nat) : Nat := P / 2 ^ (64 * i) % 2 ^ 64
theorem wordN_lt (P i : Nat) : wordN P i < 18446744073709551616 := Nat.mod_lt _ (by decide)
theorem wordN_tb (P i j : Nat) : (wordN P i).testBit j = (decide (j < 64) && P.testBit (64 * i + j)) := by
  unfold wordN
  rw [Nat.testBit_mod_two_pow, tb_div]
theorem wordN_xor (P Q i : Nat) : wordN (P ^^^ Q) i = wordN P i ^^^ wordN Q i := by
  unfold wordN
  rw [div_xor, mod_xor]
theorem wordN_at {c : Nat} (j i : Nat) (hc : c < 2 ^ 64) : wordN (c * 2 ^ (64 * j)) i = if i = j then c else 0 := by
  apply ext; intro k
  rw [wordN_tb, tb_mul]
  by_cases hij : i = j
  · subst hij
    rw [if_pos rfl, decide_eq_true (show 64 * i ≤ 64 * i + k by omega), show 64 * i + k - 64 * i = k by omega]
    by_cases hk : k < 64
    · simp [hk]
    · rw [tb_lt hc (show 64 ≤ k by omega)]; simp
  · rw [if_neg hij]
    by_cases hk : k < 64
    · by_cases h : 64 * j ≤ 64 * i + k
      · rw [tb_lt hc (show 64 ≤ 64 * i + k - 64 * j by omega)]; simp
      · rw [decide_eq_false h]; simp
    · simp [hk]
/-- One word changed. -/
theorem wordN_put {P c j : Nat} (hc : c < 2 ^ 64) (i : Nat) : wordN (P ^^^ c * 2 ^ (64 * j)) i = if i = j then wordN P j ^^^ c else wordN P i := by
  rw [wordN_xor, wordN_at j i hc]
  split
  · rename_i h; rw [h]
  · rw [Nat.xor_zero]
theorem wordN_zero (i : Nat) : wordN 0 i = 0 := by simp [wordN]
theorem wordN_high {P n i : Nat} (h : P < 2 ^ (64 * n)) (hi : n ≤ i) : wordN P i = 0 := by
  unfold wordN
  rw [Nat.div_eq_of_lt (Nat.lt_of_lt_of_le h (Nat.pow_le_pow_right (by omega) (by omega)))]
/-- The lower words, and one more. -/
theorem low_step (P k : Nat) : P % 2 ^ (64 * (k + 1)) = P % 2 ^ (64 * k) ^^^ wordN P k * 2 ^ (64 * k) := by
  apply ext; intro i
  rw [Nat.testBit_xor, Nat.testBit_mod_two_pow, Nat.testBit_mod_two_pow, tb_mul, wordN_tb]
  by_cases h1 : i < 64 * k
  · rw [decide_eq_true (show i < 64 * (k + 1) by omega), decide_eq_true h1, decide_eq_false (show ¬ 64 * k ≤ i by omega)]; simp
  · rw [decide_eq_false h1, decide_eq_true (show 64 * k ≤ i by omega)]
    by_cases h2 : i < 64 * (k + 1)
    · rw [decide_eq_true h2, decide_eq_true (show i - 64 * k < 64 by omega), show 64 * k + (i - 64 * k) = i by omega]; simp
    · rw [decide_eq_false h2, decide_eq_false (show ¬ i - 64 * k < 64 by omega)]; simp
/-- A word that is laid so many bits higher: its two parts. -/
theorem shift_word (c k up : Nat) :
    c * 2 ^ (64 * k + up) = (c * 2 ^ (up % 64) % 2 ^ 64) * 2 ^ (64 * (k + up / 64)) ^^^ (c / 2 ^ (64 - up % 64)) * 2 ^ (64 * (k + up / 64 + 1)) := by
  apply ext; intro i
  rw [Nat.testBit_xor, tb_mul, tb_mul, tb_mul, Nat.testBit_mod_two_pow, tb_mul, tb_div]
  have hl : up % 64 < 64 := Nat.mod_lt _ (by omega)
  generalize hw : up / 64 = w
  generalize hll : up % 64 = l at *
  have hup : up = 64 * w + l := by omega
  rw [hup]
  clear hw hll hup
  by_cases h1 : 64 * k + (64 * w + l) ≤ i
  · rw [decide_eq_true h1, decide_eq_true (show 64 * (k + w) ≤ i by omega)]
    by_cases h2 : i < 64 * (k + w + 1)
    · rw [decide_eq_true (show i - 64 * (k + w) < 64 by omega), decide_eq_true (show l ≤ i - 64 * (k + w) by omega), decide_eq_false (show ¬ 64 * (k + w + 1) ≤ i by omega), show i - 64 * (k + w) - l = i - (64 * k + (64 * w + l)) by omega]
      simp
    · rw [decide_eq_false (show ¬ i - 64 * (k + w) < 64 by omega), decide_eq_true (show 64 * (k + w + 1) ≤ i by omega), show 64 - l + (i - 64 * (k + w + 1)) = i - (64 * k + (64 * w + l)) by omega]
      simp
  · rw [decide_eq_false h1]
    by_cases h3 : 64 * (k + w) ≤ i
    · rw [decide_eq_false (show ¬ l ≤ i - 64 * (k + w) by omega), decide_eq_false (show ¬ 64 * (k + w + 1) ≤ i by omega)]
      simp
    · rw [decide_eq_false h3, decide_eq_false (show ¬ 64 * (k + w + 1) ≤ i by omega)]
      simp
end Go.Proofs.Ytffdpmejilmnnaa.Poly
