/-
  A field in memory, fresh or with its tables; the tables are made once.
-/
import Derived.Test.YtkdfbganhohbfaaDoorGfTables
import Derived.Laws.NewBlocks
namespace Go.Proofs.YtkdfbganhohbfaaDoor
open Go.RowKit

def Fresh [Host] (w : World) (f p : Nat) : Prop := FB w f (.int .u32 0) (.int .i32 0) (.int .u32 0) (.slice none 0 0) (.slice none 0 0) (.int .i64 p)
/-- The tables are there. -/
structure MadeAt [Host] (w : World) (f ge gl p : Nat) : Prop where
  fb : FB w f (.int .u32 1) (.int .i32 0) (.int .u32 0) (.slice (some ⟨ge, 0, none⟩) 16382 16382) (.slice (some ⟨gl, 0, none⟩) 8192 8192) (.int .i64 p)
  ex : ExpR w ge 8191
  lg : LogR w gl 8191
  ne : ge ≠ f ∧ gl ≠ f
def Made [Host] (w : World) (f p : Nat) : Prop := ∃ ge gl, MadeAt w f ge gl p
def Fld [Host] (w : World) (f p : Nat) : Prop := Fresh w f p ∨ Made w f p

theorem MadeAt.drewN [Host] {w : World} {f ge gl p : Nat} (h : MadeAt w f ge gl p) (m : Nat) : MadeAt (w.drewN m) f ge gl p := ⟨h.fb, h.ex.drewN m, h.lg.drewN m, h.ne⟩
theorem MadeAt.drew [Host] {w : World} {f ge gl p : Nat} (h : MadeAt w f ge gl p) : MadeAt w.drew f ge gl p := ⟨h.fb, h.ex.drew, h.lg.drew, h.ne⟩
theorem MadeAt.expCell [Host] {w : World} {f ge gl p : Nat} (h : MadeAt w f ge gl p) {i : Nat} (hi : i < 16382) : w.cell? ⟨ge, i, none⟩ = some (.int .i64 (Gf.pw i : Nat)) := by
  have h1 := Row.cells h.ex rfl i _ (expV_get hi)
  rw [add_plain, Nat.zero_add] at h1
  rw [h1]
  unfold expAt
  rw [if_pos (by omega)]
theorem MadeAt.logCell [Host] {w : World} {f ge gl p : Nat} (h : MadeAt w f ge gl p) {x : Nat} (h0 : 0 < x) (hx : x < 8192) : w.cell? ⟨gl, x, none⟩ = some (.int .i64 (Gf.log x : Nat)) := by
  have h1 := Row.cells h.lg rfl x _ (logV_get hx)
  rw [add_plain, Nat.zero_add] at h1
  rw [h1]
  have h2 := Gf.log_lt x
  unfold logAt
  rw [if_pos ⟨h0, h2⟩]
theorem MadeAt.c3 [Host] {w : World} {f ge gl p : Nat} (h : MadeAt w f ge gl p) : w.cell? ⟨f, 8, none⟩ = some (.slice (some ⟨ge, 0, none⟩) 16382 16382) := h.fb.cell (i := 8) rfl
theorem MadeAt.c4 [Host] {w : World} {f ge gl p : Nat} (h : MadeAt w f ge gl p) : w.cell? ⟨f, 9, none⟩ = some (.slice (some ⟨gl, 0, none⟩) 8192 8192) := h.fb.cell (i := 9) rfl
theorem MadeAt.kept [Host] {w w' : World} {f ge gl p : Nat} {row : Option Nat} (h : MadeAt w f ge gl p) (hg : w.grownBy w' row) (h1 : some f ≠ row) (h2 : some ge ≠ row) (h3 : some gl ≠ row) : MadeAt w' f ge gl p :=
  ⟨h.fb.kept hg h1, h.ex.kept hg (.inr h2), h.lg.kept hg (.inr h3), h.ne⟩
theorem Made.below [Host] {w w' : World} {f p : Nat} (h : Made w f p) (hb : Below w.heap.size w w') : Made w' f p := by
  obtain ⟨ge, gl, h⟩ := h
  exact ⟨ge, gl, h.kept (grownBy_of_below hb none) (by simp) (by simp) (by simp)⟩
theorem Fld.below [Host] {w w' : World} {f p : Nat} (h : Fld w f p) (hb : Below w.heap.size w w') : Fld w' f p := by
  rcases h with h | h
  · exact .inl (FB.kept h (grownBy_of_below hb none) (by simp))
  · exact .inr (h.below hb)
theorem Fld.lt [Host] {w : World} {f p : Nat} (h : Fld w f p) : f < w.heap.size := by
  rcases h with h | ⟨_, _, h⟩
  · exact FB.lt h
  · exact h.fb.lt

def SlowPost [Host] (w : World) (f p : Nat) (e : Ending) (w' : World) : Prop := e = .returned (.tuple #[]) ∧ Made w' f p ∧ w.grownBy w' (some f)

set_option maxRecDepth 100000 in
set_option maxHeartbeats 1600000 in
theorem once_slow [Host] (f bx p : Nat) (w : World) (hF : Fresh w f p) (hbx : w.cell? ⟨bx, 0, none⟩ = some (.pointer (some ⟨f, 5, none⟩))) (hne : bx ≠ f) (hlt : bx < w.heap.size) :
    Calls Tryd.prog 16 #[.pointer (some ⟨f, 5, none⟩), .func (.func 55) #[] #[.pointer (some ⟨bx, 0, none⟩)]] w (SlowPost w f p) := by
  have h1 := FB.set1 hF (.int .i32 1)
  have c0 : (w.setCell ⟨f, 6, none⟩ (.int .i32 1)).cell? ⟨f, 5, none⟩ = some (.int .u32 0) := h1.cell (i := 5) rfl
  have l0 : w.cell? ⟨f, 6, none⟩ = some (.int .i32 0) := FB.cell hF (i := 6) rfl
  have z0 : w.frozen? ⟨f, 6, none⟩ = false := FB.free hF 6
  have hb1 : (w.setCell ⟨f, 6, none⟩ (.int .i32 1)).cell? ⟨bx, 0, none⟩ = some (.pointer (some ⟨f, 5, none⟩)) := by rw [cell_setCell_far _ _ _ _ (Ne.symm hne)]; exact hbx
  have hg1 := grownBy_setCell w f 6 (.int .i32 1)
  have hs1 := size_setCell' w ⟨f, 6, none⟩ (.int .i32 1)
  have HA := Aside.mk (And.intro h1 (And.intro c0 (And.intro hb1 (And.intro hg1 (And.intro hs1 (And.intro l0 z0))))))
  clear h1 c0 hb1 hg1 hs1 l0 z0
  go_enter_defers Tryd.func16, Tryd.ntmps16
  go_wp2_with (first | (go_at_call 23; refine (Once.lock_free ⟨f, 6, none⟩ _ HA.out.2.2.2.2.2.1 HA.out.2.2.2.2.2.2).mono ?_; rintro e w1 ⟨rfl, rfl⟩) | (go_at_call 15; refine (Once.bool_load ⟨f, 5, none⟩ 0 false _ HA.out.2.1 rfl).mono ?_; rintro e w1 ⟨rfl, rfl⟩) | (go_at_call 55; refine (tables_fill f bx _ _ _ _ _ HA.out.1 HA.out.2.2.1 hne (by rw [HA.out.2.2.2.2.1]; exact hlt)).mono ?_; rintro e w2 ⟨rfl, ge, gl, hT⟩))
  have hF2 := hT.fb
  refine leaves_cons (f := 25) (args := #[.pointer (some ⟨f, 5, none⟩), .bool true]) (by simp) (by simp [go_sem]) ?_
  refine (Once.store_deferred ⟨f, 5, none⟩ (.int .u32 0) .returning _ (hF2.cell (i := 5) rfl) (hF2.free 5)).mono ?_
  rintro e u' w3 ⟨rfl, rfl, rfl⟩
  have hF3 := FB.set0 hF2.drew (.int .u32 1)
  refine leaves_cons (f := 24) (args := #[.pointer (some ⟨f, 6, none⟩)]) (by simp [settle]) (by simp [go_sem]) ?_
  refine (Once.unlock_deferred ⟨f, 6, none⟩ _ _ (hF3.cell (i := 6) rfl) (hF3.free 6)).mono ?_
  rintro e u' w4 ⟨rfl, rfl, rfl⟩
  have hF4 := FB.set1 hF3 (.int .i32 0)
  have o := hT.old
  have g1 := grownBy_setCell w2.drew f 5 (.int .u32 1)
  have g2 := grownBy_setCell (w2.drew.setCell ⟨f, 5, none⟩ (.int .u32 1)) f 6 (.int .i32 0)
  have hsz := HA.out.2.2.2.2.1
  have hfl := FB.lt hF
  have hP : SlowPost w f p (.returned (.tuple #[])) ((w2.drew.setCell ⟨f, 5, none⟩ (.int .u32 1)).setCell ⟨f, 6, none⟩ (.int .i32 0)) := by
    refine ⟨rfl, ⟨ge, gl, hF4, (hT.ex.drew.kept g1 (.inr (by simp only [Value.ownBlock, ne_eq, Option.some.injEq]; omega))).kept g2 (.inr (by simp only [Value.ownBlock, ne_eq, Option.some.injEq]; omega)), (hT.lg.drew.kept g1 (.inr (by simp only [Value.ownBlock, ne_eq, Option.some.injEq]; omega))).kept g2 (.inr (by simp only [Value.ownBlock, ne_eq, Option.some.injEq]; omega)), by omega, by omega⟩, ?_⟩
    exact World.grownBy.trans (World.grownBy.trans (World.grownBy.trans HA.out.2.2.2.1 hT.gr) (grownBy_drew (World.grownBy.refl _ _))) (World.grownBy.trans g1 g2)
  simp [Leaves, settle, results, Tryd.results16]
  exact hP

/-- Not yet done. -/
theorem once_first [Host] (f bx p : Nat) (w : World) (hF : Fresh w f p) (hbx : w.cell? ⟨bx, 0, none⟩ = some (.pointer (some ⟨f, 5, none⟩))) (hne : bx ≠ f) (hlt : bx < w.heap.size) :
    Calls Tryd.prog 11 #[.pointer (some ⟨f, 5, none⟩), .func (.func 55) #[] #[.pointer (some ⟨bx, 0, none⟩)]] w (SlowPost w f p) := by
  have c0 : w.cell? ⟨f, 5, none⟩ = some (.int .u32 0) := FB.cell hF (i := 5) rfl
  go_enter Tryd.func11, Tryd.ntmps11
  go_wp2_with (first | (go_at_call 15; refine (Once.bool_load ⟨f, 5, none⟩ 0 false _ c0 rfl).mono ?_; rintro e w1 ⟨rfl, rfl⟩) | (go_at_call 16; refine (once_slow f bx p _ hF hbx hne hlt).mono ?_; rintro e w2 ⟨rfl, hM, hg⟩))
  go_end0
  exact ⟨rfl, hM, hg⟩
/-- Done already. -/
theorem once_again (f : Nat) (fv : Value) (w : World) (hc : w.cell? ⟨f, 5, none⟩ = some (.int .u32 1)) :
    Calls Tryd.prog 11 #[.pointer (some ⟨f, 5, none⟩), fv] w fun e w' => e = .returned (.tuple #[]) ∧ w' = w := by
  go_enter Tryd.func11, Tryd.ntmps11
  go_wp2_with (go_at_call 15; refine (Once.bool_load ⟨f, 5, none⟩ 1 true _ hc rfl).mono ?_; rintro e w1 ⟨rfl, rfl⟩)
  go_end0
  exact ⟨rfl, rfl⟩

set_option maxHeartbeats 800000 in
theorem gf_tables [Host] (f p : Nat) (w : World) (hF : Fld w f p) :
    Calls Tryd.prog 39 #[.pointer (some ⟨f, 5, none⟩)] w (SlowPost w f p) := by
  have hmf : ∀ (fn : Fn) (first cap : Array Value) (w : World), (Instr.makeFunc fn first cap).run Tryd.prog w = .ok (.func fn first cap) w := fun _ _ _ _ => rfl
  have hfl := hF.lt
  have g0 := World.grownBy_alloc w (.cells #[.pointer (some ⟨f, 5, none⟩)] 60) (some f)
  have b0 : (w.alloc (.cells #[.pointer (some ⟨f, 5, none⟩)] 60)).cell? ⟨w.heap.size, 0, none⟩ = some (.pointer (some ⟨f, 5, none⟩)) := by simp
  have hF1 := hF.below ((Below.refl w.heap.size w).alloc (Nat.le_refl _) (.cells #[.pointer (some ⟨f, 5, none⟩)] 60))
  have HA := Aside.mk (And.intro g0 (And.intro b0 hF1))
  clear g0 b0 hF1
  rcases HA.out.2.2 with h | h
  · go_enter Tryd.func39, Tryd.ntmps39
    go_wp2_with (go_at_call 11; refine (once_first f w.heap.size p _ h HA.out.2.1 (by omega) (by simp)).mono ?_; rintro e w2 ⟨rfl, hM, hg⟩)
    go_end0
    exact ⟨rfl, hM, World.grownBy.trans HA.out.1 hg⟩
  · have c0 : (w.alloc (.cells #[.pointer (some ⟨f, 5, none⟩)] 60)).cell? ⟨f, 5, none⟩ = some (.int .u32 1) := by
      obtain ⟨ge, gl, h⟩ := h
      exact h.fb.cell (i := 5) rfl
    have HC := Aside.mk c0
    clear c0
    go_enter Tryd.func39, Tryd.ntmps39
    go_wp2_with (go_at_call 11; refine (once_again f _ _ HC.out).mono ?_; rintro e w2 ⟨rfl, rfl⟩)
    go_end0
    exact ⟨rfl, h, HA.out.1⟩
end Go.Proofs.YtkdfbganhohbfaaDoor
