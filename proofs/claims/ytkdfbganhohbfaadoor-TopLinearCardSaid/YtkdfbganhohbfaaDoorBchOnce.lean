/-
  A code is made ready once; the length of its parity.
-/
import Derived.Test.YtkdfbganhohbfaaDoorBchReady
namespace Go.Proofs.YtkdfbganhohbfaaDoor
open Go.RowKit

/-- A code that is ready: its generator's bits. -/
structure BReady (w : World) (c t n g : Nat) (l : List UInt8) (q : Nat) : Prop where
  code : CF w c t n (.int .u32 1) (.int .i32 0) (.int .u32 0) (.int .i64 (degN t : Int)) (.slice (some ⟨g, 0, none⟩) (lowN8 t) (lowN8 t)) q
  low : Row w 0 5 1 (.slice (some ⟨g, 0, none⟩) (lowN8 t) (lowN8 t)) (lowN8 t) (bytesV l)
/-- A code that is new. -/
def BNew (w : World) (c t n : Nat) : Prop := CF w c t n (.int .u32 0) (.int .i32 0) (.int .u32 0) (.int .i64 0) (.slice none 0 0) 0
theorem BReady.below {w w' : World} {c t n g q : Nat} {l : List UInt8} (h : BReady w c t n g l q) (hb : Below w.heap.size w w') : BReady w' c t n g l q := ⟨h.code.below hb, h.low.below hb⟩
def ReadyPost (w : World) (c t n : Nat) (e : Ending) (w' : World) : Prop := e = .returned (.tuple #[]) ∧ (∃ g l q, BReady w' c t n g l q) ∧ w.grownBy w' (some c)
set_option maxRecDepth 100000 in
set_option maxHeartbeats 1600000 in
theorem bch_slow (c bx t n : Nat) (w : World) (ht1 : 1 ≤ t) (ht8 : t ≤ 8) (hF : BNew w c t n) (hbx : w.cell? ⟨bx, 0, none⟩ = some (.pointer (some ⟨c, 0, none⟩))) (hne : bx ≠ c) (hlt : bx < w.heap.size) :
    Calls Tryd.prog 16 #[.pointer (some ⟨c, 2, none⟩), .func (.func 12) #[] #[.pointer (some ⟨bx, 0, none⟩)]] w (ReadyPost w c t n) := by
  have h1 := CF.set3 hF (.int .i32 1)
  have c0 : (w.setCell ⟨c, 3, none⟩ (.int .i32 1)).cell? ⟨c, 2, none⟩ = some (.int .u32 0) := h1.c2
  have l0 : w.cell? ⟨c, 3, none⟩ = some (.int .i32 0) := CF.c3 hF
  have z0 : w.frozen? ⟨c, 3, none⟩ = false := CF.free hF 3
  have hb1 : (w.setCell ⟨c, 3, none⟩ (.int .i32 1)).cell? ⟨bx, 0, none⟩ = some (.pointer (some ⟨c, 0, none⟩)) := by rw [cell_setCell_far _ _ _ _ (Ne.symm hne)]; exact hbx
  have hg1 := grownBy_setCell w c 3 (.int .i32 1)
  have hs1 := size_setCell' w ⟨c, 3, none⟩ (.int .i32 1)
  have HA := Aside.mk (And.intro h1 (And.intro c0 (And.intro hb1 (And.intro hg1 (And.intro hs1 (And.intro l0 z0))))))
  have HT := Aside.mk (And.intro ht1 ht8)
  clear h1 c0 hb1 hg1 hs1 l0 z0 ht1 ht8
  go_enter_defers Tryd.func16, Tryd.ntmps16
  go_wp2_with (first | (go_at_call 23; refine (Once.lock_free ⟨c, 3, none⟩ _ HA.out.2.2.2.2.2.1 HA.out.2.2.2.2.2.2).mono ?_; rintro e w1 ⟨rfl, rfl⟩) | (go_at_call 15; refine (Once.bool_load ⟨c, 2, none⟩ 0 false _ HA.out.2.1 rfl).mono ?_; rintro e w1 ⟨rfl, rfl⟩) | (go_at_call 12; refine (bch_fill c bx t n _ HT.out.1 HT.out.2 HA.out.1 HA.out.2.2.1 hne (by rw [HA.out.2.2.2.2.1]; exact hlt)).mono ?_; rintro e w2 ⟨rfl, g, l, q, hT, hrow, hgr, hq⟩))
  refine leaves_cons (f := 25) (args := #[.pointer (some ⟨c, 2, none⟩), .bool true]) (by simp) (by simp [go_sem]) ?_
  refine (Once.store_deferred ⟨c, 2, none⟩ (.int .u32 0) .returning _ hT.c2 (hT.free 2)).mono ?_
  rintro e u' w3 ⟨rfl, rfl, rfl⟩
  have hF3 := CF.set2 hT.drew (.int .u32 1)
  refine leaves_cons (f := 24) (args := #[.pointer (some ⟨c, 3, none⟩)]) (by simp [settle]) (by simp [go_sem]) ?_
  refine (Once.unlock_deferred ⟨c, 3, none⟩ _ _ hF3.c3 (hF3.free 3)).mono ?_
  rintro e u' w4 ⟨rfl, rfl, rfl⟩
  have hF4 := CF.set3 hF3 (.int .i32 0)
  have g1 := grownBy_setCell w2.drew c 2 (.int .u32 1)
  have g2 := grownBy_setCell (w2.drew.setCell ⟨c, 2, none⟩ (.int .u32 1)) c 3 (.int .i32 0)
  have hoff := hT.off hrow (by decide)
  have hP : ReadyPost w c t n (.returned (.tuple #[])) ((w2.drew.setCell ⟨c, 2, none⟩ (.int .u32 1)).setCell ⟨c, 3, none⟩ (.int .i32 0)) := by
    refine ⟨rfl, ⟨g, l, q, hF4, (((hrow.mono (Nat.zero_le _)).drew.kept g1 (.inr hoff)).kept g2 (.inr hoff))⟩, ?_⟩
    exact World.grownBy.trans (World.grownBy.trans (World.grownBy.trans HA.out.2.2.2.1 hgr) (grownBy_drew (World.grownBy.refl _ _))) (World.grownBy.trans g1 g2)
  simp [Leaves, settle, results, Tryd.results16]
  exact hP
/-- Not yet done. -/
theorem bch_first (c bx t n : Nat) (w : World) (ht1 : 1 ≤ t) (ht8 : t ≤ 8) (hF : BNew w c t n) (hbx : w.cell? ⟨bx, 0, none⟩ = some (.pointer (some ⟨c, 0, none⟩))) (hne : bx ≠ c) (hlt : bx < w.heap.size) :
    Calls Tryd.prog 11 #[.pointer (some ⟨c, 2, none⟩), .func (.func 12) #[] #[.pointer (some ⟨bx, 0, none⟩)]] w (ReadyPost w c t n) := by
  have c0 : w.cell? ⟨c, 2, none⟩ = some (.int .u32 0) := CF.c2 hF
  have HT := Aside.mk (And.intro ht1 ht8)
  clear ht1 ht8
  go_enter Tryd.func11, Tryd.ntmps11
  go_wp2_with (first | (go_at_call 15; refine (Once.bool_load ⟨c, 2, none⟩ 0 false _ c0 rfl).mono ?_; rintro e w1 ⟨rfl, rfl⟩) | (go_at_call 16; refine (bch_slow c bx t n _ HT.out.1 HT.out.2 hF hbx hne hlt).mono ?_; rintro e w2 ⟨rfl, hM, hg⟩))
  go_end0
  exact ⟨rfl, hM, hg⟩
/-- Done already. -/
theorem bch_again (c : Nat) (fv : Value) (w : World) (hc : w.cell? ⟨c, 2, none⟩ = some (.int .u32 1)) :
    Calls Tryd.prog 11 #[.pointer (some ⟨c, 2, none⟩), fv] w fun e w' => e = .returned (.tuple #[]) ∧ w' = w := by
  go_enter Tryd.func11, Tryd.ntmps11
  go_wp2_with (go_at_call 15; refine (Once.bool_load ⟨c, 2, none⟩ 1 true _ hc rfl).mono ?_; rintro e w1 ⟨rfl, rfl⟩)
  go_end0
  exact ⟨rfl, rfl⟩
set_option maxHeartbeats 800000 in
/-- Ready, the first time. -/
theorem bch_ready (c t n : Nat) (w : World) (ht1 : 1 ≤ t) (ht8 : t ≤ 8) (hF : BNew w c t n) :
    Calls Tryd.prog 9 #[.pointer (some ⟨c, 0, none⟩)] w (ReadyPost w c t n) := by
  have hmf : ∀ (fn : Fn) (first cap : Array Value) (w : World), (Instr.makeFunc fn first cap).run Tryd.prog w = .ok (.func fn first cap) w := fun _ _ _ _ => rfl
  have hfl := CF.lt hF
  have g0 := World.grownBy_alloc w (.cells #[.pointer (some ⟨c, 0, none⟩)] 25) (some c)
  have b0 : (w.alloc (.cells #[.pointer (some ⟨c, 0, none⟩)] 25)).cell? ⟨w.heap.size, 0, none⟩ = some (.pointer (some ⟨c, 0, none⟩)) := by simp
  have hF1 : BNew (w.alloc (.cells #[.pointer (some ⟨c, 0, none⟩)] 25)) c t n := CF.below hF ((Below.refl w.heap.size w).alloc (Nat.le_refl _) (.cells #[.pointer (some ⟨c, 0, none⟩)] 25))
  have HA := Aside.mk (And.intro g0 (And.intro b0 hF1))
  have HT := Aside.mk (And.intro ht1 ht8)
  clear g0 b0 hF1 hF ht1 ht8
  go_enter Tryd.func9, Tryd.ntmps9
  go_wp2_with (go_at_call 11; refine (bch_first c w.heap.size t n _ HT.out.1 HT.out.2 HA.out.2.2 HA.out.2.1 (by omega) (by simp)).mono ?_; rintro e w2 ⟨rfl, hM, hg⟩)
  go_end0
  exact ⟨rfl, hM, World.grownBy.trans HA.out.1 hg⟩
/-- Ready already. -/
theorem bch_ready_at (c t n g q : Nat) (l : List UInt8) (w : World) (hF : BReady w c t n g l q) :
    Calls Tryd.prog 9 #[.pointer (some ⟨c, 0, none⟩)] w fun e w' => e = .returned (.tuple #[]) ∧ Below w.heap.size w w' := by
  have hmf : ∀ (fn : Fn) (first cap : Array Value) (w : World), (Instr.makeFunc fn first cap).run Tryd.prog w = .ok (.func fn first cap) w := fun _ _ _ _ => rfl
  have hb := (Below.refl w.heap.size w).alloc (Nat.le_refl _) (.cells #[.pointer (some ⟨c, 0, none⟩)] 25)
  have c0 := (hF.below hb).code.c2
  have HC := Aside.mk c0
  clear c0 hF
  go_enter Tryd.func9, Tryd.ntmps9
  go_wp2_with (go_at_call 11; refine (bch_again c _ _ HC.out).mono ?_; rintro e w2 ⟨rfl, rfl⟩)
  go_end0
  exact ⟨rfl, hb⟩
end Go.Proofs.YtkdfbganhohbfaaDoor
