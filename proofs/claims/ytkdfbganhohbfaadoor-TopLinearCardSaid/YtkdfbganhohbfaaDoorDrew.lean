/-
  A world some draws later.
-/
import Derived.Test.YtkdfbganhohbfaaDoorMem
namespace Go.Proofs.YtkdfbganhohbfaaDoor
open Go.RowKit
/-- Some draws later. -/
def DrewOf (a b : World) : Prop := ∃ m, b = a.drewN m
theorem DrewOf.refl (a : World) : DrewOf a a := ⟨0, rfl⟩
theorem DrewOf.more {a b : World} (h : DrewOf a b) (m : Nat) : DrewOf a (b.drewN m) := by
  obtain ⟨k, rfl⟩ := h
  exact ⟨k + m, by rw [World.drewN_drewN]⟩
theorem DrewOf.below {B : Nat} {w a b : World} (h : DrewOf a b) (hb : Below B w a) : Below B w b := by
  obtain ⟨k, rfl⟩ := h
  exact ⟨hb.os, hb.tape, hb.output, hb.size, hb.block⟩
theorem DrewOf.same {a b : World} (h : DrewOf a b) : Below a.heap.size a b := h.below (Below.refl _ _)
end Go.Proofs.YtkdfbganhohbfaaDoor
