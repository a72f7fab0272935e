/-
  What the program's remainder answers.
-/
import Derived.Test.YtkdfbganhohbfaaDoorPolyOps
namespace Go.Proofs.YtkdfbganhohbfaaDoor
open Go.RowKit

def modR (A B : Nat) : Option Nat := if B = 0 then none else some (Poly.modP A B)
theorem modP_small {X Y : Nat} (h : X < 2 ^ Y.log2) (hY : Y ≠ 0) : Poly.modP X Y = X := by
  have := Poly.modD_eq (X := X) (Y := Y) (n := 0) (by rw [Nat.add_zero]; exact h) hY
  rw [← this]; rfl
theorem modP_step {X Y : Nat} (hX : X ≠ 0) (hY : Y ≠ 0) (h : Y.log2 ≤ X.log2) : X ^^^ Y * 2 ^ (X.log2 - Y.log2) < 2 ^ X.log2 ∧ Poly.modP (X ^^^ Y * 2 ^ (X.log2 - Y.log2)) Y = Poly.modP X Y := by
  have hb := Poly.log2_tb hX
  have e : Y.log2 + (X.log2 - Y.log2) = X.log2 := by omega
  have h1 : X < 2 ^ (Y.log2 + (X.log2 - Y.log2) + 1) := by rw [e]; exact Poly.lt_two_log2 X
  have h2 := Poly.red_lt hY h1 (by rw [e]; exact hb)
  refine ⟨by rwa [e] at h2, ?_⟩
  rw [← Poly.modD_eq h2 hY, ← Poly.modD_eq (X := X) (n := X.log2 - Y.log2 + 1) h1 hY]
  show _ = Poly.modD Y Y.log2 (X.log2 - Y.log2) (if X.testBit (Y.log2 + (X.log2 - Y.log2)) = true then _ else _)
  rw [e, if_pos hb]
theorem deg_lt {X m : Nat} (h : X < 2 ^ m) : deg X < (m : Int) := by
  unfold deg
  split
  · omega
  · rename_i h0
    have := Poly.log2_lt h0 h
    omega

end Go.Proofs.YtkdfbganhohbfaaDoor
