/-
  What the document's remainder of polynomials answers.
-/
import Derived.Test.YtkdfbganhohbfaaDoorPolyRef2
namespace Go.Proofs.YtkdfbganhohbfaaDoor
open Go.RowKit

theorem modD_yes {Y n k x : Nat} (h : x.testBit (n + k) = true) : Poly.modD Y n (k + 1) x = Poly.modD Y n k (x ^^^ Y * 2 ^ k) := by
  show Poly.modD Y n k (if x.testBit (n + k) = true then _ else _) = _
  rw [if_pos h]
theorem modD_no {Y n k x : Nat} (h : x.testBit (n + k) = false) : Poly.modD Y n (k + 1) x = Poly.modD Y n k x := by
  show Poly.modD Y n k (if x.testBit (n + k) = true then _ else _) = _
  rw [h]; rfl
theorem top_off {x m : Nat} (hx : x < 2 ^ (m + 1)) (h : x.testBit m = false) : x < 2 ^ m := by
  apply Poly.lt_of_tb
  intro i hi
  by_cases e : i = m
  · rw [e]; exact h
  · exact Poly.tb_lt hx (by omega)

end Go.Proofs.YtkdfbganhohbfaaDoor
