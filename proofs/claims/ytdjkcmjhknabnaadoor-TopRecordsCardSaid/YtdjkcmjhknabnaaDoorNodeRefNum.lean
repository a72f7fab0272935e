/-
  The document's number of eight bytes.
-/
import Derived.Test.YtdjkcmjhknabnaaDoorNodeDec2
namespace Go.Proofs.YtdjkcmjhknabnaaDoor
open Go.RowKit

/-- A number, or -1 where it is too great. -/
def numR (N : Nat) : Int := if N ≤ 1099511627776 then (N : Int) else -1
theorem beN_prefix (l : List UInt8) (b : UInt8) (N : Nat) (h : beN (l ++ [b]) ≤ N) : beN l ≤ N := by rw [beN_snoc] at h; omega
theorem beN_take_le (l : List UInt8) : ∀ (d k : Nat), beN (l.take k) ≤ beN (l.take (k + d))
  | 0, k => Nat.le_refl _
  | d + 1, k => by
    refine Nat.le_trans (beN_take_le l d k) ?_
    rw [← Nat.add_assoc]
    by_cases h : k + d < l.length
    · rw [List.take_succ_eq_append_getElem h]
      exact beN_prefix _ _ _ (Nat.le_refl _)
    · rw [List.take_of_length_le (by omega), List.take_of_length_le (by omega)]; exact Nat.le_refl _

end Go.Proofs.YtdjkcmjhknabnaaDoor
