/-
  The statements of the polynomials: sums, products, remainders.
-/
import Derived.Test.YtkdfbganhohbfaaDoorPolyRef3
import Derived.Test.YtkdfbganhohbfaaDoorAppend2
import Derived.Test.YtkdfbganhohbfaaDoorArgs
namespace Go.Proofs.YtkdfbganhohbfaaDoor
open Go.RowKit

/-- A list of numbers that is read. -/
def LRd (w : World) (v : Value) (l : List Int) : Prop := ∃ A n c, v = .slice A n c ∧ n = l.length ∧ n ≤ 17592186043904 ∧ Rd w A n (fun i => .int .i64 (l.getD i 0))
theorem LRd.below {w w' : World} {v : Value} {l : List Int} (h : LRd w v l) (hb : Below w.heap.size w w') : LRd w' v l := by
  obtain ⟨A, n, c, h1, h2, h3, h4⟩ := h
  exact ⟨A, n, c, h1, h2, h3, h4.below (Nat.le_refl _) hb⟩
theorem Row.lrd {w : World} {base : Nat} {v : Value} {n : Nat} {l : List Int} (h : Row w base 3 1 v n (intsV l)) (hn : n ≤ 17592186043904) : LRd w v l := by
  obtain ⟨A, c, rfl, h1, _, _, h2⟩ := h.readInts
  exact ⟨A, n, c, rfl, h1, hn, h2⟩
theorem listP_short (P : Nat) : (listP P).length ≤ 17592186043904 := by have := listP_le P; omega
theorem optL_short (r : Option Nat) : (optL r).length ≤ 17592186043904 := by
  cases r with
  | none => exact Nat.zero_le _
  | some P => exact listP_short P
def CopyPost (w : World) (l : List Int) (e : Ending) (w' : World) : Prop := ∃ v, e = .returned v ∧ Row w' w.heap.size 3 1 v l.length (intsV l) ∧ Below w.heap.size w w'
theorem lmul (v u : Value) (l k : List Int) (w : World) (h : LRd w v l) (h2 : LRd w u k) : Calls Tryd.prog 21 #[v, u] w (PairOf w (mulR (Poly.bitsOf l) (Poly.bitsOf k))) := by
  obtain ⟨A, n, c, rfl, hl, hn, hR⟩ := h
  obtain ⟨B, m, d, rfl, hk, hm, hS⟩ := h2
  exact poly_mul A B n c m d l k w hl (by omega) hR hk (by omega) hS
theorem lit_lrd (w : World) (a b : Int) : LRd (w.alloc (.cells #[.int .i64 a, .int .i64 b] 3)) (.slice (some ⟨w.heap.size, 0, none⟩) 2 2) [a, b] :=
  (Row.lrd (Row.lit w 0 3 1 #[.int .i64 a, .int .i64 b] 2 (Nat.zero_le _) (by decide) rfl) (by omega))
theorem speaks_bits : Poly.bitsOf [1, 0] = 3 := by decide
theorem speaks_list : Poly.bitsOf (Poly.ints (listP 3)) = 3 := by
  have h1 := Poly.lim_eq
  have := Poly.bitsOf_fall (P := 3) (n := Poly.lim) (Nat.le_refl _)
  rw [show Poly.ints (listP 3) = Poly.ints (Poly.fall Poly.lim 3) from rfl, this]
  exact Nat.mod_eq_of_lt (Nat.lt_of_lt_of_le (by decide : 3 < 2 ^ 2) (Nat.pow_le_pow_right (by omega) (by omega)))
theorem speaks_mul : mulR 3 3 = some 5 := by decide +kernel
theorem speaks_five : Poly.ints (listP 5) = [2, 0] := by
  have h1 := Poly.lim_eq
  have : listP 5 = Poly.fall 3 5 := Poly.fall_more (by omega) (by decide)
  rw [this]
  decide

end Go.Proofs.YtkdfbganhohbfaaDoor
