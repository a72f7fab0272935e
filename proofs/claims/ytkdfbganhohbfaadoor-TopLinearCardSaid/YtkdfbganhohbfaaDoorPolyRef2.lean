/-
  What the document's product and remainder of polynomials answer.
-/
import Derived.Test.YtkdfbganhohbfaaDoorPolyRef
namespace Go.Proofs.YtkdfbganhohbfaaDoor
open Go.RowKit

theorem listP_head {P : Nat} (h0 : P ≠ 0) (h : P < 2 ^ Poly.lim) : 0 < (listP P).length ∧ (listP P).getD 0 0 = P.log2 := by
  unfold listP
  rw [Poly.fall_top h0 h]
  simp
theorem listP_len {P : Nat} (h : P < 2 ^ Poly.lim) : (listP P).length = 0 ↔ P = 0 := by
  rw [List.length_eq_zero_iff]
  exact Poly.fall_nil h
/-- The sum of these powers. -/
def sumL (l : List Nat) : Nat := Poly.mulL l 1
theorem sumL_nil : sumL [] = 0 := rfl
theorem sumL_snoc (l : List Nat) (e : Nat) : sumL (l ++ [e]) = sumL l ^^^ 2 ^ e := by
  unfold sumL
  rw [Poly.mulL_snoc, Nat.one_mul]
theorem sumL_all {P : Nat} (h : P < 2 ^ Poly.lim) : sumL (listP P) = P := by
  unfold sumL listP
  rw [Poly.clmul_fall h]
  have := Poly.clmul_pow P 0
  rwa [Nat.pow_zero, Nat.mul_one] at this
theorem take_snocN {l : List Nat} {k : Nat} (h : k < l.length) : l.take (k + 1) = l.take k ++ [l.getD k 0] := by
  rw [List.take_succ_eq_append_getElem h]
  simp [List.getD_eq_getElem?_getD, List.getElem?_eq_getElem h]
theorem getD_memN {l : List Nat} {k : Nat} (h : k < l.length) : l.getD k 0 ∈ l := by
  rw [List.getD_eq_getElem?_getD, List.getElem?_eq_getElem h]
  exact List.getElem_mem _
theorem ints_getD {l : List Nat} {k : Nat} (h : k < l.length) : (Poly.ints l).getD k 0 = ((l.getD k 0 : Nat) : Int) := by
  simp [Poly.ints, List.getD_eq_getElem?_getD, List.getElem?_eq_getElem h]
theorem listP_le (P : Nat) : (listP P).length ≤ 16385 := by
  have := Poly.fall_len P Poly.lim
  rw [Poly.lim_eq] at this
  exact this
/-- One more. -/
theorem laid_step {R x y : Nat} {l : List Nat} {k : Nat} (h : k < l.length) (hy : l.getD k 0 = y) : R ^^^ sumL (l.take (k + 1)) * 2 ^ x = (R ^^^ sumL (l.take k) * 2 ^ x) ^^^ 2 ^ (x + y) := by
  rw [take_snocN h, sumL_snoc, hy, Poly.mul_xor, ← Nat.pow_add, Nat.add_comm y, Nat.xor_assoc]

/-- A slice of natural numbers that is read. -/
def NRd (w : World) (A : Option Addr) (L : List Nat) (B : Nat) : Prop := ∀ i, i < L.length → ∃ b off, A = some ⟨b, off, none⟩ ∧ B ≤ b ∧ b < w.heap.size ∧ w.cell? ⟨b, off + i, none⟩ = some (.int .i64 ((L.getD i 0 : Nat) : Int))
theorem Row.nrd {w : World} {base : Nat} {A : Option Addr} {n c : Nat} {L : List Nat} (h : Row w base 3 1 (.slice A n c) n (intsV (Poly.ints L))) : NRd w A L base := by
  intro i hi
  obtain ⟨A', c', hv, hn, _, _, hR⟩ := h.readInts
  injection hv with hv _ _
  subst hv
  have hn2 : n = L.length := by rw [hn, ints_length]
  obtain ⟨b, off, hA, hb, hc⟩ := hR i (by omega)
  subst hA
  refine ⟨b, off, rfl, (h.blk b rfl).1, hb, ?_⟩
  rw [hc]
  show some (Value.int .i64 ((Poly.ints L).getD i 0)) = _
  rw [ints_getD hi]
theorem NRd.below {w w' : World} {A : Option Addr} {L : List Nat} {B : Nat} (h : NRd w A L B) (hb : Below w.heap.size w w') : NRd w' A L B := by
  intro i hi
  obtain ⟨b, off, h1, h2, h3, h4⟩ := h i hi
  exact ⟨b, off, h1, h2, Nat.lt_of_lt_of_le h3 hb.size, (hb.cell (p := ⟨b, off + i, none⟩) h3).trans h4⟩
theorem NRd.far {w w' : World} {A : Option Addr} {L : List Nat} {B g : Nat} (h : NRd w A L B) (hg : w.grownBy w' (some g)) (hne : ∀ b off, A = some ⟨b, off, none⟩ → b ≠ g) : NRd w' A L B := by
  intro i hi
  obtain ⟨b, off, h1, h2, h3, h4⟩ := h i hi
  exact ⟨b, off, h1, h2, Nat.lt_of_lt_of_le h3 hg.size, hg.cell h4 (by have := hne b off h1; simpa using this)⟩

end Go.Proofs.YtkdfbganhohbfaaDoor
