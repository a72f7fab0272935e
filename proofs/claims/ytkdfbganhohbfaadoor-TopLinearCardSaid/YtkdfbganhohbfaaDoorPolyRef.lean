/-
  What the document's polynomials answer: a row of truths, the exponents, are two lists alike.
-/
import Derived.Test.YtkdfbganhohbfaaDoorPolyRem
import Derived.Test.YtkdfbganhohbfaaDoorDrew
namespace Go.Proofs.YtkdfbganhohbfaaDoor
open Go.RowKit

def boolsV (n P : Nat) : List Value := (List.range n).map fun i => .bool (P.testBit i)
theorem boolsV_length (n P : Nat) : (boolsV n P).length = n := by simp [boolsV]
theorem boolsV_get {n P i : Nat} (h : i < n) : (boolsV n P).getD i undef = .bool (P.testBit i) := by simp [boolsV, List.getD_eq_getElem?_getD, h]
theorem boolsV_set (n P e : Nat) : (boolsV n P).set e (.bool (!P.testBit e)) = boolsV n (P ^^^ 2 ^ e) := by
  apply List.ext_getElem
  · simp [boolsV]
  · intro i h1 h2
    simp only [boolsV, List.getElem_set, List.getElem_map, List.getElem_range, Nat.testBit_xor, Poly.tb_pow]
    by_cases h : e = i
    · subst h; simp
    · rw [if_neg h]; simp [h]
theorem boolsV_zero (n : Nat) : boolsV n 0 = List.replicate n (.bool false) := by
  apply List.ext_getElem
  · rw [boolsV_length, List.length_replicate]
  · intro i h1 h2
    simp only [boolsV, List.getElem_map, List.getElem_range, List.getElem_replicate]
    simp
abbrev RowB (w : World) (b : Nat) (v : Value) (n P : Nat) : Prop := Row w b 4 1 v n (boolsV n P)
theorem RowB.cell {w : World} {b g off n c P : Nat} (h : RowB w b (.slice (some ⟨g, off, none⟩) n c) n P) {i : Nat} (hi : i < n) :
    w.cell? ⟨g, off + i, none⟩ = some (.bool (P.testBit i)) ∧ w.frozen? ⟨g, off + i, none⟩ = false := by
  have := Row.at_ h rfl i hi
  rwa [boolsV_get hi] at this
theorem RowB.cell0 {w : World} {b g n c P : Nat} (h : RowB w b (.slice (some ⟨g, 0, none⟩) n c) n P) {i : Nat} (hi : i < n) :
    w.cell? ⟨g, i, none⟩ = some (.bool (P.testBit i)) ∧ w.frozen? ⟨g, i, none⟩ = false := by
  have := RowB.cell h hi
  rwa [Nat.zero_add] at this
theorem RowB.flip {w : World} {b g n c P : Nat} (h : RowB w b (.slice (some ⟨g, 0, none⟩) n c) n P) {e : Nat} (he : e < n) :
    RowB (w.setCell ⟨g, e, none⟩ (.bool (!P.testBit e))) b (.slice (some ⟨g, 0, none⟩) n c) n (P ^^^ 2 ^ e) ∧ w.grownBy (w.setCell ⟨g, e, none⟩ (.bool (!P.testBit e))) (some g) := by
  have := Row.store h rfl e (by omega) (.bool (!P.testBit e))
  rwa [boolsV_set, Nat.zero_add] at this
theorem RowB.made (w : World) (b n : Nat) (hb : b ≤ w.heap.size) (hn : n ≤ 1000000) : RowB (w.alloc (.cells (madeCells #[.bool false] n) 4)) b (.slice (some ⟨w.heap.size, 0, none⟩) n n) n 0 := by
  have h := Row.zeros w b 4 (.bool false) n hb (by simp only [maxLen]; omega)
  rwa [← boolsV_zero] at h
def BitsOf (w : World) (P : Nat) (e : Ending) (w' : World) : Prop := ∃ g, w.heap.size ≤ g ∧ e = .returned (.slice (some ⟨g, 0, none⟩) 16385 16385) ∧ RowB w' w.heap.size (.slice (some ⟨g, 0, none⟩) 16385 16385) 16385 P ∧ Below w.heap.size w w'

/-! Are two lists alike? -/
theorem alike_take {l k : List Int} {i : Nat} (hi : i < l.length) (hlk : l.length = k.length) (h : l.take i = k.take i) : (l.take (i + 1) = k.take (i + 1)) ↔ l.getD i 0 = k.getD i 0 := by
  have hk : i < k.length := by omega
  have e1 : l.getD i 0 = l[i] := by simp [List.getD_eq_getElem?_getD, List.getElem?_eq_getElem hi]
  have e2 : k.getD i 0 = k[i] := by simp [List.getD_eq_getElem?_getD, List.getElem?_eq_getElem hk]
  rw [List.take_succ_eq_append_getElem hi, List.take_succ_eq_append_getElem hk, h, e1, e2, List.append_right_inj]
  constructor
  · intro e; injection e
  · intro e; rw [e]
end Go.Proofs.YtkdfbganhohbfaaDoor
