/-
  What the document calls the block that should be used next: the first of the free ones with the least erases.
-/
import Derived.Test.YtaganococolodaaWearPlain
namespace Go.Proofs.Ytaganococolodaa
/-- What is known of a block. -/
structure Blk where
  er : Int
  rd : Int
  us : Bool
  wo : Bool
def Blk.v (b : Blk) : Value := .agg #[.int .i64 b.er, .int .i64 b.rd, .bool b.us, .bool b.wo]
def Blk.free (b : Blk) : Bool := !b.us && !b.wo
/-- The first of the free ones among the first k that was erased least; -1 where there is none. -/
def least (f : Nat → Blk) : Nat → Int
  | 0 => -1
  | k + 1 => if ((f k).free && (decide (least f k < 0) || decide ((f k).er < (f (least f k).toNat).er))) = true then (k : Int) else least f k
theorem least_lt (f : Nat → Blk) : ∀ k, -1 ≤ least f k ∧ least f k < k
  | 0 => by simp [least]
  | k + 1 => by
    have := least_lt f k
    simp only [least]
    split <;> omega
theorem least_take {f : Nat → Blk} {k : Nat} (h : ((f k).free && (decide (least f k < 0) || decide ((f k).er < (f (least f k).toNat).er))) = true) : least f (k + 1) = k := by simp only [least]; rw [if_pos h]
theorem least_skip {f : Nat → Blk} {k : Nat} (h : ((f k).free && (decide (least f k < 0) || decide ((f k).er < (f (least f k).toNat).er))) = false) : least f (k + 1) = least f k := by simp only [least]; rw [if_neg (by simp [h])]

/-- What is picked is free, and no free one was erased less; where nothing is picked none is free. -/
theorem least_spec (f : Nat → Blk) : ∀ k, (least f k = -1 ∧ ∀ i, i < k → (f i).free = false) ∨ ∃ q : Nat, least f k = (q : Int) ∧ q < k ∧ (f q).free = true ∧ ∀ i, i < k → (f i).free = true → (f q).er ≤ (f i).er
  | 0 => .inl ⟨rfl, fun i hi => by omega⟩
  | k + 1 => by
    have ih := least_spec f k
    cases hc : ((f k).free && (decide (least f k < 0) || decide ((f k).er < (f (least f k).toNat).er)))
    · rw [least_skip hc]
      rcases ih with ⟨h1, h2⟩ | ⟨q, h1, h2, h3, h4⟩
      · left
        refine ⟨h1, fun i hi => ?_⟩
        by_cases hik : i = k
        · subst hik
          rw [h1] at hc
          simpa using hc
        · exact h2 i (by omega)
      · right
        refine ⟨q, h1, by omega, h3, fun i hi hf => ?_⟩
        by_cases hik : i = k
        · subst hik
          rw [h1, hf] at hc
          simp at hc
          exact hc
        · exact h4 i (by omega) hf
    · rw [least_take hc]
      right
      simp only [Bool.and_eq_true, Bool.or_eq_true, decide_eq_true_eq] at hc
      refine ⟨k, rfl, by omega, hc.1, fun i hi hf => ?_⟩
      by_cases hik : i = k
      · subst hik; exact Int.le_refl _
      · rcases ih with ⟨h1, h2⟩ | ⟨q, h1, h2, h3, h4⟩
        · have := h2 i (by omega)
          rw [hf] at this
          cases this
        · rcases hc.2 with h | h
          · omega
          · rw [h1, Int.toNat_natCast] at h
            have := h4 i (by omega) hf
            omega
end Go.Proofs.Ytaganococolodaa
