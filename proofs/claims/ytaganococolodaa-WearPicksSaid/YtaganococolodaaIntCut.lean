/-
  A list of numbers cut.
-/
import Derived.Test.YtaganococolodaaSlices
namespace Go.Proofs.Ytaganococolodaa
open Go.RowKit

/-- xs[:j] and xs[j:] of a row. -/
def toV : Value → Nat → Value
  | .slice (some a) _ c, j => .slice (some a) j c
  | _, _ => .slice none 0 0
def fromV : Value → Nat → Value
  | .slice (some a) n c, j => .slice (if c = j then some ⟨a.block, a.off, none⟩ else some ⟨a.block, a.off + j, none⟩) (n - j) (c - j)
  | _, _ => .slice none 0 0
theorem run_to {W : World} {B n j : Nat} {v : Value} {xs : List Value} (h : Row W B 3 1 v n xs) (hj : j ≤ n) (W' : World) : (Instr.slice 24 v none (some (.int .i64 (j : Int))) none).run Try.prog W' = .ok (toV v j) W' := by
  rcases h.2 with ⟨rfl, rfl⟩ | ⟨g, off, cap, cur, fr, rfl, hb, hg, hc, hm, hs, hf, htake⟩
  · obtain rfl : j = 0 := by omega
    have he : Program.elem Try.prog 24 = 3 := by simp [Program.elem, Try.underlying24]
    obtain ⟨i, hi, _⟩ := Option.map_eq_some_iff.1 infoInt
    rw [run_slice_h W' 24 none 0 0 (by rw [he]; exact Try.underlying24) .i64 ((0 : Nat) : Int) (by omega) (by omega)]
    simp [sizeOf, typeInfo, he, hi, sliced, toV]
  · exact cut_to (P := Try.prog) 24 3 Try.underlying24 (by kernel_rfl) g off n cap j (by omega) W'
theorem row_to {W : World} {B n j : Nat} {v : Value} {xs : List Value} (h : Row W B 3 1 v n xs) (hj : j ≤ n) : Row W B 3 1 (toV v j) j (xs.take j) := by
  rcases h.2 with ⟨rfl, rfl⟩ | ⟨g, off, cap, cur, fr, rfl, hb, hg, hc, hm, hs, hf, htake⟩
  · obtain rfl : j = 0 := by omega
    simpa [toV] using Row.nil W B 3 1
  · have := h.part rfl 0 j (Nat.zero_le _) hj
    simpa [toV] using this
theorem run_from {W : World} {B n j : Nat} {v : Value} {xs : List Value} (h : Row W B 3 1 v n xs) (hj : j ≤ n) (W' : World) : (Instr.slice 24 v (some (.int .i64 (j : Int))) none none).run Try.prog W' = .ok (fromV v j) W' := by
  rcases h.2 with ⟨rfl, rfl⟩ | ⟨g, off, cap, cur, fr, rfl, hb, hg, hc, hm, hs, hf, htake⟩
  · obtain rfl : j = 0 := by omega
    have he : Program.elem Try.prog 24 = 3 := by simp [Program.elem, Try.underlying24]
    obtain ⟨i, hi, _⟩ := Option.map_eq_some_iff.1 infoInt
    rw [run_slice_l W' 24 none 0 0 (by rw [he]; exact Try.underlying24) .i64 ((0 : Nat) : Int) (by omega) (by omega)]
    simp [sizeOf, typeInfo, he, hi, sliced, fromV]
  · exact cut_from (P := Try.prog) 24 3 Try.underlying24 (by kernel_rfl) g off n cap j hj W'
theorem src_from {W : World} {B n j : Nat} {v : Value} {xs : List Value} (h : Row W B 3 1 v n xs) (hj : j ≤ n) : Src W 1 (fromV v j) (n - j) (xs.drop j) := by
  have hl := h.1
  rcases h.2 with ⟨rfl, rfl⟩ | ⟨g, off, cap, cur, fr, rfl, hb, hg, hc, hm, hs, hf, htake⟩
  · obtain rfl : j = 0 := by omega
    have hx : xs = [] := List.eq_nil_of_length_eq_zero (by omega)
    subst hx
    simpa [fromV] using (Row.nil W B 3 1).src
  · by_cases hcj : cap = j
    · obtain rfl : n = j := by omega
      have : xs.drop n = [] := List.drop_of_length_le (by omega)
      rw [this, Nat.sub_self]
      exact ⟨by simp, .inr ⟨_, _, by simp only [fromV, if_pos hcj, Nat.sub_self]; rfl, by simp⟩⟩
    · have := (h.part rfl j n hj (Nat.le_refl _)).src
      rw [Nat.mul_one, Nat.mul_one, List.take_of_length_le (by rw [List.length_drop]; omega)] at this
      simpa [fromV, if_neg hcj] using this
end Go.Proofs.Ytaganococolodaa
