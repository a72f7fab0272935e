/-
  What unpacking answers, token by token.
-/
import Derived.Test.YtdjkcmjhknabnaaDoorSlices
namespace Go.Proofs.YtdjkcmjhknabnaaDoor
open Go.RowKit

/-- The byte that stands so far back, so many times. -/
def copyL (out : List UInt8) (back : Nat) : Nat → List UInt8
  | 0 => out
  | k + 1 => copyL out back k ++ [(copyL out back k).getD ((copyL out back k).length - 1 - back) 0]
theorem copyL_len (out : List UInt8) (back : Nat) : ∀ k, (copyL out back k).length = out.length + k
  | 0 => rfl
  | k + 1 => by simp only [copyL, List.length_append, copyL_len out back k]; rfl
def backOf (l : List UInt8) : Nat := (l.getD 0 0).toNat + 256 * (l.getD 1 0).toNat
theorem backOf_lt (l : List UInt8) : backOf l < 65536 := by
  unfold backOf
  have h1 := (l.getD 0 0).toNat_lt
  have h2 := (l.getD 1 0).toNat_lt
  omega
abbrev Ans := ByteArray × Nat
def unp (most : Nat) : List UInt8 → List UInt8 → Ans
  | [], out => (⟨out.toArray⟩, 0)
  | n :: rest, out =>
    if n.toNat < 128 then
      if rest.length < n.toNat + 1 then (⟨#[]⟩, 4)
      else if most < out.length + n.toNat + 1 then (⟨#[]⟩, 2)
      else unp most (rest.drop (n.toNat + 1)) (out ++ rest.take (n.toNat + 1))
    else if rest.length < 2 then (⟨#[]⟩, 4)
    else if out.length ≤ backOf rest then (⟨#[]⟩, 4)
    else if most < out.length + (n.toNat - 125) then (⟨#[]⟩, 2)
    else unp most (rest.drop 2) (copyL out (backOf rest) (n.toNat - 125))
termination_by l => l.length
decreasing_by all_goals simp only [List.length_drop, List.length_cons]; omega
section
variable {most : Nat} {n : UInt8} {rest out : List UInt8}
theorem unp_nil : unp most [] out = (⟨out.toArray⟩, 0) := by rw [unp]
theorem unp_short (h : n.toNat < 128) (h1 : rest.length < n.toNat + 1) : unp most (n :: rest) out = (⟨#[]⟩, 4) := by rw [unp, if_pos h, if_pos h1]
theorem unp_long (h : n.toNat < 128) (h1 : ¬ rest.length < n.toNat + 1) (h2 : most < out.length + n.toNat + 1) : unp most (n :: rest) out = (⟨#[]⟩, 2) := by rw [unp, if_pos h, if_neg h1, if_pos h2]
theorem unp_lit (h : n.toNat < 128) (h1 : ¬ rest.length < n.toNat + 1) (h2 : ¬ most < out.length + n.toNat + 1) : unp most (n :: rest) out = unp most (rest.drop (n.toNat + 1)) (out ++ rest.take (n.toNat + 1)) := by rw [unp, if_pos h, if_neg h1, if_neg h2]
theorem unp_short2 (h : ¬ n.toNat < 128) (h1 : rest.length < 2) : unp most (n :: rest) out = (⟨#[]⟩, 4) := by rw [unp, if_neg h, if_pos h1]
theorem unp_far (h : ¬ n.toNat < 128) (h1 : ¬ rest.length < 2) (h2 : out.length ≤ backOf rest) : unp most (n :: rest) out = (⟨#[]⟩, 4) := by rw [unp, if_neg h, if_neg h1, if_pos h2]
theorem unp_long2 (h : ¬ n.toNat < 128) (h1 : ¬ rest.length < 2) (h2 : ¬ out.length ≤ backOf rest) (h3 : most < out.length + (n.toNat - 125)) : unp most (n :: rest) out = (⟨#[]⟩, 2) := by rw [unp, if_neg h, if_neg h1, if_neg h2, if_pos h3]
theorem unp_copy (h : ¬ n.toNat < 128) (h1 : ¬ rest.length < 2) (h2 : ¬ out.length ≤ backOf rest) (h3 : ¬ most < out.length + (n.toNat - 125)) : unp most (n :: rest) out = unp most (rest.drop 2) (copyL out (backOf rest) (n.toNat - 125)) := by rw [unp, if_neg h, if_neg h1, if_neg h2, if_neg h3]
end
def mostN (most : Int) : Nat := (min (max most 0) 65536).toNat
def unpack (l : List UInt8) (most : Int) : Ans :=
  match l with
  | [] => (⟨#[]⟩, 4)
  | f :: rest => if 1 < f.toNat then (⟨#[]⟩, 4) else if f.toNat = 0 then (if mostN most < rest.length then (⟨#[]⟩, 2) else (⟨rest.toArray⟩, 0)) else unp (mostN most) rest []
theorem unp_code (most : Nat) (l out : List UInt8) : (unp most l out).2 ≤ 4 := by
  induction l, out using unp.induct most with
  | case1 out => rw [unp_nil]; exact Nat.zero_le 4
  | case2 out n rest h h1 => rw [unp_short h h1]; exact Nat.le_refl 4
  | case3 out n rest h h1 h2 => rw [unp_long h h1 h2]; show 2 ≤ 4; omega
  | case4 out n rest h h1 h2 ih => rw [unp_lit h h1 h2]; exact ih
  | case5 out n rest h h1 => rw [unp_short2 h h1]; exact Nat.le_refl 4
  | case6 out n rest h h1 h2 => rw [unp_far h h1 h2]; exact Nat.le_refl 4
  | case7 out n rest h h1 h2 h3 => rw [unp_long2 h h1 h2 h3]; show 2 ≤ 4; omega
  | case8 out n rest h h1 h2 h3 ih => rw [unp_copy h h1 h2 h3]; exact ih
theorem unpack_speaks : unpack [1, 0, 97, 130, 0, 0] 9 = (⟨#[97, 97, 97, 97, 97, 97]⟩, 0) := by
  unfold unpack
  simp only []
  rw [if_neg (by decide), if_neg (by decide), show mostN 9 = 9 by decide]
  rw [unp_lit (by decide) (by decide) (by decide)]
  rw [show (List.drop ((0 : UInt8).toNat + 1) [97, 130, 0, 0] : List UInt8) = [130, 0, 0] by decide]
  rw [unp_copy (by decide) (by decide) (by decide) (by decide)]
  rw [show (List.drop 2 [0, 0] : List UInt8) = [] by decide, unp_nil]
  congr 2
end Go.Proofs.YtdjkcmjhknabnaaDoor
