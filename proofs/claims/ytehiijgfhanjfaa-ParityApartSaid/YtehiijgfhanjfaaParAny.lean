/-
  The plan of any number of pages, as lists.
-/
import Derived.Test.YtehiijgfhanjfaaParMem
namespace Go.Proofs.Ytehiijgfhanjfaa
open Go.RowKit

def okB (n : Int) : Bool := decide (4 ≤ n ∧ n ≤ 64 ∧ n % 4 = 0)
def dataN (n : Int) (b : Bool) : List Int := if okB n = true then dataL b (n.toNat - 3) else []
def parN (n : Int) (b : Bool) : List Int := if okB n = true then parL b n.toNat else []
theorem dataL_mem {b : Bool} : ∀ {k : Nat} {x : Int}, x ∈ dataL b k → 0 ≤ x ∧ x < k
  | 0, x, h => by simp [dataL] at h
  | k + 1, x, h => by
    cases hs : (upB k && b)
    · rw [dataL_more hs, List.mem_append] at h
      rcases h with h | h
      · have := dataL_mem h; omega
      · simp at h; omega
    · rw [dataL_skip hs] at h
      have := dataL_mem h; omega
theorem dataN_mem {n : Int} {b : Bool} {x : Int} (h : x ∈ dataN n b) : 0 ≤ x ∧ x < 64 := by
  unfold dataN at h
  split at h
  · rename_i ho
    have h1 := dataL_mem h
    simp only [okB, decide_eq_true_eq] at ho
    omega
  · cases h
theorem dataN_len (n : Int) (b : Bool) : (dataN n b).length ≤ 64 := by
  unfold dataN
  split
  · rename_i ho
    have h1 := dataL_len b (n.toNat - 3)
    simp only [okB, decide_eq_true_eq] at ho
    omega
  · simp
theorem parN_len (n : Int) (b : Bool) : (parN n b).length ≤ 64 := by
  unfold parN parL
  split
  · split <;> simp
  · simp

def OfEnd (n : Int) (b : Bool) (base : Nat) (e : Ending) (w : World) : Prop :=
  ∃ v1 v2, Row w base 3 1 v1 (dataN n b).length (intsV (dataN n b)) ∧ Row w base 3 1 v2 (parN n b).length (intsV (parN n b)) ∧ e = .returned (.tuple #[.agg #[v1, v2], .bool (okB n)])
theorem parity_of_any (n : Int) (b : Bool) (w : World) :
    Calls Try.prog 10 #[.int .i64 n, .bool b] w fun e w' => OfEnd n b w.heap.size e w' ∧ Below w.heap.size w w' := by
  by_cases h : 4 ≤ n ∧ n ≤ 64 ∧ n % 4 = 0
  · obtain ⟨N, rfl⟩ := Int.eq_ofNat_of_zero_le (show 0 ≤ n by omega)
    have ho : okB N = true := by simp [okB]; omega
    refine (parity_of N b w (by omega) (by omega) (by omega)).mono fun e w' ⟨⟨v1, v2, r1, r2, he⟩, hb⟩ => ⟨⟨v1, v2, ?_, ?_, by rw [he, ho]⟩, hb⟩
    · simp only [dataN, ho, if_true, Int.toNat_natCast]; exact r1
    · simp only [parN, ho, if_true, Int.toNat_natCast]; exact r2
  · have ho : okB n = false := by simp only [okB, decide_eq_false_iff_not]; exact h
    refine (parity_of_not n b w h).mono fun e w' ⟨he, hb⟩ => ⟨⟨.slice none 0 0, .slice none 0 0, ?_, ?_, by rw [ho]; exact he⟩, hb⟩
    · simp only [dataN, ho]; exact Row.nil _ _ _ _
    · simp only [parN, ho]; exact Row.nil _ _ _ _
def RefOfEnd (n : Int) (b : Bool) (base : Nat) (e : Ending) (w : World) : Prop :=
  ∃ v1 v2, Row w base 3 1 v1 (dataN n b).length (intsV (dataN n b)) ∧ Row w base 3 1 v2 (parN n b).length (intsV (parN n b)) ∧ e = .returned (.tuple #[v1, v2, .bool (okB n)])
theorem ref_of_any (n : Int) (b : Bool) (w : World) :
    Calls Try.prog 11 #[.int .i64 n, .bool b] w fun e w' => RefOfEnd n b w.heap.size e w' ∧ Below w.heap.size w w' := by
  by_cases h : 4 ≤ n ∧ n ≤ 64 ∧ n % 4 = 0
  · obtain ⟨N, rfl⟩ := Int.eq_ofNat_of_zero_le (show 0 ≤ n by omega)
    have ho : okB N = true := by simp [okB]; omega
    refine (ref_of N b w (by omega) (by omega) (by omega)).mono fun e w' ⟨⟨v1, v2, r1, r2, he⟩, hb⟩ => ⟨⟨v1, v2, ?_, ?_, by rw [he, ho]⟩, hb⟩
    · simp only [dataN, ho, if_true, Int.toNat_natCast]; exact r1
    · simp only [parN, ho, if_true, Int.toNat_natCast]; exact r2
  · have ho : okB n = false := by simp only [okB, decide_eq_false_iff_not]; exact h
    refine (ref_of_not n b w h).mono fun e w' ⟨he, hb⟩ => ⟨⟨.slice none 0 0, .slice none 0 0, ?_, ?_, by rw [ho]; exact he⟩, hb ▸ Below.refl _ _⟩
    · simp only [dataN, ho]; exact Row.nil _ _ _ _
    · simp only [parN, ho]; exact Row.nil _ _ _ _
/-- Two slices of the same numbers. -/
theorem ints_rows {w : World} {b1 b2 : Nat} {A B : Option Addr} {n c m d : Nat} {x : List Int} (r1 : Row w b1 3 1 (.slice A n c) n (intsV x)) (r2 : Row w b2 3 1 (.slice B m d) m (intsV x)) :
    Calls Try.prog 12 #[.slice A n c, .slice B m d] w fun e w' => e = .returned (.bool true) ∧ Below w.heap.size w w' := by
  obtain ⟨A1, c1, e1, n1, h1, m1, R1⟩ := r1.readInts
  obtain ⟨A2, c2, e2, n2, h2, m2, R2⟩ := r2.readInts
  injection e1 with e1 _ e3
  injection e2 with e2 _ e4
  subst e1; subst e3; subst e2; subst e4
  obtain rfl : n = m := by rw [n1, n2]
  exact ints_same A B n c d x w n1 h1 m1 h2 m2 R1 R2
theorem members_row {w : World} {base : Nat} {A : Option Addr} {n c : Nat} {l : List Int} {v2 : Value} {gr : Int} (r : Row w base 3 1 (.slice A n c) n (intsV l)) (hn : l.length ≤ 64) (hall : ∀ x ∈ l, 0 ≤ x ∧ x < 64) (hv2 : ∃ A2 n2 c2, v2 = .slice A2 n2 c2) :
    Calls Try.prog 14 #[.agg #[.slice A n c, v2], .int .i64 gr] w fun e w' => (∃ v, Row w' w.heap.size 3 1 v (membL l gr).length (intsV (membL l gr)) ∧ e = .returned v) ∧ Below w.heap.size w w' := by
  obtain ⟨A1, c1, e1, n1, h1, m1, R1⟩ := r.readInts
  injection e1 with e1 _ e3
  subst e1; subst e3
  exact plan_members A n c l v2 gr w n1 (by omega) h1 m1 (fun x hx => by have := hall x hx; omega) R1 hv2
end Go.Proofs.Ytehiijgfhanjfaa
