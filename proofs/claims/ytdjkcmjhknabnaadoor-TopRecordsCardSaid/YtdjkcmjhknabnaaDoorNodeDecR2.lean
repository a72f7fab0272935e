/-
  The document's way of reading a node: the ways that go on.
-/
import Derived.Test.YtdjkcmjhknabnaaDoorNodeDecR1
namespace Go.Proofs.YtdjkcmjhknabnaaDoor
open Go.RowKit

theorem extract_at (s : ByteArray) (n j : Nat) (_h : j < (s.extract n s.size).size) (h' : n + j < s.size) : (s.extract n s.size)[j] = s[n + j] := by
  simp [ByteArray.getElem_extract]
theorem extract_take (s : ByteArray) (a b m : Nat) (h : a + m ≤ b) : (s.extract a b).data.toList.take m = (s.data.toList.drop a).take m := by
  rw [ByteArray.data_extract, Array.toList_extract, List.extract_eq_take_drop, List.take_take, Nat.min_eq_left (by omega)]
theorem extract_part (s : ByteArray) (n a b : Nat) (_h : n + b ≤ s.size) : (s.extract n s.size).extract a b = s.extract (n + a) (n + b) := by
  rw [ByteArray.extract_extract]
  congr 1
  omega
theorem numR_good (N : Nat) (g : Bool) (k v : ByteArray) (hN : N < 18446744073709551616) : goodN (numR N) g k v = goodN (IntKind.i64.wrap N) g k v ∧ (goodN (numR N) g k v = true → numR N = IntKind.i64.wrap N) := by
  unfold numR
  by_cases h : N ≤ 1099511627776
  · have : IntKind.i64.wrap (N : Int) = N := by rw [IntKind.wrap_i64]; omega
    rw [if_pos h, this]
    exact ⟨rfl, fun _ => rfl⟩
  · have h1 : goodN (-1) g k v = false := by simp [goodN]
    have h2 : goodN (IntKind.i64.wrap N) g k v = false := by
      have h3 : IntKind.i64.wrap (N : Int) < 0 ∨ 1099511627776 < IntKind.i64.wrap (N : Int) := by rw [IntKind.wrap_i64]; omega
      unfold goodN
      rw [decide_eq_false_iff_not]
      omega
    rw [if_neg h, h1, h2]
    exact ⟨rfl, fun h => by cases h⟩
theorem str_eq (a b : ByteArray) : (a.toList == b.toList) = decide (a = b) := by
  rw [ByteArray.toList_eq, ByteArray.toList_eq, Bool.eq_iff_iff]
  simp only [beq_iff_eq, decide_eq_true_eq]
  exact ⟨bytes_ext, fun h => by rw [h]⟩
theorem seal_opens (Y : ByteArray) (_h : 4 ≤ Y.size) : (sealed (Y.extract 0 (Y.size - 4)) = Y) ↔ opens Y = true := by
  constructor
  · intro h1
    rw [← h1]; exact opens_sealed _
  · intro h1
    have := sealed_openText h1
    unfold openText at this
    rwa [if_pos h1] at this

end Go.Proofs.YtdjkcmjhknabnaaDoor
