/-
  The document's keys.
-/
import Derived.Test.YtdjkcmjhknabnaaDoorKeyNames
namespace Go.Proofs.YtdjkcmjhknabnaaDoor.K
open Go.RowKit

theorem be_zero (n : Nat) : be 0 n = ⟨#[]⟩ := rfl
theorem be_succ (s n : Nat) : be (s + 1) n = be s (n / 256) ++ ⟨#[UInt8.ofNat (n % 256)]⟩ := by
  have e : UInt8.ofNat (n % 256) = UInt8.ofNat n := by
    rw [← UInt8.toNat_inj, UInt8.toNat_ofNat', UInt8.toNat_ofNat']; omega
  rw [e]
  exact ByteArray.ext (Array.ext' (by rw [cat_list]; rfl))

theorem hd_be (n k : Nat) : be 8 n ++ be 1 k = hd n k := rfl

def lessB (n k : Int) (s : ByteArray) (p : Int) (n' k' : Int) (s' : ByteArray) (p' : Int) : Bool :=
  if n = n' then (if k = k' then (if s = s' then decide (p < p') else Op.bytesLess s.toList s'.toList) else decide (k < k')) else decide (n < n')
theorem toList_inj (s t : ByteArray) : (s.toList = t.toList) = (s = t) := by
  apply propext
  constructor
  · intro h
    rw [ByteArray.toList_eq, ByteArray.toList_eq] at h
    exact ByteArray.ext (Array.ext' h)
  · rintro rfl; rfl
end Go.Proofs.YtdjkcmjhknabnaaDoor.K
