/-
  A node's bytes, by the document.
-/
import Derived.Test.YtdjkcmjhknabnaaDoorNodeEnc
import Derived.Test.YtdjkcmjhknabnaaDoorSealed
namespace Go.Proofs.YtdjkcmjhknabnaaDoor
open Go.RowKit

theorem be_byte (x : UInt8) : be 1 x.toNat = byteB x := by
  have : UInt8.ofNat x.toNat = x := by simp
  unfold be beL beL
  rw [this]; rfl
theorem be_k (n : Nat) : be 1 n = byteB (UInt8.ofNat n) := rfl
theorem be_v {n : Nat} (h : n < 256) : be 2 n = ⟨#[0, UInt8.ofNat n]⟩ := by
  have h0 : n / 256 = 0 := by omega
  unfold be beL beL
  rw [h0]; rfl
theorem be_q {q : Int} (h : 0 ≤ q ∧ q ≤ 1099511627776) : be 8 q.toNat = numsB [q] := by
  have : u64 q = q.toNat := by unfold u64; omega
  unfold numsB be numsL
  simp [this]
theorem cat_sizes (X k v : ByteArray) : X ++ byteB (UInt8.ofNat k.size) ++ ⟨#[0, UInt8.ofNat v.size]⟩ = X ++ sizesB k v := by
  apply bytes_ext
  simp [sizesB]

theorem node_encode (q : Int) (g l : Bool) (k v : ByteArray) (w : World) (hn : Nib w) :
    Calls Tryd.prog 5 #[nodeV q g l k v] w fun e w' => e = .returned (.tuple #[.string (encB q g l k v), .bool (goodN q g k v)]) ∧ Below w.heap.size w w' := by
  unfold encB
  by_cases h : goodN q g k v = true
  · rw [if_pos h, h]; exact node_encode_good q g l k v w h hn
  · rw [if_neg h, Bool.eq_false_iff.2 h]; exact node_encode_bad q g l k v w (Bool.eq_false_iff.2 h)
end Go.Proofs.YtdjkcmjhknabnaaDoor
