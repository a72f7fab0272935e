/-
  The document's text of a key.
-/
import Derived.Test.YtdjkcmjhknabnaaDoorKeyRef
namespace Go.Proofs.YtdjkcmjhknabnaaDoor.K
open Go.RowKit

/-- The text of a key. -/
def encT (n k : Int) (s : ByteArray) (p : Int) : ByteArray :=
  if goodB n k s p then (if k = 3 then hd n.toNat 3 ++ be 4 p.toNat else hd n.toNat k.toNat ++ s) else ⟨#[]⟩
theorem key_encode (n k : Int) (s : ByteArray) (p : Int) (w : World) :
    Calls Tryd.prog 4 #[keyV n k s p] w fun e w' => e = .returned (.tuple #[.string (encT n k s p), .bool (goodB n k s p)]) ∧ Below w.heap.size w w' := by
  cases hg : goodB n k s p
  · refine (key_encode_bad n k s p w hg).mono ?_
    rintro e w1 ⟨rfl, hb⟩
    exact ⟨by unfold encT; rw [hg]; rfl, hb⟩
  · have h := goodB_iff.1 hg
    obtain ⟨n, rfl⟩ := Int.eq_ofNat_of_zero_le h.1
    rcases h.2.2 with h1 | h1 | h1
    · obtain ⟨rfl, hs, rfl⟩ := h1
      refine (key_encode_name n 1 s w (by omega) (.inl ⟨rfl, hs⟩)).mono ?_
      rintro e w1 ⟨rfl, hb⟩
      exact ⟨by unfold encT; rw [hg]; rfl, hb⟩
    · obtain ⟨rfl, hs, hs2, rfl⟩ := h1
      refine (key_encode_name n 2 s w (by omega) (.inr ⟨rfl, hs, hs2⟩)).mono ?_
      rintro e w1 ⟨rfl, hb⟩
      exact ⟨by unfold encT; rw [hg]; rfl, hb⟩
    · obtain ⟨rfl, hs, hp, hp2⟩ := h1
      obtain ⟨p, rfl⟩ := Int.eq_ofNat_of_zero_le hp
      refine (key_encode_data n p s w (by omega) hs (by omega)).mono ?_
      rintro e w1 ⟨rfl, hb⟩
      exact ⟨by unfold encT; rw [hg]; rfl, hb⟩

def refT (n k : Nat) (s : ByteArray) (p : Nat) : ByteArray := if k = 3 then hd n k ++ s ++ be 4 p else hd n k ++ s
end Go.Proofs.YtdjkcmjhknabnaaDoor.K
