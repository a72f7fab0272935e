/-
  Every text is the text of the key that is answered, or of none.
-/
import Derived.Test.YtdjkcmjhknabnaaDoorKeyEncodes
namespace Go.Proofs.YtdjkcmjhknabnaaDoor.K
open Go.RowKit

theorem beL_beN : ∀ (n : Nat) (l : List UInt8), l.length = n → beL n (beN l) = l
  | 0, l, h => by
    obtain rfl := List.eq_nil_of_length_eq_zero h
    rfl
  | n + 1, l, h => by
    rcases List.eq_nil_or_concat l with rfl | ⟨L, b, rfl⟩
    · simp at h
    · have hb := b.toNat_lt
      have ih := beL_beN n L (by simpa using h)
      rw [List.concat_eq_append, beL, beN_snoc, show (beN L * 256 + b.toNat) / 256 = beN L by omega, ih]
      congr 2
      rw [← UInt8.toNat_inj, UInt8.toNat_ofNat']
      omega
theorem beN_lt : ∀ (n : Nat) (l : List UInt8), l.length = n → beN l < 256 ^ n
  | 0, l, h => by
    obtain rfl := List.eq_nil_of_length_eq_zero h
    exact Nat.one_pos
  | n + 1, l, h => by
    rcases List.eq_nil_or_concat l with rfl | ⟨L, b, rfl⟩
    · simp at h
    · have hb := b.toNat_lt
      have ih := beN_lt n L (by simpa using h)
      rw [List.concat_eq_append, beN_snoc, Nat.pow_succ]
      omega
/-- A text of nine bytes and more: its number, its kind, its rest. -/
theorem text_parts (s : ByteArray) (hs : 9 ≤ s.size) : s = hd (beN (s.data.toList.take 8)) s[8].toNat ++ s.extract 9 s.size := by
  have hl : (s.data.toList.take 8).length = 8 := by rw [List.length_take, data_len]; omega
  have h8 := beL_beN 8 (s.data.toList.take 8) hl
  apply ByteArray.ext
  apply Array.ext'
  rw [hd_app_list, h8, ByteArray.data_extract, Array.toList_extract, List.extract_eq_take_drop]
  have hd9 : (s.data.toList.drop 9).take (s.size - 9) = s.data.toList.drop 9 := List.take_of_length_le (by rw [List.length_drop, data_len]; omega)
  rw [hd9]
  have e8 : UInt8.ofNat s[8].toNat = s.data.toList[8]'(by rw [data_len]; omega) := by simp; rfl
  rw [e8]
  conv => lhs; rw [← List.take_append_drop 8 s.data.toList]
  congr 1
  exact List.drop_eq_getElem_cons (by rw [data_len]; omega)

end Go.Proofs.YtdjkcmjhknabnaaDoor.K
