/-
  Sealed texts and what opening them answers: plain facts.
-/
import Derived.Test.YtdjkcmjhknabnaaDoorCrcSealWalks
namespace Go.Proofs.YtdjkcmjhknabnaaDoor
open Go.RowKit

theorem bytes_ext {a b : ByteArray} (h : a.data.toList = b.data.toList) : a = b := by
  cases a; cases b
  simp only [ByteArray.mk.injEq]
  exact Array.toList_inj.1 h
theorem extract_list (s : ByteArray) (k : Nat) : (s.extract 0 k).data.toList = s.data.toList.take k := by
  simp [ByteArray.data_extract, Array.toList_extract, List.extract_eq_take_drop]
theorem sealed_head (s : ByteArray) : (sealed s).extract 0 ((sealed s).size - 4) = s := by
  apply bytes_ext
  rw [extract_list, sealed_list, sealed_size, List.take_append_of_le_length (by rw [data_len]; omega), List.take_of_length_le (by rw [data_len]; omega)]
theorem opens_sealed (s : ByteArray) : opens (sealed s) = true := by
  unfold opens
  have h1 : (sealed s).data.toList.take ((sealed s).size - 4) = s.data.toList := by rw [← extract_list, sealed_head]
  have h2 : (sealed s).data.toList.drop ((sealed s).size - 4) = le4 (Crc.sum s.data.toList) := by
    rw [sealed_list, sealed_size, List.drop_append_of_le_length (by rw [data_len]; omega), List.drop_of_length_le (by rw [data_len]; omega), List.nil_append]
  rw [h1, h2]
  simp [sealed_size]
theorem openText_sealed (s : ByteArray) : openText (sealed s) = s := by
  unfold openText
  rw [if_pos (opens_sealed s), sealed_head]
theorem sealed_openText {t : ByteArray} (h : opens t = true) : sealed (openText t) = t := by
  have h' := h
  unfold opens at h'
  simp only [decide_eq_true_eq] at h'
  obtain ⟨h4, hd⟩ := h'
  apply bytes_ext
  rw [sealed_list]
  unfold openText
  rw [if_pos h, extract_list, ← hd, List.take_append_drop]
end Go.Proofs.YtdjkcmjhknabnaaDoor
