/-
  Every text packed is itself again, and not much longer; a packed text that is cut short; a text written twice.
-/
import Derived.Test.YtdjkcmjhknabnaaDoorLzPack
import Derived.Test.YtdjkcmjhknabnaaDoorLzPackLaw2
namespace Go.Proofs.YtdjkcmjhknabnaaDoor
open Go.RowKit

def packB (s : ByteArray) : ByteArray := ⟨(packF s.data.toList).toArray⟩
theorem packB_list (s : ByteArray) : (packB s).data.toList = packF s.data.toList := by unfold packB; simp
theorem packB_size (s : ByteArray) : (packB s).size = (packF s.data.toList).length := by rw [← data_len, packB_list]
theorem packB_le (s : ByteArray) : (packB s).size ≤ s.size + 1 := by rw [packB_size, ← data_len s]; exact packF_le _
theorem str_toArray (s : ByteArray) : (⟨s.data.toList.toArray⟩ : ByteArray) = s := by apply ByteArray.ext; simp
theorem packB_back (s : ByteArray) (h : s.size ≤ 65536) : unpack (packB s).data.toList (s.size : Int) = (s, 0) := by
  rw [packB_list, ← data_len s, unpack_pack _ (by rw [data_len]; exact h), str_toArray]
theorem packB_big (s : ByteArray) (h : 65536 < s.size) : packB s = ⟨#[0]⟩ ++ s := by
  unfold packB packF
  rw [if_pos (by rw [data_len]; exact h)]
  apply ByteArray.ext
  simp
theorem lz_packB (s : ByteArray) (w : World) (hs : s.size ≤ 140737488351232) : Calls Tryd.prog 6 #[.string s] w fun e w' => e = .returned (.string (packB s)) ∧ Below w.heap.size w w' := lz_pack s w hs
theorem lz_unpack_is (p : ByteArray) (n : Int) (R : ByteArray) (k : Nat) (w : World) (hs : p.size ≤ 140737488351232) (h : unpack p.data.toList n = (R, k)) :
    Calls Tryd.prog 9 #[.string p, .int .i64 n] w fun e w' => e = .returned (.tuple #[.string R, .int .i64 (k : Int)]) ∧ Below w.heap.size w w' :=
  (lz_unpack p n w hs).mono fun e w' ⟨he, hb⟩ => ⟨by rw [he, h], hb⟩
end Go.Proofs.YtdjkcmjhknabnaaDoor
