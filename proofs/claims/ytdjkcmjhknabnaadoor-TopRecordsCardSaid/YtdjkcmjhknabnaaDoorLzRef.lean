/-
  What the document's Unpack answers.
-/
import Derived.Test.YtdjkcmjhknabnaaDoorLzPlain
import Derived.Test.YtdjkcmjhknabnaaDoorHeld
namespace Go.Proofs.YtdjkcmjhknabnaaDoor
open Go.RowKit

theorem drop_at (s : ByteArray) (i : Nat) (h : i < s.size) : s.data.toList.drop i = s[i] :: s.data.toList.drop (i + 1) := by
  rw [List.drop_eq_getElem_cons (by simpa using h)]
  rfl
theorem bytesV_one1 (b : UInt8) : bytesV [b] = (#[.int .u8 (b.toNat : Int)] : Array Value).toList := rfl
theorem conv_byte (b : UInt8) : IntKind.i64.wrap (b.toNat : Int) = (b.toNat : Int) := by
  have := b.toNat_lt
  rw [IntKind.wrap_i64]; omega

theorem Row.byteGet {w : World} {base : Nat} {e : TypeId} {g off n c : Nat} {l : List UInt8} (h : Row w base e 1 (.slice (some ⟨g, off, none⟩) n c) n (bytesV l)) {i : Nat} (hi : i < n) : w.cell? ⟨g, off + i, none⟩ = some (.int .u8 ((l.getD i 0).toNat : Int)) := by
  have hl : l.length = n := by have := h.1; rw [bytesV_length] at this; omega
  rw [(h.at_ rfl i hi).1]
  simp [bytesV, List.getD_eq_getElem?_getD, List.getElem?_eq_getElem (show i < l.length by omega)]
theorem unpack_nil (n : Int) : unpack [] n = (⟨#[]⟩, 4) := rfl
theorem unpack_form {f : UInt8} {rest : List UInt8} {n : Int} (h : 1 < f.toNat) : unpack (f :: rest) n = (⟨#[]⟩, 4) := by simp only [unpack]; rw [if_pos h]
theorem unpack_long {f : UInt8} {rest : List UInt8} {n : Int} (h : f.toNat = 0) (h2 : mostN n < rest.length) : unpack (f :: rest) n = (⟨#[]⟩, 2) := by simp only [unpack]; rw [if_neg (by omega), if_pos h, if_pos h2]
theorem unpack_plain {f : UInt8} {rest : List UInt8} {n : Int} (h : f.toNat = 0) (h2 : ¬ mostN n < rest.length) : unpack (f :: rest) n = (⟨rest.toArray⟩, 0) := by simp only [unpack]; rw [if_neg (by omega), if_pos h, if_neg h2]
theorem unpack_tokens {f : UInt8} {rest : List UInt8} {n : Int} (h : f.toNat = 1) : unpack (f :: rest) n = unp (mostN n) rest [] := by simp only [unpack]; rw [if_neg (by omega), if_neg (by omega)]

theorem index_str {s : ByteArray} {j : Nat} (h : j < s.size) {x : Int} (hx : x = (j : Int)) (W : World) : (Instr.index 9 (.string s) (.int .i64 x)).run Tryd.prog W = .ok (.int .u8 (s[j].toNat : Int)) W := by
  subst hx
  rw [run_index_string W 9 s .i64 (j : Int) Tryd.underlying9, dif_pos (by omega)]
  rfl
theorem extract_toArray (s : ByteArray) (i j : Nat) : s.extract i j = ⟨((s.data.toList.drop i).take (j - i)).toArray⟩ := by
  apply ByteArray.ext
  apply Array.ext'
  rw [ByteArray.data_extract, Array.toList_extract, List.extract_eq_take_drop]
theorem extract_end (s : ByteArray) (i : Nat) : s.extract i s.size = ⟨(s.data.toList.drop i).toArray⟩ := by
  rw [extract_toArray, List.take_of_length_le (by rw [List.length_drop, data_len]; omega)]

end Go.Proofs.YtdjkcmjhknabnaaDoor
