/-
  The text of every key, and back.
-/
import Derived.Test.YtdjkcmjhknabnaaDoorKeyDec2
import Derived.Test.YtdjkcmjhknabnaaDoorKeyDec3
import Derived.Test.YtdjkcmjhknabnaaDoorKeyMade
namespace Go.Proofs.YtdjkcmjhknabnaaDoor.K
open Go.RowKit

theorem beN_beL : ∀ s n, n < 256 ^ s → beN (beL s n) = n
  | 0, n, h => by obtain rfl : n = 0 := by simpa using h
                  rfl
  | s + 1, n, h => by
    have h1 : n / 256 < 256 ^ s := by rw [Nat.div_lt_iff_lt_mul (by omega)]; rwa [Nat.pow_succ] at h
    rw [beL, beN_snoc, beN_beL s _ h1, UInt8.toNat_ofNat']
    omega
theorem hd_app_list (n k : Nat) (s : ByteArray) : (hd n k ++ s).data.toList = beL 8 n ++ UInt8.ofNat k :: s.data.toList := by
  rw [cat_list, ← ByteArray.toList_eq, hd_list]; simp
theorem app_take8 (n k : Nat) (s : ByteArray) : (hd n k ++ s).data.toList.take 8 = beL 8 n := by
  rw [hd_app_list, List.take_left' (beL_length 8 n)]
theorem app_size (n k : Nat) (s : ByteArray) : (hd n k ++ s).size = 9 + s.size := by rw [ByteArray.size_append, hd_size]
theorem app_at8 (n k : Nat) (s : ByteArray) (hk : k < 256) (h : 8 < (hd n k ++ s).size) : ((hd n k ++ s)[8].toNat : Int) = k := by
  have e : (hd n k ++ s)[8] = (hd n k ++ s).data.toList[8]'(by rw [data_len]; exact h) := rfl
  have e2 : (hd n k ++ s).data.toList[8]'(by rw [data_len]; exact h) = UInt8.ofNat k := by
    have : (hd n k ++ s).data.toList[8]? = some (UInt8.ofNat k) := by
      rw [hd_app_list, List.getElem?_append_right (by rw [beL_length]; omega), beL_length]; rfl
    exact Option.some.inj ((List.getElem?_eq_getElem _).symm.trans this)
  rw [e, e2, UInt8.toNat_ofNat']
  omega
theorem app_rest (n k : Nat) (s : ByteArray) : (hd n k ++ s).extract 9 (hd n k ++ s).size = s := by
  apply ByteArray.ext
  apply Array.ext'
  rw [ByteArray.data_extract, Array.toList_extract, List.extract_eq_take_drop, hd_app_list]
  have hl : (beL 8 n ++ [UInt8.ofNat k]).length = 9 := by rw [List.length_append, beL_length]; rfl
  rw [show beL 8 n ++ UInt8.ofNat k :: s.data.toList = (beL 8 n ++ [UInt8.ofNat k]) ++ s.data.toList by simp, List.drop_left' hl]
  exact List.take_of_length_le (by rw [data_len, app_size]; omega)
theorem wrap_id {n : Nat} (h : n ≤ 9223372036854775807) : IntKind.i64.wrap (n : Int) = n := by rw [IntKind.wrap_i64]; omega
theorem key_back (n k : Int) (s : ByteArray) (p : Int) (w : World) (hg : goodB n k s p = true) :
    Calls Tryd.prog 8 #[.string (encT n k s p)] w fun e w' => e = .returned (.tuple #[keyV n k s p, .bool true]) ∧ Below w.heap.size w w' := by
  have h := goodB_iff.1 hg
  obtain ⟨n, rfl⟩ := Int.eq_ofNat_of_zero_le h.1
  obtain ⟨k, rfl⟩ := Int.eq_ofNat_of_zero_le (show 0 ≤ k by omega)
  obtain ⟨p, rfl⟩ := Int.eq_ofNat_of_zero_le (show 0 ≤ p by omega)
  have hn : n < 256 ^ 8 := by rw [pow8]; omega
  by_cases hk : k = 3
  · subst hk
    obtain rfl : s = ⟨#[]⟩ := ByteArray.size_eq_zero_iff.1 (by omega)
    have e : encT n 3 ⟨#[]⟩ p = hd n 3 ++ be 4 p := by unfold encT; rw [show goodB n 3 ⟨#[]⟩ p = true from hg]; rfl
    have hz : (hd n 3 ++ be 4 p).size = 13 := by rw [app_size, be_size]
    have hp : (p : Int) = IntKind.i64.wrap (beN ((hd n 3 ++ be 4 p).extract 9 (hd n 3 ++ be 4 p).size).data.toList) := by
      rw [app_rest, be_list, beN_beL 4 p (by rw [show (256 : Nat) ^ 4 = 4294967296 from rfl]; omega), wrap_id (by omega)]
    have hd' := key_decode_data (hd n 3 ++ be 4 p) w (by omega) (by omega) n p (by rw [app_take8, beN_beL 8 n hn, wrap_id (by omega)]) (app_at8 n 3 _ (by omega) _) hz hp
    show Calls Tryd.prog 8 #[.string (encT n 3 ⟨#[]⟩ p)] w _
    rw [e]
    refine hd'.mono ?_
    rintro e1 w1 ⟨rfl, hb⟩
    refine ⟨?_, hb⟩
    unfold decV
    rw [show goodB n 3 ⟨#[]⟩ p = true from hg]
    rfl
  · have hs32 : s.size ≤ 32 := by omega
    obtain rfl : p = 0 := by omega
    have e : encT n k s (0 : Nat) = hd n k ++ s := by unfold encT; rw [hg, if_pos rfl, if_neg (by omega)]; rfl
    have hz : (hd n k ++ s).size = 9 + s.size := app_size _ _ _
    have hd' := key_decode_other (hd n k ++ s) w (by omega) (by omega) n k (by rw [app_take8, beN_beL 8 n hn, wrap_id (by omega)]) (app_at8 n k _ (by omega) _) (by simp; omega)
    rw [app_rest] at hd'
    rw [e]
    refine hd'.mono ?_
    rintro e1 w1 ⟨rfl, hb⟩
    refine ⟨?_, hb⟩
    have hg' : goodB n k s 0 = true := hg
    unfold decV
    rw [hg']
    rfl

theorem Held.four {w W : World} {bs : List (Nat × Obj)} {g : Nat} {n k p : Int} {s : ByteArray} {t : TypeId} (h : Held w bs W) (hx : (g, Obj.cells #[.int .i64 n, .int .i64 k, .string s, .int .i64 p] t (0, 0)) ∈ bs) :
    W.cell? ⟨g, 0, none⟩ = some (.int .i64 n) ∧ W.cell? ⟨g, 1, none⟩ = some (.int .i64 k) ∧ W.cell? ⟨g, 2, none⟩ = some (.string s) ∧ W.cell? ⟨g, 3, none⟩ = some (.int .i64 p) :=
  ⟨h.cells hx 0 rfl, h.cells hx 1 rfl, h.cells hx 2 rfl, h.cells hx 3 rfl⟩

end Go.Proofs.YtdjkcmjhknabnaaDoor.K
