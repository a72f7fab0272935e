/-
  Bytes read as a number, the highest first.
-/
import Derived.Test.YtdjkcmjhknabnaaDoorKeyWalks
namespace Go.Proofs.YtdjkcmjhknabnaaDoor.K
open Go.RowKit

def beN (l : List UInt8) : Nat := l.foldl (fun n b => n * 256 + b.toNat) 0
theorem beN_snoc (l : List UInt8) (b : UInt8) : beN (l ++ [b]) = beN l * 256 + b.toNat := by simp [beN]
theorem or_low (m b : Nat) (hm : m % 256 = 0) (hb : b < 256) : m ||| b = m + b := by
  have hq : m = 2 ^ 8 * (m / 256) := by omega
  rw [hq, ← Nat.two_pow_add_eq_or_of_lt hb (m / 256)]
theorem or64 (x : Int) (b : Nat) (hb : b < 256) : bits .or .i64 (IntKind.i64.wrap (x * 256)) (b : Int) = IntKind.i64.wrap (x * 256 + b) := by
  have h1 : (BitVec.ofInt 64 (IntKind.i64.wrap (x * 256))).toNat = (x * 256 % 18446744073709551616).toNat := by
    rw [BitVec.toNat_ofInt, IntKind.wrap_i64]
    congr 1
    omega
  have h2 : (BitVec.ofInt 64 (b : Int)).toNat = b := by
    rw [BitVec.toNat_ofInt]; omega
  have h3 : (x * 256 % 18446744073709551616).toNat % 256 = 0 := by omega
  have h4 : bits .or .i64 (IntKind.i64.wrap (x * 256)) (b : Int) = IntKind.i64.wrap (((BitVec.ofInt 64 (IntKind.i64.wrap (x * 256))) ||| (BitVec.ofInt 64 (b : Int))).toNat : Int) := rfl
  rw [h4, BitVec.toNat_or, h1, h2, or_low _ _ h3 hb, IntKind.wrap_i64, IntKind.wrap_i64]
  omega

theorem wrap_again (x : Int) : IntKind.i64.wrap (IntKind.i64.wrap x * 256) = IntKind.i64.wrap (x * 256) := by
  rw [IntKind.wrap_i64, IntKind.wrap_i64, IntKind.wrap_i64]; omega
theorem or64w (x : Int) (b : Nat) (hb : b < 256) : bits .or .i64 (IntKind.i64.wrap (IntKind.i64.wrap x * 256)) (b : Int) = IntKind.i64.wrap (x * 256 + b) := by
  rw [wrap_again, or64 x b hb]
theorem take_snoc_b (s : ByteArray) (k : Nat) (h : k < s.size) : s.data.toList.take (k + 1) = s.data.toList.take k ++ [s[k]] := by
  rw [List.take_succ_eq_append_getElem (by simpa using h)]; rfl

set_option maxHeartbeats 1000000 in
theorem key_number (s : ByteArray) (w : World) (hs : s.size ≤ 140737488351232) :
    Calls Tryd.prog 23 #[.string s] w fun e w' => e = .returned (.int .i64 (IntKind.i64.wrap (beN s.data.toList))) ∧ w = w' := by
  go_enter Tryd.func23, Tryd.ntmps23
  go_wp2
  go_loop [3, 7] (fun n i => ∃ k : Nat, k ≤ s.size ∧ i = .int .i64 k ∧ n = .int .i64 (IntKind.i64.wrap (beN (s.data.toList.take k)))) (fun _ i => s.size - (intOf i).toNat)
  case atStart => exact ⟨0, Nat.zero_le _, rfl, rfl⟩
  case round =>
    obtain ⟨k, hk, rfl, rfl⟩ := hrel
    by_cases hlt : k < s.size
    · have hsn := beN_snoc (s.data.toList.take k) s[k]
      have hb := s[k].toNat_lt
      have HS := Aside.mk hsn
      clear hsn
      go_wp2
      go_round
      case rel =>
        refine ⟨k + 1, by omega, by go_num, ?_⟩
        rw [take_snoc_b s k hlt, HS.out]
        rw [← IntWalk.i64_left, ← IntWalk.i64_left, or64w _ _ hb]
        simp
      case measure => simp [intOf]; omega
    · have he : s.data.toList.take k = s.data.toList := List.take_of_length_le (by rw [data_len]; omega)
      rw [he]
      go_wp2
      go_ret
      exact ⟨rfl, rfl⟩
end Go.Proofs.YtdjkcmjhknabnaaDoor.K
