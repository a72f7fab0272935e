/-
  The document's number of eight bytes.
-/
import Derived.Test.YtbkkdglmcoglfaaDoorNodeDec2
namespace Go.Proofs.YtbkkdglmcoglfaaDoor
open Go.RowKit

/-- A number, or -1 where it is too great. -/
def numR (N : Nat) : Int := if N ≤ 1099511627776 then (N : Int) else -1
theorem beN_prefix (l : List UInt8) (b : UInt8) (N : Nat) (h : beN (l ++ [b]) ≤ N) : beN l ≤ N := by rw [beN_snoc] at h; omega
theorem beN_take_le (l : List UInt8) : ∀ (d k : Nat), beN (l.take k) ≤ beN (l.take (k + d))
  | 0, k => Nat.le_refl _
  | d + 1, k => by
    refine Nat.le_trans (beN_take_le l d k) ?_
    rw [← Nat.add_assoc]
    by_cases h : k + d < l.length
    · rw [List.take_succ_eq_append_getElem h]
      exact beN_prefix _ _ _ (Nat.le_refl _)
    · rw [List.take_of_length_le (by omega), List.take_of_length_le (by omega)]; exact Nat.le_refl _

set_option maxHeartbeats 1000000 in
theorem ref_number (s : ByteArray) (w : World) (h8 : 8 ≤ s.size) :
    Calls Tryd.prog 21 #[.string s] w fun e w' => e = .returned (.int .i64 (numR (beN (s.data.toList.take 8)))) ∧ w = w' := by
  obtain ⟨r, hr⟩ : ∃ r, r = numR (beN (s.data.toList.take 8)) := ⟨_, rfl⟩
  rw [← hr]
  have HR := Aside.mk hr
  clear hr
  go_enter Tryd.func21, Tryd.ntmps21
  go_wp2
  go_loop [3, 4] (fun n i => ∃ k : Nat, k ≤ 8 ∧ i = .int .i64 k ∧ n = .int .i64 (beN (s.data.toList.take k) : Nat) ∧ beN (s.data.toList.take k) ≤ 281474976711000) (fun _ i => 8 - (intOf i).toNat)
  case atStart => exact ⟨0, Nat.zero_le _, rfl, rfl, Nat.zero_le _⟩
  case round =>
    obtain ⟨k, hk, rfl, rfl, hN⟩ := hrel
    by_cases hlt : k < 8
    · have hks : k < s.size := by omega
      have hle := beN_take_le s.data.toList (8 - k) k
      rw [show k + (8 - k) = 8 by omega] at hle
      have HS := Aside.mk ((congrArg beN (take_snoc_b s k hks)).trans (beN_snoc (s.data.toList.take k) s[k]))
      have hb := s[k].toNat_lt
      have HLE := Aside.mk hle
      clear hle
      generalize beN (s.data.toList.take k) = N at *
      by_cases hbig : N ≤ 1099511627776
      · have hbig' : (N : Int) ≤ 1099511627776 := by omega
        have hw1 : IntKind.i64.wrap (256 * (N : Int)) = 256 * (N : Int) := by rw [IntKind.wrap_i64]; omega
        have hw2 : IntKind.i64.wrap (256 * (N : Int) + (s[k].toNat : Int)) = 256 * (N : Int) + (s[k].toNat : Int) := by rw [IntKind.wrap_i64]; omega
        go_wp2
        go_round
        case rel => exact ⟨k + 1, by omega, by go_num, by rw [HS.out]; congr 1; omega, by rw [HS.out]; omega⟩
        case measure => simp [intOf]; omega
      · have hbig' : (1099511627776 : Int) < N := by omega
        have e : r = -1 := by rw [HR.out]; unfold numR; rw [if_neg (by have := HLE.out; omega)]
        subst e
        go_wp2
        go_ret
        exact ⟨rfl, rfl⟩
    · obtain rfl : k = 8 := by omega
      generalize beN (s.data.toList.take 8) = N at *
      by_cases hbig : N ≤ 1099511627776
      · have hbig' : (N : Int) ≤ 1099511627776 := by omega
        have e : r = N := by rw [HR.out]; unfold numR; rw [if_pos hbig]
        subst e
        go_wp2
        go_ret
        exact ⟨rfl, rfl⟩
      · have hbig' : (1099511627776 : Int) < N := by omega
        have e : r = -1 := by rw [HR.out]; unfold numR; rw [if_neg hbig]
        subst e
        go_wp2
        go_ret
        exact ⟨rfl, rfl⟩
end Go.Proofs.YtbkkdglmcoglfaaDoor
