/-
  The texts of keys stand as their numbers do.
-/
import Derived.Test.YtdjkcmjhknabnaaDoorKeyCodes
namespace Go.Proofs.YtdjkcmjhknabnaaDoor.K
open Go.RowKit

theorem bl_cons (a b : UInt8) (x y : List UInt8) : Op.bytesLess (a :: x) (b :: y) = if a < b then true else if a = b then Op.bytesLess x y else false := by
  rw [Op.bytesLess]
  by_cases h : a < b
  · simp [h]
  · by_cases h2 : a = b
    · subst h2; simp
    · have : b < a := by
        rcases UInt8.lt_or_lt_of_ne h2 with h3 | h3
        · exact absurd h3 h
        · exact h3
      simp [h, h2]
theorem bl_be : ∀ (s n m : Nat) (x y : List UInt8), n < 256 ^ s → m < 256 ^ s →
    Op.bytesLess (beL s n ++ x) (beL s m ++ y) = if n < m then true else if n = m then Op.bytesLess x y else false
  | 0, n, m, x, y, hn, hm => by
    obtain rfl : n = 0 := by simpa using hn
    obtain rfl : m = 0 := by simpa using hm
    simp [beL]
  | s + 1, n, m, x, y, hn, hm => by
    have h1 : n / 256 < 256 ^ s := by rw [Nat.div_lt_iff_lt_mul (by omega)]; rwa [Nat.pow_succ] at hn
    have h2 : m / 256 < 256 ^ s := by rw [Nat.div_lt_iff_lt_mul (by omega)]; rwa [Nat.pow_succ] at hm
    simp only [beL, List.append_assoc, List.cons_append, List.nil_append]
    rw [bl_be s _ _ _ _ h1 h2, bl_cons]
    have e1 : (UInt8.ofNat n < UInt8.ofNat m) ↔ n % 256 < m % 256 := by
      rw [UInt8.lt_iff_toNat_lt, UInt8.toNat_ofNat', UInt8.toNat_ofNat']
    have e2 : (UInt8.ofNat n = UInt8.ofNat m) ↔ n % 256 = m % 256 := by
      rw [← UInt8.toNat_inj, UInt8.toNat_ofNat', UInt8.toNat_ofNat']
    simp only [e1, e2]
    clear e1 e2 h1 h2 hn hm
    by_cases a1 : n < m
    · rw [if_pos a1]
      by_cases a2 : n / 256 < m / 256
      · rw [if_pos a2]
      · have a3 : n / 256 = m / 256 := by omega
        have a4 : n % 256 < m % 256 := by omega
        rw [if_neg a2, if_pos a3, if_pos a4]
    · rw [if_neg a1]
      by_cases a2 : n = m
      · subst a2
        simp
      · rw [if_neg a2]
        have a3 : ¬ n / 256 < m / 256 := by omega
        rw [if_neg a3]
        by_cases a4 : n / 256 = m / 256
        · have a5 : ¬ n % 256 < m % 256 := by omega
          have a6 : ¬ n % 256 = m % 256 := by omega
          rw [if_pos a4, if_neg a5, if_neg a6]
        · rw [if_neg a4]
theorem cat_list (a b : ByteArray) : (a ++ b).data.toList = a.data.toList ++ b.data.toList := by simp
theorem hd_list (n k : Nat) : (hd n k).toList = beL 8 n ++ [UInt8.ofNat k] := by
  rw [ByteArray.toList_eq]; unfold hd; rw [cat_list]; rfl
theorem bl_hd {n m k j : Nat} (x y : List UInt8) (hn : n < 256 ^ 8) (hm : m < 256 ^ 8) (hk : k < 256) (hj : j < 256) :
    Op.bytesLess (beL 8 n ++ UInt8.ofNat k :: x) (beL 8 m ++ UInt8.ofNat j :: y) = if n < m then true else if n = m then (if k < j then true else if k = j then Op.bytesLess x y else false) else false := by
  rw [bl_be 8 _ _ _ _ hn hm, bl_cons]
  have e1 : (UInt8.ofNat k < UInt8.ofNat j) ↔ k < j := by
    rw [UInt8.lt_iff_toNat_lt, UInt8.toNat_ofNat', UInt8.toNat_ofNat']; omega
  have e2 : (UInt8.ofNat k = UInt8.ofNat j) ↔ k = j := by
    rw [← UInt8.toNat_inj, UInt8.toNat_ofNat', UInt8.toNat_ofNat']; omega
  simp only [e1, e2]
theorem bl_nil (x : List UInt8) : Op.bytesLess x [] = false := by cases x <;> rfl
theorem less_hd {n m k j : Nat} (hn : n < 256 ^ 8) (hm : m < 256 ^ 8) (hk : k < 256) (hj : j < 256) :
    Op.bytesLess (hd n k).toList (hd m j).toList = decide (n < m ∨ n = m ∧ k < j) := by
  rw [hd_list, hd_list, bl_hd [] [] hn hm hk hj, bl_nil, Bool.eq_iff_iff]
  simp only [decide_eq_true_eq]
  repeat' split
  all_goals simp
  all_goals omega
theorem beL_inj : ∀ (s n m : Nat), n < 256 ^ s → m < 256 ^ s → beL s n = beL s m → n = m
  | 0, n, m, hn, hm, _ => by
    obtain rfl : n = 0 := by simpa using hn
    obtain rfl : m = 0 := by simpa using hm
    rfl
  | s + 1, n, m, hn, hm, h => by
    have h1 : n / 256 < 256 ^ s := by rw [Nat.div_lt_iff_lt_mul (by omega)]; rwa [Nat.pow_succ] at hn
    have h2 : m / 256 < 256 ^ s := by rw [Nat.div_lt_iff_lt_mul (by omega)]; rwa [Nat.pow_succ] at hm
    simp only [beL] at h
    obtain ⟨ha, hb⟩ := List.append_inj h (by rw [beL_length, beL_length])
    have e1 := beL_inj s _ _ h1 h2 ha
    have e2 : n % 256 = m % 256 := by
      have := (List.cons.inj hb).1
      rwa [← UInt8.toNat_inj, UInt8.toNat_ofNat', UInt8.toNat_ofNat'] at this
    omega
theorem hd_inj {n m k j : Nat} (hn : n < 256 ^ 8) (hm : m < 256 ^ 8) (hk : k < 256) (hj : j < 256) : ((hd n k).toList = (hd m j).toList) = (n = m ∧ k = j) := by
  apply propext
  constructor
  · intro h
    rw [hd_list, hd_list] at h
    obtain ⟨ha, hb⟩ := List.append_inj h (by rw [beL_length, beL_length])
    have := (List.cons.inj hb).1
    rw [← UInt8.toNat_inj, UInt8.toNat_ofNat', UInt8.toNat_ofNat'] at this
    exact ⟨beL_inj 8 n m hn hm ha, by omega⟩
  · rintro ⟨rfl, rfl⟩; rfl
end Go.Proofs.YtdjkcmjhknabnaaDoor.K
