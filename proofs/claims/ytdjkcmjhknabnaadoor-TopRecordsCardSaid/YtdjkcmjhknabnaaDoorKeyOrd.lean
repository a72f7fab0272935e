/-
  Two keys' texts stand as the keys do.
-/
import Derived.Test.YtdjkcmjhknabnaaDoorKeyDecodes
namespace Go.Proofs.YtdjkcmjhknabnaaDoor.K
open Go.RowKit

/-- A good key's text: the head, then the name or the piece. -/
theorem enc_shape {n k : Int} {s : ByteArray} {p : Int} (hg : goodB n k s p = true) : encT n k s p = hd n.toNat k.toNat ++ (if k = 3 then be 4 p.toNat else s) := by
  unfold encT
  rw [hg]
  by_cases h : k = 3
  · subst h; rfl
  · simp [h]
theorem bl_refl (l : List UInt8) : Op.bytesLess l l = false := by
  induction l with
  | nil => rfl
  | cons a l ih => rw [bl_cons]; simp [ih]
theorem be_less {p q : Nat} (hp : p < 4294967296) (hq : q < 4294967296) : Op.bytesLess (be 4 p).toList (be 4 q).toList = decide (p < q) := by
  have h := bl_be 4 p q [] [] (by rw [show (256 : Nat) ^ 4 = 4294967296 from rfl]; exact hp) (by rw [show (256 : Nat) ^ 4 = 4294967296 from rfl]; exact hq)
  rw [List.append_nil, List.append_nil, bl_nil] at h
  rw [ByteArray.toList_eq, ByteArray.toList_eq, be_list, be_list, h, Bool.eq_iff_iff]
  by_cases h1 : p < q <;> simp [h1]
theorem enc_less {n k : Int} {s : ByteArray} {p m j : Int} {t : ByteArray} {q : Int} (hg : goodB n k s p = true) (hh : goodB m j t q = true) :
    Op.bytesLess (encT n k s p).toList (encT m j t q).toList = lessB n k s p m j t q := by
  have h1 := goodB_iff.1 hg
  have h2 := goodB_iff.1 hh
  rw [enc_shape hg, enc_shape hh, less_app _ _ (by rw [pow8]; omega) (by rw [pow8]; omega) (by omega) (by omega)]
  unfold lessB
  by_cases a1 : n = m
  · subst a1
    rw [if_neg (by omega), if_pos rfl, if_pos rfl]
    by_cases a2 : k = j
    · subst a2
      rw [if_neg (by omega), if_pos rfl, if_pos rfl]
      by_cases a3 : k = 3
      · subst a3
        obtain rfl : s = ⟨#[]⟩ := ByteArray.size_eq_zero_iff.1 (by omega)
        obtain rfl : t = ⟨#[]⟩ := ByteArray.size_eq_zero_iff.1 (by omega)
        rw [if_pos rfl, if_pos rfl, if_pos rfl, be_less (by omega) (by omega), Bool.eq_iff_iff]
        simp only [decide_eq_true_eq]
        omega
      · rw [if_neg a3, if_neg a3]
        by_cases a4 : s = t
        · subst a4
          rw [if_pos rfl, bl_refl, Bool.eq_iff_iff]
          simp only [decide_eq_true_eq, Bool.false_eq_true, false_iff]
          omega
        · rw [if_neg a4]
    · rw [if_neg a2]
      by_cases a3 : k < j
      · rw [if_pos (by omega), decide_eq_true a3]
      · rw [if_neg (by omega), if_neg (by omega), decide_eq_false a3]
  · rw [if_neg a1]
    by_cases a3 : n < m
    · rw [if_pos (by omega), decide_eq_true a3]
    · rw [if_neg (by omega), if_neg (by omega), decide_eq_false a3]
theorem enc_eq {n k : Int} {s : ByteArray} {p m j : Int} {t : ByteArray} {q : Int} (hg : goodB n k s p = true) (hh : goodB m j t q = true) :
    ((encT n k s p).toList = (encT m j t q).toList) = (n = m ∧ k = j ∧ s = t ∧ p = q) := by
  have h1 := goodB_iff.1 hg
  have h2 := goodB_iff.1 hh
  rw [toList_inj]
  apply propext
  constructor
  · intro h
    have ha := enc_less hg hh
    have hb := enc_less hh hg
    rw [h, bl_refl] at ha
    rw [← h, bl_refl] at hb
    have hb' : lessB m j t q n k s p = false := hb.symm
    unfold lessB at ha hb'
    by_cases a1 : n = m
    · subst a1
      rw [if_pos rfl] at ha hb'
      by_cases a2 : k = j
      · subst a2
        rw [if_pos rfl] at ha hb'
        refine ⟨rfl, rfl, ?_⟩
        have hsh := h
        rw [enc_shape hg, enc_shape hh] at hsh
        have h3 : (if k = 3 then be 4 p.toNat else s) = (if k = 3 then be 4 q.toNat else t) := by
          have := congrArg (fun x : ByteArray => x.data.toList) hsh
          simp only [cat_list] at this
          exact ByteArray.ext (Array.ext' (List.append_cancel_left this))
        by_cases a3 : k = 3
        · obtain rfl : s = ⟨#[]⟩ := ByteArray.size_eq_zero_iff.1 (by omega)
          obtain rfl : t = ⟨#[]⟩ := ByteArray.size_eq_zero_iff.1 (by omega)
          rw [if_pos rfl] at ha hb'
          have ha' := of_decide_eq_false ha.symm
          have hb2 := of_decide_eq_false hb'
          exact ⟨rfl, by omega⟩
        · rw [if_neg a3, if_neg a3] at h3
          exact ⟨h3, by omega⟩
      · rw [if_neg a2] at ha
        rw [if_neg (Ne.symm a2)] at hb'
        have ha' := of_decide_eq_false ha.symm
        have hb2 := of_decide_eq_false hb'
        omega
    · rw [if_neg a1] at ha
      rw [if_neg (Ne.symm a1)] at hb'
      have ha' := of_decide_eq_false ha.symm
      have hb2 := of_decide_eq_false hb'
      omega
  · rintro ⟨rfl, rfl, rfl, rfl⟩; rfl
/-- A good key's text against a range's two ends. -/
theorem enc_from {m j : Int} {t : ByteArray} {q : Int} (hh : goodB m j t q = true) {n k : Nat} (hn : n ≤ 1099511627776) (hk : k < 256) :
    Op.bytesLess (encT m j t q).toList (hd n k).toList = decide (m < n ∨ m = n ∧ j < k) := by
  have h2 := goodB_iff.1 hh
  rw [enc_shape hh, hd_nil n k, less_app _ _ (by rw [pow8]; omega) (by rw [pow8]; omega) (by omega) (by omega)]
  have hnil : ∀ x : ByteArray, Op.bytesLess x.toList (⟨#[]⟩ : ByteArray).toList = false := fun x => by
    rw [show (⟨#[]⟩ : ByteArray).toList = [] by rw [ByteArray.toList_eq], bl_nil]
  rw [hnil, Bool.eq_iff_iff]
  simp only [decide_eq_true_eq]
  repeat' split
  all_goals simp
  all_goals omega
end Go.Proofs.YtdjkcmjhknabnaaDoor.K
