/-
  Names stand as their bytes do, between the inode and the pieces.
-/
import Derived.Test.YtdjkcmjhknabnaaDoorKeyLaws
namespace Go.Proofs.YtdjkcmjhknabnaaDoor.K
open Go.RowKit

def entOk (s : ByteArray) : Bool := decide (s.size ≠ 0 ∧ s.size ≤ 32)
def entT (n : Nat) (s : ByteArray) : ByteArray := if entOk s then hd n 2 ++ s else ⟨#[]⟩
theorem key_encode_entry (n : Nat) (s : ByteArray) (w : World) (hn : n ≤ 1099511627776) :
    Calls Tryd.prog 4 #[keyV n 2 s 0] w fun e w' => e = .returned (.tuple #[.string (entT n s), .bool (entOk s)]) ∧ Below w.heap.size w w' := by
  by_cases h : s.size ≠ 0 ∧ s.size ≤ 32
  · have e : entOk s = true := decide_eq_true h
    refine (key_encode_name n 2 s w hn (.inr ⟨rfl, h.1, h.2⟩)).mono ?_
    rintro e1 w1 ⟨rfl, hb⟩
    refine ⟨?_, hb⟩
    unfold entT
    rw [e]
    rfl
  · have e : entOk s = false := decide_eq_false h
    have hg : goodB n 2 s 0 = false := by
      cases hq : goodB n 2 s 0
      · rfl
      · have := goodB_iff.1 hq; omega
    refine (key_encode_bad n 2 s 0 w hg).mono ?_
    rintro e1 w1 ⟨rfl, hb⟩
    refine ⟨?_, hb⟩
    unfold entT
    rw [e]
    rfl
theorem key_encode_data_at (n p : Nat) (n' p' : Int) (s : ByteArray) (w : World) (hn' : n' = n) (hp' : p' = p) (hn : n ≤ 1099511627776) (hs : s.size = 0) (hp : p < 4294967296) :
    Calls Tryd.prog 4 #[keyV n' 3 s p'] w fun e w' => e = .returned (.tuple #[.string (hd n 3 ++ be 4 p), .bool true]) ∧ Below w.heap.size w w' := by
  subst hn'; subst hp'; exact key_encode_data n p s w hn hs hp
theorem key_encode_inode_at (n : Nat) (n' : Int) (s : ByteArray) (w : World) (hn' : n' = n) (hn : n ≤ 1099511627776) (hs : s.size = 0) :
    Calls Tryd.prog 4 #[keyV n' 1 s 0] w fun e w' => e = .returned (.tuple #[.string (hd n 1), .bool true]) ∧ Below w.heap.size w w' := by
  subst hn'
  refine (key_encode_name n 1 s w hn (.inl ⟨rfl, hs⟩)).mono ?_
  rintro e1 w1 ⟨rfl, hb⟩
  refine ⟨?_, hb⟩
  rw [show s = ⟨#[]⟩ from ByteArray.size_eq_zero_iff.1 hs, show hd n 1 ++ (⟨#[]⟩ : ByteArray) = hd n 1 from ByteArray.ext (by simp)]
theorem app_list (a b : ByteArray) : (a ++ b).toList = a.toList ++ b.toList := by
  rw [ByteArray.toList_eq, ByteArray.toList_eq, ByteArray.toList_eq, cat_list]
theorem less_app {n m k j : Nat} (s t : ByteArray) (hn : n < 256 ^ 8) (hm : m < 256 ^ 8) (hk : k < 256) (hj : j < 256) :
    Op.bytesLess (hd n k ++ s).toList (hd m j ++ t).toList = if n < m then true else if n = m then (if k < j then true else if k = j then Op.bytesLess s.toList t.toList else false) else false := by
  rw [app_list, app_list, hd_list, hd_list, List.append_assoc, List.append_assoc]
  exact bl_hd _ _ hn hm hk hj
theorem hd_app_ne {n m k j : Nat} (s t : ByteArray) (hk : k < 256) (hj : j < 256) (h : k ≠ j) : (hd n k ++ s).toList ≠ (hd m j ++ t).toList := by
  rw [app_list, app_list, hd_list, hd_list, List.append_assoc, List.append_assoc]
  intro he
  obtain ⟨_, hb⟩ := List.append_inj he (by rw [beL_length, beL_length])
  have := (List.cons.inj hb).1
  rw [← UInt8.toNat_inj, UInt8.toNat_ofNat', UInt8.toNat_ofNat'] at this
  omega
theorem hd_nil (n k : Nat) : hd n k = hd n k ++ (⟨#[]⟩ : ByteArray) := (ByteArray.ext (by simp)).symm
theorem hd_some (n k : Nat) (s : ByteArray) : (hd n k ++ s).toList.isEmpty = false := by
  rw [toList_empty]
  simp [ByteArray.size_append, hd_size]

theorem entT_ok {a : Nat} {s : ByteArray} (h : entOk s = true) : entT a s = hd a 2 ++ s := by unfold entT; rw [h]; rfl
theorem ent_facts {a p : Nat} {s : ByteArray} (ha : a < 1099511627776) (h : entOk s = true) :
    Op.bytesLess (entT a s).toList (hd a 1).toList = false ∧ ((entT a s).toList == (hd a 1).toList) = false ∧ Op.bytesLess (entT a s).toList (hd a 3 ++ be 4 p).toList = true := by
  rw [entT_ok h]
  refine ⟨?_, beq_eq_false_iff_ne.2 ?_, ?_⟩
  · rw [hd_nil a 1, less_app _ _ (by rw [pow8]; omega) (by rw [pow8]; omega) (by omega) (by omega)]; simp
  · rw [hd_nil a 1]; exact hd_app_ne _ _ (by omega) (by omega) (by omega)
  · rw [less_app _ _ (by rw [pow8]; omega) (by rw [pow8]; omega) (by omega) (by omega)]; simp
theorem ent_less {a : Nat} {s t : ByteArray} (ha : a < 1099511627776) (h : entOk s = true) (h2 : entOk t = true) : Op.bytesLess (entT a s).toList (entT a t).toList = Op.bytesLess s.toList t.toList := by
  rw [entT_ok h, entT_ok h2, less_app _ _ (by rw [pow8]; omega) (by rw [pow8]; omega) (by omega) (by omega)]; simp

end Go.Proofs.YtdjkcmjhknabnaaDoor.K
