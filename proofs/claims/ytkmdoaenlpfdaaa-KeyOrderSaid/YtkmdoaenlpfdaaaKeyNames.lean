/-
  Names stand as their bytes do, between the inode and the pieces.
-/
import Derived.Test.YtkmdoaenlpfdaaaKeyLaws
namespace Go.Proofs.Ytkmdoaenlpfdaaa
open Go.RowKit

def entOk (s : ByteArray) : Bool := decide (s.size ≠ 0 ∧ s.size ≤ 32)
def entT (n : Nat) (s : ByteArray) : ByteArray := if entOk s then hd n 2 ++ s else ⟨#[]⟩
theorem key_encode_entry (n : Nat) (s : ByteArray) (w : World) (hn : n ≤ 1099511627776) :
    Calls Try.prog 9 #[keyV n 2 s 0] w fun e w' => e = .returned (.tuple #[.string (entT n s), .bool (entOk s)]) ∧ Below w.heap.size w w' := by
  by_cases h : s.size ≠ 0 ∧ s.size ≤ 32
  · have e : entOk s = true := decide_eq_true h
    refine (key_encode_name n 2 s w hn (.inr ⟨rfl, h.1, h.2⟩)).mono ?_
    rintro e1 w1 ⟨rfl, hb⟩
    refine ⟨?_, hb⟩
    unfold entT
    rw [e]
    rfl
  · have e : entOk s = false := decide_eq_false h
    have hg : goodB n 2 s 0 = false := by
      cases hq : goodB n 2 s 0
      · rfl
      · have := goodB_iff.1 hq; omega
    refine (key_encode_bad n 2 s 0 w hg).mono ?_
    rintro e1 w1 ⟨rfl, hb⟩
    refine ⟨?_, hb⟩
    unfold entT
    rw [e]
    rfl
theorem key_encode_data_at (n p : Nat) (n' p' : Int) (s : ByteArray) (w : World) (hn' : n' = n) (hp' : p' = p) (hn : n ≤ 1099511627776) (hs : s.size = 0) (hp : p < 4294967296) :
    Calls Try.prog 9 #[keyV n' 3 s p'] w fun e w' => e = .returned (.tuple #[.string (hd n 3 ++ be 4 p), .bool true]) ∧ Below w.heap.size w w' := by
  subst hn'; subst hp'; exact key_encode_data n p s w hn hs hp
theorem key_encode_inode_at (n : Nat) (n' : Int) (s : ByteArray) (w : World) (hn' : n' = n) (hn : n ≤ 1099511627776) (hs : s.size = 0) :
    Calls Try.prog 9 #[keyV n' 1 s 0] w fun e w' => e = .returned (.tuple #[.string (hd n 1), .bool true]) ∧ Below w.heap.size w w' := by
  subst hn'
  refine (key_encode_name n 1 s w hn (.inl ⟨rfl, hs⟩)).mono ?_
  rintro e1 w1 ⟨rfl, hb⟩
  refine ⟨?_, hb⟩
  rw [show s = ⟨#[]⟩ from ByteArray.size_eq_zero_iff.1 hs, show hd n 1 ++ (⟨#[]⟩ : ByteArray) = hd n 1 from ByteArray.ext (by simp)]
theorem app_list (a b : ByteArray) : (a ++ b).toList = a.toList ++ b.toList := by
  rw [ByteArray.toList_eq, ByteArray.toList_eq, ByteArray.toList_eq, cat_list]
theorem less_app {n m k j : Nat} (s t : ByteArray) (hn : n < 256 ^ 8) (hm : m < 256 ^ 8) (hk : k < 256) (hj : j < 256) :
    Op.bytesLess (hd n k ++ s).toList (hd m j ++ t).toList = if n < m then true else if n = m then (if k < j then true else if k = j then Op.bytesLess s.toList t.toList else false) else false := by
  rw [app_list, app_list, hd_list, hd_list, List.append_assoc, List.append_assoc]
  exact bl_hd _ _ hn hm hk hj
theorem hd_app_ne {n m k j : Nat} (s t : ByteArray) (hk : k < 256) (hj : j < 256) (h : k ≠ j) : (hd n k ++ s).toList ≠ (hd m j ++ t).toList := by
  rw [app_list, app_list, hd_list, hd_list, List.append_assoc, List.append_assoc]
  intro he
  obtain ⟨_, hb⟩ := List.append_inj he (by rw [beL_length, beL_length])
  have := (List.cons.inj hb).1
  rw [← UInt8.toNat_inj, UInt8.toNat_ofNat', UInt8.toNat_ofNat'] at this
  omega
theorem hd_nil (n k : Nat) : hd n k = hd n k ++ (⟨#[]⟩ : ByteArray) := (ByteArray.ext (by simp)).symm
theorem hd_some (n k : Nat) (s : ByteArray) : (hd n k ++ s).toList.isEmpty = false := by
  rw [toList_empty]
  simp [ByteArray.size_append, hd_size]

theorem entT_ok {a : Nat} {s : ByteArray} (h : entOk s = true) : entT a s = hd a 2 ++ s := by unfold entT; rw [h]; rfl
theorem ent_facts {a p : Nat} {s : ByteArray} (ha : a < 1099511627776) (h : entOk s = true) :
    Op.bytesLess (entT a s).toList (hd a 1).toList = false ∧ ((entT a s).toList == (hd a 1).toList) = false ∧ Op.bytesLess (entT a s).toList (hd a 3 ++ be 4 p).toList = true := by
  rw [entT_ok h]
  refine ⟨?_, beq_eq_false_iff_ne.2 ?_, ?_⟩
  · rw [hd_nil a 1, less_app _ _ (by rw [pow8]; omega) (by rw [pow8]; omega) (by omega) (by omega)]; simp
  · rw [hd_nil a 1]; exact hd_app_ne _ _ (by omega) (by omega) (by omega)
  · rw [less_app _ _ (by rw [pow8]; omega) (by rw [pow8]; omega) (by omega) (by omega)]; simp
theorem ent_less {a : Nat} {s t : ByteArray} (ha : a < 1099511627776) (h : entOk s = true) (h2 : entOk t = true) : Op.bytesLess (entT a s).toList (entT a t).toList = Op.bytesLess s.toList t.toList := by
  rw [entT_ok h, entT_ok h2, less_app _ _ (by rw [pow8]; omega) (by rw [pow8]; omega) (by omega) (by omega)]; simp

set_option maxRecDepth 20000 in
set_option maxHeartbeats 4000000 in
theorem keyNames_walk (n : Int) (s t : ByteArray) (q : Int) (w : World) (_wn : (Lit.int .i64 n).wf = true) (_ws : s.size ≤ 140737488351232 ∧ t.size ≤ 140737488351232) (_wq : (Lit.int .i64 q).wf = true) :
    Calls Try.prog 3 #[.int .i64 n, .agg #[.string s, .string t], .int .i64 q] w fun e w' => e = .returned (.bool true) ∧ Below w.heap.size w w' := by
  clear _wn _ws _wq
  go_enter Try.func3, Try.ntmps3
  go_upto_region 3 with (go_at_call 8; refine (key_speaks _).mono ?_; rintro e w1 ⟨rfl, hb1⟩)
  have hH := ((Held.refl w).lay _).step hb1
  clear hb1
  go_cut [32] (fun s32 wx => s32 = .bool (decide (n < 0 ∨ 1099511627776 ≤ n ∨ q < 0 ∨ 4294967296 ≤ q)) ∧ w1 = wx)
  case first =>
    clear hH
    go_wp2_with fail
    all_goals (go_meet; refine ⟨?_, rfl⟩; congr 1; rw [Bool.eq_iff_iff]; simp; first | omega | skip)
  case rest =>
    obtain ⟨rfl, rfl⟩ := hcut
    go_upto_if 32 with fail
    go_cut [0, 2] (fun s0 s2 wx => ∃ a p : Nat, s0 = .int .i64 a ∧ s2 = .int .i64 p ∧ a < 1099511627776 ∧ p < 4294967296 ∧ w1 = wx)
    case first =>
      go_wp2_with fail
      all_goals go_meet
      · exact ⟨5, 7, rfl, rfl, by omega, by omega, rfl⟩
      · have h2 : 0 ≤ n ∧ n < 1099511627776 ∧ 0 ≤ q ∧ q < 4294967296 := by omega
        exact ⟨n.toNat, q.toNat, by rw [Int.toNat_of_nonneg h2.1], by rw [Int.toNat_of_nonneg h2.2.2.1], by omega, by omega, rfl⟩
    case rest =>
      obtain ⟨a, p, rfl, rfl, ha, hp, rfl⟩ := hcut
      have hw1 : IntKind.i64.wrap ((a : Int) + 1) = (a : Int) + 1 := by rw [IntKind.wrap_i64]; omega
      go_upto_region 6 with (go_at_call 9; refine (key_encode_inode_at a _ _ _ (by omega) (by omega) (by decide)).mono ?_; rintro e w2 ⟨rfl, hb⟩; have hH2 := hH.step hb; clear hb hH)
      go_upto_region 7 with (go_at_call 9; refine (key_encode_data_at a p _ _ _ _ (by omega) (by omega) (by omega) (by decide) (by omega)).mono ?_; rintro e w3 ⟨rfl, hb⟩; have hH3 := hH2.step hb; clear hb hH2)
      go_upto_region 8 with (go_at_call 9; refine (key_encode_inode_at (a + 1) _ _ _ (by omega) (by omega) (by decide)).mono ?_; rintro e w4 ⟨rfl, hb⟩; have hH4 := hH3.step hb; clear hb hH3)
      have c0 : w4.cell? ⟨w.heap.size, 0, none⟩ = some (.string s) := hH4.cells (List.mem_cons_self ..) 0 rfl
      go_upto_region 9 with (clear c0; go_at_call 9; refine (key_encode_entry a _ _ (by omega)).mono ?_; rintro e w5 ⟨rfl, hb⟩; have hH5 := hH4.step hb; clear hb hH4)
      have c1 : w5.cell? ⟨w.heap.size, 1, none⟩ = some (.string t) := hH5.cells (List.mem_cons_self ..) 1 rfl
      go_upto_region 10 with (clear c1; go_at_call 9; refine (key_encode_entry a _ _ (by omega)).mono ?_; rintro e w6 ⟨rfl, hb⟩; have hH6 := hH5.step hb; clear hb hH5)
      have c0 : w6.cell? ⟨w.heap.size, 0, none⟩ = some (.string s) := hH6.cells (List.mem_cons_self ..) 0 rfl
      have c1 : w6.cell? ⟨w.heap.size, 1, none⟩ = some (.string t) := hH6.cells (List.mem_cons_self ..) 1 rfl
      clear hw1
      have l1 : Op.bytesLess (hd a 1).toList (hd a 3 ++ be 4 p).toList = true := by rw [hd_nil a 1, less_app _ _ (by rw [pow8]; omega) (by rw [pow8]; omega) (by omega) (by omega)]; simp
      have l2 : Op.bytesLess (hd a 3 ++ be 4 p).toList (hd (a + 1) 1).toList = true := by rw [hd_nil (a + 1) 1, less_app _ _ (by rw [pow8]; omega) (by rw [pow8]; omega) (by omega) (by omega)]; simp
      have l3 : (hd a 1).toList.isEmpty = false := by rw [hd_nil a 1]; exact hd_some _ _ _
      have HB := Aside.mk hH6.bel
      clear hH6
      go_upto_region 12 with fail
      cases hs : entOk s <;> cases ht : entOk t
      · have HS := Aside.mk hs
        have HT := Aside.mk ht
        go_wp2
        go_ret
        exact ⟨rfl, HB.out⟩
      · obtain ⟨g1, g2, g3⟩ := ent_facts (p := p) ha ht
        go_wp2
        go_ret
        exact ⟨rfl, HB.out⟩
      · obtain ⟨f1, f2, f3⟩ := ent_facts (p := p) ha hs
        go_wp2
        go_ret
        exact ⟨rfl, HB.out⟩
      · obtain ⟨f1, f2, f3⟩ := ent_facts (p := p) ha hs
        obtain ⟨g1, g2, g3⟩ := ent_facts (p := p) ha ht
        have g4 := ent_less ha hs ht
        go_wp2
        all_goals
          go_ret
          exact ⟨ret_bool (by simp), HB.out⟩
end Go.Proofs.Ytkmdoaenlpfdaaa
