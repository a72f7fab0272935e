/-
  Inodes and names as values, and back; any texts read as both.
-/
import Derived.Test.YtmomphjhlbampaaDoorNodeLabels
namespace Go.Proofs.YtmomphjhlbampaaDoor
open Go.RowKit

theorem inodeB_list (g : Bool) (a b : Int) : (inodeB g a b).data.toList = flagB g :: (beL 8 (u64 a) ++ beL 8 (u64 b)) := by
  unfold inodeB
  rw [cat_list]
  simp [numsB, numsL]
theorem inodeB_size (g : Bool) (a b : Int) : (inodeB g a b).size = 17 := by
  unfold inodeB
  rw [ByteArray.size_append, numsB_size]; rfl
theorem u64_wrapped (a : Int) (h : -9223372036854775808 ≤ a ∧ a ≤ 9223372036854775807) : IntKind.i64.wrap (beN (beL 8 (u64 a))) = a := by
  rw [beN_beL, Nat.mod_eq_of_lt (u64_lt a)]
  exact u64_wrap h
theorem l8 (v : Int) : (beL 8 (u64 v)).length = 8 := beL_length 8 _
theorem ino_nums (g : Bool) (a b : Int) (ha : -9223372036854775808 ≤ a ∧ a ≤ 9223372036854775807) (hb : -9223372036854775808 ≤ b ∧ b ≤ 9223372036854775807) : numAt (inodeB g a b) 1 = a ∧ numAt (inodeB g a b) 9 = b ∧ byte0 (inodeB g a b) = flagB g := by
  refine ⟨?_, ?_, ?_⟩
  · unfold numAt
    rw [inodeB_list, List.drop_succ_cons, List.drop_zero, List.take_append_of_le_length (by rw [l8]; exact Nat.le_refl _), List.take_of_length_le (by rw [l8]; exact Nat.le_refl _)]
    exact u64_wrapped a ha
  · unfold numAt
    rw [inodeB_list, List.drop_succ_cons, List.drop_append, l8, List.drop_of_length_le (by rw [l8]; exact Nat.le_refl _), List.nil_append, Nat.sub_self, List.drop_zero, List.take_of_length_le (by rw [l8]; exact Nat.le_refl _)]
    exact u64_wrapped b hb
  · unfold byte0; rw [inodeB_list]; rfl
/-- An inode's value, read back. -/
theorem ino_back (g : Bool) (a b : Int) (ha : -9223372036854775808 ≤ a ∧ a ≤ 9223372036854775807) (hb : -9223372036854775808 ≤ b ∧ b ≤ 9223372036854775807) :
    inoR (inodeB g a b) = .tuple #[bif fitsB a && fitsB b then inoV g a b else inoV false 0 0, .bool (fitsB a && fitsB b)] := by
  obtain ⟨h1, h9, h0⟩ := ino_nums g a b ha hb
  have hk : inoOk (inodeB g a b) = (fitsB a && fitsB b) := by
    unfold inoOk
    rw [h1, h9, h0, inodeB_size]
    cases g <;> simp [flagB]
  unfold inoR
  rw [hk, h1, h9, h0]
  cases g <;> rfl
theorem ent_back (a : Int) (ha : -9223372036854775808 ≤ a ∧ a ≤ 9223372036854775807) : entN (numsB [a]) = (bif fitsB a then a else 0) ∧ entOk (numsB [a]) = fitsB a := by
  have hz : (numsB [a]).size = 8 := by rw [numsB_size]; rfl
  have h0 : numAt (numsB [a]) 0 = a := by
    unfold numAt
    rw [List.drop_zero]
    have : (numsB [a]).data.toList = beL 8 (u64 a) := by simp [numsB, numsL]
    rw [this, List.take_of_length_le (by rw [l8]; exact Nat.le_refl _)]
    exact u64_wrapped a ha
  have hk : entOk (numsB [a]) = fitsB a := by unfold entOk; rw [h0, hz]; rfl
  exact ⟨by unfold entN; rw [hk, h0], hk⟩
/-- What the document's number says. -/
theorem numR_fits (s : ByteArray) (i : Nat) : decide (0 ≤ numR (beN ((s.data.toList.drop i).take 8))) = fitsB (numAt s i) := by
  unfold numAt
  have h1 := beN_lt ((s.data.toList.drop i).take 8)
  have h2 : ((s.data.toList.drop i).take 8).length ≤ 8 := List.length_take_le _ _
  have h3 : (256 : Nat) ^ ((s.data.toList.drop i).take 8).length ≤ 256 ^ 8 := Nat.pow_le_pow_right (by omega) h2
  have h4 : (256 : Nat) ^ 8 = 18446744073709551616 := rfl
  generalize beN ((s.data.toList.drop i).take 8) = N at *
  have hN : N < 18446744073709551616 := by omega
  clear h1 h2 h3 h4
  unfold numR fitsB
  rw [Bool.eq_iff_iff]
  simp only [decide_eq_true_eq]
  rw [IntKind.wrap_i64]
  split <;> omega
/-- Texts that are read are those that are written. -/
theorem ino_writ (s : ByteArray) (h : inoOk s = true) : inodeB (decide ((byte0 s).toNat = 1)) (numAt s 1) (numAt s 9) = s := by
  simp only [inoOk, Bool.and_eq_true, decide_eq_true_eq] at h
  obtain ⟨hz, h0, h1, h9⟩ := h
  have hl : s.data.toList.length = 17 := by rw [data_len]; exact hz
  apply bytes_ext
  rw [inodeB_list]
  have num : ∀ i, i + 8 ≤ 17 → fitsB (numAt s i) = true → beL 8 (u64 (numAt s i)) = (s.data.toList.drop i).take 8 := fun i hi hf => by
    have hl8 : ((s.data.toList.drop i).take 8).length = 8 := by rw [List.length_take, List.length_drop]; omega
    have hlt := beN_lt ((s.data.toList.drop i).take 8)
    rw [hl8] at hlt
    have e : u64 (numAt s i) = beN ((s.data.toList.drop i).take 8) := by
      unfold numAt u64
      have : (256 : Nat) ^ 8 = 18446744073709551616 := rfl
      rw [IntKind.wrap_i64]; omega
    rw [e]
    conv => rhs; rw [← beL_beN ((s.data.toList.drop i).take 8), hl8]
  rw [num 1 (by omega) h1, num 9 (by omega) h9]
  have e1 : s.data.toList = (s.data.toList.take 1) ++ ((s.data.toList.drop 1).take 8 ++ (s.data.toList.drop 9).take 8) := by
    have h3 : (s.data.toList.drop 9).take 8 = s.data.toList.drop 9 := List.take_of_length_le (by rw [List.length_drop]; omega)
    have h4 : (s.data.toList.drop 1).take 8 ++ s.data.toList.drop 9 = s.data.toList.drop 1 := by
      have := List.take_append_drop 8 (s.data.toList.drop 1)
      rwa [List.drop_drop] at this
    rw [h3, h4, List.take_append_drop]
  have e0 : flagB (decide ((byte0 s).toNat = 1)) = byte0 s := by
    rw [← UInt8.toNat_inj]
    rcases (by omega : (byte0 s).toNat = 0 ∨ (byte0 s).toNat = 1) with h | h <;> rw [h] <;> rfl
  have e2 : s.data.toList.take 1 = [byte0 s] := by
    unfold byte0
    match hq : s.data.toList, hl with
    | x :: l, _ => rfl
  rw [e0]
  conv => rhs; rw [e1, e2]
  rfl
theorem ent_writ (s : ByteArray) (h : entOk s = true) : numsB [entN s] = s := by
  have h' := h
  simp only [entOk, Bool.and_eq_true, decide_eq_true_eq] at h'
  obtain ⟨hz, h0⟩ := h'
  have hl : s.data.toList.length = 8 := by rw [data_len]; exact hz
  have hn : entN s = numAt s 0 := by unfold entN; rw [h]; rfl
  apply bytes_ext
  have : (numsB [entN s]).data.toList = beL 8 (u64 (entN s)) := by simp [numsB, numsL]
  rw [this, hn]
  have hl8 : ((s.data.toList.drop 0).take 8).length = 8 := by rw [List.length_take, List.length_drop]; omega
  have hlt := beN_lt ((s.data.toList.drop 0).take 8)
  rw [hl8] at hlt
  have e : u64 (numAt s 0) = beN ((s.data.toList.drop 0).take 8) := by
    unfold numAt u64
    have : (256 : Nat) ^ 8 = 18446744073709551616 := rfl
    rw [IntKind.wrap_i64]; omega
  rw [e]
  have h8 := beL_beN ((s.data.toList.drop 0).take 8)
  rw [hl8] at h8
  rw [h8, List.drop_zero, List.take_of_length_le (by omega)]
/-- What a text says as an inode, as a name. -/
theorem ino_says (s : ByteArray) : ∃ (jg : Bool) (ja jb : Int), inoR s = .tuple #[inoV jg ja jb, .bool (inoOk s)] ∧ (inoOk s = true → inodeB jg ja jb = s) := by
  unfold inoR
  cases h : inoOk s
  · exact ⟨false, 0, 0, rfl, fun h => by cases h⟩
  · exact ⟨_, _, _, rfl, fun _ => ino_writ s h⟩
theorem num_says (s : ByteArray) (i j : Nat) (hij : i + 8 ≤ j) (hj : j ≤ s.size) : ∃ r : Int, (∀ W, Calls Tryd.prog 24 #[.string (s.extract i j)] W fun e w' => e = .returned (.int .i64 r) ∧ W = w') ∧ (fitsB (numAt s i) = true → 0 ≤ r) ∧ (fitsB (numAt s i) = false → r < 0) := by
  refine ⟨numR (beN ((s.data.toList.drop i).take 8)), fun W => ?_, fun h => ?_, fun h => ?_⟩
  · have := ref_number (s.extract i j) W (by simp; omega)
    rwa [extract_take _ _ _ _ hij] at this
  · rw [← numR_fits] at h; simpa using h
  · rw [← numR_fits] at h; simpa using h

abbrev A2 (a b : Int) : Array Value := #[.int .i64 a, .int .i64 b]
abbrev inoC (g : Bool) (a b : Int) : Array Value := #[.bool g, .int .i64 a, .int .i64 b]
theorem cells2 {W : World} {p : Nat} {a b : Int} {t : TypeId} (h : W.heap[p]? = some (.cells (A2 a b) t (0, 0))) : W.cell? ⟨p, 0, none⟩ = some (.int .i64 a) ∧ W.cell? ⟨p, 1, none⟩ = some (.int .i64 b) :=
  ⟨(row_cell h 0 rfl).1, (row_cell h 1 rfl).1⟩
theorem cellsI {W : World} {p : Nat} {g : Bool} {a b : Int} {t : TypeId} (h : W.heap[p]? = some (.cells (inoC g a b) t (0, 0))) : W.cell? ⟨p, 0, none⟩ = some (.bool g) ∧ W.cell? ⟨p, 1, none⟩ = some (.int .i64 a) ∧ W.cell? ⟨p, 2, none⟩ = some (.int .i64 b) :=
  ⟨(row_cell h 0 rfl).1, (row_cell h 1 rfl).1, (row_cell h 2 rfl).1⟩

end Go.Proofs.YtmomphjhlbampaaDoor
