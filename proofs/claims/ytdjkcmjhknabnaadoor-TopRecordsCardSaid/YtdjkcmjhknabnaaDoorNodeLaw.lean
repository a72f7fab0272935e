/-
  What Decode answers, by one function for the code and the document; what is encoded is decoded.
-/
import Derived.Test.YtdjkcmjhknabnaaDoorNodeDecR2
namespace Go.Proofs.YtdjkcmjhknabnaaDoor
open Go.RowKit

def decH (t : ByteArray) (h : 13 ≤ t.size) (n : Nat) : Value :=
  decT t n t[1].toNat (17 + t[10].toNat + t[11].toNat * 256 + t[12].toNat) (13 + t[10].toNat) (17 + t[10].toNat + t[11].toNat * 256 + t[12].toNat - 4)
    (IntKind.i64.wrap (beN ((t.extract 2 t.size).data.toList.take 8))) (decide (t[1].toNat % 2 = 1)) (decide (t[1].toNat / 2 % 2 = 1))
def decV (s : ByteArray) (n : Int) : Value :=
  if n < 0 ∨ (s.size : Int) < n then decE 1
  else if h : n.toNat < s.size then
    if s[n.toNat] = 0 then decE 3 else if s[n.toNat] = 78 then
      if h13 : 13 ≤ (s.extract n.toNat s.size).size then decH (s.extract n.toNat s.size) h13 n.toNat else decE 60
    else decE 4
  else decE 3
theorem headF (t : ByteArray) (h : 13 ≤ t.size) : HeadF t t[1].toNat t[10].toNat (17 + t[10].toNat + t[11].toNat * 256 + t[12].toNat) (13 + t[10].toNat) (17 + t[10].toNat + t[11].toNat * 256 + t[12].toNat - 4)
    (IntKind.i64.wrap (beN ((t.extract 2 t.size).data.toList.take 8))) (decide (t[1].toNat % 2 = 1)) (decide (t[1].toNat / 2 % 2 = 1)) := ⟨h, rfl, rfl, rfl, rfl, rfl, rfl, rfl, rfl⟩

theorem node_decode (s : ByteArray) (n : Int) (w : World) (hs : s.size ≤ 140737488351232) (hnib : Nib w) :
    Calls Tryd.prog 7 #[.string s, .int .i64 n] w fun e w' => e = .returned (decV s n) ∧ Below w.heap.size w w' := by
  unfold decV
  by_cases h1 : n < 0 ∨ (s.size : Int) < n
  · rw [if_pos h1]; exact node_decode_arg s n w h1
  rw [if_neg h1]
  obtain ⟨m, rfl⟩ : ∃ m : Nat, n = m := ⟨n.toNat, by omega⟩
  simp only [Int.toNat_natCast]
  by_cases h2 : m < s.size
  · rw [dif_pos h2]
    by_cases h3 : s[m] = 0
    · rw [if_pos h3]; exact node_decode_none s m w h2 h3
    rw [if_neg h3]
    by_cases h4 : s[m] = 78
    · rw [if_pos h4]
      by_cases h5 : 13 ≤ (s.extract m s.size).size
      · rw [dif_pos h5]; exact node_decode_rest s m w h2 h4 hs _ _ _ _ _ _ _ _ (headF _ h5) hnib _ rfl
      · rw [dif_neg h5]; exact node_decode_60 s m w h2 h4 (by simp at h5; omega)
    · rw [if_neg h4]; exact node_decode_form s m w h2 h3 h4
  · rw [dif_neg h2]
    obtain rfl : m = s.size := by omega
    exact node_decode_end s w
/-- The answer's form. -/
theorem decV_form (s : ByteArray) (n : Int) : ∃ (q : Int) (g l : Bool) (k v : ByteArray) (m e : Int), decV s n = .tuple #[nodeV q g l k v, .int .i64 m, .int .i64 e] := by
  have hE : ∀ e : Int, ∃ (q : Int) (g l : Bool) (k v : ByteArray) (m f : Int), decE e = .tuple #[nodeV q g l k v, .int .i64 m, .int .i64 f] := fun e => ⟨0, false, false, ⟨#[]⟩, ⟨#[]⟩, 0, e, rfl⟩
  unfold decV
  split
  · exact hE 1
  split
  · split
    · exact hE 3
    split
    · split
      · unfold decH decT
        simp only [cond_eq_ite]
        split
        · exact hE 60
        split
        · exact hE 61
        split
        · exact ⟨_, _, _, _, _, _, _, rfl⟩
        · exact hE 4
      · exact hE 60
    · exact hE 4
  · exact hE 3

/-- A byte of a text, by its list. -/
theorem byte_of {t : ByteArray} {l : List UInt8} (hl : t.data.toList = l) (i : Nat) (h : i < t.size) : t[i] = l.getD i 0 := by
  subst hl
  have : i < t.data.toList.length := by rw [data_len]; exact h
  rw [List.getD_eq_getElem?_getD, List.getElem?_eq_getElem this]
  rfl
theorem extract_list2 (t : ByteArray) (a b : Nat) : (t.extract a b).data.toList = (t.data.toList.drop a).take (b - a) := by
  rw [ByteArray.data_extract, Array.toList_extract, List.extract_eq_take_drop]

theorem getD_app (l m : List UInt8) (i : Nat) (h : l.length ≤ i) : (l ++ m).getD i 0 = m.getD (i - l.length) 0 := by
  simp only [List.getD_eq_getElem?_getD]
  rw [List.getElem?_append_right h]
theorem headB_list (q : Int) (g l : Bool) (k v : ByteArray) : (headB q g l k v).data.toList = 78 :: flB g l :: (beL 8 (u64 q) ++ [UInt8.ofNat k.size, 0, UInt8.ofNat v.size]) := by
  unfold headB sizesB numsB numsL
  simp
/-- What is encoded is decoded, wherever it stands. -/
theorem decV_enc (A B : ByteArray) (q : Int) (g l : Bool) (k v : ByteArray) (hg : goodN q g k v = true) :
    decV (A ++ encB q g l k v ++ B) A.size = .tuple #[nodeV q g l k v, .int .i64 ((A.size + (encB q g l k v).size : Nat) : Int), .int .i64 0] := by
  obtain ⟨hq0, hq1, hk1, hk2, hv2, _⟩ := goodN_iff.1 hg
  obtain ⟨E, hE⟩ : ∃ E, E = encB q g l k v := ⟨_, rfl⟩
  have hE1 : E = sealed (headB q g l k v ++ k ++ v) := by rw [hE, encB, hg]; rfl
  have hX : (headB q g l k v ++ k ++ v).data.toList = 78 :: flB g l :: (beL 8 (u64 q) ++ (UInt8.ofNat k.size :: 0 :: UInt8.ofNat v.size :: (k.data.toList ++ v.data.toList))) := by
    rw [cat_list, cat_list, headB_list]; simp
  have hEl : E.data.toList = 78 :: flB g l :: (beL 8 (u64 q) ++ (UInt8.ofNat k.size :: 0 :: UInt8.ofNat v.size :: (k.data.toList ++ (v.data.toList ++ le4 (Crc.sum (headB q g l k v ++ k ++ v).data.toList))))) := by
    rw [hE1, sealed_list, hX]; simp
  have hEz : E.size = 17 + k.size + v.size := by rw [hE1, sealed_size, ByteArray.size_append, ByteArray.size_append, headB_size]; omega
  rw [← hE]
  generalize le4 (Crc.sum (headB q g l k v ++ k ++ v).data.toList) = C at hEl
  have hs : (A ++ E ++ B).size = A.size + E.size + B.size := by simp
  have hlt : A.size < (A ++ E ++ B).size := by omega
  have ht : (A ++ E ++ B).extract A.size (A ++ E ++ B).size = E ++ B := by
    apply bytes_ext
    rw [extract_list2, cat_list, cat_list, cat_list, List.append_assoc, List.drop_append_of_le_length (by rw [data_len]; exact Nat.le_refl _), List.drop_of_length_le (by rw [data_len]; exact Nat.le_refl _), List.nil_append]
    exact List.take_of_length_le (by simp; omega)
  have hb : (A ++ E ++ B)[A.size] = 78 := by
    rw [byte_of rfl, cat_list, cat_list, List.append_assoc]
    rw [getD_app _ _ _ (by rw [data_len]; exact Nat.le_refl _), data_len, Nat.sub_self, hEl]
    rfl
  unfold decV
  rw [if_neg (by omega)]
  simp only [Int.toNat_natCast]
  rw [dif_pos hlt, if_neg (by rw [hb]; decide), if_pos hb]
  simp only [ht]
  have htl : (E ++ B).data.toList = 78 :: flB g l :: (beL 8 (u64 q) ++ (UInt8.ofNat k.size :: 0 :: UInt8.ofNat v.size :: (k.data.toList ++ (v.data.toList ++ (C ++ B.data.toList))))) := by
    rw [cat_list, hEl]; simp
  have hts : (E ++ B).size = 17 + k.size + v.size + B.size := by rw [ByteArray.size_append, hEz]
  have h13 : 13 ≤ (E ++ B).size := by omega
  rw [dif_pos h13]
  have h8 := beL_length 8 (u64 q)
  have b1 : (E ++ B)[1] = flB g l := by rw [byte_of htl]; rfl
  have g10 : ∀ (i : Nat) (R : List UInt8), (78 :: flB g l :: (beL 8 (u64 q) ++ R)).getD (i + 10) 0 = R.getD i 0 := fun i R => by
    rw [show i + 10 = (i + 8) + 2 from rfl, List.getD_cons_succ, List.getD_cons_succ, getD_app _ _ _ (by omega), h8, Nat.add_sub_cancel]
  have b10 : (E ++ B)[10].toNat = k.size := by
    rw [byte_of htl, show (10 : Nat) = 0 + 10 from rfl, g10]
    simp only [List.getD_cons_zero, UInt8.toNat_ofNat']; omega
  have b11 : (E ++ B)[11].toNat = 0 := by
    rw [byte_of htl, show (11 : Nat) = 1 + 10 from rfl, g10]; rfl
  have b12 : (E ++ B)[12].toNat = v.size := by
    rw [byte_of htl, show (12 : Nat) = 2 + 10 from rfl, g10]
    simp only [List.getD_cons_zero, List.getD_cons_succ, UInt8.toNat_ofNat']; omega
  unfold decH
  rw [b1, b10, b11, b12]
  have hz : 17 + k.size + 0 * 256 + v.size = E.size := by omega
  rw [hz]
  have x0 : (E ++ B).extract 0 E.size = E := by
    apply bytes_ext
    rw [extract_list2, List.drop_zero, cat_list, Nat.sub_zero, List.take_append_of_le_length (by rw [data_len]; exact Nat.le_refl _)]
    exact List.take_of_length_le (by rw [data_len]; exact Nat.le_refl _)
  have g13 : ∀ R : List UInt8, (78 :: flB g l :: (beL 8 (u64 q) ++ (UInt8.ofNat k.size :: 0 :: UInt8.ofNat v.size :: R))).drop 13 = R := fun R => by
    rw [show 13 = 11 + 2 from rfl]
    simp only [List.drop_succ_cons]
    rw [List.drop_append, h8, List.drop_of_length_le (by omega)]; rfl
  have xk : (E ++ B).extract 13 (13 + k.size) = k := by
    apply bytes_ext
    rw [extract_list2, htl, g13, Nat.add_sub_cancel_left, List.take_append_of_le_length (by rw [data_len]; exact Nat.le_refl _)]
    exact List.take_of_length_le (by rw [data_len]; exact Nat.le_refl _)
  have xv : (E ++ B).extract (13 + k.size) (E.size - 4) = v := by
    apply bytes_ext
    rw [extract_list2, htl, ← List.drop_drop, g13, List.drop_append_of_le_length (by rw [data_len]; exact Nat.le_refl _), List.drop_of_length_le (by rw [data_len]; exact Nat.le_refl _), List.nil_append]
    rw [List.take_append_of_le_length (by rw [data_len]; omega)]
    exact List.take_of_length_le (by rw [data_len]; omega)
  have xq : IntKind.i64.wrap (beN (((E ++ B).extract 2 (E ++ B).size).data.toList.take 8)) = q := by
    rw [extract_take _ _ _ _ (by omega), htl]
    simp only [List.drop_succ_cons, List.drop_zero]
    rw [List.take_append_of_le_length (by omega), List.take_of_length_le (by omega), beN_beL, Nat.mod_eq_of_lt (u64_lt q)]
    exact u64_wrap (by omega)
  rw [xq]
  have hf1 : (flB g l).toNat ≤ 3 := by cases g <;> cases l <;> decide
  have hf2 : decide ((flB g l).toNat % 2 = 1) = g := by cases g <;> cases l <;> decide
  have hf3 : decide ((flB g l).toNat / 2 % 2 = 1) = l := by cases g <;> cases l <;> decide
  rw [hf2, hf3]
  unfold decT
  have ho : opens E = true := by rw [hE1]; exact opens_sealed _
  rw [decide_eq_false (show ¬ (E ++ B).size < E.size by omega), x0, ho, decide_eq_true hf1, xk, xv, hg]
  rfl
end Go.Proofs.YtdjkcmjhknabnaaDoor
