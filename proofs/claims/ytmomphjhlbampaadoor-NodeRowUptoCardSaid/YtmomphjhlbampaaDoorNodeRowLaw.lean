/-
  Nodes that stand one behind the other: their text, and what is read at each place.
-/
import Derived.Test.YtmomphjhlbampaaDoorNodeEncodes
namespace Go.Proofs.YtmomphjhlbampaaDoor
open Go.RowKit

def fitK (k : ByteArray) : Bool := decide (1 ≤ k.size ∧ k.size ≤ 64)
def rowE (j : Nat) (k : ByteArray) : ByteArray := encB j false false k k
def catL : Nat → List ByteArray → ByteArray
  | _, [] => ⟨#[]⟩
  | j, k :: r => rowE j k ++ catL (j + 1) r
theorem app_assoc (a b c : ByteArray) : a ++ b ++ c = a ++ (b ++ c) := bytes_ext (by simp only [cat_list, List.append_assoc])
theorem catL_append : ∀ (l m : List ByteArray) (j : Nat), catL j (l ++ m) = catL j l ++ catL (j + l.length) m
  | [], m, j => by simp only [List.nil_append, catL, empty_app, List.length_nil, Nat.add_zero]
  | k :: l, m, j => by
    simp only [List.cons_append, catL, catL_append l m, app_assoc, List.length_cons]
    rw [show j + 1 + l.length = j + (l.length + 1) by omega]
theorem rowE_good {j : Nat} {k : ByteArray} (hj : j ≤ 1099511627776) (hk : fitK k = true) : goodN j false k k = true := by
  simp only [fitK, decide_eq_true_eq] at hk
  exact goodN_iff.2 ⟨by omega, by omega, hk.1, hk.2, by omega, fun h => by cases h⟩
theorem rowE_size {j : Nat} {k : ByteArray} (hj : j ≤ 1099511627776) (hk : fitK k = true) : (rowE j k).size = 17 + k.size + k.size := encB_size (rowE_good hj hk)
/-- The keys that are taken. -/
def sel (l : List ByteArray) : List ByteArray := l.filter fitK
theorem sel_length (l : List ByteArray) : (sel l).length ≤ l.length := List.length_filter_le _ _
theorem sel_snoc (l : List ByteArray) (k : ByteArray) : sel (l ++ [k]) = if fitK k then sel l ++ [k] else sel l := by
  unfold sel
  rw [List.filter_append]
  cases h : fitK k <;> simp [h]
theorem sel_fit {l : List ByteArray} {k : ByteArray} (h : k ∈ sel l) : fitK k = true := (List.mem_filter.1 h).2
theorem catL_size : ∀ (l : List ByteArray) (j : Nat), (∀ k ∈ l, fitK k = true) → j + l.length ≤ 1099511627776 → (catL j l).size ≤ 145 * l.length
  | [], _, _, _ => Nat.zero_le _
  | k :: l, j, h, hj => by
    have h1 := rowE_size (j := j) (k := k) (by simp only [List.length_cons] at hj; omega) (h k (by simp))
    have h2 := catL_size l (j + 1) (fun x hx => h x (by simp [hx])) (by simp only [List.length_cons] at hj; omega)
    have h3 := h k (by simp)
    simp only [fitK, decide_eq_true_eq] at h3
    simp only [catL, ByteArray.size_append, List.length_cons]
    omega
def zerosB (n : Nat) : ByteArray := ⟨(List.replicate n (0 : UInt8)).toArray⟩
theorem zerosB_size (n : Nat) : (zerosB n).size = n := by show (List.replicate n (0 : UInt8)).toArray.size = n; simp
theorem zerosB_snoc (n : Nat) : zerosB n ++ ⟨#[0]⟩ = zerosB (n + 1) := by
  apply bytes_ext
  rw [cat_list]
  show List.replicate n (0 : UInt8) ++ [0] = List.replicate (n + 1) 0
  rw [List.replicate_succ']
/-- The i-th node is read where it stands. -/
theorem decV_row (L : List ByteArray) (Z : ByteArray) (h : ∀ k ∈ L, fitK k = true) (hl : L.length ≤ 1099511627776) (i : Nat) (hi : i < L.length) :
    ∃ m : Nat, decV (catL 0 L ++ Z) (catL 0 (L.take i)).size = .tuple #[nodeV i false false L[i] L[i], .int .i64 m, .int .i64 0] ∧ m = (catL 0 (L.take (i + 1))).size ∧ (catL 0 (L.take i)).size < m := by
  have hk := h L[i] (List.getElem_mem hi)
  have e1 : L = L.take i ++ (L[i] :: L.drop (i + 1)) := by rw [List.getElem_cons_drop, List.take_append_drop]
  have hlen : (L.take i).length = i := by rw [List.length_take]; omega
  have e2 : catL 0 L ++ Z = catL 0 (L.take i) ++ encB i false false L[i] L[i] ++ (catL (i + 1) (L.drop (i + 1)) ++ Z) := by
    conv => lhs; rw [e1]
    rw [catL_append, hlen]
    simp only [catL, rowE, app_assoc, Nat.zero_add]
  have e3 : catL 0 (L.take (i + 1)) = catL 0 (L.take i) ++ encB i false false L[i] L[i] := by
    rw [List.take_succ_eq_append_getElem hi, catL_append, hlen]
    simp only [catL, rowE, app_empty, Nat.zero_add]
  have hg := rowE_good (j := i) (k := L[i]) (by omega) hk
  have hd := decV_enc (catL 0 (L.take i)) (catL (i + 1) (L.drop (i + 1)) ++ Z) i false false L[i] L[i] hg
  refine ⟨_, by rw [e2]; exact hd, by rw [e3, ByteArray.size_append], ?_⟩
  have := encB_size (l := false) hg
  omega
/-- Behind the last there is none. -/
theorem decV_end (C : ByteArray) (n : Nat) : decV (C ++ zerosB n) C.size = decE 3 := by
  have hz : (C ++ zerosB n).size = C.size + n := by rw [ByteArray.size_append, zerosB_size]
  unfold decV
  rw [if_neg (by omega)]
  simp only [Int.toNat_natCast]
  split
  · rename_i h
    have hb : (C ++ zerosB n)[C.size] = 0 := by
      rw [byte_of rfl, cat_list, getD_app _ _ _ (by rw [data_len]; exact Nat.le_refl _), data_len, Nat.sub_self]
      show (List.replicate n (0 : UInt8)).getD 0 0 = 0
      cases n <;> rfl
    rw [if_pos hb]
  · rfl
end Go.Proofs.YtmomphjhlbampaaDoor
