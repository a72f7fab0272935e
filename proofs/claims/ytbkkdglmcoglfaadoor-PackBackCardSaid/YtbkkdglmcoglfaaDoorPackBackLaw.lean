/-
  Nodes that are packed come out again, in order: in plain words.
-/
import Derived.Test.YtbkkdglmcoglfaaDoorPackRowLaw
namespace Go.Proofs.YtbkkdglmcoglfaaDoor
open Go.RowKit

def rowK (j : Nat) (k : ByteArray) : ByteArray := encB j false false k ⟨#[]⟩
def catK : Nat → List ByteArray → ByteArray
  | _, [] => ⟨#[]⟩
  | j, k :: r => rowK j k ++ catK (j + 1) r
def goodK (j : Nat) (k : ByteArray) : Bool := goodN j false k ⟨#[]⟩
theorem app_assocK (a b c : ByteArray) : a ++ b ++ c = a ++ (b ++ c) := bytes_ext (by simp only [cat_list, List.append_assoc])
theorem empty_appK (s : ByteArray) : (⟨#[]⟩ : ByteArray) ++ s = s := bytes_ext (by rw [cat_list]; rfl)
theorem app_emptyK (s : ByteArray) : s ++ (⟨#[]⟩ : ByteArray) = s := bytes_ext (by rw [cat_list]; exact List.append_nil _)
theorem catK_snoc : ∀ (l : List ByteArray) (k : ByteArray) (j : Nat), catK j (l ++ [k]) = catK j l ++ rowK (j + l.length) k
  | [], k, j => by simp only [List.nil_append, catK, empty_appK, app_emptyK, List.length_nil, Nat.add_zero]
  | x :: l, k, j => by
    simp only [List.cons_append, catK, catK_snoc l k, app_assocK, List.length_cons]
    rw [show j + 1 + l.length = j + (l.length + 1) by omega]
theorem rowK_size {j : Nat} {k : ByteArray} (h : goodK j k = true) : (rowK j k).size = 17 + k.size := by
  unfold rowK encB
  unfold goodK at h
  rw [h, if_pos rfl, sealed_size, ByteArray.size_append, ByteArray.size_append, headB_size]
  have hz : (⟨#[]⟩ : ByteArray).size = 0 := rfl
  omega
/-- All keys of a page are good where they stand. -/
def GoodKs : Nat → List ByteArray → Prop
  | _, [] => True
  | j, k :: r => goodK j k = true ∧ GoodKs (j + 1) r
theorem GoodKs.snoc {k : ByteArray} (l : List ByteArray) : ∀ {j : Nat}, GoodKs j l → goodK (j + l.length) k = true → GoodKs j (l ++ [k]) := by
  induction l with
  | nil => intro j _ h; exact ⟨h, trivial⟩
  | cons x l ih =>
    intro j hg h
    refine ⟨hg.1, ih hg.2 ?_⟩
    rw [show j + 1 + l.length = j + (x :: l).length by simp only [List.length_cons]; omega]
    exact h
theorem catK_length : ∀ {l : List ByteArray} {j : Nat}, GoodKs j l → l.length * 17 ≤ (catK j l).size
  | [], _, _ => by simp
  | x :: l, j, h => by
    have h1 := rowK_size h.1
    have h2 := catK_length h.2
    simp only [catK, ByteArray.size_append, List.length_cons]
    omega
theorem run_row : ∀ (ks : List ByteArray) (j : Nat) (A : ByteArray) (acc : List (NodeT × Int)) (f : Nat), GoodKs j ks → ks.length + 1 ≤ f →
    ∃ L : List (NodeT × Int), runU (A ++ catK j ks) f A.size acc = (acc ++ L, 0) ∧ L.length = ks.length ∧ ∀ i (h : i < L.length), L[i].1.q = ((j + i : Nat) : Int)
  | [], j, A, acc, f, _, hf => by
    obtain ⟨f, rfl⟩ : ∃ g, f = g + 1 := ⟨f - 1, by omega⟩
    have hd : decV (A ++ catK j []) A.size = .tuple #[(⟨0, false, false, ⟨#[]⟩, ⟨#[]⟩⟩ : NodeT).val, .int .i64 0, .int .i64 3] := by
      rw [show catK j [] = ⟨#[]⟩ from rfl, app_emptyK]
      unfold decV
      rw [if_neg (by omega), dif_neg (by simp)]
    refine ⟨[], ?_, rfl, fun i h => by simp at h⟩
    rw [runU_stop hd (by decide), if_pos rfl, List.append_nil]
  | k :: r, j, A, acc, f, hg, hf => by
    obtain ⟨f, rfl⟩ : ∃ g, f = g + 1 := ⟨f - 1, by omega⟩
    have hd : decV (A ++ rowK j k ++ catK (j + 1) r) A.size = .tuple #[(⟨j, false, false, k, ⟨#[]⟩⟩ : NodeT).val, .int .i64 ((A.size + (rowK j k).size : Nat) : Int), .int .i64 0] := decV_enc A (catK (j + 1) r) j false false k ⟨#[]⟩ hg.1
    have e : A ++ catK j (k :: r) = A ++ rowK j k ++ catK (j + 1) r := by simp only [catK, app_assocK]
    have hz : (A ++ rowK j k).size = A.size + (rowK j k).size := ByteArray.size_append
    obtain ⟨L, h1, h2, h3⟩ := run_row r (j + 1) (A ++ rowK j k) (acc ++ [((⟨j, false, false, k, ⟨#[]⟩⟩ : NodeT), (A.size : Int))]) f hg.2 (by simp only [List.length_cons] at hf; omega)
    refine ⟨((⟨j, false, false, k, ⟨#[]⟩⟩ : NodeT), (A.size : Int)) :: L, ?_, by simp only [List.length_cons, h2], fun i h => ?_⟩
    · rw [e]
      rw [runU_go hd, ← hz, h1, List.append_assoc]
      rfl
    · cases i with
      | zero => rfl
      | succ i =>
        have := h3 i (by simpa using h)
        simp only [List.getElem_cons_succ]
        rw [this]
        congr 1; omega
/-- A page is read whole, in order. -/
theorem unpack_page (j : Nat) (ks : List ByteArray) (h : GoodKs j ks) : ∃ L : List (NodeT × Int), unpackR (catK j ks) = (L, 0) ∧ L.length = ks.length ∧ ∀ i (h : i < L.length), L[i].1.q = ((j + i : Nat) : Int) := by
  have hl := catK_length h
  obtain ⟨L, h1, h2, h3⟩ := run_row ks j ⟨#[]⟩ [] ((catK j ks).size + 1) h (by omega)
  rw [empty_appK] at h1
  rw [show ((((⟨#[]⟩ : ByteArray).size : Nat) : Int)) = 0 from rfl, List.nil_append] at h1
  exact ⟨L, h1, h2, h3⟩

/-- Pages: what each begins with, and its keys. -/
def textsK (P : List (Nat × List ByteArray)) : List ByteArray := P.map fun p => catK p.1 p.2
/-- The pages follow one another; the last ends at n. -/
def RowP (z : Nat) : Nat → List (Nat × List ByteArray) → Nat → Prop
  | j, [], n => j = n
  | j, p :: r, n => p.1 = j ∧ p.2 ≠ [] ∧ GoodKs j p.2 ∧ (catK j p.2).size ≤ z ∧ RowP z (j + p.2.length) r n
theorem RowP.snoc {z : Nat} : ∀ {P : List (Nat × List ByteArray)} {j n : Nat} {ks : List ByteArray}, RowP z j P n → ks ≠ [] → GoodKs n ks → (catK n ks).size ≤ z → RowP z j (P ++ [(n, ks)]) (n + ks.length)
  | [], j, n, ks, h, h1, h2, h3 => by
    obtain rfl : j = n := h
    exact ⟨rfl, h1, h2, h3, rfl⟩
  | p :: P, j, n, ks, h, h1, h2, h3 => ⟨h.1, h.2.1, h.2.2.1, h.2.2.2.1, RowP.snoc h.2.2.2.2 h1 h2 h3⟩
theorem RowP.get {z : Nat} : ∀ {P : List (Nat × List ByteArray)} {j n : Nat}, RowP z j P n → ∀ i (h : i < P.length), P[i].2 ≠ [] ∧ GoodKs P[i].1 P[i].2 ∧ (catK P[i].1 P[i].2).size ≤ z ∧ RowP z P[i].1 (P.drop i) n
  | p :: P, j, n, h, 0, _ => by
    obtain ⟨h1, h2, h3, h4, h5⟩ := h
    subst h1
    exact ⟨h2, h3, h4, rfl, h2, h3, h4, h5⟩
  | p :: P, j, n, h, i + 1, hi => by
    have := RowP.get h.2.2.2.2 i (by simpa using hi)
    simpa using this
end Go.Proofs.YtbkkdglmcoglfaaDoor
