/-
  A page's nodes, read in a row: what both ways answer, in plain words.
-/
import Derived.Test.YtbkkdglmcoglfaaDoorNodeLaw
namespace Go.Proofs.YtbkkdglmcoglfaaDoor
open Go.RowKit

/-- A node, in plain words. -/
structure NodeT where
  q : Int
  g : Bool
  l : Bool
  k : ByteArray
  v : ByteArray
def NodeT.cells (x : NodeT) : List Value := [.int .i64 x.q, .bool x.g, .bool x.l, .string x.k, .string x.v]
abbrev NodeT.val (x : NodeT) : Value := nodeV x.q x.g x.l x.k x.v
theorem decV_form2 (s : ByteArray) (n : Int) : ∃ x : NodeT × Int × Int, decV s n = .tuple #[x.1.val, .int .i64 x.2.1, .int .i64 x.2.2] := by
  obtain ⟨q, g, l, k, v, m, e, h⟩ := decV_form s n
  exact ⟨⟨⟨q, g, l, k, v⟩, m, e⟩, h⟩
noncomputable def decC (s : ByteArray) (n : Int) : NodeT × Int × Int := Classical.choose (decV_form2 s n)
theorem decC_spec (s : ByteArray) (n : Int) : decV s n = .tuple #[(decC s n).1.val, .int .i64 (decC s n).2.1, .int .i64 (decC s n).2.2] := Classical.choose_spec (decV_form2 s n)
/-- Where a node is read, the next place lies behind it, and not behind the text's end. -/
theorem decV_next {s : ByteArray} {n : Int} {x : NodeT} {m : Int} (h : decV s n = .tuple #[x.val, .int .i64 m, .int .i64 0]) : 0 ≤ n ∧ n + 17 ≤ m ∧ m ≤ s.size := by
  have hE : ∀ e : Int, e ≠ 0 → decE e ≠ .tuple #[x.val, .int .i64 m, .int .i64 0] := fun e he h => by
    injection h with h
    simp only [Array.mk.injEq, List.cons.injEq, Value.int.injEq, true_and, and_true] at h
    exact he h.2.2
  unfold decV at h
  split at h
  · exact absurd h (hE 1 (by decide))
  split at h
  · rename_i h1 h2
    split at h
    · exact absurd h (hE 3 (by decide))
    split at h
    · split at h
      · rename_i h13
        unfold decH decT at h
        simp only [cond_eq_ite] at h
        split at h
        · exact absurd h (hE 60 (by decide))
        split at h
        · exact absurd h (hE 61 (by decide))
        split at h
        · rename_i h60 _ _
          injection h with h
          simp only [Array.mk.injEq, List.cons.injEq, Value.int.injEq, true_and, and_true] at h
          obtain ⟨_, rfl⟩ := h
          simp only [decide_eq_true_eq] at h60
          have hz : (s.extract n.toNat s.size).size = s.size - n.toNat := by simp
          omega
        · exact absurd h (hE 4 (by decide))
      · exact absurd h (hE 60 (by decide))
    · exact absurd h (hE 4 (by decide))
  · exact absurd h (hE 3 (by decide))

/-- The nodes and their places, or what is wrong. -/
noncomputable def runU (s : ByteArray) : Nat → Int → List (NodeT × Int) → List (NodeT × Int) × Int
  | 0, _, acc => (acc, 0)
  | f + 1, at', acc =>
    if (decC s at').2.2 = 0 then runU s f (decC s at').2.1 (acc ++ [((decC s at').1, at')])
    else if (decC s at').2.2 = 3 then (acc, 0) else ([], (decC s at').2.2)
noncomputable def unpackR (s : ByteArray) : List (NodeT × Int) × Int := runU s (s.size + 1) 0 []
theorem runU_succ (s : ByteArray) (f : Nat) (at' : Int) (acc : List (NodeT × Int)) : runU s (f + 1) at' acc =
    if (decC s at').2.2 = 0 then runU s f (decC s at').2.1 (acc ++ [((decC s at').1, at')])
    else if (decC s at').2.2 = 3 then (acc, 0) else ([], (decC s at').2.2) := rfl
theorem runU_go {s : ByteArray} {f : Nat} {at' m : Int} {x : NodeT} {acc : List (NodeT × Int)} (h : decV s at' = .tuple #[x.val, .int .i64 m, .int .i64 0]) : runU s (f + 1) at' acc = runU s f m (acc ++ [(x, at')]) := by
  have hs := decC_spec s at'
  rw [h] at hs
  injection hs with hs
  simp only [Array.mk.injEq, List.cons.injEq, Value.int.injEq, Value.agg.injEq, Value.bool.injEq, Value.string.injEq, true_and, and_true] at hs
  obtain ⟨⟨h1, h2, h3, h4, h5⟩, h6, h7⟩ := hs
  have hx : x = (decC s at').1 := by
    cases x
    simp only at h1 h2 h3 h4 h5
    subst h1; subst h2; subst h3; subst h4; subst h5; rfl
  rw [runU_succ, if_pos h7.symm, ← h6, ← hx]
theorem runU_stop {s : ByteArray} {f : Nat} {at' m e : Int} {x : NodeT} {acc : List (NodeT × Int)} (h : decV s at' = .tuple #[x.val, .int .i64 m, .int .i64 e]) (he : e ≠ 0) : runU s (f + 1) at' acc = if e = 3 then (acc, 0) else ([], e) := by
  have hs := decC_spec s at'
  rw [h] at hs
  injection hs with hs
  simp only [Array.mk.injEq, List.cons.injEq, Value.int.injEq, true_and, and_true] at hs
  obtain ⟨_, _, h7⟩ := hs
  rw [runU_succ, ← h7, if_neg he]
/-- The cells of nodes one behind the other. -/
def nodesV (l : List (NodeT × Int)) : List Value := l.flatMap fun x => x.1.cells
theorem nodesV_append (l m : List (NodeT × Int)) : nodesV (l ++ m) = nodesV l ++ nodesV m := by simp [nodesV]
theorem nodesV_length (l : List (NodeT × Int)) : (nodesV l).length = l.length * 5 := by
  induction l with
  | nil => rfl
  | cons x l ih =>
    have : nodesV (x :: l) = x.1.cells ++ nodesV l := rfl
    rw [this, List.length_append, ih, List.length_cons]
    show 5 + _ = _
    omega
theorem nodesV_get (l : List (NodeT × Int)) (i c : Nat) (hc : c < 5) (hi : i < l.length) : (nodesV l)[i * 5 + c]? = l[i].1.cells[c]? := by
  induction l generalizing i with
  | nil => simp at hi
  | cons x l ih =>
    have e : nodesV (x :: l) = x.1.cells ++ nodesV l := rfl
    have hl : x.1.cells.length = 5 := rfl
    rw [e]
    cases i with
    | zero => rw [Nat.zero_mul, Nat.zero_add, List.getElem?_append_left (by omega)]; rfl
    | succ i =>
      rw [List.getElem?_append_right (by omega), hl, show (i + 1) * 5 + c - 5 = i * 5 + c by omega]
      exact ih i (by simpa using hi)
def placesV (l : List (NodeT × Int)) : List Int := l.map (·.2)
end Go.Proofs.YtbkkdglmcoglfaaDoor
