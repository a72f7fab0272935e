/-
  The bytes of every node.
-/
import Derived.Test.YtdjkcmjhknabnaaDoorNodeDecodes
namespace Go.Proofs.YtdjkcmjhknabnaaDoor
open Go.RowKit

/-- A node's block, and its cells. -/
theorem node_cells {W : World} {b : Nat} {q : Int} {g l : Bool} {k v : ByteArray} {t : TypeId} (h : W.heap[b]? = some (.cells (nodeC q g l k v) t (0, 0))) :
    W.cell? ⟨b, 0, none⟩ = some (.int .i64 q) ∧ W.cell? ⟨b, 1, none⟩ = some (.bool g) ∧ W.cell? ⟨b, 2, none⟩ = some (.bool l) ∧ W.cell? ⟨b, 3, none⟩ = some (.string k) ∧ W.cell? ⟨b, 4, none⟩ = some (.string v) :=
  ⟨(row_cell h 0 rfl).1, (row_cell h 1 rfl).1, (row_cell h 2 rfl).1, (row_cell h 3 rfl).1, (row_cell h 4 rfl).1⟩
theorem heap_lt {W : World} {b : Nat} {o : Obj} (h : W.heap[b]? = some o) : b < W.heap.size := by
  rcases Nat.lt_or_ge b W.heap.size with h1 | h1
  · exact h1
  · rw [Array.getElem?_eq_none h1] at h; cases h
theorem below_trans {B : Nat} {w W W' : World} (h : Below B w W) (hB : B ≤ W.heap.size) (hb : Below W.heap.size W W') : Below B w W' := h.trans (hb.mono hB)

end Go.Proofs.YtdjkcmjhknabnaaDoor
