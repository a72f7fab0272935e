/-
  A block known whole: its cells, what a store leaves of it.
-/
import Derived.Test.YtdjkcmjhknabnaaDoorMem
namespace Go.Proofs.YtdjkcmjhknabnaaDoor
open Go.RowKit

theorem row_cell {W : World} {g : Nat} {cs : Array Value} {t : TypeId} (h : W.heap[g]? = some (.cells cs t (0, 0))) (i : Nat) {v : Value} (hv : cs[i]? = some v) : W.cell? ⟨g, i, none⟩ = some v ∧ W.frozen? ⟨g, i, none⟩ = false :=
  ⟨(cell_of_row W g i _ _ _ h).trans hv, by simp [World.frozen?, h]⟩
theorem row_set {W : World} {g i : Nat} {cs : Array Value} {t : TypeId} {fr : Nat × Nat} (h : W.heap[g]? = some (.cells cs t fr)) (v : Value) : (W.setCell ⟨g, i, none⟩ v).heap[g]? = some (.cells (cs.setIfInBounds i v) t fr) := by
  have hlt : g < W.heap.size := (Array.getElem?_eq_some_iff.1 h).1
  simp [World.setCell, Array.getElem?_modify, h]
theorem row_other {W : World} {g i b : Nat} {o : Obj} (h : W.heap[b]? = some o) (hne : b ≠ g) (v : Value) : (W.setCell ⟨g, i, none⟩ v).heap[b]? = some o :=
  (Below.heap_setCell _ _ _ _ (by simpa using hne)).trans h
theorem row_alloc {W : World} {b : Nat} {o : Obj} (h : W.heap[b]? = some o) (X : Obj) : (W.alloc X).heap[b]? = some o :=
  (Below.heap_alloc W X b (by have := (Array.getElem?_eq_some_iff.1 h).1; omega)).trans h
end Go.Proofs.YtdjkcmjhknabnaaDoor
