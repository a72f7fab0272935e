/-
  Blocks that were laid in this call and that nobody writes any more: they stay, whatever is called.
-/
import Derived.Test.YtdjkcmjhknabnaaDoorMem
namespace Go.Proofs.YtdjkcmjhknabnaaDoor
open Go.RowKit

structure Held (w : World) (bs : List (Nat × Obj)) (W : World) : Prop where
  bel : Below w.heap.size w W
  has : ∀ x ∈ bs, x.1 < W.heap.size ∧ W.heap[x.1]? = some x.2
section
variable {w W W' : World} {bs : List (Nat × Obj)}
theorem Held.refl (w : World) : Held w [] w := ⟨Below.refl _ _, by simp⟩
theorem Held.step (h : Held w bs W) (hb : Below W.heap.size W W') : Held w bs W' :=
  ⟨h.bel.trans (hb.mono h.bel.size), fun x hx => ⟨Nat.lt_of_lt_of_le (h.has x hx).1 hb.size, (hb.block _ (h.has x hx).1).trans (h.has x hx).2⟩⟩
theorem Held.drew (h : Held w bs W) : Held w bs W.drew := ⟨h.bel.drew, h.has⟩
theorem Held.alloc (h : Held w bs W) (o : Obj) : Held w bs (W.alloc o) := h.step ((Below.refl _ _).alloc (Nat.le_refl _) o)
/-- A new block, held from now on. -/
theorem Held.lay (h : Held w bs W) (o : Obj) : Held w ((W.heap.size, o) :: bs) (W.alloc o) :=
  ⟨(h.alloc o).bel, fun x hx => by
    rcases List.mem_cons.1 hx with rfl | hx
    · exact ⟨by simp, heap_alloc_new W o⟩
    · exact (h.alloc o).has x hx⟩
theorem Held.cells (h : Held w bs W) {g : Nat} {cs : Array Value} {t : TypeId} {fr : Nat × Nat} (hx : (g, Obj.cells cs t fr) ∈ bs) (i : Nat) {v : Value} (hv : cs[i]? = some v) : W.cell? ⟨g, i, none⟩ = some v :=
  (cell_of_row W g i _ _ _ (h.has _ hx).2).trans hv
theorem Held.more (h : Held w bs W) {x : Nat × Obj} (hx : x.1 < W.heap.size ∧ W.heap[x.1]? = some x.2) : Held w (x :: bs) W :=
  ⟨h.bel, fun y hy => by
    rcases List.mem_cons.1 hy with rfl | hy
    · exact hx
    · exact h.has y hy⟩
end
end Go.Proofs.YtdjkcmjhknabnaaDoor
