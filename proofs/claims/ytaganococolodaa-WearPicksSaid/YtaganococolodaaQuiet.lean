/-
  A region that draws its order, whose operations only read and whose callees may lay new blocks: walked once, in the order of the text.
-/
import Derived.Lib.QuietBelow
import Derived.BigQuiet
namespace Go.Proofs.Ytaganococolodaa
open Go.Sort Go.RowKit

/-- A cell of an old block, in every world of the class. -/
theorem rg_cell {w : World} {d : Nat} {os : Array Obj} (b o : Nat) (h : b < w.heap.size) : (grow (redrawn w d) os).cell? ⟨b, o, none⟩ = w.cell? ⟨b, o, none⟩ :=
  (below_regrown w d os).cell (p := ⟨b, o, none⟩) h
theorem rg_cell_eq {w : World} {b o : Nat} {v : Value} (h : w.cell? ⟨b, o, none⟩ = some v) (d : Nat) (os : Array Obj) : (grow (redrawn w d) os).cell? ⟨b, o, none⟩ = some v := cell_regrown h d os
/-- A callee's contract that ends in 'Below', met in a world of the class. -/
theorem rg_call {P : Program} {f : FuncId} {args : Array Value} {w : World} {d : Nat} {os : Array Obj} {v : Value}
    (h : Calls P f args (grow (redrawn w d) os) fun e w' => e = .returned v ∧ Below (grow (redrawn w d) os).heap.size (grow (redrawn w d) os) w') : Calls P f args (grow (redrawn w d) os) fun e w'' => e = .returned v ∧ ∃ p : Regrown, w'' = grow (redrawn w p.d) p.os :=
  Calls.regrown_of h
/-- Behind it: some world, as the old one was below its end. -/
theorem rg_end {w w' : World} (h : ∃ p : Regrown, w' = grow (redrawn w p.d) p.os) : Below w.heap.size w w' := by
  obtain ⟨p, rfl⟩ := h
  exact below_regrown w p.d p.os
end Go.Proofs.Ytaganococolodaa
