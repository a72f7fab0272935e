/-
  DERIVED. GIVEN WITH THE SEED: THE CARDS: each row of YtkdfbganhohbfaaDoorRows.lean that lists a variable, with what it lists TIED to the program's text (the seventh form; the later family's looks); each row that meets fmt, with fmt's text TOLD by the authors' own Lean function (tested against real Go, not proved from fmt's source: count such statements apart). THE CARD IS WHAT COUNTS. Prove the row's statement (the work); the ties are given (YtkdfbganhohbfaaDoorTie.lean); close each card by the builder's one call (the guide's Derived/Test/ToyasCard.lean, 'card_holds'). Laid BY PROGRAM, IN A SANDBOX (cutbox-door.mjs). By AI agents, Wed Nov 11 2026. No macro, syntax, notation, axiom, sorry.
-/
import Derived.Test.YtkdfbganhohbfaaDoorRows
import GoSem.ClaimSeven
namespace Go.Proofs.YtkdfbganhohbfaaDoor
namespace Rows

/-- THE TIED CARD OF 'cherttop.TopLinear'. -/
def topLinearCard : Claim7 := { stood := { row := topLinearRow, standIns := [], harness := (true, "c378c0790ae22d7a0fc2ea274c62eb710ebf7c6a947952f2d1cea0a59c232035"), looks := false }, kinds := [], alts := [], laidByText := true, laidKinds := [.data], laidTests := true, laidLooks := .later }
def TopLinearCardSaid : Prop := Claim7.holds Tryd.pinned (.plain (OpenSpec.ofChange topLinearSpec)) topLinearCard

/-- THE SECOND FORM's CARD OF 'cherttop.TopLinear'. -/
def topLinearUptoCard : Claim7 := { stood := { row := topLinearUptoRow, standIns := [], harness := (true, "c378c0790ae22d7a0fc2ea274c62eb710ebf7c6a947952f2d1cea0a59c232035"), looks := false }, kinds := [], alts := [], laidByText := true, laidKinds := [.data], laidTests := true, laidLooks := .later }
def TopLinearUptoCardSaid : Prop := Claim7.holds Tryd.pinned (.plain (OpenSpec.upto topLinearSpec)) topLinearUptoCard
end Rows
end Go.Proofs.YtkdfbganhohbfaaDoor
