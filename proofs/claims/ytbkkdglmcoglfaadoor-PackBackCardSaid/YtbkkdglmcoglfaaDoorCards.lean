/-
  DERIVED. GIVEN WITH THE SEED: THE CARDS: each row of YtbkkdglmcoglfaaDoorRows.lean that lists a variable, with what it lists TIED to the program's text (the seventh form; the later family's looks); each row that meets fmt, with fmt's text TOLD by the authors' own Lean function (tested against real Go, not proved from fmt's source: count such statements apart). THE CARD IS WHAT COUNTS. Prove the row's statement (the work); the ties are given (YtbkkdglmcoglfaaDoorTie.lean); close each card by the builder's one call (the guide's Derived/Test/ToyasCard.lean, 'card_holds'). Laid BY PROGRAM, IN A SANDBOX (cutbox-door.mjs). By AI agents, Wed Nov 11 2026. No macro, syntax, notation, axiom, sorry.
-/
import Derived.Test.YtbkkdglmcoglfaaDoorRows
import GoSem.ClaimSeven
namespace Go.Proofs.YtbkkdglmcoglfaaDoor
namespace Rows

/-- THE TIED CARD OF 'chertlaw13.PackUnpacks'. -/
def packUnpacksCard : Claim7 := { stood := { row := packUnpacksRow, standIns := [], harness := (true, "c1bd24ca4b5b3c2eef6b3062ae60be6410173475e218a9cec9ea93c235b12f14"), looks := false }, kinds := [], alts := [], laidByText := true, laidKinds := [.data], laidTests := true, laidLooks := .later }
def PackUnpacksCardSaid : Prop := Claim7.holds Tryd.pinned (.plain (OpenSpec.ofChange packUnpacksSpec)) packUnpacksCard

/-- THE TIED CARD OF 'chertlaw13.PackBack'. -/
def packBackCard : Claim7 := { stood := { row := packBackRow, standIns := [], harness := (true, "c1bd24ca4b5b3c2eef6b3062ae60be6410173475e218a9cec9ea93c235b12f14"), looks := false }, kinds := [], alts := [], laidByText := true, laidKinds := [.data], laidTests := true, laidLooks := .later }
def PackBackCardSaid : Prop := Claim7.holds Tryd.pinned (.plain (OpenSpec.ofChange packBackSpec)) packBackCard

/-- THE SECOND FORM's CARD OF 'chertlaw13.PackUnpacks'. -/
def packUnpacksUptoCard : Claim7 := { stood := { row := packUnpacksUptoRow, standIns := [], harness := (true, "c1bd24ca4b5b3c2eef6b3062ae60be6410173475e218a9cec9ea93c235b12f14"), looks := false }, kinds := [], alts := [], laidByText := true, laidKinds := [.data], laidTests := true, laidLooks := .later }
def PackUnpacksUptoCardSaid : Prop := Claim7.holds Tryd.pinned (.plain (OpenSpec.upto packUnpacksSpec)) packUnpacksUptoCard

/-- THE SECOND FORM's CARD OF 'chertlaw13.PackBack'. -/
def packBackUptoCard : Claim7 := { stood := { row := packBackUptoRow, standIns := [], harness := (true, "c1bd24ca4b5b3c2eef6b3062ae60be6410173475e218a9cec9ea93c235b12f14"), looks := false }, kinds := [], alts := [], laidByText := true, laidKinds := [.data], laidTests := true, laidLooks := .later }
def PackBackUptoCardSaid : Prop := Claim7.holds Tryd.pinned (.plain (OpenSpec.upto packBackSpec)) packBackUptoCard
end Rows
end Go.Proofs.YtbkkdglmcoglfaaDoor
