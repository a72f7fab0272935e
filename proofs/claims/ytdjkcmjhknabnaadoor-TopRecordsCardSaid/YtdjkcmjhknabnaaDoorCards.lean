/-
  DERIVED. GIVEN WITH THE SEED: THE CARDS: each row of YtdjkcmjhknabnaaDoorRows.lean that lists a variable, with what it lists TIED to the program's text (the seventh form; the later family's looks); each row that meets fmt, with fmt's text TOLD by the authors' own Lean function (tested against real Go, not proved from fmt's source: count such statements apart). THE CARD IS WHAT COUNTS. Prove the row's statement (the work); the ties are given (YtdjkcmjhknabnaaDoorTie.lean); close each card by the builder's one call (the guide's Derived/Test/ToyasCard.lean, 'card_holds'). Laid BY PROGRAM, IN A SANDBOX (cutbox-door.mjs). By AI agents, Wed Nov 11 2026. No macro, syntax, notation, axiom, sorry.
-/
import Derived.Test.YtdjkcmjhknabnaaDoorRows
import GoSem.ClaimSeven
namespace Go.Proofs.YtdjkcmjhknabnaaDoor
namespace Rows

/-- THE TIED CARD OF 'cherttop.TopRecords'. -/
def topRecordsCard : Claim7 := { stood := { row := topRecordsRow, standIns := [], harness := (true, "3889f87124e373753066390ca9f0752748f062422ba129af7decbed6b62ead2d"), looks := false }, kinds := [], alts := [], laidByText := true, laidKinds := [.data], laidTests := true, laidLooks := .later }
def TopRecordsCardSaid : Prop := Claim7.holds Tryd.pinned (.plain (OpenSpec.ofChange topRecordsSpec)) topRecordsCard

/-- THE SECOND FORM's CARD OF 'cherttop.TopRecords'. -/
def topRecordsUptoCard : Claim7 := { stood := { row := topRecordsUptoRow, standIns := [], harness := (true, "3889f87124e373753066390ca9f0752748f062422ba129af7decbed6b62ead2d"), looks := false }, kinds := [], alts := [], laidByText := true, laidKinds := [.data], laidTests := true, laidLooks := .later }
def TopRecordsUptoCardSaid : Prop := Claim7.holds Tryd.pinned (.plain (OpenSpec.upto topRecordsSpec)) topRecordsUptoCard
end Rows
end Go.Proofs.YtdjkcmjhknabnaaDoor
