/-
  DERIVED. GIVEN WITH THE SEED: THE CARDS: each row of YtkgacnenmflegaaGreatDoorRows.lean that lists a variable, with what it lists TIED to the program's text (the seventh form; the later family's looks); each row that meets fmt, with fmt's text TOLD by the authors' own Lean function (tested against real Go, not proved from fmt's source: count such statements apart). THE CARD IS WHAT COUNTS. Prove the row's statement (the work); the ties are given (YtkgacnenmflegaaGreatDoorTie.lean); close each card by the builder's one call (the guide's Derived/Test/ToyasCard.lean, 'card_holds'). Laid BY PROGRAM, IN A SANDBOX (cutbox-door.mjs). By AI agents, Wed Nov 11 2026. No macro, syntax, notation, axiom, sorry.
-/
import Derived.Test.YtkgacnenmflegaaGreatDoorRows
import GoSem.ClaimSeven
namespace Go.Proofs.YtkgacnenmflegaaGreatDoor
namespace Rows

/-- THE TIED CARD OF 'cherttop.TopRoom'. -/
def topRoomCard : Claim7 := { stood := { row := topRoomRow, standIns := [], harness := (true, "02e6038f56dfc3a4441019478cdc6a977dfe1d1b71f30d7c74b2b16d3a2e9073"), looks := false }, kinds := [], alts := [], laidByText := true, laidKinds := [.data], laidTests := true, laidLooks := .later }
def TopRoomCardSaid : Prop := Claim7.holds Tryz.pinned (.plain (OpenSpec.ofChange topRoomSpec)) topRoomCard

/-- THE TIED CARD OF 'cherttop.TopTorn'. -/
def topTornCard : Claim7 := { stood := { row := topTornRow, standIns := [], harness := (true, "02e6038f56dfc3a4441019478cdc6a977dfe1d1b71f30d7c74b2b16d3a2e9073"), looks := false }, kinds := [], alts := [], laidByText := true, laidKinds := [.data], laidTests := true, laidLooks := .later }
def TopTornCardSaid : Prop := Claim7.holds Tryz.pinned (.plain (OpenSpec.ofChange topTornSpec)) topTornCard

/-- THE TIED CARD OF 'cherttop.TopPairBack'. -/
def topPairBackCard : Claim7 := { stood := { row := topPairBackRow, standIns := [], harness := (true, "02e6038f56dfc3a4441019478cdc6a977dfe1d1b71f30d7c74b2b16d3a2e9073"), looks := false }, kinds := [], alts := [], laidByText := true, laidKinds := [.data], laidTests := true, laidLooks := .later }
def TopPairBackCardSaid : Prop := Claim7.holds Tryz.pinned (.plain (OpenSpec.ofChange topPairBackSpec)) topPairBackCard

/-- THE TIED CARD OF 'cherttop.TopAtomic'. -/
def topAtomicCard : Claim7 := { stood := { row := topAtomicRow, standIns := [], harness := (true, "02e6038f56dfc3a4441019478cdc6a977dfe1d1b71f30d7c74b2b16d3a2e9073"), looks := false }, kinds := [], alts := [], laidByText := true, laidKinds := [.data], laidTests := true, laidLooks := .later }
def TopAtomicCardSaid : Prop := Claim7.holds Tryz.pinned (.plain (OpenSpec.ofChange topAtomicSpec)) topAtomicCard

/-- THE TIED CARD OF 'cherttop.TopFound'. -/
def topFoundCard : Claim7 := { stood := { row := topFoundRow, standIns := [], harness := (true, "02e6038f56dfc3a4441019478cdc6a977dfe1d1b71f30d7c74b2b16d3a2e9073"), looks := false }, kinds := [], alts := [], laidByText := true, laidKinds := [.data], laidTests := true, laidLooks := .later }
def TopFoundCardSaid : Prop := Claim7.holds Tryz.pinned (.plain (OpenSpec.ofChange topFoundSpec)) topFoundCard

/-- THE SECOND FORM's CARD OF 'cherttop.TopRoom'. -/
def topRoomUptoCard : Claim7 := { stood := { row := topRoomUptoRow, standIns := [], harness := (true, "02e6038f56dfc3a4441019478cdc6a977dfe1d1b71f30d7c74b2b16d3a2e9073"), looks := false }, kinds := [], alts := [], laidByText := true, laidKinds := [.data], laidTests := true, laidLooks := .later }
def TopRoomUptoCardSaid : Prop := Claim7.holds Tryz.pinned (.plain (OpenSpec.upto topRoomSpec)) topRoomUptoCard

/-- THE SECOND FORM's CARD OF 'cherttop.TopTorn'. -/
def topTornUptoCard : Claim7 := { stood := { row := topTornUptoRow, standIns := [], harness := (true, "02e6038f56dfc3a4441019478cdc6a977dfe1d1b71f30d7c74b2b16d3a2e9073"), looks := false }, kinds := [], alts := [], laidByText := true, laidKinds := [.data], laidTests := true, laidLooks := .later }
def TopTornUptoCardSaid : Prop := Claim7.holds Tryz.pinned (.plain (OpenSpec.upto topTornSpec)) topTornUptoCard

/-- THE SECOND FORM's CARD OF 'cherttop.TopPairBack'. -/
def topPairBackUptoCard : Claim7 := { stood := { row := topPairBackUptoRow, standIns := [], harness := (true, "02e6038f56dfc3a4441019478cdc6a977dfe1d1b71f30d7c74b2b16d3a2e9073"), looks := false }, kinds := [], alts := [], laidByText := true, laidKinds := [.data], laidTests := true, laidLooks := .later }
def TopPairBackUptoCardSaid : Prop := Claim7.holds Tryz.pinned (.plain (OpenSpec.upto topPairBackSpec)) topPairBackUptoCard

/-- THE SECOND FORM's CARD OF 'cherttop.TopAtomic'. -/
def topAtomicUptoCard : Claim7 := { stood := { row := topAtomicUptoRow, standIns := [], harness := (true, "02e6038f56dfc3a4441019478cdc6a977dfe1d1b71f30d7c74b2b16d3a2e9073"), looks := false }, kinds := [], alts := [], laidByText := true, laidKinds := [.data], laidTests := true, laidLooks := .later }
def TopAtomicUptoCardSaid : Prop := Claim7.holds Tryz.pinned (.plain (OpenSpec.upto topAtomicSpec)) topAtomicUptoCard

/-- THE SECOND FORM's CARD OF 'cherttop.TopFound'. -/
def topFoundUptoCard : Claim7 := { stood := { row := topFoundUptoRow, standIns := [], harness := (true, "02e6038f56dfc3a4441019478cdc6a977dfe1d1b71f30d7c74b2b16d3a2e9073"), looks := false }, kinds := [], alts := [], laidByText := true, laidKinds := [.data], laidTests := true, laidLooks := .later }
def TopFoundUptoCardSaid : Prop := Claim7.holds Tryz.pinned (.plain (OpenSpec.upto topFoundSpec)) topFoundUptoCard
end Rows
end Go.Proofs.YtkgacnenmflegaaGreatDoor
