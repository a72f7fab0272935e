/-
  DERIVED. GIVEN WITH THE SEED: THE CARDS: each row of YtnjmhfgplchogaaDoorRows.lean that lists a variable, with what it lists TIED to the program's text (the seventh form; the later family's looks); each row that meets fmt, with fmt's text TOLD by the authors' own Lean function (tested against real Go, not proved from fmt's source: count such statements apart). THE CARD IS WHAT COUNTS. Prove the row's statement (the work); the ties are given (YtnjmhfgplchogaaDoorTie.lean); close each card by the builder's one call (the guide's Derived/Test/ToyasCard.lean, 'card_holds'). Laid BY PROGRAM, IN A SANDBOX (cutbox-door.mjs). By AI agents, Wed Nov 11 2026. No macro, syntax, notation, axiom, sorry.
-/
import Derived.Test.YtnjmhfgplchogaaDoorRows
import GoSem.ClaimSeven
namespace Go.Proofs.YtnjmhfgplchogaaDoor
namespace Rows

/-- THE TIED CARD OF 'chertlaw03.CrcSums'. -/
def crcSumsCard : Claim7 := { stood := { row := crcSumsRow, standIns := [], harness := (true, "b22eb74650b5dc392c9706e82235368b5f77f3df5ca22bc12787b573343f0397"), looks := false }, kinds := [], alts := [], laidByText := true, laidKinds := [.data], laidTests := true, laidLooks := .later }
def CrcSumsCardSaid : Prop := Claim7.holds Tryd.pinned (.plain (OpenSpec.ofChange crcSumsSpec)) crcSumsCard

/-- THE TIED CARD OF 'chertlaw03.CrcThrees'. -/
def crcThreesCard : Claim7 := { stood := { row := crcThreesRow, standIns := [], harness := (true, "b22eb74650b5dc392c9706e82235368b5f77f3df5ca22bc12787b573343f0397"), looks := false }, kinds := [], alts := [], laidByText := true, laidKinds := [.data], laidTests := true, laidLooks := .later }
def CrcThreesCardSaid : Prop := Claim7.holds Tryd.pinned (.plain (OpenSpec.ofChange crcThreesSpec)) crcThreesCard

/-- THE TIED CARD OF 'chertlaw03.CrcSeals'. -/
def crcSealsCard : Claim7 := { stood := { row := crcSealsRow, standIns := [], harness := (true, "b22eb74650b5dc392c9706e82235368b5f77f3df5ca22bc12787b573343f0397"), looks := false }, kinds := [], alts := [], laidByText := true, laidKinds := [.data], laidTests := true, laidLooks := .later }
def CrcSealsCardSaid : Prop := Claim7.holds Tryd.pinned (.plain (OpenSpec.ofChange crcSealsSpec)) crcSealsCard

/-- THE TIED CARD OF 'chertlaw03.CrcTells'. -/
def crcTellsCard : Claim7 := { stood := { row := crcTellsRow, standIns := [], harness := (true, "b22eb74650b5dc392c9706e82235368b5f77f3df5ca22bc12787b573343f0397"), looks := false }, kinds := [], alts := [], laidByText := true, laidKinds := [.data], laidTests := true, laidLooks := .later }
def CrcTellsCardSaid : Prop := Claim7.holds Tryd.pinned (.plain (OpenSpec.ofChange crcTellsSpec)) crcTellsCard

/-- THE SECOND FORM's CARD OF 'chertlaw03.CrcSums'. -/
def crcSumsUptoCard : Claim7 := { stood := { row := crcSumsUptoRow, standIns := [], harness := (true, "b22eb74650b5dc392c9706e82235368b5f77f3df5ca22bc12787b573343f0397"), looks := false }, kinds := [], alts := [], laidByText := true, laidKinds := [.data], laidTests := true, laidLooks := .later }
def CrcSumsUptoCardSaid : Prop := Claim7.holds Tryd.pinned (.plain (OpenSpec.upto crcSumsSpec)) crcSumsUptoCard

/-- THE SECOND FORM's CARD OF 'chertlaw03.CrcThrees'. -/
def crcThreesUptoCard : Claim7 := { stood := { row := crcThreesUptoRow, standIns := [], harness := (true, "b22eb74650b5dc392c9706e82235368b5f77f3df5ca22bc12787b573343f0397"), looks := false }, kinds := [], alts := [], laidByText := true, laidKinds := [.data], laidTests := true, laidLooks := .later }
def CrcThreesUptoCardSaid : Prop := Claim7.holds Tryd.pinned (.plain (OpenSpec.upto crcThreesSpec)) crcThreesUptoCard

/-- THE SECOND FORM's CARD OF 'chertlaw03.CrcSeals'. -/
def crcSealsUptoCard : Claim7 := { stood := { row := crcSealsUptoRow, standIns := [], harness := (true, "b22eb74650b5dc392c9706e82235368b5f77f3df5ca22bc12787b573343f0397"), looks := false }, kinds := [], alts := [], laidByText := true, laidKinds := [.data], laidTests := true, laidLooks := .later }
def CrcSealsUptoCardSaid : Prop := Claim7.holds Tryd.pinned (.plain (OpenSpec.upto crcSealsSpec)) crcSealsUptoCard

/-- THE SECOND FORM's CARD OF 'chertlaw03.CrcTells'. -/
def crcTellsUptoCard : Claim7 := { stood := { row := crcTellsUptoRow, standIns := [], harness := (true, "b22eb74650b5dc392c9706e82235368b5f77f3df5ca22bc12787b573343f0397"), looks := false }, kinds := [], alts := [], laidByText := true, laidKinds := [.data], laidTests := true, laidLooks := .later }
def CrcTellsUptoCardSaid : Prop := Claim7.holds Tryd.pinned (.plain (OpenSpec.upto crcTellsSpec)) crcTellsUptoCard
end Rows
end Go.Proofs.YtnjmhfgplchogaaDoor
