/-
  DERIVED. GIVEN WITH THE SEED: THE CARDS: each row of YtmomphjhlbampaaDoorRows.lean that lists a variable, with what it lists TIED to the program's text (the seventh form; the later family's looks); each row that meets fmt, with fmt's text TOLD by the authors' own Lean function (tested against real Go, not proved from fmt's source: count such statements apart). THE CARD IS WHAT COUNTS. Prove the row's statement (the work); the ties are given (YtmomphjhlbampaaDoorTie.lean); close each card by the builder's one call (the guide's Derived/Test/ToyasCard.lean, 'card_holds'). Laid BY PROGRAM, IN A SANDBOX (cutbox-door.mjs). By AI agents, Wed Nov 11 2026. No macro, syntax, notation, axiom, sorry.
-/
import Derived.Test.YtmomphjhlbampaaDoorRows
import GoSem.ClaimSeven
namespace Go.Proofs.YtmomphjhlbampaaDoor
namespace Rows

/-- THE TIED CARD OF 'chertlaw12.NodeEncodes'. -/
def nodeEncodesCard : Claim7 := { stood := { row := nodeEncodesRow, standIns := [], harness := (true, "ce21213d69ac866c3c5a89e1d73490b6a8eae6796840914acc7e84ae785c6525"), looks := false }, kinds := [], alts := [], laidByText := true, laidKinds := [.data], laidTests := true, laidLooks := .later }
def NodeEncodesCardSaid : Prop := Claim7.holds Tryd.pinned (.plain (OpenSpec.ofChange nodeEncodesSpec)) nodeEncodesCard

/-- THE TIED CARD OF 'chertlaw12.NodeDecodes'. -/
def nodeDecodesCard : Claim7 := { stood := { row := nodeDecodesRow, standIns := [], harness := (true, "ce21213d69ac866c3c5a89e1d73490b6a8eae6796840914acc7e84ae785c6525"), looks := false }, kinds := [], alts := [], laidByText := true, laidKinds := [.data], laidTests := true, laidLooks := .later }
def NodeDecodesCardSaid : Prop := Claim7.holds Tryd.pinned (.plain (OpenSpec.ofChange nodeDecodesSpec)) nodeDecodesCard

/-- THE TIED CARD OF 'chertlaw12.NodeRow'. -/
def nodeRowCard : Claim7 := { stood := { row := nodeRowRow, standIns := [], harness := (true, "ce21213d69ac866c3c5a89e1d73490b6a8eae6796840914acc7e84ae785c6525"), looks := false }, kinds := [], alts := [], laidByText := true, laidKinds := [.data], laidTests := true, laidLooks := .later }
def NodeRowCardSaid : Prop := Claim7.holds Tryd.pinned (.plain (OpenSpec.ofChange nodeRowSpec)) nodeRowCard

/-- THE TIED CARD OF 'chertlaw12.NodeApart'. -/
def nodeApartCard : Claim7 := { stood := { row := nodeApartRow, standIns := [], harness := (true, "ce21213d69ac866c3c5a89e1d73490b6a8eae6796840914acc7e84ae785c6525"), looks := false }, kinds := [], alts := [], laidByText := true, laidKinds := [.data], laidTests := true, laidLooks := .later }
def NodeApartCardSaid : Prop := Claim7.holds Tryd.pinned (.plain (OpenSpec.ofChange nodeApartSpec)) nodeApartCard

/-- THE TIED CARD OF 'chertlaw12.NodeLabels'. -/
def nodeLabelsCard : Claim7 := { stood := { row := nodeLabelsRow, standIns := [], harness := (true, "ce21213d69ac866c3c5a89e1d73490b6a8eae6796840914acc7e84ae785c6525"), looks := false }, kinds := [], alts := [], laidByText := true, laidKinds := [.data], laidTests := true, laidLooks := .later }
def NodeLabelsCardSaid : Prop := Claim7.holds Tryd.pinned (.plain (OpenSpec.ofChange nodeLabelsSpec)) nodeLabelsCard

/-- THE TIED CARD OF 'chertlaw12.NodeValues'. -/
def nodeValuesCard : Claim7 := { stood := { row := nodeValuesRow, standIns := [], harness := (true, "ce21213d69ac866c3c5a89e1d73490b6a8eae6796840914acc7e84ae785c6525"), looks := false }, kinds := [], alts := [], laidByText := true, laidKinds := [.data], laidTests := true, laidLooks := .later }
def NodeValuesCardSaid : Prop := Claim7.holds Tryd.pinned (.plain (OpenSpec.ofChange nodeValuesSpec)) nodeValuesCard

/-- THE SECOND FORM's CARD OF 'chertlaw12.NodeEncodes'. -/
def nodeEncodesUptoCard : Claim7 := { stood := { row := nodeEncodesUptoRow, standIns := [], harness := (true, "ce21213d69ac866c3c5a89e1d73490b6a8eae6796840914acc7e84ae785c6525"), looks := false }, kinds := [], alts := [], laidByText := true, laidKinds := [.data], laidTests := true, laidLooks := .later }
def NodeEncodesUptoCardSaid : Prop := Claim7.holds Tryd.pinned (.plain (OpenSpec.upto nodeEncodesSpec)) nodeEncodesUptoCard

/-- THE SECOND FORM's CARD OF 'chertlaw12.NodeDecodes'. -/
def nodeDecodesUptoCard : Claim7 := { stood := { row := nodeDecodesUptoRow, standIns := [], harness := (true, "ce21213d69ac866c3c5a89e1d73490b6a8eae6796840914acc7e84ae785c6525"), looks := false }, kinds := [], alts := [], laidByText := true, laidKinds := [.data], laidTests := true, laidLooks := .later }
def NodeDecodesUptoCardSaid : Prop := Claim7.holds Tryd.pinned (.plain (OpenSpec.upto nodeDecodesSpec)) nodeDecodesUptoCard

/-- THE SECOND FORM's CARD OF 'chertlaw12.NodeRow'. -/
def nodeRowUptoCard : Claim7 := { stood := { row := nodeRowUptoRow, standIns := [], harness := (true, "ce21213d69ac866c3c5a89e1d73490b6a8eae6796840914acc7e84ae785c6525"), looks := false }, kinds := [], alts := [], laidByText := true, laidKinds := [.data], laidTests := true, laidLooks := .later }
def NodeRowUptoCardSaid : Prop := Claim7.holds Tryd.pinned (.plain (OpenSpec.upto nodeRowSpec)) nodeRowUptoCard

/-- THE SECOND FORM's CARD OF 'chertlaw12.NodeApart'. -/
def nodeApartUptoCard : Claim7 := { stood := { row := nodeApartUptoRow, standIns := [], harness := (true, "ce21213d69ac866c3c5a89e1d73490b6a8eae6796840914acc7e84ae785c6525"), looks := false }, kinds := [], alts := [], laidByText := true, laidKinds := [.data], laidTests := true, laidLooks := .later }
def NodeApartUptoCardSaid : Prop := Claim7.holds Tryd.pinned (.plain (OpenSpec.upto nodeApartSpec)) nodeApartUptoCard

/-- THE SECOND FORM's CARD OF 'chertlaw12.NodeLabels'. -/
def nodeLabelsUptoCard : Claim7 := { stood := { row := nodeLabelsUptoRow, standIns := [], harness := (true, "ce21213d69ac866c3c5a89e1d73490b6a8eae6796840914acc7e84ae785c6525"), looks := false }, kinds := [], alts := [], laidByText := true, laidKinds := [.data], laidTests := true, laidLooks := .later }
def NodeLabelsUptoCardSaid : Prop := Claim7.holds Tryd.pinned (.plain (OpenSpec.upto nodeLabelsSpec)) nodeLabelsUptoCard

/-- THE SECOND FORM's CARD OF 'chertlaw12.NodeValues'. -/
def nodeValuesUptoCard : Claim7 := { stood := { row := nodeValuesUptoRow, standIns := [], harness := (true, "ce21213d69ac866c3c5a89e1d73490b6a8eae6796840914acc7e84ae785c6525"), looks := false }, kinds := [], alts := [], laidByText := true, laidKinds := [.data], laidTests := true, laidLooks := .later }
def NodeValuesUptoCardSaid : Prop := Claim7.holds Tryd.pinned (.plain (OpenSpec.upto nodeValuesSpec)) nodeValuesUptoCard
end Rows
end Go.Proofs.YtmomphjhlbampaaDoor
