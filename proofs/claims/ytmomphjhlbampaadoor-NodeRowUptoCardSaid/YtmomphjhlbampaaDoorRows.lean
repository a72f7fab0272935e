/-
  NARROWER THAN 'FOR EVERY INPUT', by the rows' own cells (each row's printed sentence says how): NodeEncodes: laid · NodeDecodes: laid · NodeRow: laid · NodeApart: laid · NodeLabels: laid · NodeValues: laid.
  DERIVED. THE GIVEN ROWS OF THIS SEAT. 6 by the template 'for every input the law returns true; each argument reads behind the call as it read before'; 0 by the template 'total and deterministic' (their statements: YtmomphjhlbampaaDoorTotals.lean).
  GIVEN WITH THE SEED: the statements are not yours to turn. If you find one false, say at which input.
  Laid BY PROGRAM, IN A SANDBOX (cutbox-rows.mjs): the forced cells as the released guide's own fill.sh prints them over the translation 2f4f93a8dfe3dcf3… (all of the seat's roots in one cut). By AI agents, Wed Nov 11 2026. No macro, syntax, notation, axiom, sorry.
-/
import Derived.Test.YtmomphjhlbampaaDoorChecked
import GoSem.Claim
import GoSem.ClaimJoined
import GoSem.ClaimMapViews
import Derived.JoinedTies
import Derived.KernelRfl
namespace Go.Proofs.YtmomphjhlbampaaDoor
/- THE CELL 'sum', in the pinned program and in every row, IS THE sha256 OF THE DUMP (.gsa) THAT YtmomphjhlbampaaDoorProg.lean LOADS. Nothing in Lean hashes anything: it is a label: what it is worth is what the hold of that sum in a sandbox is worth. -/
noncomputable def Tryd.pinned : Pinned := { name := "ytmomphjhlbampaadoor", sum := "2f4f93a8dfe3dcf3bb378bd387c1533cbe93e1817fbaab0ac4373468643cc9f3", checked := Tryd.checked }
namespace Rows
def none {H : Type} : Left H := { results := [], args := [] }

/- WHAT THE LISTED PACKAGE-LEVEL VARIABLES READ AS WHEN THE CALL BEGINS. Each datum BY PROGRAM (the guide's laid-datum.mjs) off the statement by which the dump's own 'gosem.cut.vars' lays the variable. In a bare row this is a premise. The card (YtmomphjhlbampaaDoorCards.lean) ties it to the program's text. -/
def laid_chert_crc_nibbles {H : Type} : DataW H := .agg [.lit (.int .u32 0), .lit (.int .u32 498536548), .lit (.int .u32 997073096), .lit (.int .u32 651767980), .lit (.int .u32 1994146192), .lit (.int .u32 1802195444), .lit (.int .u32 1303535960), .lit (.int .u32 1342533948), .lit (.int .u32 3988292384), .lit (.int .u32 4027552580), .lit (.int .u32 3604390888), .lit (.int .u32 3412177804), .lit (.int .u32 2607071920), .lit (.int .u32 2262029012), .lit (.int .u32 2685067896), .lit (.int .u32 3183342108)]

/-- 'chertlaw12.NodeEncodes': WHATEVER THE INPUT: true; the input reads as it did. -/
def nodeEncodesSpec : ChangeSpec := { name := "nodeEncodes", fn := fun _ => fun
  | [d1, d2, d3] => { results := [.lit (.bool true)], args := [d1, d2, d3] }
  | _ => none }
def nodeEncodesRow : OpenClaim := { program := "ytmomphjhlbampaadoor", sum := "2f4f93a8dfe3dcf3bb378bd387c1533cbe93e1817fbaab0ac4373468643cc9f3", func := "chert/chertlaw12.NodeEncodes", spec := "nodeEncodes", recurses := true, named := ["chert/crc.nibbles"], apart := false, laid := [("chert/crc.nibbles", laid_chert_crc_nibbles)] }
def NodeEncodesSaid : Prop := nodeEncodesRow.holds Tryd.pinned (OpenSpec.ofChange nodeEncodesSpec)

/-- ITS FALSE NEIGHBOUR: 'it returns false'. Refute it at one input. -/
def nodeEncodesWrong : ChangeSpec := { name := "nodeEncodes", fn := fun _ => fun
  | [d1, d2, d3] => { results := [.lit (.bool false)], args := [d1, d2, d3] }
  | _ => none }
def NodeEncodesWrongFalsely : Prop := nodeEncodesRow.holds Tryd.pinned (OpenSpec.ofChange nodeEncodesWrong)

/-- 'chertlaw12.NodeDecodes': WHATEVER THE INPUT: true; the input reads as it did. -/
def nodeDecodesSpec : ChangeSpec := { name := "nodeDecodes", fn := fun _ => fun
  | [d1, d2] => { results := [.lit (.bool true)], args := [d1, d2] }
  | _ => none }
def nodeDecodesRow : OpenClaim := { program := "ytmomphjhlbampaadoor", sum := "2f4f93a8dfe3dcf3bb378bd387c1533cbe93e1817fbaab0ac4373468643cc9f3", func := "chert/chertlaw12.NodeDecodes", spec := "nodeDecodes", named := ["chert/crc.nibbles"], apart := false, laid := [("chert/crc.nibbles", laid_chert_crc_nibbles)] }
def NodeDecodesSaid : Prop := nodeDecodesRow.holds Tryd.pinned (OpenSpec.ofChange nodeDecodesSpec)

/-- ITS FALSE NEIGHBOUR: 'it returns false'. Refute it at one input. -/
def nodeDecodesWrong : ChangeSpec := { name := "nodeDecodes", fn := fun _ => fun
  | [d1, d2] => { results := [.lit (.bool false)], args := [d1, d2] }
  | _ => none }
def NodeDecodesWrongFalsely : Prop := nodeDecodesRow.holds Tryd.pinned (OpenSpec.ofChange nodeDecodesWrong)

/-- 'chertlaw12.NodeRow': WHATEVER THE INPUT: true; the input reads as it did. -/
def nodeRowSpec : ChangeSpec := { name := "nodeRow", fn := fun _ => fun
  | [d1, d2] => { results := [.lit (.bool true)], args := [d1, d2] }
  | _ => none }
def nodeRowRow : OpenClaim := { program := "ytmomphjhlbampaadoor", sum := "2f4f93a8dfe3dcf3bb378bd387c1533cbe93e1817fbaab0ac4373468643cc9f3", func := "chert/chertlaw12.NodeRow", spec := "nodeRow", named := ["chert/crc.nibbles"], apart := false, laid := [("chert/crc.nibbles", laid_chert_crc_nibbles)] }
def NodeRowSaid : Prop := nodeRowRow.holds Tryd.pinned (OpenSpec.ofChange nodeRowSpec)

/-- ITS FALSE NEIGHBOUR: 'it returns false'. Refute it at one input. -/
def nodeRowWrong : ChangeSpec := { name := "nodeRow", fn := fun _ => fun
  | [d1, d2] => { results := [.lit (.bool false)], args := [d1, d2] }
  | _ => none }
def NodeRowWrongFalsely : Prop := nodeRowRow.holds Tryd.pinned (OpenSpec.ofChange nodeRowWrong)

/-- 'chertlaw12.NodeApart': WHATEVER THE INPUT: true; the input reads as it did. -/
def nodeApartSpec : ChangeSpec := { name := "nodeApart", fn := fun _ => fun
  | [d1, d2, d3] => { results := [.lit (.bool true)], args := [d1, d2, d3] }
  | _ => none }
def nodeApartRow : OpenClaim := { program := "ytmomphjhlbampaadoor", sum := "2f4f93a8dfe3dcf3bb378bd387c1533cbe93e1817fbaab0ac4373468643cc9f3", func := "chert/chertlaw12.NodeApart", spec := "nodeApart", named := ["chert/crc.nibbles"], apart := false, laid := [("chert/crc.nibbles", laid_chert_crc_nibbles)] }
def NodeApartSaid : Prop := nodeApartRow.holds Tryd.pinned (OpenSpec.ofChange nodeApartSpec)

/-- ITS FALSE NEIGHBOUR: 'it returns false'. Refute it at one input. -/
def nodeApartWrong : ChangeSpec := { name := "nodeApart", fn := fun _ => fun
  | [d1, d2, d3] => { results := [.lit (.bool false)], args := [d1, d2, d3] }
  | _ => none }
def NodeApartWrongFalsely : Prop := nodeApartRow.holds Tryd.pinned (OpenSpec.ofChange nodeApartWrong)

/-- 'chertlaw12.NodeLabels': WHATEVER THE INPUT: true; the input reads as it did. -/
def nodeLabelsSpec : ChangeSpec := { name := "nodeLabels", fn := fun _ => fun
  | [d1, d2, d3] => { results := [.lit (.bool true)], args := [d1, d2, d3] }
  | _ => none }
def nodeLabelsRow : OpenClaim := { program := "ytmomphjhlbampaadoor", sum := "2f4f93a8dfe3dcf3bb378bd387c1533cbe93e1817fbaab0ac4373468643cc9f3", func := "chert/chertlaw12.NodeLabels", spec := "nodeLabels", recurses := true, named := ["chert/crc.nibbles"], apart := false, laid := [("chert/crc.nibbles", laid_chert_crc_nibbles)] }
def NodeLabelsSaid : Prop := nodeLabelsRow.holds Tryd.pinned (OpenSpec.ofChange nodeLabelsSpec)

/-- ITS FALSE NEIGHBOUR: 'it returns false'. Refute it at one input. -/
def nodeLabelsWrong : ChangeSpec := { name := "nodeLabels", fn := fun _ => fun
  | [d1, d2, d3] => { results := [.lit (.bool false)], args := [d1, d2, d3] }
  | _ => none }
def NodeLabelsWrongFalsely : Prop := nodeLabelsRow.holds Tryd.pinned (OpenSpec.ofChange nodeLabelsWrong)

/-- 'chertlaw12.NodeValues': WHATEVER THE INPUT: true; the input reads as it did. -/
def nodeValuesSpec : ChangeSpec := { name := "nodeValues", fn := fun _ => fun
  | [d1, d2, d3] => { results := [.lit (.bool true)], args := [d1, d2, d3] }
  | _ => none }
def nodeValuesRow : OpenClaim := { program := "ytmomphjhlbampaadoor", sum := "2f4f93a8dfe3dcf3bb378bd387c1533cbe93e1817fbaab0ac4373468643cc9f3", func := "chert/chertlaw12.NodeValues", spec := "nodeValues", recurses := true, named := ["chert/crc.nibbles"], apart := false, laid := [("chert/crc.nibbles", laid_chert_crc_nibbles)] }
def NodeValuesSaid : Prop := nodeValuesRow.holds Tryd.pinned (OpenSpec.ofChange nodeValuesSpec)

/-- ITS FALSE NEIGHBOUR: 'it returns false'. Refute it at one input. -/
def nodeValuesWrong : ChangeSpec := { name := "nodeValues", fn := fun _ => fun
  | [d1, d2, d3] => { results := [.lit (.bool false)], args := [d1, d2, d3] }
  | _ => none }
def NodeValuesWrongFalsely : Prop := nodeValuesRow.holds Tryd.pinned (OpenSpec.ofChange nodeValuesWrong)

/- THE SECOND FORM. 'bulk': how many values and letters a reading holds, each counted each time it is reached (what is shared counts as often as it is met; a slice's spare places count too). A statement '..UptoSaid' is the law's where the arguments, and the package variables that the reading takes, are together of bulk at most 1048576: NARROWER than '..Said'. Prove '..Said' where nothing that the law and all that it calls make is longer than what came in: it says more and counts as full. Else prove '..UptoSaid'. A law counts once. -/
mutual
def uptoBulk {H : Type} : DataW H → Nat
  | .lit (.string bytes) => bytes.length + 1
  | .lit _ => 1
  | .nil => 1
  | .ptr d => uptoBulk d + 1
  | .slice elems spare => uptoBulkAll elems + uptoBulkAll spare + 1
  | .agg parts => uptoBulkAll parts + 1
  | .iface _ d => uptoBulk d + 1
  | .map entries => uptoBulkEntries entries + 1
  | .held _ => 1
def uptoBulkAll {H : Type} : List (DataW H) → Nat
  | [] => 0
  | d :: r => uptoBulk d + uptoBulkAll r
def uptoBulkEntries {H : Type} : List (Lit × DataW H) → Nat
  | [] => 0
  | x :: r => uptoBulkEntry x + uptoBulkEntries r
def uptoBulkEntry {H : Type} : Lit × DataW H → Nat
  | (.string bytes, d) => bytes.length + uptoBulk d + 1
  | (_, d) => uptoBulk d + 1
 end
def uptoSmall : (H : Type) → List (DataW H) → Bool := fun _ ds => decide (uptoBulkAll ds ≤ 1048576)
def OpenSpec.upto (s : _root_.Go.ChangeSpec) : _root_.Go.OpenSpec := { _root_.Go.OpenSpec.ofChange s with cond := some uptoSmall }

/-- 'chertlaw12.NodeEncodes', WHERE WHAT IT READS IS OF BULK AT MOST 1048576: true; the input reads as it did. -/
def nodeEncodesUptoRow : OpenClaim := { program := "ytmomphjhlbampaadoor", sum := "2f4f93a8dfe3dcf3bb378bd387c1533cbe93e1817fbaab0ac4373468643cc9f3", func := "chert/chertlaw12.NodeEncodes", spec := "nodeEncodes", recurses := true, named := ["chert/crc.nibbles"], apart := false, laid := [("chert/crc.nibbles", laid_chert_crc_nibbles)], narrowed := true }
def NodeEncodesUptoSaid : Prop := nodeEncodesUptoRow.holds Tryd.pinned (OpenSpec.upto nodeEncodesSpec)

/-- 'chertlaw12.NodeDecodes', WHERE WHAT IT READS IS OF BULK AT MOST 1048576: true; the input reads as it did. -/
def nodeDecodesUptoRow : OpenClaim := { program := "ytmomphjhlbampaadoor", sum := "2f4f93a8dfe3dcf3bb378bd387c1533cbe93e1817fbaab0ac4373468643cc9f3", func := "chert/chertlaw12.NodeDecodes", spec := "nodeDecodes", named := ["chert/crc.nibbles"], apart := false, laid := [("chert/crc.nibbles", laid_chert_crc_nibbles)], narrowed := true }
def NodeDecodesUptoSaid : Prop := nodeDecodesUptoRow.holds Tryd.pinned (OpenSpec.upto nodeDecodesSpec)

/-- 'chertlaw12.NodeRow', WHERE WHAT IT READS IS OF BULK AT MOST 1048576: true; the input reads as it did. -/
def nodeRowUptoRow : OpenClaim := { program := "ytmomphjhlbampaadoor", sum := "2f4f93a8dfe3dcf3bb378bd387c1533cbe93e1817fbaab0ac4373468643cc9f3", func := "chert/chertlaw12.NodeRow", spec := "nodeRow", named := ["chert/crc.nibbles"], apart := false, laid := [("chert/crc.nibbles", laid_chert_crc_nibbles)], narrowed := true }
def NodeRowUptoSaid : Prop := nodeRowUptoRow.holds Tryd.pinned (OpenSpec.upto nodeRowSpec)

/-- 'chertlaw12.NodeApart', WHERE WHAT IT READS IS OF BULK AT MOST 1048576: true; the input reads as it did. -/
def nodeApartUptoRow : OpenClaim := { program := "ytmomphjhlbampaadoor", sum := "2f4f93a8dfe3dcf3bb378bd387c1533cbe93e1817fbaab0ac4373468643cc9f3", func := "chert/chertlaw12.NodeApart", spec := "nodeApart", named := ["chert/crc.nibbles"], apart := false, laid := [("chert/crc.nibbles", laid_chert_crc_nibbles)], narrowed := true }
def NodeApartUptoSaid : Prop := nodeApartUptoRow.holds Tryd.pinned (OpenSpec.upto nodeApartSpec)

/-- 'chertlaw12.NodeLabels', WHERE WHAT IT READS IS OF BULK AT MOST 1048576: true; the input reads as it did. -/
def nodeLabelsUptoRow : OpenClaim := { program := "ytmomphjhlbampaadoor", sum := "2f4f93a8dfe3dcf3bb378bd387c1533cbe93e1817fbaab0ac4373468643cc9f3", func := "chert/chertlaw12.NodeLabels", spec := "nodeLabels", recurses := true, named := ["chert/crc.nibbles"], apart := false, laid := [("chert/crc.nibbles", laid_chert_crc_nibbles)], narrowed := true }
def NodeLabelsUptoSaid : Prop := nodeLabelsUptoRow.holds Tryd.pinned (OpenSpec.upto nodeLabelsSpec)

/-- 'chertlaw12.NodeValues', WHERE WHAT IT READS IS OF BULK AT MOST 1048576: true; the input reads as it did. -/
def nodeValuesUptoRow : OpenClaim := { program := "ytmomphjhlbampaadoor", sum := "2f4f93a8dfe3dcf3bb378bd387c1533cbe93e1817fbaab0ac4373468643cc9f3", func := "chert/chertlaw12.NodeValues", spec := "nodeValues", recurses := true, named := ["chert/crc.nibbles"], apart := false, laid := [("chert/crc.nibbles", laid_chert_crc_nibbles)], narrowed := true }
def NodeValuesUptoSaid : Prop := nodeValuesUptoRow.holds Tryd.pinned (OpenSpec.upto nodeValuesSpec)

end Rows
end Go.Proofs.YtmomphjhlbampaaDoor
