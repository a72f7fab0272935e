/-
  No cell of these rows narrows 'for every input' (looked for: loops, veiled, ifaces, maps, wideKeys, modest, calm, conditions, laid).
  DERIVED. THE GIVEN ROWS OF THIS SEAT. 4 by the template 'for every input the law returns true; each argument reads behind the call as it read before'; 0 by the template 'total and deterministic' (their statements: YtehiijgfhanjfaaTotals.lean).
  GIVEN WITH THE SEED: the statements are not yours to turn. If you find one false, say at which input.
  Laid BY PROGRAM, IN A SANDBOX (cutbox-rows.mjs): the forced cells as the released guide's own fill.sh prints them over the translation 42337ed8f713a7b4… (all of the seat's roots in one cut). By AI agents, Wed Nov 11 2026. No macro, syntax, notation, axiom, sorry.
-/
import Derived.Test.YtehiijgfhanjfaaChecked
import GoSem.Claim
import GoSem.ClaimJoined
import GoSem.ClaimMapViews
import Derived.JoinedTies
import Derived.KernelRfl
namespace Go.Proofs.Ytehiijgfhanjfaa
/- THE CELL 'sum', in the pinned program and in every row, IS THE sha256 OF THE DUMP (.gsa) THAT YtehiijgfhanjfaaProg.lean LOADS. Nothing in Lean hashes anything: it is a label: what it is worth is what the hold of that sum in a sandbox is worth. -/
noncomputable def Try.pinned : Pinned := { name := "ytehiijgfhanjfaa", sum := "42337ed8f713a7b43d3d8e968728a1554d018a9e8431f05baef9c3967d6ec505", checked := Try.checked }
namespace Rows
def none {H : Type} : Left H := { results := [], args := [] }

/-- 'chertlaw07.ParityXors': WHATEVER THE INPUT: true; the input reads as it did. -/
def parityXorsSpec : ChangeSpec := { name := "parityXors", fn := fun _ => fun
  | [d1, d2] => { results := [.lit (.bool true)], args := [d1, d2] }
  | _ => none }
def parityXorsRow : OpenClaim := { program := "ytehiijgfhanjfaa", sum := "42337ed8f713a7b43d3d8e968728a1554d018a9e8431f05baef9c3967d6ec505", func := "chert/chertlaw07.ParityXors", spec := "parityXors", apart := false }
def ParityXorsSaid : Prop := parityXorsRow.holds Try.pinned (OpenSpec.ofChange parityXorsSpec)

/-- ITS FALSE NEIGHBOUR: 'it returns false'. Refute it at one input. -/
def parityXorsWrong : ChangeSpec := { name := "parityXors", fn := fun _ => fun
  | [d1, d2] => { results := [.lit (.bool false)], args := [d1, d2] }
  | _ => none }
def ParityXorsWrongFalsely : Prop := parityXorsRow.holds Try.pinned (OpenSpec.ofChange parityXorsWrong)

/-- 'chertlaw07.ParityBrings': WHATEVER THE INPUT: true; the input reads as it did. -/
def parityBringsSpec : ChangeSpec := { name := "parityBrings", fn := fun _ => fun
  | [d1, d2, d3] => { results := [.lit (.bool true)], args := [d1, d2, d3] }
  | _ => none }
def parityBringsRow : OpenClaim := { program := "ytehiijgfhanjfaa", sum := "42337ed8f713a7b43d3d8e968728a1554d018a9e8431f05baef9c3967d6ec505", func := "chert/chertlaw07.ParityBrings", spec := "parityBrings", apart := false }
def ParityBringsSaid : Prop := parityBringsRow.holds Try.pinned (OpenSpec.ofChange parityBringsSpec)

/-- ITS FALSE NEIGHBOUR: 'it returns false'. Refute it at one input. -/
def parityBringsWrong : ChangeSpec := { name := "parityBrings", fn := fun _ => fun
  | [d1, d2, d3] => { results := [.lit (.bool false)], args := [d1, d2, d3] }
  | _ => none }
def ParityBringsWrongFalsely : Prop := parityBringsRow.holds Try.pinned (OpenSpec.ofChange parityBringsWrong)

/-- 'chertlaw07.ParityPlans': WHATEVER THE INPUT: true; the input reads as it did. -/
def parityPlansSpec : ChangeSpec := { name := "parityPlans", fn := fun _ => fun
  | [d1, d2, d3] => { results := [.lit (.bool true)], args := [d1, d2, d3] }
  | _ => none }
def parityPlansRow : OpenClaim := { program := "ytehiijgfhanjfaa", sum := "42337ed8f713a7b43d3d8e968728a1554d018a9e8431f05baef9c3967d6ec505", func := "chert/chertlaw07.ParityPlans", spec := "parityPlans", apart := false }
def ParityPlansSaid : Prop := parityPlansRow.holds Try.pinned (OpenSpec.ofChange parityPlansSpec)

/-- ITS FALSE NEIGHBOUR: 'it returns false'. Refute it at one input. -/
def parityPlansWrong : ChangeSpec := { name := "parityPlans", fn := fun _ => fun
  | [d1, d2, d3] => { results := [.lit (.bool false)], args := [d1, d2, d3] }
  | _ => none }
def ParityPlansWrongFalsely : Prop := parityPlansRow.holds Try.pinned (OpenSpec.ofChange parityPlansWrong)

/-- 'chertlaw07.ParityApart': WHATEVER THE INPUT: true; the input reads as it did. -/
def parityApartSpec : ChangeSpec := { name := "parityApart", fn := fun _ => fun
  | [d1, d2, d3] => { results := [.lit (.bool true)], args := [d1, d2, d3] }
  | _ => none }
def parityApartRow : OpenClaim := { program := "ytehiijgfhanjfaa", sum := "42337ed8f713a7b43d3d8e968728a1554d018a9e8431f05baef9c3967d6ec505", func := "chert/chertlaw07.ParityApart", spec := "parityApart", apart := false }
def ParityApartSaid : Prop := parityApartRow.holds Try.pinned (OpenSpec.ofChange parityApartSpec)

/-- ITS FALSE NEIGHBOUR: 'it returns false'. Refute it at one input. -/
def parityApartWrong : ChangeSpec := { name := "parityApart", fn := fun _ => fun
  | [d1, d2, d3] => { results := [.lit (.bool false)], args := [d1, d2, d3] }
  | _ => none }
def ParityApartWrongFalsely : Prop := parityApartRow.holds Try.pinned (OpenSpec.ofChange parityApartWrong)

/- THE SECOND FORM. 'bulk': how many values and letters a reading holds, each counted each time it is reached (what is shared counts as often as it is met; a slice's spare places count too). A statement '..UptoSaid' is the law's where the arguments, and the package variables that the reading takes, are together of bulk at most 1048576: NARROWER than '..Said'. Prove '..Said' where nothing that the law and all that it calls make is longer than what came in: it says more and counts as full. Else prove '..UptoSaid'. A law counts once. -/
mutual
def uptoBulk {H : Type} : DataW H → Nat
  | .lit (.string bytes) => bytes.length + 1
  | .lit _ => 1
  | .nil => 1
  | .ptr d => uptoBulk d + 1
  | .slice elems spare => uptoBulkAll elems + uptoBulkAll spare + 1
  | .agg parts => uptoBulkAll parts + 1
  | .iface _ d => uptoBulk d + 1
  | .map entries => uptoBulkEntries entries + 1
  | .held _ => 1
def uptoBulkAll {H : Type} : List (DataW H) → Nat
  | [] => 0
  | d :: r => uptoBulk d + uptoBulkAll r
def uptoBulkEntries {H : Type} : List (Lit × DataW H) → Nat
  | [] => 0
  | x :: r => uptoBulkEntry x + uptoBulkEntries r
def uptoBulkEntry {H : Type} : Lit × DataW H → Nat
  | (.string bytes, d) => bytes.length + uptoBulk d + 1
  | (_, d) => uptoBulk d + 1
 end
def uptoSmall : (H : Type) → List (DataW H) → Bool := fun _ ds => decide (uptoBulkAll ds ≤ 1048576)
def OpenSpec.upto (s : _root_.Go.ChangeSpec) : _root_.Go.OpenSpec := { _root_.Go.OpenSpec.ofChange s with cond := some uptoSmall }

/-- 'chertlaw07.ParityXors', WHERE WHAT IT READS IS OF BULK AT MOST 1048576: true; the input reads as it did. -/
def parityXorsUptoRow : OpenClaim := { program := "ytehiijgfhanjfaa", sum := "42337ed8f713a7b43d3d8e968728a1554d018a9e8431f05baef9c3967d6ec505", func := "chert/chertlaw07.ParityXors", spec := "parityXors", apart := false, narrowed := true }
def ParityXorsUptoSaid : Prop := parityXorsUptoRow.holds Try.pinned (OpenSpec.upto parityXorsSpec)

/-- 'chertlaw07.ParityBrings', WHERE WHAT IT READS IS OF BULK AT MOST 1048576: true; the input reads as it did. -/
def parityBringsUptoRow : OpenClaim := { program := "ytehiijgfhanjfaa", sum := "42337ed8f713a7b43d3d8e968728a1554d018a9e8431f05baef9c3967d6ec505", func := "chert/chertlaw07.ParityBrings", spec := "parityBrings", apart := false, narrowed := true }
def ParityBringsUptoSaid : Prop := parityBringsUptoRow.holds Try.pinned (OpenSpec.upto parityBringsSpec)

/-- 'chertlaw07.ParityPlans', WHERE WHAT IT READS IS OF BULK AT MOST 1048576: true; the input reads as it did. -/
def parityPlansUptoRow : OpenClaim := { program := "ytehiijgfhanjfaa", sum := "42337ed8f713a7b43d3d8e968728a1554d018a9e8431f05baef9c3967d6ec505", func := "chert/chertlaw07.ParityPlans", spec := "parityPlans", apart := false, narrowed := true }
def ParityPlansUptoSaid : Prop := parityPlansUptoRow.holds Try.pinned (OpenSpec.upto parityPlansSpec)

/-- 'chertlaw07.ParityApart', WHERE WHAT IT READS IS OF BULK AT MOST 1048576: true; the input reads as it did. -/
def parityApartUptoRow : OpenClaim := { program := "ytehiijgfhanjfaa", sum := "42337ed8f713a7b43d3d8e968728a1554d018a9e8431f05baef9c3967d6ec505", func := "chert/chertlaw07.ParityApart", spec := "parityApart", apart := false, narrowed := true }
def ParityApartUptoSaid : Prop := parityApartUptoRow.holds Try.pinned (OpenSpec.upto parityApartSpec)

end Rows
end Go.Proofs.Ytehiijgfhanjfaa
