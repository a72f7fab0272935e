/-
  No cell of these rows narrows 'for every input' (looked for: loops, veiled, ifaces, maps, wideKeys, modest, calm, conditions, laid).
  DERIVED. THE GIVEN ROWS OF THIS SEAT. 5 by the template 'for every input the law returns true; each argument reads behind the call as it read before'; 0 by the template 'total and deterministic' (their statements: YtkmdoaenlpfdaaaTotals.lean).
  GIVEN WITH THE SEED: the statements are not yours to turn. If you find one false, say at which input.
  Laid BY PROGRAM, IN A SANDBOX (cutbox-rows.mjs): the forced cells as the released guide's own fill.sh prints them over the translation 60c2c6f74853c458… (all of the seat's roots in one cut). By AI agents, Wed Nov 11 2026. No macro, syntax, notation, axiom, sorry.
-/
import Derived.Test.YtkmdoaenlpfdaaaChecked
import GoSem.Claim
import GoSem.ClaimJoined
import GoSem.ClaimMapViews
import Derived.JoinedTies
import Derived.KernelRfl
namespace Go.Proofs.Ytkmdoaenlpfdaaa
/- THE CELL 'sum', in the pinned program and in every row, IS THE sha256 OF THE DUMP (.gsa) THAT YtkmdoaenlpfdaaaProg.lean LOADS. Nothing in Lean hashes anything: it is a label: what it is worth is what the hold of that sum in a sandbox is worth. -/
noncomputable def Try.pinned : Pinned := { name := "ytkmdoaenlpfdaaa", sum := "60c2c6f74853c45864af33cce9b12b72a9e4676bad3543edf43db4feaf926b8a", checked := Try.checked }
namespace Rows
def none {H : Type} : Left H := { results := [], args := [] }

/-- 'chertlaw11.KeyNames': WHATEVER THE INPUT: true; the input reads as it did. -/
def keyNamesSpec : ChangeSpec := { name := "keyNames", fn := fun _ => fun
  | [d1, d2, d3] => { results := [.lit (.bool true)], args := [d1, d2, d3] }
  | _ => none }
def keyNamesRow : OpenClaim := { program := "ytkmdoaenlpfdaaa", sum := "60c2c6f74853c45864af33cce9b12b72a9e4676bad3543edf43db4feaf926b8a", func := "chert/chertlaw11.KeyNames", spec := "keyNames", apart := false }
def KeyNamesSaid : Prop := keyNamesRow.holds Try.pinned (OpenSpec.ofChange keyNamesSpec)

/-- ITS FALSE NEIGHBOUR: 'it returns false'. Refute it at one input. -/
def keyNamesWrong : ChangeSpec := { name := "keyNames", fn := fun _ => fun
  | [d1, d2, d3] => { results := [.lit (.bool false)], args := [d1, d2, d3] }
  | _ => none }
def KeyNamesWrongFalsely : Prop := keyNamesRow.holds Try.pinned (OpenSpec.ofChange keyNamesWrong)

/-- 'chertlaw11.KeyOrder': WHATEVER THE INPUT: true; the input reads as it did. -/
def keyOrderSpec : ChangeSpec := { name := "keyOrder", fn := fun _ => fun
  | [d1, d2, d3] => { results := [.lit (.bool true)], args := [d1, d2, d3] }
  | _ => none }
def keyOrderRow : OpenClaim := { program := "ytkmdoaenlpfdaaa", sum := "60c2c6f74853c45864af33cce9b12b72a9e4676bad3543edf43db4feaf926b8a", func := "chert/chertlaw11.KeyOrder", spec := "keyOrder", recurses := true, apart := false }
def KeyOrderSaid : Prop := keyOrderRow.holds Try.pinned (OpenSpec.ofChange keyOrderSpec)

/-- ITS FALSE NEIGHBOUR: 'it returns false'. Refute it at one input. -/
def keyOrderWrong : ChangeSpec := { name := "keyOrder", fn := fun _ => fun
  | [d1, d2, d3] => { results := [.lit (.bool false)], args := [d1, d2, d3] }
  | _ => none }
def KeyOrderWrongFalsely : Prop := keyOrderRow.holds Try.pinned (OpenSpec.ofChange keyOrderWrong)

/-- 'chertlaw11.KeyRanges': WHATEVER THE INPUT: true; the input reads as it did. -/
def keyRangesSpec : ChangeSpec := { name := "keyRanges", fn := fun _ => fun
  | [d1, d2] => { results := [.lit (.bool true)], args := [d1, d2] }
  | _ => none }
def keyRangesRow : OpenClaim := { program := "ytkmdoaenlpfdaaa", sum := "60c2c6f74853c45864af33cce9b12b72a9e4676bad3543edf43db4feaf926b8a", func := "chert/chertlaw11.KeyRanges", spec := "keyRanges", apart := false }
def KeyRangesSaid : Prop := keyRangesRow.holds Try.pinned (OpenSpec.ofChange keyRangesSpec)

/-- ITS FALSE NEIGHBOUR: 'it returns false'. Refute it at one input. -/
def keyRangesWrong : ChangeSpec := { name := "keyRanges", fn := fun _ => fun
  | [d1, d2] => { results := [.lit (.bool false)], args := [d1, d2] }
  | _ => none }
def KeyRangesWrongFalsely : Prop := keyRangesRow.holds Try.pinned (OpenSpec.ofChange keyRangesWrong)

/-- 'chertlaw11.KeyEncodes': WHATEVER THE INPUT: true; the input reads as it did. -/
def keyEncodesSpec : ChangeSpec := { name := "keyEncodes", fn := fun _ => fun
  | [d1, d2] => { results := [.lit (.bool true)], args := [d1, d2] }
  | _ => none }
def keyEncodesRow : OpenClaim := { program := "ytkmdoaenlpfdaaa", sum := "60c2c6f74853c45864af33cce9b12b72a9e4676bad3543edf43db4feaf926b8a", func := "chert/chertlaw11.KeyEncodes", spec := "keyEncodes", recurses := true, apart := false }
def KeyEncodesSaid : Prop := keyEncodesRow.holds Try.pinned (OpenSpec.ofChange keyEncodesSpec)

/-- ITS FALSE NEIGHBOUR: 'it returns false'. Refute it at one input. -/
def keyEncodesWrong : ChangeSpec := { name := "keyEncodes", fn := fun _ => fun
  | [d1, d2] => { results := [.lit (.bool false)], args := [d1, d2] }
  | _ => none }
def KeyEncodesWrongFalsely : Prop := keyEncodesRow.holds Try.pinned (OpenSpec.ofChange keyEncodesWrong)

/-- 'chertlaw11.KeyDecodes': WHATEVER THE INPUT: true; the input reads as it did. -/
def keyDecodesSpec : ChangeSpec := { name := "keyDecodes", fn := fun _ => fun
  | [d] => { results := [.lit (.bool true)], args := [d] }
  | _ => none }
def keyDecodesRow : OpenClaim := { program := "ytkmdoaenlpfdaaa", sum := "60c2c6f74853c45864af33cce9b12b72a9e4676bad3543edf43db4feaf926b8a", func := "chert/chertlaw11.KeyDecodes", spec := "keyDecodes", recurses := true, apart := false }
def KeyDecodesSaid : Prop := keyDecodesRow.holds Try.pinned (OpenSpec.ofChange keyDecodesSpec)

/-- ITS FALSE NEIGHBOUR: 'it returns false'. Refute it at one input. -/
def keyDecodesWrong : ChangeSpec := { name := "keyDecodes", fn := fun _ => fun
  | [d] => { results := [.lit (.bool false)], args := [d] }
  | _ => none }
def KeyDecodesWrongFalsely : Prop := keyDecodesRow.holds Try.pinned (OpenSpec.ofChange keyDecodesWrong)

/- THE SECOND FORM. 'bulk': how many values and letters a reading holds, each counted each time it is reached (what is shared counts as often as it is met; a slice's spare places count too). A statement '..UptoSaid' is the law's where the arguments, and the package variables that the reading takes, are together of bulk at most 1048576: NARROWER than '..Said'. Prove '..Said' where nothing that the law and all that it calls make is longer than what came in: it says more and counts as full. Else prove '..UptoSaid'. A law counts once. -/
mutual
def uptoBulk {H : Type} : DataW H → Nat
  | .lit (.string bytes) => bytes.length + 1
  | .lit _ => 1
  | .nil => 1
  | .ptr d => uptoBulk d + 1
  | .slice elems spare => uptoBulkAll elems + uptoBulkAll spare + 1
  | .agg parts => uptoBulkAll parts + 1
  | .iface _ d => uptoBulk d + 1
  | .map entries => uptoBulkEntries entries + 1
  | .held _ => 1
def uptoBulkAll {H : Type} : List (DataW H) → Nat
  | [] => 0
  | d :: r => uptoBulk d + uptoBulkAll r
def uptoBulkEntries {H : Type} : List (Lit × DataW H) → Nat
  | [] => 0
  | x :: r => uptoBulkEntry x + uptoBulkEntries r
def uptoBulkEntry {H : Type} : Lit × DataW H → Nat
  | (.string bytes, d) => bytes.length + uptoBulk d + 1
  | (_, d) => uptoBulk d + 1
 end
def uptoSmall : (H : Type) → List (DataW H) → Bool := fun _ ds => decide (uptoBulkAll ds ≤ 1048576)
def OpenSpec.upto (s : _root_.Go.ChangeSpec) : _root_.Go.OpenSpec := { _root_.Go.OpenSpec.ofChange s with cond := some uptoSmall }

/-- 'chertlaw11.KeyNames', WHERE WHAT IT READS IS OF BULK AT MOST 1048576: true; the input reads as it did. -/
def keyNamesUptoRow : OpenClaim := { program := "ytkmdoaenlpfdaaa", sum := "60c2c6f74853c45864af33cce9b12b72a9e4676bad3543edf43db4feaf926b8a", func := "chert/chertlaw11.KeyNames", spec := "keyNames", apart := false, narrowed := true }
def KeyNamesUptoSaid : Prop := keyNamesUptoRow.holds Try.pinned (OpenSpec.upto keyNamesSpec)

/-- 'chertlaw11.KeyOrder', WHERE WHAT IT READS IS OF BULK AT MOST 1048576: true; the input reads as it did. -/
def keyOrderUptoRow : OpenClaim := { program := "ytkmdoaenlpfdaaa", sum := "60c2c6f74853c45864af33cce9b12b72a9e4676bad3543edf43db4feaf926b8a", func := "chert/chertlaw11.KeyOrder", spec := "keyOrder", recurses := true, apart := false, narrowed := true }
def KeyOrderUptoSaid : Prop := keyOrderUptoRow.holds Try.pinned (OpenSpec.upto keyOrderSpec)

/-- 'chertlaw11.KeyRanges', WHERE WHAT IT READS IS OF BULK AT MOST 1048576: true; the input reads as it did. -/
def keyRangesUptoRow : OpenClaim := { program := "ytkmdoaenlpfdaaa", sum := "60c2c6f74853c45864af33cce9b12b72a9e4676bad3543edf43db4feaf926b8a", func := "chert/chertlaw11.KeyRanges", spec := "keyRanges", apart := false, narrowed := true }
def KeyRangesUptoSaid : Prop := keyRangesUptoRow.holds Try.pinned (OpenSpec.upto keyRangesSpec)

/-- 'chertlaw11.KeyEncodes', WHERE WHAT IT READS IS OF BULK AT MOST 1048576: true; the input reads as it did. -/
def keyEncodesUptoRow : OpenClaim := { program := "ytkmdoaenlpfdaaa", sum := "60c2c6f74853c45864af33cce9b12b72a9e4676bad3543edf43db4feaf926b8a", func := "chert/chertlaw11.KeyEncodes", spec := "keyEncodes", recurses := true, apart := false, narrowed := true }
def KeyEncodesUptoSaid : Prop := keyEncodesUptoRow.holds Try.pinned (OpenSpec.upto keyEncodesSpec)

/-- 'chertlaw11.KeyDecodes', WHERE WHAT IT READS IS OF BULK AT MOST 1048576: true; the input reads as it did. -/
def keyDecodesUptoRow : OpenClaim := { program := "ytkmdoaenlpfdaaa", sum := "60c2c6f74853c45864af33cce9b12b72a9e4676bad3543edf43db4feaf926b8a", func := "chert/chertlaw11.KeyDecodes", spec := "keyDecodes", recurses := true, apart := false, narrowed := true }
def KeyDecodesUptoSaid : Prop := keyDecodesUptoRow.holds Try.pinned (OpenSpec.upto keyDecodesSpec)

end Rows
end Go.Proofs.Ytkmdoaenlpfdaaa
