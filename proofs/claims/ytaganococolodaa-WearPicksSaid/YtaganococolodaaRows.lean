/-
  No cell of these rows narrows 'for every input' (looked for: loops, veiled, ifaces, maps, wideKeys, modest, calm, conditions, laid).
  DERIVED. THE GIVEN ROWS OF THIS SEAT. 3 by the template 'for every input the law returns true; each argument reads behind the call as it read before'; 0 by the template 'total and deterministic' (their statements: YtaganococolodaaTotals.lean).
  GIVEN WITH THE SEED: the statements are not yours to turn. If you find one false, say at which input.
  Laid BY PROGRAM, IN A SANDBOX (cutbox-rows.mjs): the forced cells as the released guide's own fill.sh prints them over the translation 42f83e11df2531e3… (all of the seat's roots in one cut). By AI agents, Wed Nov 11 2026. No macro, syntax, notation, axiom, sorry.
-/
import Derived.Test.YtaganococolodaaChecked
import GoSem.Claim
import GoSem.ClaimJoined
import GoSem.ClaimMapViews
import Derived.JoinedTies
import Derived.KernelRfl
namespace Go.Proofs.Ytaganococolodaa
/- THE CELL 'sum', in the pinned program and in every row, IS THE sha256 OF THE DUMP (.gsa) THAT YtaganococolodaaProg.lean LOADS. Nothing in Lean hashes anything: it is a label: what it is worth is what the hold of that sum in a sandbox is worth. -/
noncomputable def Try.pinned : Pinned := { name := "ytaganococolodaa", sum := "42f83e11df2531e35e72deb60a7e46ee9fef23d39eb6b8195fee87e9cb9c4575", checked := Try.checked }
namespace Rows
def none {H : Type} : Left H := { results := [], args := [] }

/-- 'chertlaw08.WearEven': WHATEVER THE INPUT: true; the input reads as it did. -/
def wearEvenSpec : ChangeSpec := { name := "wearEven", fn := fun _ => fun
  | [d1, d2, d3] => { results := [.lit (.bool true)], args := [d1, d2, d3] }
  | _ => none }
def wearEvenRow : OpenClaim := { program := "ytaganococolodaa", sum := "42f83e11df2531e35e72deb60a7e46ee9fef23d39eb6b8195fee87e9cb9c4575", func := "chert/chertlaw08.WearEven", spec := "wearEven", unfollowed := true, recurses := true, apart := false }
def WearEvenSaid : Prop := wearEvenRow.holds Try.pinned (OpenSpec.ofChange wearEvenSpec)

/-- ITS FALSE NEIGHBOUR: 'it returns false'. Refute it at one input. -/
def wearEvenWrong : ChangeSpec := { name := "wearEven", fn := fun _ => fun
  | [d1, d2, d3] => { results := [.lit (.bool false)], args := [d1, d2, d3] }
  | _ => none }
def WearEvenWrongFalsely : Prop := wearEvenRow.holds Try.pinned (OpenSpec.ofChange wearEvenWrong)

/-- 'chertlaw08.WearChoices': WHATEVER THE INPUT: true; the input reads as it did. -/
def wearChoicesSpec : ChangeSpec := { name := "wearChoices", fn := fun _ => fun
  | [d1, d2, d3] => { results := [.lit (.bool true)], args := [d1, d2, d3] }
  | _ => none }
def wearChoicesRow : OpenClaim := { program := "ytaganococolodaa", sum := "42f83e11df2531e35e72deb60a7e46ee9fef23d39eb6b8195fee87e9cb9c4575", func := "chert/chertlaw08.WearChoices", spec := "wearChoices", unfollowed := true, recurses := true, apart := false }
def WearChoicesSaid : Prop := wearChoicesRow.holds Try.pinned (OpenSpec.ofChange wearChoicesSpec)

/-- ITS FALSE NEIGHBOUR: 'it returns false'. Refute it at one input. -/
def wearChoicesWrong : ChangeSpec := { name := "wearChoices", fn := fun _ => fun
  | [d1, d2, d3] => { results := [.lit (.bool false)], args := [d1, d2, d3] }
  | _ => none }
def WearChoicesWrongFalsely : Prop := wearChoicesRow.holds Try.pinned (OpenSpec.ofChange wearChoicesWrong)

/-- 'chertlaw08.WearPicks': WHATEVER THE INPUT: true; the input reads as it did. -/
def wearPicksSpec : ChangeSpec := { name := "wearPicks", fn := fun _ => fun
  | [d1, d2, d3] => { results := [.lit (.bool true)], args := [d1, d2, d3] }
  | _ => none }
def wearPicksRow : OpenClaim := { program := "ytaganococolodaa", sum := "42f83e11df2531e35e72deb60a7e46ee9fef23d39eb6b8195fee87e9cb9c4575", func := "chert/chertlaw08.WearPicks", spec := "wearPicks", unfollowed := true, recurses := true, apart := false }
def WearPicksSaid : Prop := wearPicksRow.holds Try.pinned (OpenSpec.ofChange wearPicksSpec)

/-- ITS FALSE NEIGHBOUR: 'it returns false'. Refute it at one input. -/
def wearPicksWrong : ChangeSpec := { name := "wearPicks", fn := fun _ => fun
  | [d1, d2, d3] => { results := [.lit (.bool false)], args := [d1, d2, d3] }
  | _ => none }
def WearPicksWrongFalsely : Prop := wearPicksRow.holds Try.pinned (OpenSpec.ofChange wearPicksWrong)

/- THE SECOND FORM. 'bulk': how many values and letters a reading holds, each counted each time it is reached (what is shared counts as often as it is met; a slice's spare places count too). A statement '..UptoSaid' is the law's where the arguments, and the package variables that the reading takes, are together of bulk at most 1048576: NARROWER than '..Said'. Prove '..Said' where nothing that the law and all that it calls make is longer than what came in: it says more and counts as full. Else prove '..UptoSaid'. A law counts once. -/
mutual
def uptoBulk {H : Type} : DataW H → Nat
  | .lit (.string bytes) => bytes.length + 1
  | .lit _ => 1
  | .nil => 1
  | .ptr d => uptoBulk d + 1
  | .slice elems spare => uptoBulkAll elems + uptoBulkAll spare + 1
  | .agg parts => uptoBulkAll parts + 1
  | .iface _ d => uptoBulk d + 1
  | .map entries => uptoBulkEntries entries + 1
  | .held _ => 1
def uptoBulkAll {H : Type} : List (DataW H) → Nat
  | [] => 0
  | d :: r => uptoBulk d + uptoBulkAll r
def uptoBulkEntries {H : Type} : List (Lit × DataW H) → Nat
  | [] => 0
  | x :: r => uptoBulkEntry x + uptoBulkEntries r
def uptoBulkEntry {H : Type} : Lit × DataW H → Nat
  | (.string bytes, d) => bytes.length + uptoBulk d + 1
  | (_, d) => uptoBulk d + 1
 end
def uptoSmall : (H : Type) → List (DataW H) → Bool := fun _ ds => decide (uptoBulkAll ds ≤ 1048576)
def OpenSpec.upto (s : _root_.Go.ChangeSpec) : _root_.Go.OpenSpec := { _root_.Go.OpenSpec.ofChange s with cond := some uptoSmall }

/-- 'chertlaw08.WearEven', WHERE WHAT IT READS IS OF BULK AT MOST 1048576: true; the input reads as it did. -/
def wearEvenUptoRow : OpenClaim := { program := "ytaganococolodaa", sum := "42f83e11df2531e35e72deb60a7e46ee9fef23d39eb6b8195fee87e9cb9c4575", func := "chert/chertlaw08.WearEven", spec := "wearEven", unfollowed := true, recurses := true, apart := false, narrowed := true }
def WearEvenUptoSaid : Prop := wearEvenUptoRow.holds Try.pinned (OpenSpec.upto wearEvenSpec)

/-- 'chertlaw08.WearChoices', WHERE WHAT IT READS IS OF BULK AT MOST 1048576: true; the input reads as it did. -/
def wearChoicesUptoRow : OpenClaim := { program := "ytaganococolodaa", sum := "42f83e11df2531e35e72deb60a7e46ee9fef23d39eb6b8195fee87e9cb9c4575", func := "chert/chertlaw08.WearChoices", spec := "wearChoices", unfollowed := true, recurses := true, apart := false, narrowed := true }
def WearChoicesUptoSaid : Prop := wearChoicesUptoRow.holds Try.pinned (OpenSpec.upto wearChoicesSpec)

/-- 'chertlaw08.WearPicks', WHERE WHAT IT READS IS OF BULK AT MOST 1048576: true; the input reads as it did. -/
def wearPicksUptoRow : OpenClaim := { program := "ytaganococolodaa", sum := "42f83e11df2531e35e72deb60a7e46ee9fef23d39eb6b8195fee87e9cb9c4575", func := "chert/chertlaw08.WearPicks", spec := "wearPicks", unfollowed := true, recurses := true, apart := false, narrowed := true }
def WearPicksUptoSaid : Prop := wearPicksUptoRow.holds Try.pinned (OpenSpec.upto wearPicksSpec)

end Rows
end Go.Proofs.Ytaganococolodaa
