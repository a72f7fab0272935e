/-
  No cell of these rows narrows 'for every input' (looked for: loops, veiled, ifaces, maps, wideKeys, modest, calm, conditions, laid).
  DERIVED. THE GIVEN ROWS OF THIS SEAT. 5 by the template 'for every input the law returns true; each argument reads behind the call as it read before'; 0 by the template 'total and deterministic' (their statements: YtobacpnjmenjpaaTotals.lean).
  GIVEN WITH THE SEED: the statements are not yours to turn. If you find one false, say at which input.
  Laid BY PROGRAM, IN A SANDBOX (cutbox-rows.mjs): the forced cells as the released guide's own fill.sh prints them over the translation 55d58a87dfd19961… (all of the seat's roots in one cut). By AI agents, Wed Nov 11 2026. No macro, syntax, notation, axiom, sorry.
-/
import Derived.Test.YtobacpnjmenjpaaChecked
import GoSem.Claim
import GoSem.ClaimJoined
import GoSem.ClaimMapViews
import Derived.JoinedTies
import Derived.KernelRfl
namespace Go.Proofs.Ytobacpnjmenjpaa
/- THE CELL 'sum', in the pinned program and in every row, IS THE sha256 OF THE DUMP (.gsa) THAT YtobacpnjmenjpaaProg.lean LOADS. Nothing in Lean hashes anything: it is a label: what it is worth is what the hold of that sum in a sandbox is worth. -/
noncomputable def Try.pinned : Pinned := { name := "ytobacpnjmenjpaa", sum := "55d58a87dfd19961406cb2b51eb79de002d9ab78a1725cdcb73437efc2de9f86", checked := Try.checked }
namespace Rows
def none {H : Type} : Left H := { results := [], args := [] }

/-- 'chertlaw10.LzUnpacks': WHATEVER THE INPUT: true; the input reads as it did. -/
def lzUnpacksSpec : ChangeSpec := { name := "lzUnpacks", fn := fun _ => fun
  | [d1, d2] => { results := [.lit (.bool true)], args := [d1, d2] }
  | _ => none }
def lzUnpacksRow : OpenClaim := { program := "ytobacpnjmenjpaa", sum := "55d58a87dfd19961406cb2b51eb79de002d9ab78a1725cdcb73437efc2de9f86", func := "chert/chertlaw10.LzUnpacks", spec := "lzUnpacks", plainKeys := false, apart := false }
def LzUnpacksSaid : Prop := lzUnpacksRow.holds Try.pinned (OpenSpec.ofChange lzUnpacksSpec)

/-- ITS FALSE NEIGHBOUR: 'it returns false'. Refute it at one input. -/
def lzUnpacksWrong : ChangeSpec := { name := "lzUnpacks", fn := fun _ => fun
  | [d1, d2] => { results := [.lit (.bool false)], args := [d1, d2] }
  | _ => none }
def LzUnpacksWrongFalsely : Prop := lzUnpacksRow.holds Try.pinned (OpenSpec.ofChange lzUnpacksWrong)

/-- 'chertlaw10.LzPacks': WHATEVER THE INPUT: true; the input reads as it did. -/
def lzPacksSpec : ChangeSpec := { name := "lzPacks", fn := fun _ => fun
  | [d] => { results := [.lit (.bool true)], args := [d] }
  | _ => none }
def lzPacksRow : OpenClaim := { program := "ytobacpnjmenjpaa", sum := "55d58a87dfd19961406cb2b51eb79de002d9ab78a1725cdcb73437efc2de9f86", func := "chert/chertlaw10.LzPacks", spec := "lzPacks", inPlace := ["internal/abi.NoEscape"], plainKeys := false, apart := false }
def LzPacksSaid : Prop := lzPacksRow.holds Try.pinned (OpenSpec.ofChange lzPacksSpec)

/-- ITS FALSE NEIGHBOUR: 'it returns false'. Refute it at one input. -/
def lzPacksWrong : ChangeSpec := { name := "lzPacks", fn := fun _ => fun
  | [d] => { results := [.lit (.bool false)], args := [d] }
  | _ => none }
def LzPacksWrongFalsely : Prop := lzPacksRow.holds Try.pinned (OpenSpec.ofChange lzPacksWrong)

/-- 'chertlaw10.LzShort': WHATEVER THE INPUT: true; the input reads as it did. -/
def lzShortSpec : ChangeSpec := { name := "lzShort", fn := fun _ => fun
  | [d1, d2] => { results := [.lit (.bool true)], args := [d1, d2] }
  | _ => none }
def lzShortRow : OpenClaim := { program := "ytobacpnjmenjpaa", sum := "55d58a87dfd19961406cb2b51eb79de002d9ab78a1725cdcb73437efc2de9f86", func := "chert/chertlaw10.LzShort", spec := "lzShort", inPlace := ["internal/abi.NoEscape"], plainKeys := false, apart := false }
def LzShortSaid : Prop := lzShortRow.holds Try.pinned (OpenSpec.ofChange lzShortSpec)

/-- ITS FALSE NEIGHBOUR: 'it returns false'. Refute it at one input. -/
def lzShortWrong : ChangeSpec := { name := "lzShort", fn := fun _ => fun
  | [d1, d2] => { results := [.lit (.bool false)], args := [d1, d2] }
  | _ => none }
def LzShortWrongFalsely : Prop := lzShortRow.holds Try.pinned (OpenSpec.ofChange lzShortWrong)

/-- 'chertlaw10.LzCut': WHATEVER THE INPUT: true; the input reads as it did. -/
def lzCutSpec : ChangeSpec := { name := "lzCut", fn := fun _ => fun
  | [d1, d2] => { results := [.lit (.bool true)], args := [d1, d2] }
  | _ => none }
def lzCutRow : OpenClaim := { program := "ytobacpnjmenjpaa", sum := "55d58a87dfd19961406cb2b51eb79de002d9ab78a1725cdcb73437efc2de9f86", func := "chert/chertlaw10.LzCut", spec := "lzCut", inPlace := ["internal/abi.NoEscape"], plainKeys := false, apart := false }
def LzCutSaid : Prop := lzCutRow.holds Try.pinned (OpenSpec.ofChange lzCutSpec)

/-- ITS FALSE NEIGHBOUR: 'it returns false'. Refute it at one input. -/
def lzCutWrong : ChangeSpec := { name := "lzCut", fn := fun _ => fun
  | [d1, d2] => { results := [.lit (.bool false)], args := [d1, d2] }
  | _ => none }
def LzCutWrongFalsely : Prop := lzCutRow.holds Try.pinned (OpenSpec.ofChange lzCutWrong)

/-- 'chertlaw10.LzTwice': WHATEVER THE INPUT: true; the input reads as it did. -/
def lzTwiceSpec : ChangeSpec := { name := "lzTwice", fn := fun _ => fun
  | [d] => { results := [.lit (.bool true)], args := [d] }
  | _ => none }
def lzTwiceRow : OpenClaim := { program := "ytobacpnjmenjpaa", sum := "55d58a87dfd19961406cb2b51eb79de002d9ab78a1725cdcb73437efc2de9f86", func := "chert/chertlaw10.LzTwice", spec := "lzTwice", inPlace := ["internal/abi.NoEscape"], plainKeys := false, apart := false }
def LzTwiceSaid : Prop := lzTwiceRow.holds Try.pinned (OpenSpec.ofChange lzTwiceSpec)

/-- ITS FALSE NEIGHBOUR: 'it returns false'. Refute it at one input. -/
def lzTwiceWrong : ChangeSpec := { name := "lzTwice", fn := fun _ => fun
  | [d] => { results := [.lit (.bool false)], args := [d] }
  | _ => none }
def LzTwiceWrongFalsely : Prop := lzTwiceRow.holds Try.pinned (OpenSpec.ofChange lzTwiceWrong)

/- THE SECOND FORM. 'bulk': how many values and letters a reading holds, each counted each time it is reached (what is shared counts as often as it is met; a slice's spare places count too). A statement '..UptoSaid' is the law's where the arguments, and the package variables that the reading takes, are together of bulk at most 1048576: NARROWER than '..Said'. Prove '..Said' where nothing that the law and all that it calls make is longer than what came in: it says more and counts as full. Else prove '..UptoSaid'. A law counts once. -/
mutual
def uptoBulk {H : Type} : DataW H → Nat
  | .lit (.string bytes) => bytes.length + 1
  | .lit _ => 1
  | .nil => 1
  | .ptr d => uptoBulk d + 1
  | .slice elems spare => uptoBulkAll elems + uptoBulkAll spare + 1
  | .agg parts => uptoBulkAll parts + 1
  | .iface _ d => uptoBulk d + 1
  | .map entries => uptoBulkEntries entries + 1
  | .held _ => 1
def uptoBulkAll {H : Type} : List (DataW H) → Nat
  | [] => 0
  | d :: r => uptoBulk d + uptoBulkAll r
def uptoBulkEntries {H : Type} : List (Lit × DataW H) → Nat
  | [] => 0
  | x :: r => uptoBulkEntry x + uptoBulkEntries r
def uptoBulkEntry {H : Type} : Lit × DataW H → Nat
  | (.string bytes, d) => bytes.length + uptoBulk d + 1
  | (_, d) => uptoBulk d + 1
 end
def uptoSmall : (H : Type) → List (DataW H) → Bool := fun _ ds => decide (uptoBulkAll ds ≤ 1048576)
def OpenSpec.upto (s : _root_.Go.ChangeSpec) : _root_.Go.OpenSpec := { _root_.Go.OpenSpec.ofChange s with cond := some uptoSmall }

/-- 'chertlaw10.LzUnpacks', WHERE WHAT IT READS IS OF BULK AT MOST 1048576: true; the input reads as it did. -/
def lzUnpacksUptoRow : OpenClaim := { program := "ytobacpnjmenjpaa", sum := "55d58a87dfd19961406cb2b51eb79de002d9ab78a1725cdcb73437efc2de9f86", func := "chert/chertlaw10.LzUnpacks", spec := "lzUnpacks", plainKeys := false, apart := false, narrowed := true }
def LzUnpacksUptoSaid : Prop := lzUnpacksUptoRow.holds Try.pinned (OpenSpec.upto lzUnpacksSpec)

/-- 'chertlaw10.LzPacks', WHERE WHAT IT READS IS OF BULK AT MOST 1048576: true; the input reads as it did. -/
def lzPacksUptoRow : OpenClaim := { program := "ytobacpnjmenjpaa", sum := "55d58a87dfd19961406cb2b51eb79de002d9ab78a1725cdcb73437efc2de9f86", func := "chert/chertlaw10.LzPacks", spec := "lzPacks", inPlace := ["internal/abi.NoEscape"], plainKeys := false, apart := false, narrowed := true }
def LzPacksUptoSaid : Prop := lzPacksUptoRow.holds Try.pinned (OpenSpec.upto lzPacksSpec)

/-- 'chertlaw10.LzShort', WHERE WHAT IT READS IS OF BULK AT MOST 1048576: true; the input reads as it did. -/
def lzShortUptoRow : OpenClaim := { program := "ytobacpnjmenjpaa", sum := "55d58a87dfd19961406cb2b51eb79de002d9ab78a1725cdcb73437efc2de9f86", func := "chert/chertlaw10.LzShort", spec := "lzShort", inPlace := ["internal/abi.NoEscape"], plainKeys := false, apart := false, narrowed := true }
def LzShortUptoSaid : Prop := lzShortUptoRow.holds Try.pinned (OpenSpec.upto lzShortSpec)

/-- 'chertlaw10.LzCut', WHERE WHAT IT READS IS OF BULK AT MOST 1048576: true; the input reads as it did. -/
def lzCutUptoRow : OpenClaim := { program := "ytobacpnjmenjpaa", sum := "55d58a87dfd19961406cb2b51eb79de002d9ab78a1725cdcb73437efc2de9f86", func := "chert/chertlaw10.LzCut", spec := "lzCut", inPlace := ["internal/abi.NoEscape"], plainKeys := false, apart := false, narrowed := true }
def LzCutUptoSaid : Prop := lzCutUptoRow.holds Try.pinned (OpenSpec.upto lzCutSpec)

/-- 'chertlaw10.LzTwice', WHERE WHAT IT READS IS OF BULK AT MOST 1048576: true; the input reads as it did. -/
def lzTwiceUptoRow : OpenClaim := { program := "ytobacpnjmenjpaa", sum := "55d58a87dfd19961406cb2b51eb79de002d9ab78a1725cdcb73437efc2de9f86", func := "chert/chertlaw10.LzTwice", spec := "lzTwice", inPlace := ["internal/abi.NoEscape"], plainKeys := false, apart := false, narrowed := true }
def LzTwiceUptoSaid : Prop := lzTwiceUptoRow.holds Try.pinned (OpenSpec.upto lzTwiceSpec)

end Rows
end Go.Proofs.Ytobacpnjmenjpaa
