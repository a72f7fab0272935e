/-
  No cell of these rows narrows 'for every input' (looked for: loops, veiled, ifaces, maps, wideKeys, modest, calm, conditions, laid).
  DERIVED. THE GIVEN ROWS OF THIS SEAT. 3 by the template 'for every input the law returns true; each argument reads behind the call as it read before'; 0 by the template 'total and deterministic' (their statements: YtbkkdglmcoglfaaTotals.lean).
  GIVEN WITH THE SEED: the statements are not yours to turn. If you find one false, say at which input.
  Laid BY PROGRAM, IN A SANDBOX (cutbox-rows.mjs): the forced cells as the released guide's own fill.sh prints them over the translation d5f13648357ffdae… (all of the seat's roots in one cut). By AI agents, Wed Nov 11 2026. No macro, syntax, notation, axiom, sorry.
-/
import Derived.Test.YtbkkdglmcoglfaaChecked
import GoSem.Claim
import GoSem.ClaimJoined
import GoSem.ClaimMapViews
import Derived.JoinedTies
import Derived.KernelRfl
namespace Go.Proofs.Ytbkkdglmcoglfaa
/- THE CELL 'sum', in the pinned program and in every row, IS THE sha256 OF THE DUMP (.gsa) THAT YtbkkdglmcoglfaaProg.lean LOADS. Nothing in Lean hashes anything: it is a label: what it is worth is what the hold of that sum in a sandbox is worth. -/
noncomputable def Try.pinned : Pinned := { name := "ytbkkdglmcoglfaa", sum := "d5f13648357ffdae7074e649236969593ff602b96305dd5d068a3b0a53c0695d", checked := Try.checked }
namespace Rows
def none {H : Type} : Left H := { results := [], args := [] }

/-- 'chertlaw13.PackFull': WHATEVER THE INPUT: true; the input reads as it did. -/
def packFullSpec : ChangeSpec := { name := "packFull", fn := fun _ => fun
  | [d1, d2] => { results := [.lit (.bool true)], args := [d1, d2] }
  | _ => none }
def packFullRow : OpenClaim := { program := "ytbkkdglmcoglfaa", sum := "d5f13648357ffdae7074e649236969593ff602b96305dd5d068a3b0a53c0695d", func := "chert/chertlaw13.PackFull", spec := "packFull", apart := false }
def PackFullSaid : Prop := packFullRow.holds Try.pinned (OpenSpec.ofChange packFullSpec)

/-- ITS FALSE NEIGHBOUR: 'it returns false'. Refute it at one input. -/
def packFullWrong : ChangeSpec := { name := "packFull", fn := fun _ => fun
  | [d1, d2] => { results := [.lit (.bool false)], args := [d1, d2] }
  | _ => none }
def PackFullWrongFalsely : Prop := packFullRow.holds Try.pinned (OpenSpec.ofChange packFullWrong)

/-- 'chertlaw13.PackScripts': WHATEVER THE INPUT: true; the input reads as it did. -/
def packScriptsSpec : ChangeSpec := { name := "packScripts", fn := fun _ => fun
  | [d1, d2] => { results := [.lit (.bool true)], args := [d1, d2] }
  | _ => none }
def packScriptsRow : OpenClaim := { program := "ytbkkdglmcoglfaa", sum := "d5f13648357ffdae7074e649236969593ff602b96305dd5d068a3b0a53c0695d", func := "chert/chertlaw13.PackScripts", spec := "packScripts", apart := false }
def PackScriptsSaid : Prop := packScriptsRow.holds Try.pinned (OpenSpec.ofChange packScriptsSpec)

/-- ITS FALSE NEIGHBOUR: 'it returns false'. Refute it at one input. -/
def packScriptsWrong : ChangeSpec := { name := "packScripts", fn := fun _ => fun
  | [d1, d2] => { results := [.lit (.bool false)], args := [d1, d2] }
  | _ => none }
def PackScriptsWrongFalsely : Prop := packScriptsRow.holds Try.pinned (OpenSpec.ofChange packScriptsWrong)

/-- 'chertlaw13.PackPages': WHATEVER THE INPUT: true; the input reads as it did. -/
def packPagesSpec : ChangeSpec := { name := "packPages", fn := fun _ => fun
  | [d1, d2] => { results := [.lit (.bool true)], args := [d1, d2] }
  | _ => none }
def packPagesRow : OpenClaim := { program := "ytbkkdglmcoglfaa", sum := "d5f13648357ffdae7074e649236969593ff602b96305dd5d068a3b0a53c0695d", func := "chert/chertlaw13.PackPages", spec := "packPages", apart := false }
def PackPagesSaid : Prop := packPagesRow.holds Try.pinned (OpenSpec.ofChange packPagesSpec)

/-- ITS FALSE NEIGHBOUR: 'it returns false'. Refute it at one input. -/
def packPagesWrong : ChangeSpec := { name := "packPages", fn := fun _ => fun
  | [d1, d2] => { results := [.lit (.bool false)], args := [d1, d2] }
  | _ => none }
def PackPagesWrongFalsely : Prop := packPagesRow.holds Try.pinned (OpenSpec.ofChange packPagesWrong)

/- THE SECOND FORM. 'bulk': how many values and letters a reading holds, each counted each time it is reached (what is shared counts as often as it is met; a slice's spare places count too). A statement '..UptoSaid' is the law's where the arguments, and the package variables that the reading takes, are together of bulk at most 1048576: NARROWER than '..Said'. Prove '..Said' where nothing that the law and all that it calls make is longer than what came in: it says more and counts as full. Else prove '..UptoSaid'. A law counts once. -/
mutual
def uptoBulk {H : Type} : DataW H → Nat
  | .lit (.string bytes) => bytes.length + 1
  | .lit _ => 1
  | .nil => 1
  | .ptr d => uptoBulk d + 1
  | .slice elems spare => uptoBulkAll elems + uptoBulkAll spare + 1
  | .agg parts => uptoBulkAll parts + 1
  | .iface _ d => uptoBulk d + 1
  | .map entries => uptoBulkEntries entries + 1
  | .held _ => 1
def uptoBulkAll {H : Type} : List (DataW H) → Nat
  | [] => 0
  | d :: r => uptoBulk d + uptoBulkAll r
def uptoBulkEntries {H : Type} : List (Lit × DataW H) → Nat
  | [] => 0
  | x :: r => uptoBulkEntry x + uptoBulkEntries r
def uptoBulkEntry {H : Type} : Lit × DataW H → Nat
  | (.string bytes, d) => bytes.length + uptoBulk d + 1
  | (_, d) => uptoBulk d + 1
 end
def uptoSmall : (H : Type) → List (DataW H) → Bool := fun _ ds => decide (uptoBulkAll ds ≤ 1048576)
def OpenSpec.upto (s : _root_.Go.ChangeSpec) : _root_.Go.OpenSpec := { _root_.Go.OpenSpec.ofChange s with cond := some uptoSmall }

/-- 'chertlaw13.PackFull', WHERE WHAT IT READS IS OF BULK AT MOST 1048576: true; the input reads as it did. -/
def packFullUptoRow : OpenClaim := { program := "ytbkkdglmcoglfaa", sum := "d5f13648357ffdae7074e649236969593ff602b96305dd5d068a3b0a53c0695d", func := "chert/chertlaw13.PackFull", spec := "packFull", apart := false, narrowed := true }
def PackFullUptoSaid : Prop := packFullUptoRow.holds Try.pinned (OpenSpec.upto packFullSpec)

/-- 'chertlaw13.PackScripts', WHERE WHAT IT READS IS OF BULK AT MOST 1048576: true; the input reads as it did. -/
def packScriptsUptoRow : OpenClaim := { program := "ytbkkdglmcoglfaa", sum := "d5f13648357ffdae7074e649236969593ff602b96305dd5d068a3b0a53c0695d", func := "chert/chertlaw13.PackScripts", spec := "packScripts", apart := false, narrowed := true }
def PackScriptsUptoSaid : Prop := packScriptsUptoRow.holds Try.pinned (OpenSpec.upto packScriptsSpec)

/-- 'chertlaw13.PackPages', WHERE WHAT IT READS IS OF BULK AT MOST 1048576: true; the input reads as it did. -/
def packPagesUptoRow : OpenClaim := { program := "ytbkkdglmcoglfaa", sum := "d5f13648357ffdae7074e649236969593ff602b96305dd5d068a3b0a53c0695d", func := "chert/chertlaw13.PackPages", spec := "packPages", apart := false, narrowed := true }
def PackPagesUptoSaid : Prop := packPagesUptoRow.holds Try.pinned (OpenSpec.upto packPagesSpec)

end Rows
end Go.Proofs.Ytbkkdglmcoglfaa
