/-
  No cell of these rows narrows 'for every input' (looked for: loops, veiled, ifaces, maps, wideKeys, modest, calm, conditions, laid).
  DERIVED. THE GIVEN ROWS OF THIS SEAT. 7 by the template 'for every input the law returns true; each argument reads behind the call as it read before'; 0 by the template 'total and deterministic' (their statements: YtioagfbjjjankaaTotals.lean).
  GIVEN WITH THE SEED: the statements are not yours to turn. If you find one false, say at which input.
  Laid BY PROGRAM, IN A SANDBOX (cutbox-rows.mjs): the forced cells as the released guide's own fill.sh prints them over the translation 4274623ac6c60d04… (all of the seat's roots in one cut). By AI agents, Wed Nov 11 2026. No macro, syntax, notation, axiom, sorry.
-/
import Derived.Test.YtioagfbjjjankaaChecked
import GoSem.Claim
import GoSem.ClaimJoined
import GoSem.ClaimMapViews
import Derived.JoinedTies
import Derived.KernelRfl
namespace Go.Proofs.Ytioagfbjjjankaa
/- THE CELL 'sum', in the pinned program and in every row, IS THE sha256 OF THE DUMP (.gsa) THAT YtioagfbjjjankaaProg.lean LOADS. Nothing in Lean hashes anything: it is a label: what it is worth is what the hold of that sum in a sandbox is worth. -/
noncomputable def Try.pinned : Pinned := { name := "ytioagfbjjjankaa", sum := "4274623ac6c60d0463907518ec6107ce2cdae409a9f25550947c51c15c812121", checked := Try.checked }
namespace Rows
def none {H : Type} : Left H := { results := [], args := [] }

/-- 'chertlaw02.PolyProducts': WHATEVER THE INPUT: true; the input reads as it did. -/
def polyProductsSpec : ChangeSpec := { name := "polyProducts", fn := fun _ => fun
  | [d1, d2] => { results := [.lit (.bool true)], args := [d1, d2] }
  | _ => none }
def polyProductsRow : OpenClaim := { program := "ytioagfbjjjankaa", sum := "4274623ac6c60d0463907518ec6107ce2cdae409a9f25550947c51c15c812121", func := "chert/chertlaw02.PolyProducts", spec := "polyProducts", apart := false }
def PolyProductsSaid : Prop := polyProductsRow.holds Try.pinned (OpenSpec.ofChange polyProductsSpec)

/-- ITS FALSE NEIGHBOUR: 'it returns false'. Refute it at one input. -/
def polyProductsWrong : ChangeSpec := { name := "polyProducts", fn := fun _ => fun
  | [d1, d2] => { results := [.lit (.bool false)], args := [d1, d2] }
  | _ => none }
def PolyProductsWrongFalsely : Prop := polyProductsRow.holds Try.pinned (OpenSpec.ofChange polyProductsWrong)

/-- 'chertlaw02.PolySquares': WHATEVER THE INPUT: true; the input reads as it did. -/
def polySquaresSpec : ChangeSpec := { name := "polySquares", fn := fun _ => fun
  | [d1, d2] => { results := [.lit (.bool true)], args := [d1, d2] }
  | _ => none }
def polySquaresRow : OpenClaim := { program := "ytioagfbjjjankaa", sum := "4274623ac6c60d0463907518ec6107ce2cdae409a9f25550947c51c15c812121", func := "chert/chertlaw02.PolySquares", spec := "polySquares", apart := false }
def PolySquaresSaid : Prop := polySquaresRow.holds Try.pinned (OpenSpec.ofChange polySquaresSpec)

/-- ITS FALSE NEIGHBOUR: 'it returns false'. Refute it at one input. -/
def polySquaresWrong : ChangeSpec := { name := "polySquares", fn := fun _ => fun
  | [d1, d2] => { results := [.lit (.bool false)], args := [d1, d2] }
  | _ => none }
def PolySquaresWrongFalsely : Prop := polySquaresRow.holds Try.pinned (OpenSpec.ofChange polySquaresWrong)

/-- 'chertlaw02.PolySums': WHATEVER THE INPUT: true; the input reads as it did. -/
def polySumsSpec : ChangeSpec := { name := "polySums", fn := fun _ => fun
  | [d1, d2] => { results := [.lit (.bool true)], args := [d1, d2] }
  | _ => none }
def polySumsRow : OpenClaim := { program := "ytioagfbjjjankaa", sum := "4274623ac6c60d0463907518ec6107ce2cdae409a9f25550947c51c15c812121", func := "chert/chertlaw02.PolySums", spec := "polySums", apart := false }
def PolySumsSaid : Prop := polySumsRow.holds Try.pinned (OpenSpec.ofChange polySumsSpec)

/-- ITS FALSE NEIGHBOUR: 'it returns false'. Refute it at one input. -/
def polySumsWrong : ChangeSpec := { name := "polySums", fn := fun _ => fun
  | [d1, d2] => { results := [.lit (.bool false)], args := [d1, d2] }
  | _ => none }
def PolySumsWrongFalsely : Prop := polySumsRow.holds Try.pinned (OpenSpec.ofChange polySumsWrong)

/-- 'chertlaw02.PolyRemainders': WHATEVER THE INPUT: true; the input reads as it did. -/
def polyRemaindersSpec : ChangeSpec := { name := "polyRemainders", fn := fun _ => fun
  | [d1, d2] => { results := [.lit (.bool true)], args := [d1, d2] }
  | _ => none }
def polyRemaindersRow : OpenClaim := { program := "ytioagfbjjjankaa", sum := "4274623ac6c60d0463907518ec6107ce2cdae409a9f25550947c51c15c812121", func := "chert/chertlaw02.PolyRemainders", spec := "polyRemainders", apart := false }
def PolyRemaindersSaid : Prop := polyRemaindersRow.holds Try.pinned (OpenSpec.ofChange polyRemaindersSpec)

/-- ITS FALSE NEIGHBOUR: 'it returns false'. Refute it at one input. -/
def polyRemaindersWrong : ChangeSpec := { name := "polyRemainders", fn := fun _ => fun
  | [d1, d2] => { results := [.lit (.bool false)], args := [d1, d2] }
  | _ => none }
def PolyRemaindersWrongFalsely : Prop := polyRemaindersRow.holds Try.pinned (OpenSpec.ofChange polyRemaindersWrong)

/-- 'chertlaw02.PolyDivides': WHATEVER THE INPUT: true; the input reads as it did. -/
def polyDividesSpec : ChangeSpec := { name := "polyDivides", fn := fun _ => fun
  | [d1, d2, d3] => { results := [.lit (.bool true)], args := [d1, d2, d3] }
  | _ => none }
def polyDividesRow : OpenClaim := { program := "ytioagfbjjjankaa", sum := "4274623ac6c60d0463907518ec6107ce2cdae409a9f25550947c51c15c812121", func := "chert/chertlaw02.PolyDivides", spec := "polyDivides", apart := false }
def PolyDividesSaid : Prop := polyDividesRow.holds Try.pinned (OpenSpec.ofChange polyDividesSpec)

/-- ITS FALSE NEIGHBOUR: 'it returns false'. Refute it at one input. -/
def polyDividesWrong : ChangeSpec := { name := "polyDivides", fn := fun _ => fun
  | [d1, d2, d3] => { results := [.lit (.bool false)], args := [d1, d2, d3] }
  | _ => none }
def PolyDividesWrongFalsely : Prop := polyDividesRow.holds Try.pinned (OpenSpec.ofChange polyDividesWrong)

/-- 'chertlaw02.PolyMinimals': WHATEVER THE INPUT: true; the input reads as it did. -/
def polyMinimalsSpec : ChangeSpec := { name := "polyMinimals", fn := fun _ => fun
  | [d1, d2] => { results := [.lit (.bool true)], args := [d1, d2] }
  | _ => none }
def polyMinimalsRow : OpenClaim := { program := "ytioagfbjjjankaa", sum := "4274623ac6c60d0463907518ec6107ce2cdae409a9f25550947c51c15c812121", func := "chert/chertlaw02.PolyMinimals", spec := "polyMinimals", inPlace := ["sync/atomic.LoadUint32", "(*internal/sync.Mutex).Lock", "internal/race.Disable", "sync/atomic.CompareAndSwapInt32", "internal/race.Enable", "internal/race.Acquire", "(*internal/sync.Mutex).lockSlow", "internal/sync.runtime_canSpin", "internal/sync.runtime_doSpin", "internal/sync.throw", "internal/sync.runtime_nanotime", "internal/sync.runtime_SemacquireMutex", "sync/atomic.AddInt32", "(*internal/sync.Mutex).Unlock", "internal/race.ReleaseMerge", "(*internal/sync.Mutex).unlockSlow", "internal/sync.fatal", "internal/sync.runtime_Semrelease", "sync/atomic.StoreUint32", "sync/atomic.AddInt64"], unfollowed := true, recurses := true, apart := false }
def PolyMinimalsSaid : Prop := polyMinimalsRow.holds Try.pinned (OpenSpec.ofChange polyMinimalsSpec)

/-- ITS FALSE NEIGHBOUR: 'it returns false'. Refute it at one input. -/
def polyMinimalsWrong : ChangeSpec := { name := "polyMinimals", fn := fun _ => fun
  | [d1, d2] => { results := [.lit (.bool false)], args := [d1, d2] }
  | _ => none }
def PolyMinimalsWrongFalsely : Prop := polyMinimalsRow.holds Try.pinned (OpenSpec.ofChange polyMinimalsWrong)

/-- 'chertlaw02.PolyRoots': WHATEVER THE INPUT: true; the input reads as it did. -/
def polyRootsSpec : ChangeSpec := { name := "polyRoots", fn := fun _ => fun
  | [d1, d2] => { results := [.lit (.bool true)], args := [d1, d2] }
  | _ => none }
def polyRootsRow : OpenClaim := { program := "ytioagfbjjjankaa", sum := "4274623ac6c60d0463907518ec6107ce2cdae409a9f25550947c51c15c812121", func := "chert/chertlaw02.PolyRoots", spec := "polyRoots", inPlace := ["sync/atomic.LoadUint32", "(*internal/sync.Mutex).Lock", "internal/race.Disable", "sync/atomic.CompareAndSwapInt32", "internal/race.Enable", "internal/race.Acquire", "(*internal/sync.Mutex).lockSlow", "internal/sync.runtime_canSpin", "internal/sync.runtime_doSpin", "internal/sync.throw", "internal/sync.runtime_nanotime", "internal/sync.runtime_SemacquireMutex", "sync/atomic.AddInt32", "(*internal/sync.Mutex).Unlock", "internal/race.ReleaseMerge", "(*internal/sync.Mutex).unlockSlow", "internal/sync.fatal", "internal/sync.runtime_Semrelease", "sync/atomic.StoreUint32", "sync/atomic.AddInt64"], unfollowed := true, recurses := true, apart := false }
def PolyRootsSaid : Prop := polyRootsRow.holds Try.pinned (OpenSpec.ofChange polyRootsSpec)

/-- ITS FALSE NEIGHBOUR: 'it returns false'. Refute it at one input. -/
def polyRootsWrong : ChangeSpec := { name := "polyRoots", fn := fun _ => fun
  | [d1, d2] => { results := [.lit (.bool false)], args := [d1, d2] }
  | _ => none }
def PolyRootsWrongFalsely : Prop := polyRootsRow.holds Try.pinned (OpenSpec.ofChange polyRootsWrong)

/- THE SECOND FORM. 'bulk': how many values and letters a reading holds, each counted each time it is reached (what is shared counts as often as it is met; a slice's spare places count too). A statement '..UptoSaid' is the law's where the arguments, and the package variables that the reading takes, are together of bulk at most 1048576: NARROWER than '..Said'. Prove '..Said' where nothing that the law and all that it calls make is longer than what came in: it says more and counts as full. Else prove '..UptoSaid'. A law counts once. -/
mutual
def uptoBulk {H : Type} : DataW H → Nat
  | .lit (.string bytes) => bytes.length + 1
  | .lit _ => 1
  | .nil => 1
  | .ptr d => uptoBulk d + 1
  | .slice elems spare => uptoBulkAll elems + uptoBulkAll spare + 1
  | .agg parts => uptoBulkAll parts + 1
  | .iface _ d => uptoBulk d + 1
  | .map entries => uptoBulkEntries entries + 1
  | .held _ => 1
def uptoBulkAll {H : Type} : List (DataW H) → Nat
  | [] => 0
  | d :: r => uptoBulk d + uptoBulkAll r
def uptoBulkEntries {H : Type} : List (Lit × DataW H) → Nat
  | [] => 0
  | x :: r => uptoBulkEntry x + uptoBulkEntries r
def uptoBulkEntry {H : Type} : Lit × DataW H → Nat
  | (.string bytes, d) => bytes.length + uptoBulk d + 1
  | (_, d) => uptoBulk d + 1
 end
def uptoSmall : (H : Type) → List (DataW H) → Bool := fun _ ds => decide (uptoBulkAll ds ≤ 1048576)
def OpenSpec.upto (s : _root_.Go.ChangeSpec) : _root_.Go.OpenSpec := { _root_.Go.OpenSpec.ofChange s with cond := some uptoSmall }

/-- 'chertlaw02.PolyProducts', WHERE WHAT IT READS IS OF BULK AT MOST 1048576: true; the input reads as it did. -/
def polyProductsUptoRow : OpenClaim := { program := "ytioagfbjjjankaa", sum := "4274623ac6c60d0463907518ec6107ce2cdae409a9f25550947c51c15c812121", func := "chert/chertlaw02.PolyProducts", spec := "polyProducts", apart := false, narrowed := true }
def PolyProductsUptoSaid : Prop := polyProductsUptoRow.holds Try.pinned (OpenSpec.upto polyProductsSpec)

/-- 'chertlaw02.PolySquares', WHERE WHAT IT READS IS OF BULK AT MOST 1048576: true; the input reads as it did. -/
def polySquaresUptoRow : OpenClaim := { program := "ytioagfbjjjankaa", sum := "4274623ac6c60d0463907518ec6107ce2cdae409a9f25550947c51c15c812121", func := "chert/chertlaw02.PolySquares", spec := "polySquares", apart := false, narrowed := true }
def PolySquaresUptoSaid : Prop := polySquaresUptoRow.holds Try.pinned (OpenSpec.upto polySquaresSpec)

/-- 'chertlaw02.PolySums', WHERE WHAT IT READS IS OF BULK AT MOST 1048576: true; the input reads as it did. -/
def polySumsUptoRow : OpenClaim := { program := "ytioagfbjjjankaa", sum := "4274623ac6c60d0463907518ec6107ce2cdae409a9f25550947c51c15c812121", func := "chert/chertlaw02.PolySums", spec := "polySums", apart := false, narrowed := true }
def PolySumsUptoSaid : Prop := polySumsUptoRow.holds Try.pinned (OpenSpec.upto polySumsSpec)

/-- 'chertlaw02.PolyRemainders', WHERE WHAT IT READS IS OF BULK AT MOST 1048576: true; the input reads as it did. -/
def polyRemaindersUptoRow : OpenClaim := { program := "ytioagfbjjjankaa", sum := "4274623ac6c60d0463907518ec6107ce2cdae409a9f25550947c51c15c812121", func := "chert/chertlaw02.PolyRemainders", spec := "polyRemainders", apart := false, narrowed := true }
def PolyRemaindersUptoSaid : Prop := polyRemaindersUptoRow.holds Try.pinned (OpenSpec.upto polyRemaindersSpec)

/-- 'chertlaw02.PolyDivides', WHERE WHAT IT READS IS OF BULK AT MOST 1048576: true; the input reads as it did. -/
def polyDividesUptoRow : OpenClaim := { program := "ytioagfbjjjankaa", sum := "4274623ac6c60d0463907518ec6107ce2cdae409a9f25550947c51c15c812121", func := "chert/chertlaw02.PolyDivides", spec := "polyDivides", apart := false, narrowed := true }
def PolyDividesUptoSaid : Prop := polyDividesUptoRow.holds Try.pinned (OpenSpec.upto polyDividesSpec)

/-- 'chertlaw02.PolyMinimals', WHERE WHAT IT READS IS OF BULK AT MOST 1048576: true; the input reads as it did. -/
def polyMinimalsUptoRow : OpenClaim := { program := "ytioagfbjjjankaa", sum := "4274623ac6c60d0463907518ec6107ce2cdae409a9f25550947c51c15c812121", func := "chert/chertlaw02.PolyMinimals", spec := "polyMinimals", inPlace := ["sync/atomic.LoadUint32", "(*internal/sync.Mutex).Lock", "internal/race.Disable", "sync/atomic.CompareAndSwapInt32", "internal/race.Enable", "internal/race.Acquire", "(*internal/sync.Mutex).lockSlow", "internal/sync.runtime_canSpin", "internal/sync.runtime_doSpin", "internal/sync.throw", "internal/sync.runtime_nanotime", "internal/sync.runtime_SemacquireMutex", "sync/atomic.AddInt32", "(*internal/sync.Mutex).Unlock", "internal/race.ReleaseMerge", "(*internal/sync.Mutex).unlockSlow", "internal/sync.fatal", "internal/sync.runtime_Semrelease", "sync/atomic.StoreUint32", "sync/atomic.AddInt64"], unfollowed := true, recurses := true, apart := false, narrowed := true }
def PolyMinimalsUptoSaid : Prop := polyMinimalsUptoRow.holds Try.pinned (OpenSpec.upto polyMinimalsSpec)

/-- 'chertlaw02.PolyRoots', WHERE WHAT IT READS IS OF BULK AT MOST 1048576: true; the input reads as it did. -/
def polyRootsUptoRow : OpenClaim := { program := "ytioagfbjjjankaa", sum := "4274623ac6c60d0463907518ec6107ce2cdae409a9f25550947c51c15c812121", func := "chert/chertlaw02.PolyRoots", spec := "polyRoots", inPlace := ["sync/atomic.LoadUint32", "(*internal/sync.Mutex).Lock", "internal/race.Disable", "sync/atomic.CompareAndSwapInt32", "internal/race.Enable", "internal/race.Acquire", "(*internal/sync.Mutex).lockSlow", "internal/sync.runtime_canSpin", "internal/sync.runtime_doSpin", "internal/sync.throw", "internal/sync.runtime_nanotime", "internal/sync.runtime_SemacquireMutex", "sync/atomic.AddInt32", "(*internal/sync.Mutex).Unlock", "internal/race.ReleaseMerge", "(*internal/sync.Mutex).unlockSlow", "internal/sync.fatal", "internal/sync.runtime_Semrelease", "sync/atomic.StoreUint32", "sync/atomic.AddInt64"], unfollowed := true, recurses := true, apart := false, narrowed := true }
def PolyRootsUptoSaid : Prop := polyRootsUptoRow.holds Try.pinned (OpenSpec.upto polyRootsSpec)

end Rows
end Go.Proofs.Ytioagfbjjjankaa
