/-
  No cell of these rows narrows 'for every input' (looked for: loops, veiled, ifaces, maps, wideKeys, modest, calm, conditions, laid).
  DERIVED. THE GIVEN ROWS OF THIS SEAT. 7 by the template 'for every input the law returns true; each argument reads behind the call as it read before'; 0 by the template 'total and deterministic' (their statements: YtciacjegndjdmaaTotals.lean).
  GIVEN WITH THE SEED: the statements are not yours to turn. If you find one false, say at which input.
  Laid BY PROGRAM, IN A SANDBOX (cutbox-rows.mjs): the forced cells as the released guide's own fill.sh prints them over the translation 8cdce4f2d16fc6a6… (all of the seat's roots in one cut). By AI agents, Wed Nov 11 2026. No macro, syntax, notation, axiom, sorry.
-/
import Derived.Test.YtciacjegndjdmaaChecked
import GoSem.Claim
import GoSem.ClaimJoined
import GoSem.ClaimMapViews
import Derived.JoinedTies
import Derived.KernelRfl
namespace Go.Proofs.Ytciacjegndjdmaa
/- THE CELL 'sum', in the pinned program and in every row, IS THE sha256 OF THE DUMP (.gsa) THAT YtciacjegndjdmaaProg.lean LOADS. Nothing in Lean hashes anything: it is a label: what it is worth is what the hold of that sum in a sandbox is worth. -/
noncomputable def Try.pinned : Pinned := { name := "ytciacjegndjdmaa", sum := "8cdce4f2d16fc6a6ca5f2f241407d76c252625141e28a565c1f435c2b2a21419", checked := Try.checked }
namespace Rows
def none {H : Type} : Left H := { results := [], args := [] }

/-- 'chertlaw01.GfProducts': WHATEVER THE INPUT: true; the input reads as it did. -/
def gfProductsSpec : ChangeSpec := { name := "gfProducts", fn := fun _ => fun
  | [d1, d2] => { results := [.lit (.bool true)], args := [d1, d2] }
  | _ => none }
def gfProductsRow : OpenClaim := { program := "ytciacjegndjdmaa", sum := "8cdce4f2d16fc6a6ca5f2f241407d76c252625141e28a565c1f435c2b2a21419", func := "chert/chertlaw01.GfProducts", spec := "gfProducts", inPlace := ["sync/atomic.LoadUint32", "(*internal/sync.Mutex).Lock", "internal/race.Disable", "sync/atomic.CompareAndSwapInt32", "internal/race.Enable", "internal/race.Acquire", "(*internal/sync.Mutex).lockSlow", "internal/sync.runtime_canSpin", "internal/sync.runtime_doSpin", "internal/sync.throw", "internal/sync.runtime_nanotime", "internal/sync.runtime_SemacquireMutex", "sync/atomic.AddInt32", "(*internal/sync.Mutex).Unlock", "internal/race.ReleaseMerge", "(*internal/sync.Mutex).unlockSlow", "internal/sync.fatal", "internal/sync.runtime_Semrelease", "sync/atomic.StoreUint32", "sync/atomic.AddInt64", "sync/atomic.LoadInt64"], unfollowed := true, recurses := true, apart := false }
def GfProductsSaid : Prop := gfProductsRow.holds Try.pinned (OpenSpec.ofChange gfProductsSpec)

/-- ITS FALSE NEIGHBOUR: 'it returns false'. Refute it at one input. -/
def gfProductsWrong : ChangeSpec := { name := "gfProducts", fn := fun _ => fun
  | [d1, d2] => { results := [.lit (.bool false)], args := [d1, d2] }
  | _ => none }
def GfProductsWrongFalsely : Prop := gfProductsRow.holds Try.pinned (OpenSpec.ofChange gfProductsWrong)

/-- 'chertlaw01.GfRules': WHATEVER THE INPUT: true; the input reads as it did. -/
def gfRulesSpec : ChangeSpec := { name := "gfRules", fn := fun _ => fun
  | [d1, d2, d3] => { results := [.lit (.bool true)], args := [d1, d2, d3] }
  | _ => none }
def gfRulesRow : OpenClaim := { program := "ytciacjegndjdmaa", sum := "8cdce4f2d16fc6a6ca5f2f241407d76c252625141e28a565c1f435c2b2a21419", func := "chert/chertlaw01.GfRules", spec := "gfRules", inPlace := ["sync/atomic.LoadUint32", "(*internal/sync.Mutex).Lock", "internal/race.Disable", "sync/atomic.CompareAndSwapInt32", "internal/race.Enable", "internal/race.Acquire", "(*internal/sync.Mutex).lockSlow", "internal/sync.runtime_canSpin", "internal/sync.runtime_doSpin", "internal/sync.throw", "internal/sync.runtime_nanotime", "internal/sync.runtime_SemacquireMutex", "sync/atomic.AddInt32", "(*internal/sync.Mutex).Unlock", "internal/race.ReleaseMerge", "(*internal/sync.Mutex).unlockSlow", "internal/sync.fatal", "internal/sync.runtime_Semrelease", "sync/atomic.StoreUint32", "sync/atomic.AddInt64", "sync/atomic.LoadInt64"], unfollowed := true, recurses := true, apart := false }
def GfRulesSaid : Prop := gfRulesRow.holds Try.pinned (OpenSpec.ofChange gfRulesSpec)

/-- ITS FALSE NEIGHBOUR: 'it returns false'. Refute it at one input. -/
def gfRulesWrong : ChangeSpec := { name := "gfRules", fn := fun _ => fun
  | [d1, d2, d3] => { results := [.lit (.bool false)], args := [d1, d2, d3] }
  | _ => none }
def GfRulesWrongFalsely : Prop := gfRulesRow.holds Try.pinned (OpenSpec.ofChange gfRulesWrong)

/-- 'chertlaw01.GfEvals': WHATEVER THE INPUT: true; the input reads as it did. -/
def gfEvalsSpec : ChangeSpec := { name := "gfEvals", fn := fun _ => fun
  | [d1, d2] => { results := [.lit (.bool true)], args := [d1, d2] }
  | _ => none }
def gfEvalsRow : OpenClaim := { program := "ytciacjegndjdmaa", sum := "8cdce4f2d16fc6a6ca5f2f241407d76c252625141e28a565c1f435c2b2a21419", func := "chert/chertlaw01.GfEvals", spec := "gfEvals", inPlace := ["sync/atomic.LoadUint32", "(*internal/sync.Mutex).Lock", "internal/race.Disable", "sync/atomic.CompareAndSwapInt32", "internal/race.Enable", "internal/race.Acquire", "(*internal/sync.Mutex).lockSlow", "internal/sync.runtime_canSpin", "internal/sync.runtime_doSpin", "internal/sync.throw", "internal/sync.runtime_nanotime", "internal/sync.runtime_SemacquireMutex", "sync/atomic.AddInt32", "(*internal/sync.Mutex).Unlock", "internal/race.ReleaseMerge", "(*internal/sync.Mutex).unlockSlow", "internal/sync.fatal", "internal/sync.runtime_Semrelease", "sync/atomic.StoreUint32", "sync/atomic.AddInt64", "sync/atomic.LoadInt64"], unfollowed := true, recurses := true, apart := false }
def GfEvalsSaid : Prop := gfEvalsRow.holds Try.pinned (OpenSpec.ofChange gfEvalsSpec)

/-- ITS FALSE NEIGHBOUR: 'it returns false'. Refute it at one input. -/
def gfEvalsWrong : ChangeSpec := { name := "gfEvals", fn := fun _ => fun
  | [d1, d2] => { results := [.lit (.bool false)], args := [d1, d2] }
  | _ => none }
def GfEvalsWrongFalsely : Prop := gfEvalsRow.holds Try.pinned (OpenSpec.ofChange gfEvalsWrong)

/-- 'chertlaw01.GfLogs': WHATEVER THE INPUT: true; the input reads as it did. -/
def gfLogsSpec : ChangeSpec := { name := "gfLogs", fn := fun _ => fun
  | [d1, d2] => { results := [.lit (.bool true)], args := [d1, d2] }
  | _ => none }
def gfLogsRow : OpenClaim := { program := "ytciacjegndjdmaa", sum := "8cdce4f2d16fc6a6ca5f2f241407d76c252625141e28a565c1f435c2b2a21419", func := "chert/chertlaw01.GfLogs", spec := "gfLogs", inPlace := ["sync/atomic.LoadUint32", "(*internal/sync.Mutex).Lock", "internal/race.Disable", "sync/atomic.CompareAndSwapInt32", "internal/race.Enable", "internal/race.Acquire", "(*internal/sync.Mutex).lockSlow", "internal/sync.runtime_canSpin", "internal/sync.runtime_doSpin", "internal/sync.throw", "internal/sync.runtime_nanotime", "internal/sync.runtime_SemacquireMutex", "sync/atomic.AddInt32", "(*internal/sync.Mutex).Unlock", "internal/race.ReleaseMerge", "(*internal/sync.Mutex).unlockSlow", "internal/sync.fatal", "internal/sync.runtime_Semrelease", "sync/atomic.StoreUint32", "sync/atomic.AddInt64", "sync/atomic.LoadInt64"], unfollowed := true, recurses := true, apart := false }
def GfLogsSaid : Prop := gfLogsRow.holds Try.pinned (OpenSpec.ofChange gfLogsSpec)

/-- ITS FALSE NEIGHBOUR: 'it returns false'. Refute it at one input. -/
def gfLogsWrong : ChangeSpec := { name := "gfLogs", fn := fun _ => fun
  | [d1, d2] => { results := [.lit (.bool false)], args := [d1, d2] }
  | _ => none }
def GfLogsWrongFalsely : Prop := gfLogsRow.holds Try.pinned (OpenSpec.ofChange gfLogsWrong)

/-- 'chertlaw01.GfPowers': WHATEVER THE INPUT: true; the input reads as it did. -/
def gfPowersSpec : ChangeSpec := { name := "gfPowers", fn := fun _ => fun
  | [d1, d2] => { results := [.lit (.bool true)], args := [d1, d2] }
  | _ => none }
def gfPowersRow : OpenClaim := { program := "ytciacjegndjdmaa", sum := "8cdce4f2d16fc6a6ca5f2f241407d76c252625141e28a565c1f435c2b2a21419", func := "chert/chertlaw01.GfPowers", spec := "gfPowers", inPlace := ["sync/atomic.LoadUint32", "(*internal/sync.Mutex).Lock", "internal/race.Disable", "sync/atomic.CompareAndSwapInt32", "internal/race.Enable", "internal/race.Acquire", "(*internal/sync.Mutex).lockSlow", "internal/sync.runtime_canSpin", "internal/sync.runtime_doSpin", "internal/sync.throw", "internal/sync.runtime_nanotime", "internal/sync.runtime_SemacquireMutex", "sync/atomic.AddInt32", "(*internal/sync.Mutex).Unlock", "internal/race.ReleaseMerge", "(*internal/sync.Mutex).unlockSlow", "internal/sync.fatal", "internal/sync.runtime_Semrelease", "sync/atomic.StoreUint32", "sync/atomic.AddInt64", "sync/atomic.LoadInt64"], unfollowed := true, recurses := true, apart := false }
def GfPowersSaid : Prop := gfPowersRow.holds Try.pinned (OpenSpec.ofChange gfPowersSpec)

/-- ITS FALSE NEIGHBOUR: 'it returns false'. Refute it at one input. -/
def gfPowersWrong : ChangeSpec := { name := "gfPowers", fn := fun _ => fun
  | [d1, d2] => { results := [.lit (.bool false)], args := [d1, d2] }
  | _ => none }
def GfPowersWrongFalsely : Prop := gfPowersRow.holds Try.pinned (OpenSpec.ofChange gfPowersWrong)

/-- 'chertlaw01.GfSquares': WHATEVER THE INPUT: true; the input reads as it did. -/
def gfSquaresSpec : ChangeSpec := { name := "gfSquares", fn := fun _ => fun
  | [d1, d2] => { results := [.lit (.bool true)], args := [d1, d2] }
  | _ => none }
def gfSquaresRow : OpenClaim := { program := "ytciacjegndjdmaa", sum := "8cdce4f2d16fc6a6ca5f2f241407d76c252625141e28a565c1f435c2b2a21419", func := "chert/chertlaw01.GfSquares", spec := "gfSquares", inPlace := ["sync/atomic.LoadUint32", "(*internal/sync.Mutex).Lock", "internal/race.Disable", "sync/atomic.CompareAndSwapInt32", "internal/race.Enable", "internal/race.Acquire", "(*internal/sync.Mutex).lockSlow", "internal/sync.runtime_canSpin", "internal/sync.runtime_doSpin", "internal/sync.throw", "internal/sync.runtime_nanotime", "internal/sync.runtime_SemacquireMutex", "sync/atomic.AddInt32", "(*internal/sync.Mutex).Unlock", "internal/race.ReleaseMerge", "(*internal/sync.Mutex).unlockSlow", "internal/sync.fatal", "internal/sync.runtime_Semrelease", "sync/atomic.StoreUint32", "sync/atomic.AddInt64", "sync/atomic.LoadInt64"], unfollowed := true, recurses := true, apart := false }
def GfSquaresSaid : Prop := gfSquaresRow.holds Try.pinned (OpenSpec.ofChange gfSquaresSpec)

/-- ITS FALSE NEIGHBOUR: 'it returns false'. Refute it at one input. -/
def gfSquaresWrong : ChangeSpec := { name := "gfSquares", fn := fun _ => fun
  | [d1, d2] => { results := [.lit (.bool false)], args := [d1, d2] }
  | _ => none }
def GfSquaresWrongFalsely : Prop := gfSquaresRow.holds Try.pinned (OpenSpec.ofChange gfSquaresWrong)

/-- 'chertlaw01.GfNil': WHATEVER THE INPUT: true; the input reads as it did. -/
def gfNilSpec : ChangeSpec := { name := "gfNil", fn := fun _ => fun
  | [d1, d2] => { results := [.lit (.bool true)], args := [d1, d2] }
  | _ => none }
def gfNilRow : OpenClaim := { program := "ytciacjegndjdmaa", sum := "8cdce4f2d16fc6a6ca5f2f241407d76c252625141e28a565c1f435c2b2a21419", func := "chert/chertlaw01.GfNil", spec := "gfNil", inPlace := ["sync/atomic.LoadUint32", "(*internal/sync.Mutex).Lock", "internal/race.Disable", "sync/atomic.CompareAndSwapInt32", "internal/race.Enable", "internal/race.Acquire", "(*internal/sync.Mutex).lockSlow", "internal/sync.runtime_canSpin", "internal/sync.runtime_doSpin", "internal/sync.throw", "internal/sync.runtime_nanotime", "internal/sync.runtime_SemacquireMutex", "sync/atomic.AddInt32", "(*internal/sync.Mutex).Unlock", "internal/race.ReleaseMerge", "(*internal/sync.Mutex).unlockSlow", "internal/sync.fatal", "internal/sync.runtime_Semrelease", "sync/atomic.StoreUint32", "sync/atomic.AddInt64", "sync/atomic.LoadInt64"], unfollowed := true, recurses := true, apart := false }
def GfNilSaid : Prop := gfNilRow.holds Try.pinned (OpenSpec.ofChange gfNilSpec)

/-- ITS FALSE NEIGHBOUR: 'it returns false'. Refute it at one input. -/
def gfNilWrong : ChangeSpec := { name := "gfNil", fn := fun _ => fun
  | [d1, d2] => { results := [.lit (.bool false)], args := [d1, d2] }
  | _ => none }
def GfNilWrongFalsely : Prop := gfNilRow.holds Try.pinned (OpenSpec.ofChange gfNilWrong)

/- THE SECOND FORM. 'bulk': how many values and letters a reading holds, each counted each time it is reached (what is shared counts as often as it is met; a slice's spare places count too). A statement '..UptoSaid' is the law's where the arguments, and the package variables that the reading takes, are together of bulk at most 1048576: NARROWER than '..Said'. Prove '..Said' where nothing that the law and all that it calls make is longer than what came in: it says more and counts as full. Else prove '..UptoSaid'. A law counts once. -/
mutual
def uptoBulk {H : Type} : DataW H → Nat
  | .lit (.string bytes) => bytes.length + 1
  | .lit _ => 1
  | .nil => 1
  | .ptr d => uptoBulk d + 1
  | .slice elems spare => uptoBulkAll elems + uptoBulkAll spare + 1
  | .agg parts => uptoBulkAll parts + 1
  | .iface _ d => uptoBulk d + 1
  | .map entries => uptoBulkEntries entries + 1
  | .held _ => 1
def uptoBulkAll {H : Type} : List (DataW H) → Nat
  | [] => 0
  | d :: r => uptoBulk d + uptoBulkAll r
def uptoBulkEntries {H : Type} : List (Lit × DataW H) → Nat
  | [] => 0
  | x :: r => uptoBulkEntry x + uptoBulkEntries r
def uptoBulkEntry {H : Type} : Lit × DataW H → Nat
  | (.string bytes, d) => bytes.length + uptoBulk d + 1
  | (_, d) => uptoBulk d + 1
 end
def uptoSmall : (H : Type) → List (DataW H) → Bool := fun _ ds => decide (uptoBulkAll ds ≤ 1048576)
def OpenSpec.upto (s : _root_.Go.ChangeSpec) : _root_.Go.OpenSpec := { _root_.Go.OpenSpec.ofChange s with cond := some uptoSmall }

/-- 'chertlaw01.GfProducts', WHERE WHAT IT READS IS OF BULK AT MOST 1048576: true; the input reads as it did. -/
def gfProductsUptoRow : OpenClaim := { program := "ytciacjegndjdmaa", sum := "8cdce4f2d16fc6a6ca5f2f241407d76c252625141e28a565c1f435c2b2a21419", func := "chert/chertlaw01.GfProducts", spec := "gfProducts", inPlace := ["sync/atomic.LoadUint32", "(*internal/sync.Mutex).Lock", "internal/race.Disable", "sync/atomic.CompareAndSwapInt32", "internal/race.Enable", "internal/race.Acquire", "(*internal/sync.Mutex).lockSlow", "internal/sync.runtime_canSpin", "internal/sync.runtime_doSpin", "internal/sync.throw", "internal/sync.runtime_nanotime", "internal/sync.runtime_SemacquireMutex", "sync/atomic.AddInt32", "(*internal/sync.Mutex).Unlock", "internal/race.ReleaseMerge", "(*internal/sync.Mutex).unlockSlow", "internal/sync.fatal", "internal/sync.runtime_Semrelease", "sync/atomic.StoreUint32", "sync/atomic.AddInt64", "sync/atomic.LoadInt64"], unfollowed := true, recurses := true, apart := false, narrowed := true }
def GfProductsUptoSaid : Prop := gfProductsUptoRow.holds Try.pinned (OpenSpec.upto gfProductsSpec)

/-- 'chertlaw01.GfRules', WHERE WHAT IT READS IS OF BULK AT MOST 1048576: true; the input reads as it did. -/
def gfRulesUptoRow : OpenClaim := { program := "ytciacjegndjdmaa", sum := "8cdce4f2d16fc6a6ca5f2f241407d76c252625141e28a565c1f435c2b2a21419", func := "chert/chertlaw01.GfRules", spec := "gfRules", inPlace := ["sync/atomic.LoadUint32", "(*internal/sync.Mutex).Lock", "internal/race.Disable", "sync/atomic.CompareAndSwapInt32", "internal/race.Enable", "internal/race.Acquire", "(*internal/sync.Mutex).lockSlow", "internal/sync.runtime_canSpin", "internal/sync.runtime_doSpin", "internal/sync.throw", "internal/sync.runtime_nanotime", "internal/sync.runtime_SemacquireMutex", "sync/atomic.AddInt32", "(*internal/sync.Mutex).Unlock", "internal/race.ReleaseMerge", "(*internal/sync.Mutex).unlockSlow", "internal/sync.fatal", "internal/sync.runtime_Semrelease", "sync/atomic.StoreUint32", "sync/atomic.AddInt64", "sync/atomic.LoadInt64"], unfollowed := true, recurses := true, apart := false, narrowed := true }
def GfRulesUptoSaid : Prop := gfRulesUptoRow.holds Try.pinned (OpenSpec.upto gfRulesSpec)

/-- 'chertlaw01.GfEvals', WHERE WHAT IT READS IS OF BULK AT MOST 1048576: true; the input reads as it did. -/
def gfEvalsUptoRow : OpenClaim := { program := "ytciacjegndjdmaa", sum := "8cdce4f2d16fc6a6ca5f2f241407d76c252625141e28a565c1f435c2b2a21419", func := "chert/chertlaw01.GfEvals", spec := "gfEvals", inPlace := ["sync/atomic.LoadUint32", "(*internal/sync.Mutex).Lock", "internal/race.Disable", "sync/atomic.CompareAndSwapInt32", "internal/race.Enable", "internal/race.Acquire", "(*internal/sync.Mutex).lockSlow", "internal/sync.runtime_canSpin", "internal/sync.runtime_doSpin", "internal/sync.throw", "internal/sync.runtime_nanotime", "internal/sync.runtime_SemacquireMutex", "sync/atomic.AddInt32", "(*internal/sync.Mutex).Unlock", "internal/race.ReleaseMerge", "(*internal/sync.Mutex).unlockSlow", "internal/sync.fatal", "internal/sync.runtime_Semrelease", "sync/atomic.StoreUint32", "sync/atomic.AddInt64", "sync/atomic.LoadInt64"], unfollowed := true, recurses := true, apart := false, narrowed := true }
def GfEvalsUptoSaid : Prop := gfEvalsUptoRow.holds Try.pinned (OpenSpec.upto gfEvalsSpec)

/-- 'chertlaw01.GfLogs', WHERE WHAT IT READS IS OF BULK AT MOST 1048576: true; the input reads as it did. -/
def gfLogsUptoRow : OpenClaim := { program := "ytciacjegndjdmaa", sum := "8cdce4f2d16fc6a6ca5f2f241407d76c252625141e28a565c1f435c2b2a21419", func := "chert/chertlaw01.GfLogs", spec := "gfLogs", inPlace := ["sync/atomic.LoadUint32", "(*internal/sync.Mutex).Lock", "internal/race.Disable", "sync/atomic.CompareAndSwapInt32", "internal/race.Enable", "internal/race.Acquire", "(*internal/sync.Mutex).lockSlow", "internal/sync.runtime_canSpin", "internal/sync.runtime_doSpin", "internal/sync.throw", "internal/sync.runtime_nanotime", "internal/sync.runtime_SemacquireMutex", "sync/atomic.AddInt32", "(*internal/sync.Mutex).Unlock", "internal/race.ReleaseMerge", "(*internal/sync.Mutex).unlockSlow", "internal/sync.fatal", "internal/sync.runtime_Semrelease", "sync/atomic.StoreUint32", "sync/atomic.AddInt64", "sync/atomic.LoadInt64"], unfollowed := true, recurses := true, apart := false, narrowed := true }
def GfLogsUptoSaid : Prop := gfLogsUptoRow.holds Try.pinned (OpenSpec.upto gfLogsSpec)

/-- 'chertlaw01.GfPowers', WHERE WHAT IT READS IS OF BULK AT MOST 1048576: true; the input reads as it did. -/
def gfPowersUptoRow : OpenClaim := { program := "ytciacjegndjdmaa", sum := "8cdce4f2d16fc6a6ca5f2f241407d76c252625141e28a565c1f435c2b2a21419", func := "chert/chertlaw01.GfPowers", spec := "gfPowers", inPlace := ["sync/atomic.LoadUint32", "(*internal/sync.Mutex).Lock", "internal/race.Disable", "sync/atomic.CompareAndSwapInt32", "internal/race.Enable", "internal/race.Acquire", "(*internal/sync.Mutex).lockSlow", "internal/sync.runtime_canSpin", "internal/sync.runtime_doSpin", "internal/sync.throw", "internal/sync.runtime_nanotime", "internal/sync.runtime_SemacquireMutex", "sync/atomic.AddInt32", "(*internal/sync.Mutex).Unlock", "internal/race.ReleaseMerge", "(*internal/sync.Mutex).unlockSlow", "internal/sync.fatal", "internal/sync.runtime_Semrelease", "sync/atomic.StoreUint32", "sync/atomic.AddInt64", "sync/atomic.LoadInt64"], unfollowed := true, recurses := true, apart := false, narrowed := true }
def GfPowersUptoSaid : Prop := gfPowersUptoRow.holds Try.pinned (OpenSpec.upto gfPowersSpec)

/-- 'chertlaw01.GfSquares', WHERE WHAT IT READS IS OF BULK AT MOST 1048576: true; the input reads as it did. -/
def gfSquaresUptoRow : OpenClaim := { program := "ytciacjegndjdmaa", sum := "8cdce4f2d16fc6a6ca5f2f241407d76c252625141e28a565c1f435c2b2a21419", func := "chert/chertlaw01.GfSquares", spec := "gfSquares", inPlace := ["sync/atomic.LoadUint32", "(*internal/sync.Mutex).Lock", "internal/race.Disable", "sync/atomic.CompareAndSwapInt32", "internal/race.Enable", "internal/race.Acquire", "(*internal/sync.Mutex).lockSlow", "internal/sync.runtime_canSpin", "internal/sync.runtime_doSpin", "internal/sync.throw", "internal/sync.runtime_nanotime", "internal/sync.runtime_SemacquireMutex", "sync/atomic.AddInt32", "(*internal/sync.Mutex).Unlock", "internal/race.ReleaseMerge", "(*internal/sync.Mutex).unlockSlow", "internal/sync.fatal", "internal/sync.runtime_Semrelease", "sync/atomic.StoreUint32", "sync/atomic.AddInt64", "sync/atomic.LoadInt64"], unfollowed := true, recurses := true, apart := false, narrowed := true }
def GfSquaresUptoSaid : Prop := gfSquaresUptoRow.holds Try.pinned (OpenSpec.upto gfSquaresSpec)

/-- 'chertlaw01.GfNil', WHERE WHAT IT READS IS OF BULK AT MOST 1048576: true; the input reads as it did. -/
def gfNilUptoRow : OpenClaim := { program := "ytciacjegndjdmaa", sum := "8cdce4f2d16fc6a6ca5f2f241407d76c252625141e28a565c1f435c2b2a21419", func := "chert/chertlaw01.GfNil", spec := "gfNil", inPlace := ["sync/atomic.LoadUint32", "(*internal/sync.Mutex).Lock", "internal/race.Disable", "sync/atomic.CompareAndSwapInt32", "internal/race.Enable", "internal/race.Acquire", "(*internal/sync.Mutex).lockSlow", "internal/sync.runtime_canSpin", "internal/sync.runtime_doSpin", "internal/sync.throw", "internal/sync.runtime_nanotime", "internal/sync.runtime_SemacquireMutex", "sync/atomic.AddInt32", "(*internal/sync.Mutex).Unlock", "internal/race.ReleaseMerge", "(*internal/sync.Mutex).unlockSlow", "internal/sync.fatal", "internal/sync.runtime_Semrelease", "sync/atomic.StoreUint32", "sync/atomic.AddInt64", "sync/atomic.LoadInt64"], unfollowed := true, recurses := true, apart := false, narrowed := true }
def GfNilUptoSaid : Prop := gfNilUptoRow.holds Try.pinned (OpenSpec.upto gfNilSpec)

end Rows
end Go.Proofs.Ytciacjegndjdmaa
