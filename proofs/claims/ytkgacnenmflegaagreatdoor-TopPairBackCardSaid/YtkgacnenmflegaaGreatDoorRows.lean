/-
  NARROWER THAN 'FOR EVERY INPUT', by the rows' own cells (each row's printed sentence says how): TopRoom: laid · TopTorn: laid · TopPairBack: laid · TopAtomic: laid · TopFound: laid.
  DERIVED. THE GIVEN ROWS OF THIS SEAT. 5 by the template 'for every input the law returns true; each argument reads behind the call as it read before'; 0 by the template 'total and deterministic' (their statements: YtkgacnenmflegaaGreatDoorTotals.lean).
  GIVEN WITH THE SEED: the statements are not yours to turn. If you find one false, say at which input.
  Laid BY PROGRAM, IN A SANDBOX (cutbox-rows.mjs): the forced cells as the released guide's own fill.sh prints them over the translation 667c7381bff45e8f… (all of the seat's roots in one cut). By AI agents, Wed Nov 11 2026. No macro, syntax, notation, axiom, sorry.
-/
import Derived.Test.YtkgacnenmflegaaGreatDoorChecked
import GoSem.Claim
import GoSem.ClaimJoined
import GoSem.ClaimMapViews
import Derived.JoinedTies
import Derived.KernelRfl
namespace Go.Proofs.YtkgacnenmflegaaGreatDoor
/- THE CELL 'sum', in the pinned program and in every row, IS THE sha256 OF THE DUMP (.gsa) THAT YtkgacnenmflegaaGreatDoorProg.lean LOADS. Nothing in Lean hashes anything: it is a label: what it is worth is what the hold of that sum in a sandbox is worth. -/
noncomputable def Tryz.pinned : Pinned := { name := "ytkgacnenmflegaagreatdoor", sum := "667c7381bff45e8f1a4d7312b51b7f9c06c0c77d3e70054d1a7cb8e93f7a0b72", checked := Tryz.checked }
namespace Rows
def none {H : Type} : Left H := { results := [], args := [] }

/- WHAT THE LISTED PACKAGE-LEVEL VARIABLES READ AS WHEN THE CALL BEGINS. Each datum BY PROGRAM (the guide's laid-datum.mjs) off the statement by which the dump's own 'gosem.cut.vars' lays the variable. In a bare row this is a premise. The card (YtkgacnenmflegaaGreatDoorCards.lean) ties it to the program's text. -/
def laid_chert_crc_nibbles {H : Type} : DataW H := .agg [.lit (.int .u32 0), .lit (.int .u32 498536548), .lit (.int .u32 997073096), .lit (.int .u32 651767980), .lit (.int .u32 1994146192), .lit (.int .u32 1802195444), .lit (.int .u32 1303535960), .lit (.int .u32 1342533948), .lit (.int .u32 3988292384), .lit (.int .u32 4027552580), .lit (.int .u32 3604390888), .lit (.int .u32 3412177804), .lit (.int .u32 2607071920), .lit (.int .u32 2262029012), .lit (.int .u32 2685067896), .lit (.int .u32 3183342108)]

/-- 'cherttop.TopRoom': WHATEVER THE INPUT: true; the input reads as it did. -/
def topRoomSpec : ChangeSpec := { name := "topRoom", fn := fun _ => fun
  | [d1, d2] => { results := [.lit (.bool true)], args := [d1, d2] }
  | _ => none }
def topRoomRow : OpenClaim := { program := "ytkgacnenmflegaagreatdoor", sum := "667c7381bff45e8f1a4d7312b51b7f9c06c0c77d3e70054d1a7cb8e93f7a0b72", func := "chert/cherttop.TopRoom", spec := "topRoom", inPlace := ["sync/atomic.LoadUint32", "(*internal/sync.Mutex).Lock", "internal/race.Disable", "sync/atomic.CompareAndSwapInt32", "internal/race.Enable", "internal/race.Acquire", "(*internal/sync.Mutex).lockSlow", "internal/sync.runtime_canSpin", "internal/sync.runtime_doSpin", "internal/sync.throw", "internal/sync.runtime_nanotime", "internal/sync.runtime_SemacquireMutex", "sync/atomic.AddInt32", "(*internal/sync.Mutex).Unlock", "internal/race.ReleaseMerge", "(*internal/sync.Mutex).unlockSlow", "internal/sync.fatal", "internal/sync.runtime_Semrelease", "sync/atomic.StoreUint32", "sync/atomic.AddInt64", "slices.overlaps[string]", "slices.overlaps[*chert/btree.branch]"], unfollowed := true, recurses := true, named := ["chert/crc.nibbles"], apart := false, laid := [("chert/crc.nibbles", laid_chert_crc_nibbles)] }
def TopRoomSaid : Prop := topRoomRow.holds Tryz.pinned (OpenSpec.ofChange topRoomSpec)

/-- ITS FALSE NEIGHBOUR: 'it returns false'. Refute it at one input. -/
def topRoomWrong : ChangeSpec := { name := "topRoom", fn := fun _ => fun
  | [d1, d2] => { results := [.lit (.bool false)], args := [d1, d2] }
  | _ => none }
def TopRoomWrongFalsely : Prop := topRoomRow.holds Tryz.pinned (OpenSpec.ofChange topRoomWrong)

/-- 'cherttop.TopTorn': WHATEVER THE INPUT: true; the input reads as it did. -/
def topTornSpec : ChangeSpec := { name := "topTorn", fn := fun _ => fun
  | [d1, d2, d3] => { results := [.lit (.bool true)], args := [d1, d2, d3] }
  | _ => none }
def topTornRow : OpenClaim := { program := "ytkgacnenmflegaagreatdoor", sum := "667c7381bff45e8f1a4d7312b51b7f9c06c0c77d3e70054d1a7cb8e93f7a0b72", func := "chert/cherttop.TopTorn", spec := "topTorn", inPlace := ["sync/atomic.LoadUint32", "(*internal/sync.Mutex).Lock", "internal/race.Disable", "sync/atomic.CompareAndSwapInt32", "internal/race.Enable", "internal/race.Acquire", "(*internal/sync.Mutex).lockSlow", "internal/sync.runtime_canSpin", "internal/sync.runtime_doSpin", "internal/sync.throw", "internal/sync.runtime_nanotime", "internal/sync.runtime_SemacquireMutex", "sync/atomic.AddInt32", "(*internal/sync.Mutex).Unlock", "internal/race.ReleaseMerge", "(*internal/sync.Mutex).unlockSlow", "internal/sync.fatal", "internal/sync.runtime_Semrelease", "sync/atomic.StoreUint32", "sync/atomic.AddInt64", "internal/abi.NoEscape", "internal/bytealg.MakeNoZero"], unfollowed := true, recurses := true, named := ["chert/crc.nibbles"], apart := false, laid := [("chert/crc.nibbles", laid_chert_crc_nibbles)] }
def TopTornSaid : Prop := topTornRow.holds Tryz.pinned (OpenSpec.ofChange topTornSpec)

/-- ITS FALSE NEIGHBOUR: 'it returns false'. Refute it at one input. -/
def topTornWrong : ChangeSpec := { name := "topTorn", fn := fun _ => fun
  | [d1, d2, d3] => { results := [.lit (.bool false)], args := [d1, d2, d3] }
  | _ => none }
def TopTornWrongFalsely : Prop := topTornRow.holds Tryz.pinned (OpenSpec.ofChange topTornWrong)

/-- 'cherttop.TopPairBack': WHATEVER THE INPUT: true; the input reads as it did. -/
def topPairBackSpec : ChangeSpec := { name := "topPairBack", fn := fun _ => fun
  | [d1, d2, d3] => { results := [.lit (.bool true)], args := [d1, d2, d3] }
  | _ => none }
def topPairBackRow : OpenClaim := { program := "ytkgacnenmflegaagreatdoor", sum := "667c7381bff45e8f1a4d7312b51b7f9c06c0c77d3e70054d1a7cb8e93f7a0b72", func := "chert/cherttop.TopPairBack", spec := "topPairBack", inPlace := ["sync/atomic.LoadUint32", "(*internal/sync.Mutex).Lock", "internal/race.Disable", "sync/atomic.CompareAndSwapInt32", "internal/race.Enable", "internal/race.Acquire", "(*internal/sync.Mutex).lockSlow", "internal/sync.runtime_canSpin", "internal/sync.runtime_doSpin", "internal/sync.throw", "internal/sync.runtime_nanotime", "internal/sync.runtime_SemacquireMutex", "sync/atomic.AddInt32", "(*internal/sync.Mutex).Unlock", "internal/race.ReleaseMerge", "(*internal/sync.Mutex).unlockSlow", "internal/sync.fatal", "internal/sync.runtime_Semrelease", "sync/atomic.StoreUint32", "sync/atomic.AddInt64", "internal/abi.NoEscape", "internal/bytealg.MakeNoZero"], unfollowed := true, recurses := true, named := ["chert/crc.nibbles"], apart := false, laid := [("chert/crc.nibbles", laid_chert_crc_nibbles)] }
def TopPairBackSaid : Prop := topPairBackRow.holds Tryz.pinned (OpenSpec.ofChange topPairBackSpec)

/-- ITS FALSE NEIGHBOUR: 'it returns false'. Refute it at one input. -/
def topPairBackWrong : ChangeSpec := { name := "topPairBack", fn := fun _ => fun
  | [d1, d2, d3] => { results := [.lit (.bool false)], args := [d1, d2, d3] }
  | _ => none }
def TopPairBackWrongFalsely : Prop := topPairBackRow.holds Tryz.pinned (OpenSpec.ofChange topPairBackWrong)

/-- 'cherttop.TopAtomic': WHATEVER THE INPUT: true; the input reads as it did. -/
def topAtomicSpec : ChangeSpec := { name := "topAtomic", fn := fun _ => fun
  | [d1, d2, d3] => { results := [.lit (.bool true)], args := [d1, d2, d3] }
  | _ => none }
def topAtomicRow : OpenClaim := { program := "ytkgacnenmflegaagreatdoor", sum := "667c7381bff45e8f1a4d7312b51b7f9c06c0c77d3e70054d1a7cb8e93f7a0b72", func := "chert/cherttop.TopAtomic", spec := "topAtomic", inPlace := ["sync/atomic.LoadUint32", "(*internal/sync.Mutex).Lock", "internal/race.Disable", "sync/atomic.CompareAndSwapInt32", "internal/race.Enable", "internal/race.Acquire", "(*internal/sync.Mutex).lockSlow", "internal/sync.runtime_canSpin", "internal/sync.runtime_doSpin", "internal/sync.throw", "internal/sync.runtime_nanotime", "internal/sync.runtime_SemacquireMutex", "sync/atomic.AddInt32", "(*internal/sync.Mutex).Unlock", "internal/race.ReleaseMerge", "(*internal/sync.Mutex).unlockSlow", "internal/sync.fatal", "internal/sync.runtime_Semrelease", "sync/atomic.StoreUint32", "sync/atomic.AddInt64", "internal/abi.NoEscape", "internal/bytealg.MakeNoZero"], unfollowed := true, recurses := true, named := ["chert/crc.nibbles"], apart := false, laid := [("chert/crc.nibbles", laid_chert_crc_nibbles)] }
def TopAtomicSaid : Prop := topAtomicRow.holds Tryz.pinned (OpenSpec.ofChange topAtomicSpec)

/-- ITS FALSE NEIGHBOUR: 'it returns false'. Refute it at one input. -/
def topAtomicWrong : ChangeSpec := { name := "topAtomic", fn := fun _ => fun
  | [d1, d2, d3] => { results := [.lit (.bool false)], args := [d1, d2, d3] }
  | _ => none }
def TopAtomicWrongFalsely : Prop := topAtomicRow.holds Tryz.pinned (OpenSpec.ofChange topAtomicWrong)

/-- 'cherttop.TopFound': WHATEVER THE INPUT: true; the input reads as it did. -/
def topFoundSpec : ChangeSpec := { name := "topFound", fn := fun _ => fun
  | [d1, d2, d3] => { results := [.lit (.bool true)], args := [d1, d2, d3] }
  | _ => none }
def topFoundRow : OpenClaim := { program := "ytkgacnenmflegaagreatdoor", sum := "667c7381bff45e8f1a4d7312b51b7f9c06c0c77d3e70054d1a7cb8e93f7a0b72", func := "chert/cherttop.TopFound", spec := "topFound", inPlace := ["sync/atomic.LoadUint32", "(*internal/sync.Mutex).Lock", "internal/race.Disable", "sync/atomic.CompareAndSwapInt32", "internal/race.Enable", "internal/race.Acquire", "(*internal/sync.Mutex).lockSlow", "internal/sync.runtime_canSpin", "internal/sync.runtime_doSpin", "internal/sync.throw", "internal/sync.runtime_nanotime", "internal/sync.runtime_SemacquireMutex", "sync/atomic.AddInt32", "(*internal/sync.Mutex).Unlock", "internal/race.ReleaseMerge", "(*internal/sync.Mutex).unlockSlow", "internal/sync.fatal", "internal/sync.runtime_Semrelease", "sync/atomic.StoreUint32", "sync/atomic.AddInt64", "internal/abi.NoEscape", "internal/bytealg.MakeNoZero", "slices.overlaps[string]", "slices.overlaps[*chert/btree.branch]"], unfollowed := true, recurses := true, named := ["chert/crc.nibbles"], apart := false, laid := [("chert/crc.nibbles", laid_chert_crc_nibbles)] }
def TopFoundSaid : Prop := topFoundRow.holds Tryz.pinned (OpenSpec.ofChange topFoundSpec)

/-- ITS FALSE NEIGHBOUR: 'it returns false'. Refute it at one input. -/
def topFoundWrong : ChangeSpec := { name := "topFound", fn := fun _ => fun
  | [d1, d2, d3] => { results := [.lit (.bool false)], args := [d1, d2, d3] }
  | _ => none }
def TopFoundWrongFalsely : Prop := topFoundRow.holds Tryz.pinned (OpenSpec.ofChange topFoundWrong)

/- THE SECOND FORM. 'bulk': how many values and letters a reading holds, each counted each time it is reached (what is shared counts as often as it is met; a slice's spare places count too). A statement '..UptoSaid' is the law's where the arguments, and the package variables that the reading takes, are together of bulk at most 1048576: NARROWER than '..Said'. Prove '..Said' where nothing that the law and all that it calls make is longer than what came in: it says more and counts as full. Else prove '..UptoSaid'. A law counts once. -/
mutual
def uptoBulk {H : Type} : DataW H → Nat
  | .lit (.string bytes) => bytes.length + 1
  | .lit _ => 1
  | .nil => 1
  | .ptr d => uptoBulk d + 1
  | .slice elems spare => uptoBulkAll elems + uptoBulkAll spare + 1
  | .agg parts => uptoBulkAll parts + 1
  | .iface _ d => uptoBulk d + 1
  | .map entries => uptoBulkEntries entries + 1
  | .held _ => 1
def uptoBulkAll {H : Type} : List (DataW H) → Nat
  | [] => 0
  | d :: r => uptoBulk d + uptoBulkAll r
def uptoBulkEntries {H : Type} : List (Lit × DataW H) → Nat
  | [] => 0
  | x :: r => uptoBulkEntry x + uptoBulkEntries r
def uptoBulkEntry {H : Type} : Lit × DataW H → Nat
  | (.string bytes, d) => bytes.length + uptoBulk d + 1
  | (_, d) => uptoBulk d + 1
 end
def uptoSmall : (H : Type) → List (DataW H) → Bool := fun _ ds => decide (uptoBulkAll ds ≤ 1048576)
def OpenSpec.upto (s : _root_.Go.ChangeSpec) : _root_.Go.OpenSpec := { _root_.Go.OpenSpec.ofChange s with cond := some uptoSmall }

/-- 'cherttop.TopRoom', WHERE WHAT IT READS IS OF BULK AT MOST 1048576: true; the input reads as it did. -/
def topRoomUptoRow : OpenClaim := { program := "ytkgacnenmflegaagreatdoor", sum := "667c7381bff45e8f1a4d7312b51b7f9c06c0c77d3e70054d1a7cb8e93f7a0b72", func := "chert/cherttop.TopRoom", spec := "topRoom", inPlace := ["sync/atomic.LoadUint32", "(*internal/sync.Mutex).Lock", "internal/race.Disable", "sync/atomic.CompareAndSwapInt32", "internal/race.Enable", "internal/race.Acquire", "(*internal/sync.Mutex).lockSlow", "internal/sync.runtime_canSpin", "internal/sync.runtime_doSpin", "internal/sync.throw", "internal/sync.runtime_nanotime", "internal/sync.runtime_SemacquireMutex", "sync/atomic.AddInt32", "(*internal/sync.Mutex).Unlock", "internal/race.ReleaseMerge", "(*internal/sync.Mutex).unlockSlow", "internal/sync.fatal", "internal/sync.runtime_Semrelease", "sync/atomic.StoreUint32", "sync/atomic.AddInt64", "slices.overlaps[string]", "slices.overlaps[*chert/btree.branch]"], unfollowed := true, recurses := true, named := ["chert/crc.nibbles"], apart := false, laid := [("chert/crc.nibbles", laid_chert_crc_nibbles)], narrowed := true }
def TopRoomUptoSaid : Prop := topRoomUptoRow.holds Tryz.pinned (OpenSpec.upto topRoomSpec)

/-- 'cherttop.TopTorn', WHERE WHAT IT READS IS OF BULK AT MOST 1048576: true; the input reads as it did. -/
def topTornUptoRow : OpenClaim := { program := "ytkgacnenmflegaagreatdoor", sum := "667c7381bff45e8f1a4d7312b51b7f9c06c0c77d3e70054d1a7cb8e93f7a0b72", func := "chert/cherttop.TopTorn", spec := "topTorn", inPlace := ["sync/atomic.LoadUint32", "(*internal/sync.Mutex).Lock", "internal/race.Disable", "sync/atomic.CompareAndSwapInt32", "internal/race.Enable", "internal/race.Acquire", "(*internal/sync.Mutex).lockSlow", "internal/sync.runtime_canSpin", "internal/sync.runtime_doSpin", "internal/sync.throw", "internal/sync.runtime_nanotime", "internal/sync.runtime_SemacquireMutex", "sync/atomic.AddInt32", "(*internal/sync.Mutex).Unlock", "internal/race.ReleaseMerge", "(*internal/sync.Mutex).unlockSlow", "internal/sync.fatal", "internal/sync.runtime_Semrelease", "sync/atomic.StoreUint32", "sync/atomic.AddInt64", "internal/abi.NoEscape", "internal/bytealg.MakeNoZero"], unfollowed := true, recurses := true, named := ["chert/crc.nibbles"], apart := false, laid := [("chert/crc.nibbles", laid_chert_crc_nibbles)], narrowed := true }
def TopTornUptoSaid : Prop := topTornUptoRow.holds Tryz.pinned (OpenSpec.upto topTornSpec)

/-- 'cherttop.TopPairBack', WHERE WHAT IT READS IS OF BULK AT MOST 1048576: true; the input reads as it did. -/
def topPairBackUptoRow : OpenClaim := { program := "ytkgacnenmflegaagreatdoor", sum := "667c7381bff45e8f1a4d7312b51b7f9c06c0c77d3e70054d1a7cb8e93f7a0b72", func := "chert/cherttop.TopPairBack", spec := "topPairBack", inPlace := ["sync/atomic.LoadUint32", "(*internal/sync.Mutex).Lock", "internal/race.Disable", "sync/atomic.CompareAndSwapInt32", "internal/race.Enable", "internal/race.Acquire", "(*internal/sync.Mutex).lockSlow", "internal/sync.runtime_canSpin", "internal/sync.runtime_doSpin", "internal/sync.throw", "internal/sync.runtime_nanotime", "internal/sync.runtime_SemacquireMutex", "sync/atomic.AddInt32", "(*internal/sync.Mutex).Unlock", "internal/race.ReleaseMerge", "(*internal/sync.Mutex).unlockSlow", "internal/sync.fatal", "internal/sync.runtime_Semrelease", "sync/atomic.StoreUint32", "sync/atomic.AddInt64", "internal/abi.NoEscape", "internal/bytealg.MakeNoZero"], unfollowed := true, recurses := true, named := ["chert/crc.nibbles"], apart := false, laid := [("chert/crc.nibbles", laid_chert_crc_nibbles)], narrowed := true }
def TopPairBackUptoSaid : Prop := topPairBackUptoRow.holds Tryz.pinned (OpenSpec.upto topPairBackSpec)

/-- 'cherttop.TopAtomic', WHERE WHAT IT READS IS OF BULK AT MOST 1048576: true; the input reads as it did. -/
def topAtomicUptoRow : OpenClaim := { program := "ytkgacnenmflegaagreatdoor", sum := "667c7381bff45e8f1a4d7312b51b7f9c06c0c77d3e70054d1a7cb8e93f7a0b72", func := "chert/cherttop.TopAtomic", spec := "topAtomic", inPlace := ["sync/atomic.LoadUint32", "(*internal/sync.Mutex).Lock", "internal/race.Disable", "sync/atomic.CompareAndSwapInt32", "internal/race.Enable", "internal/race.Acquire", "(*internal/sync.Mutex).lockSlow", "internal/sync.runtime_canSpin", "internal/sync.runtime_doSpin", "internal/sync.throw", "internal/sync.runtime_nanotime", "internal/sync.runtime_SemacquireMutex", "sync/atomic.AddInt32", "(*internal/sync.Mutex).Unlock", "internal/race.ReleaseMerge", "(*internal/sync.Mutex).unlockSlow", "internal/sync.fatal", "internal/sync.runtime_Semrelease", "sync/atomic.StoreUint32", "sync/atomic.AddInt64", "internal/abi.NoEscape", "internal/bytealg.MakeNoZero"], unfollowed := true, recurses := true, named := ["chert/crc.nibbles"], apart := false, laid := [("chert/crc.nibbles", laid_chert_crc_nibbles)], narrowed := true }
def TopAtomicUptoSaid : Prop := topAtomicUptoRow.holds Tryz.pinned (OpenSpec.upto topAtomicSpec)

/-- 'cherttop.TopFound', WHERE WHAT IT READS IS OF BULK AT MOST 1048576: true; the input reads as it did. -/
def topFoundUptoRow : OpenClaim := { program := "ytkgacnenmflegaagreatdoor", sum := "667c7381bff45e8f1a4d7312b51b7f9c06c0c77d3e70054d1a7cb8e93f7a0b72", func := "chert/cherttop.TopFound", spec := "topFound", inPlace := ["sync/atomic.LoadUint32", "(*internal/sync.Mutex).Lock", "internal/race.Disable", "sync/atomic.CompareAndSwapInt32", "internal/race.Enable", "internal/race.Acquire", "(*internal/sync.Mutex).lockSlow", "internal/sync.runtime_canSpin", "internal/sync.runtime_doSpin", "internal/sync.throw", "internal/sync.runtime_nanotime", "internal/sync.runtime_SemacquireMutex", "sync/atomic.AddInt32", "(*internal/sync.Mutex).Unlock", "internal/race.ReleaseMerge", "(*internal/sync.Mutex).unlockSlow", "internal/sync.fatal", "internal/sync.runtime_Semrelease", "sync/atomic.StoreUint32", "sync/atomic.AddInt64", "internal/abi.NoEscape", "internal/bytealg.MakeNoZero", "slices.overlaps[string]", "slices.overlaps[*chert/btree.branch]"], unfollowed := true, recurses := true, named := ["chert/crc.nibbles"], apart := false, laid := [("chert/crc.nibbles", laid_chert_crc_nibbles)], narrowed := true }
def TopFoundUptoSaid : Prop := topFoundUptoRow.holds Tryz.pinned (OpenSpec.upto topFoundSpec)

end Rows
end Go.Proofs.YtkgacnenmflegaaGreatDoor
