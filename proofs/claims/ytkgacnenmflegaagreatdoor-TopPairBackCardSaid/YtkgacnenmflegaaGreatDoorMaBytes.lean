/-
  make([]byte, n).
-/
import Derived.Test.YtkgacnenmflegaaGreatDoorMg2
namespace Go.Proofs.YtkgacnenmflegaaGreatDoor
open Go.RowKit
theorem make_bytesP (m : Nat) (h : m ≤ 281474976710656) (W : World) :
    (Instr.makeSlice 73 (.int .i64 (m : Int)) (.int .i64 (m : Int))).run Tryz.prog W = .ok (.slice (some ⟨W.heap.size, 0, none⟩) m m) (W.alloc (.cells (madeCells #[.int .u8 0] m) 5)) :=
  run_make_row' 73 5 (.int .u8 0) 1 Tryz.underlying73 infoU8 rfl .i64 .i64 m (by omega) (by omega) W
end Go.Proofs.YtkgacnenmflegaaGreatDoor
