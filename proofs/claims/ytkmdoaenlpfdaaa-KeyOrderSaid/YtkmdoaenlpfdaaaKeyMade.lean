/-
  The keys that a law makes of its arguments; keys read back from texts.
-/
import Derived.Test.YtkmdoaenlpfdaaaKeyNames
namespace Go.Proofs.Ytkmdoaenlpfdaaa
open Go.RowKit

set_option maxHeartbeats 2000000 in
theorem key_made (n k p : Int) (s : ByteArray) (w : World) :
    Calls Try.prog 10 #[.agg #[.int .i64 n, .int .i64 k, .int .i64 p], .string s] w fun e w' => e = .returned (.tuple #[keyV n k s p, keyV n k s p]) ∧ Below w.heap.size w w' := by
  go_enter Try.func10, Try.ntmps10
  go_wp2_with fail
  go_region
  go_wp2
  exact bodyPost_ret (v := .tuple #[keyV n k s p, keyV n k s p]) (by simp [results, Try.results10, go_sem]) rfl ⟨rfl, ((((Below.refl _ _).alloc (Nat.le_refl _) _).alloc (by simp) _).alloc (by simp; omega) _).drew⟩
end Go.Proofs.Ytkmdoaenlpfdaaa
