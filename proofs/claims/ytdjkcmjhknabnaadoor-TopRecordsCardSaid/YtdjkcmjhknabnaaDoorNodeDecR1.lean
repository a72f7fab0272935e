/-
  The document's way of reading a node: the ways that end early.
-/
import Derived.Test.YtdjkcmjhknabnaaDoorNodeRefNum
namespace Go.Proofs.YtdjkcmjhknabnaaDoor
open Go.RowKit

set_option maxHeartbeats 1000000 in
theorem node_decode_60 (s : ByteArray) (n : Nat) (w : World) (hn : n < s.size) (h : s[n] = 78) (h13 : s.size < n + 13) :
    Calls Tryd.prog 7 #[.string s, .int .i64 n] w fun e w' => e = .returned (decE 60) ∧ Below w.heap.size w w' := by
  have h0 : s[n].toNat = 78 := by rw [h]; rfl
  have h1 : (n : Int) < s.size := by omega
  have hts : (s.extract n s.size).size = s.size - n := by simp
  have h3 : ((s.extract n s.size).size : Int) < 13 := by omega
  clear h hts
  go_enter Tryd.func7, Tryd.ntmps7
  go_upto_region 8 with fail
  generalize s.extract n s.size = t at *
  go_wp2
  exact bodyPost_ret (v := decE 60) (by simp [results, Tryd.results7, go_sem]) rfl ⟨rfl, (Below.refl _ _).alloc (Nat.le_refl _) _⟩
end Go.Proofs.YtdjkcmjhknabnaaDoor
