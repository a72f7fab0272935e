/-
  The document's way of reading a node: the ways that end early.
-/
import Derived.Test.YtbkkdglmcoglfaaDoorNodeRefNum
namespace Go.Proofs.YtbkkdglmcoglfaaDoor
open Go.RowKit

set_option maxHeartbeats 1000000 in
theorem ref_decode_arg (s : ByteArray) (n : Int) (w : World) (h : n < 0 ∨ (s.size : Int) < n) :
    Calls Tryd.prog 13 #[.string s, .int .i64 n] w fun e w' => e = .returned (decE 1) ∧ Below w.heap.size w w' := by
  have h2 : n < 0 ∨ 0 ≤ n ∧ (s.size : Int) < n := by omega
  clear h
  rcases h2 with h | ⟨h, h'⟩
  all_goals
    go_enter Tryd.func13, Tryd.ntmps13
    go_wp2
    exact bodyPost_ret (v := decE 1) (by simp [results, Tryd.results13, go_sem]) rfl ⟨rfl, (Below.refl _ _).alloc (Nat.le_refl _) _⟩
set_option maxHeartbeats 1000000 in
theorem ref_decode_none (s : ByteArray) (n : Nat) (w : World) (hn : n < s.size) (h : s[n] = 0) :
    Calls Tryd.prog 13 #[.string s, .int .i64 n] w fun e w' => e = .returned (decE 3) ∧ Below w.heap.size w w' := by
  have h0 : s[n].toNat = 0 := by rw [h]; rfl
  have h1 : (n : Int) < s.size := by omega
  clear h
  go_enter Tryd.func13, Tryd.ntmps13
  go_wp2
  exact bodyPost_ret (v := decE 3) (by simp [results, Tryd.results13, go_sem]) rfl ⟨rfl, (Below.refl _ _).alloc (Nat.le_refl _) _⟩
set_option maxHeartbeats 1000000 in
theorem ref_decode_end (s : ByteArray) (w : World) :
    Calls Tryd.prog 13 #[.string s, .int .i64 s.size] w fun e w' => e = .returned (decE 3) ∧ Below w.heap.size w w' := by
  go_enter Tryd.func13, Tryd.ntmps13
  go_wp2
  exact bodyPost_ret (v := decE 3) (by simp [results, Tryd.results13, go_sem]) rfl ⟨rfl, (Below.refl _ _).alloc (Nat.le_refl _) _⟩
set_option maxHeartbeats 1000000 in
theorem ref_decode_form (s : ByteArray) (n : Nat) (w : World) (hn : n < s.size) (h : s[n] ≠ 0) (h' : s[n] ≠ 78) :
    Calls Tryd.prog 13 #[.string s, .int .i64 n] w fun e w' => e = .returned (decE 4) ∧ Below w.heap.size w w' := by
  have h0 : ((s[n].toNat : Int) == 0) = false := by simp; intro h2; exact h (UInt8.toNat_inj.1 (by simpa using h2))
  have h3 : ((s[n].toNat : Int) == 78) = false := by simp; intro h2; exact h' (UInt8.toNat_inj.1 (by simp; omega))
  have h1 : (n : Int) < s.size := by omega
  clear h h'
  go_enter Tryd.func13, Tryd.ntmps13
  go_wp2
  exact bodyPost_ret (v := decE 4) (by simp [results, Tryd.results13, go_sem]) rfl ⟨rfl, (Below.refl _ _).alloc (Nat.le_refl _) _⟩
set_option maxHeartbeats 1000000 in
theorem node_decode_60 (s : ByteArray) (n : Nat) (w : World) (hn : n < s.size) (h : s[n] = 78) (h13 : s.size < n + 13) :
    Calls Tryd.prog 12 #[.string s, .int .i64 n] w fun e w' => e = .returned (decE 60) ∧ Below w.heap.size w w' := by
  have h0 : s[n].toNat = 78 := by rw [h]; rfl
  have h1 : (n : Int) < s.size := by omega
  have hts : (s.extract n s.size).size = s.size - n := by simp
  have h3 : ((s.extract n s.size).size : Int) < 13 := by omega
  clear h hts
  go_enter Tryd.func12, Tryd.ntmps12
  go_upto_region 8 with fail
  generalize s.extract n s.size = t at *
  go_wp2
  exact bodyPost_ret (v := decE 60) (by simp [results, Tryd.results12, go_sem]) rfl ⟨rfl, (Below.refl _ _).alloc (Nat.le_refl _) _⟩
set_option maxHeartbeats 1000000 in
theorem ref_decode_60 (s : ByteArray) (n : Nat) (w : World) (hn : n < s.size) (h : s[n] = 78) (hsz : s.size ≤ 140737488351232) (h13 : s.size < n + 13) :
    Calls Tryd.prog 13 #[.string s, .int .i64 n] w fun e w' => e = .returned (decE 60) ∧ Below w.heap.size w w' := by
  have h0 : s[n].toNat = 78 := by rw [h]; rfl
  have h1 : (n : Int) < s.size := by omega
  have hw : IntKind.i64.wrap ((n : Int) + 13) = n + 13 := by rw [IntKind.wrap_i64]; omega
  have h3 : (s.size : Int) < n + 13 := by omega
  clear h h13
  go_enter Tryd.func13, Tryd.ntmps13
  go_wp2
  exact bodyPost_ret (v := decE 60) (by simp [results, Tryd.results13, go_sem]) rfl ⟨rfl, (Below.refl _ _).alloc (Nat.le_refl _) _⟩
end Go.Proofs.YtbkkdglmcoglfaaDoor
