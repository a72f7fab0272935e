/-
  Which keys are good; their texts.
-/
import Derived.Test.YtdjkcmjhknabnaaDoorKeyWalks
namespace Go.Proofs.YtdjkcmjhknabnaaDoor.K
open Go.RowKit

/-- A key as the code holds it. -/
abbrev keyV (n k : Int) (s : ByteArray) (p : Int) : Value := .agg #[.int .i64 n, .int .i64 k, .string s, .int .i64 p]
def goodB (n k : Int) (s : ByteArray) (p : Int) : Bool :=
  decide (0 ≤ n ∧ n ≤ 1099511627776 ∧ ((k = 1 ∧ s.size = 0 ∧ p = 0) ∨ (k = 2 ∧ s.size ≠ 0 ∧ s.size ≤ 32 ∧ p = 0) ∨ (k = 3 ∧ s.size = 0 ∧ 0 ≤ p ∧ p < 4294967296)))
theorem toList_empty (s : ByteArray) : s.toList.isEmpty = decide (s.size = 0) := by
  rw [ByteArray.toList_eq, Bool.eq_iff_iff]
  simp only [List.isEmpty_iff, decide_eq_true_eq, ← List.length_eq_zero_iff, data_len]
theorem ret_bool {a b : Bool} (h : a = b) : Ending.returned (.bool a) = .returned (.bool b) := by rw [h]

set_option maxHeartbeats 1000000 in
theorem key_good (n k : Int) (s : ByteArray) (p : Int) (w : World) :
    Calls Tryd.prog 10 #[keyV n k s p] w fun e w' => e = .returned (.bool (goodB n k s p)) ∧ w.alloc (.cells #[.int .i64 n, .int .i64 k, .string s, .int .i64 p] 26) = w' := by
  have he := toList_empty s
  rcases (by omega : n < 0 ∨ (0 ≤ n ∧ 1099511627776 < n) ∨ (0 ≤ n ∧ n ≤ 1099511627776)) with h | h | h
  all_goals
    go_enter Tryd.func10, Tryd.ntmps10
    go_wp2
    all_goals
      go_ret
      refine ⟨ret_bool ?_, by first | rfl | (subst_vars; rfl)⟩
      unfold goodB
      rw [Bool.eq_iff_iff]
      simp only [beq_iff_eq, beq_eq_false_iff_ne, ne_eq] at *
      clear he
      simp
      simp only [← ByteArray.size_eq_zero_iff] at *
      first | omega | trace_state

theorem goodB_iff {n k : Int} {s : ByteArray} {p : Int} : goodB n k s p = true ↔ 0 ≤ n ∧ n ≤ 1099511627776 ∧ ((k = 1 ∧ s.size = 0 ∧ p = 0) ∨ (k = 2 ∧ s.size ≠ 0 ∧ s.size ≤ 32 ∧ p = 0) ∨ (k = 3 ∧ s.size = 0 ∧ 0 ≤ p ∧ p < 4294967296)) := by
  unfold goodB; exact decide_eq_true_iff

set_option maxHeartbeats 1000000 in
theorem key_encode_bad (n k : Int) (s : ByteArray) (p : Int) (w : World) (hg : goodB n k s p = false) :
    Calls Tryd.prog 4 #[keyV n k s p] w fun e w' => e = .returned (.tuple #[.string ⟨#[]⟩, .bool false]) ∧ Below w.heap.size w w' := by
  go_enter Tryd.func4, Tryd.ntmps4
  go_wp2_with (go_at_call 10; refine (key_good n k s p _).mono ?_; rintro e w1 ⟨rfl, rfl⟩)
  go_ret2
  exact ⟨rfl, ((Below.refl _ _).alloc (Nat.le_refl _) _).alloc (by simp) _⟩

/-- The key's own block is there, and what was there stays. -/
structure KSt (w : World) (g : Nat) (n k : Int) (s : ByteArray) (p : Int) (W : World) : Prop where
  lt : g < W.heap.size
  row : W.heap[g]? = some (.cells #[.int .i64 n, .int .i64 k, .string s, .int .i64 p] 26 (0, 0))
  bel : Below w.heap.size w W
section
variable {w W W' : World} {g : Nat} {n k : Int} {s : ByteArray} {p : Int}
theorem KSt.c0 (h : KSt w g n k s p W) : W.cell? ⟨g, 0, none⟩ = some (.int .i64 n) := cell_of_row W g 0 _ _ _ h.row
theorem KSt.c1 (h : KSt w g n k s p W) : W.cell? ⟨g, 1, none⟩ = some (.int .i64 k) := cell_of_row W g 1 _ _ _ h.row
theorem KSt.c2 (h : KSt w g n k s p W) : W.cell? ⟨g, 2, none⟩ = some (.string s) := cell_of_row W g 2 _ _ _ h.row
theorem KSt.c3 (h : KSt w g n k s p W) : W.cell? ⟨g, 3, none⟩ = some (.int .i64 p) := cell_of_row W g 3 _ _ _ h.row
theorem KSt.step (h : KSt w g n k s p W) (hb : Below W.heap.size W W') : KSt w g n k s p W' := ⟨Nat.lt_of_lt_of_le h.lt hb.size, (hb.block _ h.lt).trans h.row, h.bel.trans (hb.mono h.bel.size)⟩
theorem KSt.drew (h : KSt w g n k s p W) : KSt w g n k s p W.drew := ⟨h.lt, h.row, h.bel.drew⟩
end

set_option maxHeartbeats 2000000 in
theorem key_encode_data (n p : Nat) (s : ByteArray) (w : World) (hn : n ≤ 1099511627776) (hs : s.size = 0) (hp : p < 4294967296) :
    Calls Tryd.prog 4 #[keyV n 3 s p] w fun e w' => e = .returned (.tuple #[.string (hd n 3 ++ be 4 p), .bool true]) ∧ Below w.heap.size w w' := by
  have hg : goodB n 3 s p = true := goodB_iff.2 (by omega)
  have hz1 := hd_size n 3
  have hz2 := be_size 4 p
  go_enter Tryd.func4, Tryd.ntmps4
  go_upto_region 4 with (go_at_call 10; refine (key_good n 3 s p _).mono ?_; rintro e w1 ⟨rfl, rfl⟩)
  have hK : KSt w w.heap.size n 3 s p ((w.alloc (.cells #[.int .i64 n, .int .i64 3, .string s, .int .i64 p] 26)).alloc (.cells #[.int .i64 n, .int .i64 3, .string s, .int .i64 p] 26)) :=
    ⟨by simp; omega, (Below.heap_alloc _ _ _ (by simp)).trans (heap_alloc_new w _), ((Below.refl _ _).alloc (Nat.le_refl _) _).alloc (by simp) _⟩
  generalize (w.alloc (.cells #[.int .i64 n, .int .i64 3, .string s, .int .i64 p] 26)).alloc (.cells #[.int .i64 n, .int .i64 3, .string s, .int .i64 p] 26) = W at *
  have c0 := hK.c0
  have c3 := hK.c3
  clear hg
  go_region_with ((first | (go_at_call 11; refine (key_head_at n 3 _ _ _ (by omega) (by omega) (by omega) (by omega)).mono ?_; rintro e w1 ⟨rfl, hb1⟩; have hK1 := KSt.step (w := w) (g := w.heap.size) (n := n) (k := 3) (s := s) (p := p) (by first | assumption | (refine KSt.drew ?_; assumption)) hb1; have d0 := hK1.c0; have d3 := hK1.c3; clear hb1) |
    (go_at_call 12; refine (key_bytes_at p 4 _ _ _ (by omega) (by omega) (by omega) (by omega)).mono ?_; rintro e w2 ⟨rfl, hb2⟩; have hK2 := KSt.step (w := w) (g := w.heap.size) (n := n) (k := 3) (s := s) (p := p) (by first | assumption | (refine KSt.drew ?_; assumption)) hb2; have e0 := hK2.c0; have e3 := hK2.c3; clear hb2)))
  all_goals
    clear hz1 hz2
    go_wp2
    go_ret2
    exact ⟨rfl, by first | exact hK2.bel | exact hK1.bel⟩

set_option maxHeartbeats 2000000 in
theorem key_encode_name (n k : Nat) (s : ByteArray) (w : World) (hn : n ≤ 1099511627776) (hk : k = 1 ∧ s.size = 0 ∨ k = 2 ∧ s.size ≠ 0 ∧ s.size ≤ 32) :
    Calls Tryd.prog 4 #[keyV n k s 0] w fun e w' => e = .returned (.tuple #[.string (hd n k ++ s), .bool true]) ∧ Below w.heap.size w w' := by
  have hg : goodB n k s 0 = true := goodB_iff.2 (by omega)
  have hz1 := hd_size n k
  have hs3 : (s.size : Int) ≤ 32 := by omega
  have hk3 : ((k : Int) == 3) = false := by simp; omega
  have hk1 : (1 : Int) ≤ k := by omega
  have hk2 : (k : Int) ≤ 2 := by omega
  clear hk
  go_enter Tryd.func4, Tryd.ntmps4
  go_upto_region 5 with (go_at_call 10; refine (key_good n k s 0 _).mono ?_; rintro e w1 ⟨rfl, rfl⟩)
  have hK : KSt w w.heap.size n k s 0 ((w.alloc (.cells #[.int .i64 n, .int .i64 k, .string s, .int .i64 0] 26)).alloc (.cells #[.int .i64 n, .int .i64 k, .string s, .int .i64 0] 26)) :=
    ⟨by simp; omega, (Below.heap_alloc _ _ _ (by simp)).trans (heap_alloc_new w _), ((Below.refl _ _).alloc (Nat.le_refl _) _).alloc (by simp) _⟩
  generalize (w.alloc (.cells #[.int .i64 n, .int .i64 k, .string s, .int .i64 0] 26)).alloc (.cells #[.int .i64 n, .int .i64 k, .string s, .int .i64 0] 26) = W at *
  have c0 := hK.c0
  have c1 := hK.c1
  have c2 := hK.c2
  clear hg
  go_region_with ((go_at_call 11; refine (key_head_at n k _ _ _ (by omega) (by omega) (by omega) (by omega)).mono ?_; rintro e w1 ⟨rfl, hb1⟩; have hK1 := KSt.step (w := w) (g := w.heap.size) (n := n) (k := k) (s := s) (p := 0) (by first | assumption | (refine KSt.drew ?_; assumption)) hb1; have d0 := hK1.c0; have d1 := hK1.c1; have d2 := hK1.c2; clear hb1))
  all_goals
    clear hz1 hk3
    go_wp2
    go_ret2
    exact ⟨rfl, by first | exact hK1.bel | exact hK1.drew.bel⟩
end Go.Proofs.YtdjkcmjhknabnaaDoor.K
