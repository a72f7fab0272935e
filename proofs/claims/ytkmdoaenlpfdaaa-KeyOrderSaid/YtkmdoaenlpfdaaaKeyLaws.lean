/-
  The laws of keys.
-/
import Derived.Test.YtkmdoaenlpfdaaaKeyCodes
import Derived.Test.YtkmdoaenlpfdaaaKeyOrder
import Derived.Test.YtkmdoaenlpfdaaaArgs
import Derived.Test.YtkmdoaenlpfdaaaHeld
namespace Go.Proofs.Ytkmdoaenlpfdaaa
open Go.RowKit

theorem key_speaks_text : hd 1 3 ++ be 4 2 = ⟨#[0, 0, 0, 0, 0, 0, 0, 1, 3, 0, 0, 0, 2]⟩ := ByteArray.ext (by decide)

set_option maxHeartbeats 1000000 in
theorem key_speaks (w : World) :
    Calls Try.prog 8 #[] w fun e w' => e = .returned (.bool true) ∧ Below w.heap.size w w' := by
  have ht := key_speaks_text
  go_enter Try.func8, Try.ntmps8
  go_wp2_with (go_at_call 9; refine (key_encode_data 1 2 _ _ (by omega) (by decide) (by omega)).mono ?_; rintro e w1 ⟨rfl, hb1⟩)
  go_ret
  exact ⟨rfl, hb1⟩

theorem info_int : (Try.prog.info? 3).map (·.size) = some 1 := by kernel_rfl
theorem eq2 (x0 x1 y0 y1 : Int) (W : World) : (Op.equalIn 10000 38 (.agg #[.int .i64 x0, .int .i64 x1]) (.agg #[.int .i64 y0, .int .i64 y1])).run Try.prog W = .ok (x0 == y0 && x1 == y1) W := by
  obtain ⟨i, hi, hs⟩ := Option.map_eq_some_iff.1 info_int
  have kp : ∀ (xs : Array Value) (j : Nat) (x : Int) (W : World), xs[j]? = some (.int .i64 x) → (part 3 xs j).run Try.prog W = .ok (.int .i64 x) W := by
    intro xs j x W h
    simp [part, sizeOf, typeInfo, hi, hs, h]
  have q : ∀ a b : Int, ∀ W, (Op.equalIn 9999 3 (.int .i64 a) (.int .i64 b)).run Try.prog W = .ok (a == b) W := fun a b W => run_equalIn_int W 9998 3 .i64 .i64 a b Try.underlying3
  have p0 := fun x0 x1 W => kp #[.int .i64 x0, .int .i64 x1] 0 x0 W rfl
  have p1 := fun x0 x1 W => kp #[.int .i64 x0, .int .i64 x1] 1 x1 W rfl
  rw [show (10000 : Nat) = 9999 + 1 from rfl, Op.equalIn]
  simp only [run_underlying Try.underlying38, Sem.run_bind, Result.andThen_ok]
  by_cases h0 : x0 = y0
  · by_cases h1 : x1 = y1 <;> simp [List.range', sizeOf, typeInfo, hi, hs, p0, p1, q, h0, h1]
  · simp [List.range', sizeOf, typeInfo, hi, hs, p0, q, h0]

theorem pow8 : (256 : Nat) ^ 8 = 18446744073709551616 := by decide
set_option maxHeartbeats 2000000 in
theorem keyRanges_both (a b : Nat) (c d : Nat) (w : World) (ha : a ≤ 1099511627776) (h1 : 1 ≤ b) (h2 : b ≤ 3) (hc : c ≤ 1099511627776) (h3 : 1 ≤ d) (h4 : d ≤ 3) :
    Calls Try.prog 5 #[.agg #[.int .i64 a, .int .i64 b], .agg #[.int .i64 c, .int .i64 d]] w fun e w' => e = .returned (.bool true) ∧ Below w.heap.size w w' := by
  have kq := eq2
  have l1 : Op.bytesLess (hd a b).toList (hd a (b + 1)).toList = true := by rw [less_hd (by rw [pow8]; omega) (by rw [pow8]; omega) (by omega) (by omega)]; simp
  have l2 : Op.bytesLess (hd c d).toList (hd c (d + 1)).toList = true := by rw [less_hd (by rw [pow8]; omega) (by rw [pow8]; omega) (by omega) (by omega)]; simp
  have l3 : Op.bytesLess (hd a (b + 1)).toList (hd c d).toList = decide (a < c ∨ a = c ∧ b + 1 < d) := less_hd (by rw [pow8]; omega) (by rw [pow8]; omega) (by omega) (by omega)
  have e3 : ((hd a (b + 1)).toList = (hd c d).toList) = (a = c ∧ b + 1 = d) := hd_inj (by rw [pow8]; omega) (by rw [pow8]; omega) (by omega) (by omega)
  have l4 : Op.bytesLess (hd c (d + 1)).toList (hd a b).toList = decide (c < a ∨ c = a ∧ d + 1 < b) := less_hd (by rw [pow8]; omega) (by rw [pow8]; omega) (by omega) (by omega)
  have e4 : ((hd c (d + 1)).toList = (hd a b).toList) = (c = a ∧ d + 1 = b) := hd_inj (by rw [pow8]; omega) (by rw [pow8]; omega) (by omega) (by omega)
  rcases (by omega : (a = c ∧ b = d) ∨ (a ≠ c ∨ b ≠ d)) with hq | hq
  · obtain ⟨rfl, rfl⟩ := hq
    clear l3 l4 e3 e4
    go_enter Try.func5, Try.ntmps5
    go_upto_region 3 with (go_at_call 8; refine (key_speaks _).mono ?_; rintro e w1 ⟨rfl, hb1⟩)
    have hH := (((Held.refl w).lay _).lay _).step hb1
    clear hb1
    simp only [World.size_alloc] at hH
    have c0 : w1.cell? ⟨w.heap.size, 0, none⟩ = some (.int .i64 a) := hH.cells (List.mem_cons_of_mem _ (List.mem_cons_self ..)) 0 rfl
    have c1 : w1.cell? ⟨w.heap.size, 1, none⟩ = some (.int .i64 b) := hH.cells (List.mem_cons_of_mem _ (List.mem_cons_self ..)) 1 rfl
    go_upto_region 4 with (go_at_call 12; refine (key_range a b _ (by omega) (by omega) (by omega)).mono ?_; rintro e w2 ⟨rfl, hb2⟩; have hH2 := hH.step hb2; clear hb2 hH c0 c1)
    have d0 : w2.cell? ⟨w.heap.size + 1, 0, none⟩ = some (.int .i64 a) := hH2.cells (List.mem_cons_self ..) 0 rfl
    have d1 : w2.cell? ⟨w.heap.size + 1, 1, none⟩ = some (.int .i64 b) := hH2.cells (List.mem_cons_self ..) 1 rfl
    go_upto_region 5 with (go_at_call 12; refine (key_range a b _ (by omega) (by omega) (by omega)).mono ?_; rintro e w3 ⟨rfl, hb3⟩; have hH3 := hH2.step hb3; clear hb3 hH2 d0 d1)
    have c0 : w3.cell? ⟨w.heap.size, 0, none⟩ = some (.int .i64 a) := hH3.cells (List.mem_cons_of_mem _ (List.mem_cons_self ..)) 0 rfl
    have c1 : w3.cell? ⟨w.heap.size, 1, none⟩ = some (.int .i64 b) := hH3.cells (List.mem_cons_of_mem _ (List.mem_cons_self ..)) 1 rfl
    have d0 : w3.cell? ⟨w.heap.size + 1, 0, none⟩ = some (.int .i64 a) := hH3.cells (List.mem_cons_self ..) 0 rfl
    have d1 : w3.cell? ⟨w.heap.size + 1, 1, none⟩ = some (.int .i64 b) := hH3.cells (List.mem_cons_self ..) 1 rfl
    go_wp2
    go_ret
    exact ⟨rfl, hH3.bel⟩
  · have hne : ((a : Int) == c && (b : Int) == d) = false := by simp; omega
    have hor : (a < c ∨ a = c ∧ b + 1 < d) ∨ (a = c ∧ b + 1 = d) ∨ (c < a ∨ c = a ∧ d + 1 < b) ∨ (c = a ∧ d + 1 = b) := by omega
    have HO := Aside.mk hor
    clear hor hq
    go_enter Try.func5, Try.ntmps5
    go_upto_region 3 with (go_at_call 8; refine (key_speaks _).mono ?_; rintro e w1 ⟨rfl, hb1⟩)
    have hH := (((Held.refl w).lay _).lay _).step hb1
    clear hb1
    simp only [World.size_alloc] at hH
    have c0 : w1.cell? ⟨w.heap.size, 0, none⟩ = some (.int .i64 a) := hH.cells (List.mem_cons_of_mem _ (List.mem_cons_self ..)) 0 rfl
    have c1 : w1.cell? ⟨w.heap.size, 1, none⟩ = some (.int .i64 b) := hH.cells (List.mem_cons_of_mem _ (List.mem_cons_self ..)) 1 rfl
    go_upto_region 4 with (go_at_call 12; refine (key_range a b _ (by omega) (by omega) (by omega)).mono ?_; rintro e w2 ⟨rfl, hb2⟩; have hH2 := hH.step hb2; clear hb2 hH c0 c1)
    have d0 : w2.cell? ⟨w.heap.size + 1, 0, none⟩ = some (.int .i64 c) := hH2.cells (List.mem_cons_self ..) 0 rfl
    have d1 : w2.cell? ⟨w.heap.size + 1, 1, none⟩ = some (.int .i64 d) := hH2.cells (List.mem_cons_self ..) 1 rfl
    go_upto_region 5 with (go_at_call 12; refine (key_range c d _ (by omega) (by omega) (by omega)).mono ?_; rintro e w3 ⟨rfl, hb3⟩; have hH3 := hH2.step hb3; clear hb3 hH2 d0 d1)
    have c0 : w3.cell? ⟨w.heap.size, 0, none⟩ = some (.int .i64 a) := hH3.cells (List.mem_cons_of_mem _ (List.mem_cons_self ..)) 0 rfl
    have c1 : w3.cell? ⟨w.heap.size, 1, none⟩ = some (.int .i64 b) := hH3.cells (List.mem_cons_of_mem _ (List.mem_cons_self ..)) 1 rfl
    have d0 : w3.cell? ⟨w.heap.size + 1, 0, none⟩ = some (.int .i64 c) := hH3.cells (List.mem_cons_self ..) 0 rfl
    have d1 : w3.cell? ⟨w.heap.size + 1, 1, none⟩ = some (.int .i64 d) := hH3.cells (List.mem_cons_self ..) 1 rfl
    go_wp2
    all_goals
      go_ret
      refine ⟨ret_bool ?_, hH3.bel⟩
      have := HO.out
      first | rfl | (simp only [Bool.or_eq_true, Bool.and_eq_true, decide_eq_true_eq, beq_iff_eq, e3, e4]; omega) | trace_state

set_option maxHeartbeats 2000000 in
theorem keyRanges_not (a b c d : Int) (w : World) (hbad : ¬ (0 ≤ a ∧ a ≤ 1099511627776 ∧ 1 ≤ b ∧ b ≤ 3) ∨ ¬ (0 ≤ c ∧ c ≤ 1099511627776 ∧ 1 ≤ d ∧ d ≤ 3)) :
    Calls Try.prog 5 #[.agg #[.int .i64 a, .int .i64 b], .agg #[.int .i64 c, .int .i64 d]] w fun e w' => e = .returned (.bool true) ∧ Below w.heap.size w w' := by
  go_enter Try.func5, Try.ntmps5
  go_upto_region 3 with (go_at_call 8; refine (key_speaks _).mono ?_; rintro e w1 ⟨rfl, hb1⟩)
  have hH := (((Held.refl w).lay _).lay _).step hb1
  clear hb1
  simp only [World.size_alloc] at hH
  have c0 : w1.cell? ⟨w.heap.size, 0, none⟩ = some (.int .i64 a) := hH.cells (List.mem_cons_of_mem _ (List.mem_cons_self ..)) 0 rfl
  have c1 : w1.cell? ⟨w.heap.size, 1, none⟩ = some (.int .i64 b) := hH.cells (List.mem_cons_of_mem _ (List.mem_cons_self ..)) 1 rfl
  by_cases hA : 0 ≤ a ∧ a ≤ 1099511627776 ∧ 1 ≤ b ∧ b ≤ 3
  · have hB : ¬ (0 ≤ c ∧ c ≤ 1099511627776 ∧ 1 ≤ d ∧ d ≤ 3) := by
      rcases hbad with h | h
      · exact absurd hA h
      · exact h
    obtain ⟨a, rfl⟩ := Int.eq_ofNat_of_zero_le hA.1
    obtain ⟨b, rfl⟩ := Int.eq_ofNat_of_zero_le (a := b) (by omega)
    clear hbad
    go_upto_region 4 with (go_at_call 12; refine (key_range a b _ (by omega) (by omega) (by omega)).mono ?_; rintro e w2 ⟨rfl, hb2⟩; have hH2 := hH.step hb2; clear hb2 hH c0 c1)
    have d0 : w2.cell? ⟨w.heap.size + 1, 0, none⟩ = some (.int .i64 c) := hH2.cells (List.mem_cons_self ..) 0 rfl
    have d1 : w2.cell? ⟨w.heap.size + 1, 1, none⟩ = some (.int .i64 d) := hH2.cells (List.mem_cons_self ..) 1 rfl
    have HB := Aside.mk hB
    clear hB
    go_wp2_with (go_at_call 12; refine (key_range_not c d _ HB.out).mono ?_; rintro e w3 ⟨rfl, rfl⟩)
    go_ret
    exact ⟨rfl, hH2.bel⟩
  · have HB := Aside.mk hA
    clear hA hbad
    go_upto_region 4 with (go_at_call 12; refine (key_range_not a b _ HB.out).mono ?_; rintro e w2 ⟨rfl, rfl⟩)
    clear c0 c1
    have d0 : w1.cell? ⟨w.heap.size + 1, 0, none⟩ = some (.int .i64 c) := hH.cells (List.mem_cons_self ..) 0 rfl
    have d1 : w1.cell? ⟨w.heap.size + 1, 1, none⟩ = some (.int .i64 d) := hH.cells (List.mem_cons_self ..) 1 rfl
    by_cases hB : 0 ≤ c ∧ c ≤ 1099511627776 ∧ 1 ≤ d ∧ d ≤ 3
    · obtain ⟨c, rfl⟩ := Int.eq_ofNat_of_zero_le hB.1
      obtain ⟨d, rfl⟩ := Int.eq_ofNat_of_zero_le (a := d) (by omega)
      go_wp2_with (go_at_call 12; refine (key_range c d _ (by omega) (by omega) (by omega)).mono ?_; rintro e w2 ⟨rfl, hb2⟩; have hH2 := hH.step hb2; clear hb2)
      go_ret
      exact ⟨rfl, hH2.bel⟩
    · have HC := Aside.mk hB
      clear hB
      go_wp2_with (go_at_call 12; refine (key_range_not c d _ HC.out).mono ?_; rintro e w2 ⟨rfl, rfl⟩)
      go_ret
      exact ⟨rfl, hH.bel⟩

theorem keyRanges_walk (a b c d : Int) (w : World) (_wa : (Lit.int .i64 a).wf = true ∧ (Lit.int .i64 b).wf = true) (_wc : (Lit.int .i64 c).wf = true ∧ (Lit.int .i64 d).wf = true) :
    Calls Try.prog 5 #[.agg #[.int .i64 a, .int .i64 b], .agg #[.int .i64 c, .int .i64 d]] w fun e w' => e = .returned (.bool true) ∧ Below w.heap.size w w' := by
  by_cases h : (0 ≤ a ∧ a ≤ 1099511627776 ∧ 1 ≤ b ∧ b ≤ 3) ∧ (0 ≤ c ∧ c ≤ 1099511627776 ∧ 1 ≤ d ∧ d ≤ 3)
  · obtain ⟨a, rfl⟩ := Int.eq_ofNat_of_zero_le h.1.1
    obtain ⟨b, rfl⟩ := Int.eq_ofNat_of_zero_le (a := b) (by omega)
    obtain ⟨c, rfl⟩ := Int.eq_ofNat_of_zero_le h.2.1
    obtain ⟨d, rfl⟩ := Int.eq_ofNat_of_zero_le (a := d) (by omega)
    exact keyRanges_both a b c d w (by omega) (by omega) (by omega) (by omega) (by omega) (by omega)
  · exact keyRanges_not a b c d w (by omega)
end Go.Proofs.Ytkmdoaenlpfdaaa
