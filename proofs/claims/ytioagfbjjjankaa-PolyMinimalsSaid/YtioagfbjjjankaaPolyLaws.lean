/-
  The statements of the polynomials: sums, products, remainders.
-/
import Derived.Test.YtioagfbjjjankaaPolyRef3
import Derived.Test.YtioagfbjjjankaaAppend2
import Derived.Test.YtioagfbjjjankaaArgs
namespace Go.Proofs.Ytioagfbjjjankaa
open Go.RowKit

/-- A list of numbers that is read. -/
def LRd (w : World) (v : Value) (l : List Int) : Prop := ∃ A n c, v = .slice A n c ∧ n = l.length ∧ n ≤ 17592186043904 ∧ Rd w A n (fun i => .int .i64 (l.getD i 0))
theorem LRd.below {w w' : World} {v : Value} {l : List Int} (h : LRd w v l) (hb : Below w.heap.size w w') : LRd w' v l := by
  obtain ⟨A, n, c, h1, h2, h3, h4⟩ := h
  exact ⟨A, n, c, h1, h2, h3, h4.below (Nat.le_refl _) hb⟩
theorem Row.lrd {w : World} {base : Nat} {v : Value} {n : Nat} {l : List Int} (h : Row w base 3 1 v n (intsV l)) (hn : n ≤ 17592186043904) : LRd w v l := by
  obtain ⟨A, c, rfl, h1, _, _, h2⟩ := h.readInts
  exact ⟨A, n, c, rfl, h1, hn, h2⟩
theorem listP_short (P : Nat) : (listP P).length ≤ 17592186043904 := by have := listP_le P; omega
theorem optL_short (r : Option Nat) : (optL r).length ≤ 17592186043904 := by
  cases r with
  | none => exact Nat.zero_le _
  | some P => exact listP_short P
def CopyPost (w : World) (l : List Int) (e : Ending) (w' : World) : Prop := ∃ v, e = .returned v ∧ Row w' w.heap.size 3 1 v l.length (intsV l) ∧ Below w.heap.size w w'
theorem law_copied (v : Value) (l : List Int) (w : World) (h : LRd w v l) : Calls Try.prog 11 #[v] w (CopyPost w l) := by
  obtain ⟨A, n, c, rfl, hl, hn, hR⟩ := h
  have HR := Aside.mk (And.intro hl hR)
  clear hl hR
  go_enter Try.func11, Try.ntmps11
  go_wp2_with (at_builtin; refine wpList_append_row2 (w0 := w) w.heap.size rfl _ _ 24 22 3 3 1 8 (.int .i64 0) rfl Try.underlying22 Try.underlying24 infoInt rfl (by decide) _ 0 [] _ n _ rfl rfl (Row.lit w w.heap.size 3 1 #[] 0 (Nat.le_refl _) (by decide) rfl) (Src.of_rd (Rd.below HR.out.2 (Nat.le_refl _) ((Below.refl _ _).alloc (Nat.le_refl _) _))) (by simp [Value.oneCell']) ((Below.refl _ _).alloc (Nat.le_refl _) _) (by simp) (by omega) (by simp only [maxLen]; omega) ?_; intro v1 w1 hr1 hb1 hg1 hat1; clear hg1 hat1)
  go_ret
  refine ⟨_, rfl, ?_, hb1⟩
  have e : (List.range n).map (fun i => Value.int .i64 (l.getD i 0)) = intsV l := by rw [HR.out.1]; exact range_getD_ints l
  rw [Nat.zero_add, List.nil_append, e, HR.out.1] at hr1
  exact hr1

theorem lof (v : Value) (l : List Int) (w : World) (h : LRd w v l) : Calls Try.prog 15 #[v] w (ListOf w (listP (Poly.bitsOf l))) := by
  obtain ⟨A, n, c, rfl, hl, hn, hR⟩ := h
  exact poly_of A n c l w hl (by omega) hR
theorem ladd (v u : Value) (l k : List Int) (w : World) (h : LRd w v l) (h2 : LRd w u k) : Calls Try.prog 16 #[v, u] w (ListOf w (listP (Poly.bitsOf l ^^^ Poly.bitsOf k))) := by
  obtain ⟨A, n, c, rfl, hl, hn, hR⟩ := h
  obtain ⟨B, m, d, rfl, hk, hm, hS⟩ := h2
  exact poly_add A B n c m d l k w hl (by omega) hR hk (by omega) hS
theorem lmul (v u : Value) (l k : List Int) (w : World) (h : LRd w v l) (h2 : LRd w u k) : Calls Try.prog 12 #[v, u] w (PairOf w (mulR (Poly.bitsOf l) (Poly.bitsOf k))) := by
  obtain ⟨A, n, c, rfl, hl, hn, hR⟩ := h
  obtain ⟨B, m, d, rfl, hk, hm, hS⟩ := h2
  exact poly_mul A B n c m d l k w hl (by omega) hR hk (by omega) hS
theorem lmod (v u : Value) (l k : List Int) (w : World) (h : LRd w v l) (h2 : LRd w u k) : Calls Try.prog 19 #[v, u] w (PairOf w (modR (Poly.bitsOf l) (Poly.bitsOf k))) := by
  obtain ⟨A, n, c, rfl, hl, hn, hR⟩ := h
  obtain ⟨B, m, d, rfl, hk, hm, hS⟩ := h2
  exact poly_mod A B n c m d l k w hl (by omega) hR hk (by omega) hS
theorem lrmul (v u : Value) (l k : List Int) (w : World) (h : LRd w v l) (h2 : LRd w u k) : Calls Try.prog 13 #[v, u] w (PairOf w (mulR (Poly.bitsOf l) (Poly.bitsOf k))) := by
  obtain ⟨A, n, c, rfl, hl, hn, hR⟩ := h
  obtain ⟨B, m, d, rfl, hk, hm, hS⟩ := h2
  exact ref_mulP A B n c m d l k w hl (by omega) hR hk (by omega) hS
theorem lrmod (v u : Value) (l k : List Int) (w : World) (h : LRd w v l) (h2 : LRd w u k) : Calls Try.prog 20 #[v, u] w (PairOf w (modR (Poly.bitsOf l) (Poly.bitsOf k))) := by
  obtain ⟨A, n, c, rfl, hl, hn, hR⟩ := h
  obtain ⟨B, m, d, rfl, hk, hm, hS⟩ := h2
  exact ref_modP A B n c m d l k w hl (by omega) hR hk (by omega) hS
theorem lsame (v u : Value) (l k : List Int) (w : World) (h : LRd w v l) (h2 : LRd w u k) : Calls Try.prog 14 #[v, u] w fun e w' => e = .returned (.bool (decide (l = k))) ∧ Below w.heap.size w w' := by
  obtain ⟨A, n, c, rfl, hl, hn, hR⟩ := h
  obtain ⟨B, m, d, rfl, hk, hm, hS⟩ := h2
  exact (ref_same A B n c m d l k w hl (by omega) hR hk (by omega) hS).mono fun _ _ ⟨h1, h2⟩ => ⟨h1, h2.same⟩
theorem lsame_yes (v u : Value) (l : List Int) (w : World) (h : LRd w v l) (h2 : LRd w u l) : Calls Try.prog 14 #[v, u] w fun e w' => e = .returned (.bool true) ∧ Below w.heap.size w w' := by
  have := lsame v u l l w h h2
  simpa using this

theorem lit_lrd (w : World) (a b : Int) : LRd (w.alloc (.cells #[.int .i64 a, .int .i64 b] 3)) (.slice (some ⟨w.heap.size, 0, none⟩) 2 2) [a, b] :=
  (Row.lrd (Row.lit w 0 3 1 #[.int .i64 a, .int .i64 b] 2 (Nat.zero_le _) (by decide) rfl) (by omega))
theorem speaks_bits : Poly.bitsOf [1, 0] = 3 := by decide
theorem speaks_list : Poly.bitsOf (Poly.ints (listP 3)) = 3 := by
  have h1 := Poly.lim_eq
  have := Poly.bitsOf_fall (P := 3) (n := Poly.lim) (Nat.le_refl _)
  rw [show Poly.ints (listP 3) = Poly.ints (Poly.fall Poly.lim 3) from rfl, this]
  exact Nat.mod_eq_of_lt (Nat.lt_of_lt_of_le (by decide : 3 < 2 ^ 2) (Nat.pow_le_pow_right (by omega) (by omega)))
theorem speaks_mul : mulR 3 3 = some 5 := by decide +kernel
theorem speaks_five : Poly.ints (listP 5) = [2, 0] := by
  have h1 := Poly.lim_eq
  have : listP 5 = Poly.fall 3 5 := Poly.fall_more (by omega) (by decide)
  rw [this]
  decide

set_option maxHeartbeats 1600000 in
theorem poly_speaks (w : World) : Calls Try.prog 10 #[] w fun e w' => e = .returned (.bool true) ∧ Below w.heap.size w w' := by
  have h0 := Below.refl w.heap.size w
  have H1 := Aside.mk (lof _ _ _ (lit_lrd w 1 0))
  have H0 := Aside.mk (h0.alloc (Nat.le_refl _) (.cells #[.int .i64 1, .int .i64 0] 3))
  clear h0
  go_enter Try.func10, Try.ntmps10
  go_wp2_with (first | (obtain ⟨HI⟩ := H1; go_at_call 15; refine (HI).mono ?_; clear HI; rintro e w1 ⟨v1, rfl, hr1, hb1⟩; have hb2 := H0.out.trans (hb1.mono H0.out.size); have H2 := Aside.mk (lof _ _ _ (lit_lrd w1 1 0)); have H3 := Aside.mk (And.intro (Row.lrd hr1 (listP_short _)) (And.intro (hb2.alloc hb2.size (.cells #[.int .i64 1, .int .i64 0] 3)) ((Below.refl w1.heap.size w1).alloc (Nat.le_refl _) (.cells #[.int .i64 1, .int .i64 0] 3)))); clear hb1 hb2 hr1) | (obtain ⟨HI⟩ := H2; go_at_call 15; refine (HI).mono ?_; clear HI; rintro e w3 ⟨v3, rfl, hr3, hb3⟩; have hl1 := (H3.out.1.below H3.out.2.2).below hb3; have H4 := Aside.mk (lmul _ _ _ _ _ hl1 (Row.lrd hr3 (listP_short _))); have H5 := Aside.mk (H3.out.2.1.trans (hb3.mono H3.out.2.1.size)); clear hl1 hr3 hb3) | (obtain ⟨HI⟩ := H4; go_at_call 12; refine (HI).mono ?_; clear HI; rw [speaks_bits, speaks_list, speaks_mul]; rintro e w4 ⟨v4, rfl, hr4, hb4⟩; have hb5 := H5.out.trans (hb4.mono H5.out.size); have hlit := lit_lrd w4 2 0; have hl4 := (Row.lrd hr4 (optL_short _)).below ((Below.refl w4.heap.size w4).alloc (Nat.le_refl _) (.cells #[.int .i64 2, .int .i64 0] 3)); have H6 := Aside.mk (And.intro (hb5.alloc hb5.size (.cells #[.int .i64 2, .int .i64 0] 3)) (And.intro hlit hl4)); clear hb4 hb5 hr4 hlit hl4) | (go_at_call 14; refine (lsame_yes v4 _ [2, 0] _ (by have := H6.out.2.2; rw [show Poly.ints (optL (some 5)) = [2, 0] from speaks_five] at this; exact this) H6.out.2.1).mono ?_; rintro e w6 ⟨rfl, hb6⟩))
  go_ret
  exact ⟨rfl, H6.out.1.trans (hb6.mono H6.out.1.size)⟩
end Go.Proofs.Ytioagfbjjjankaa
