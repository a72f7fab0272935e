/-
  The statements of the field: products, inverses, logarithms, no field, rules, squares.
-/
import Derived.Test.YtciacjegndjdmaaGfRef
namespace Go.Proofs.Ytciacjegndjdmaa
open Go.RowKit

/-- A new field. -/
theorem fresh_new (w : World) : Fresh (w.alloc (.cells #[.int .u32 0, .int .i32 0, .int .u32 0, .slice none 0 0, .slice none 0 0, .int .i64 0] 40)) w.heap.size 0 := heap_alloc_new w _
theorem below_grown {B : Nat} {w w1 w2 : World} {f : Nat} (hb : Below B w w1) (hg : w1.grownBy w2 (some f)) (hf : B ≤ f) (hB : B ≤ w1.heap.size) : Below B w w2 :=
  hb.grown hg hB (fun k hk => by injection hk with hk; omega)

/-- A field of the call's own. -/
structure St (w : World) (f p : Nat) (W : World) : Prop where
  bel : Below w.heap.size w W
  fld : Fld W f p
  lo : w.heap.size ≤ f
section
variable {w W : World} {f p : Nat}
theorem St.new {w1 : World} (hb : Below w.heap.size w w1) : St w w1.heap.size 0 (w1.alloc (.cells #[.int .u32 0, .int .i32 0, .int .u32 0, .slice none 0 0, .slice none 0 0, .int .i64 0] 40)) :=
  ⟨hb.alloc hb.size _, .inl (fresh_new w1), hb.size⟩
theorem St.next {W' : World} {q : Nat} (h : St w f p W) (hF : Fld W' f q) (hg : W.grownBy W' (some f)) : St w f q W' := ⟨below_grown h.bel hg h.lo h.bel.size, hF, h.lo⟩
theorem St.below {W' : World} (h : St w f p W) (hb : Below W.heap.size W W') : St w f p W' := ⟨h.bel.trans (hb.mono h.bel.size), h.fld.below hb, h.lo⟩
def mulV (a b : Int) : Nat := Gf.mul (lowN a) (lowN b)
theorem mulV_lt (a b : Int) : mulV a b < 8192 := Gf.mul_lt _ (lowN_lt a)
theorem St.mul (h : St w f p W) (hp : p ≤ 1000000) (a b : Int) : Calls Try.prog 12 #[.pointer (some ⟨f, 0, none⟩), .int .i64 a, .int .i64 b] W fun e W' => e = .returned (.int .i64 (mulV a b : Nat)) ∧ St w f (p + 1) W' :=
  (gf_mul f p a b W h.fld hp).mono fun _ _ ⟨h1, h2, h3⟩ => ⟨h1, h.next (.inr h2) h3⟩
theorem St.products (h : St w f p W) : Calls Try.prog 16 #[.pointer (some ⟨f, 0, none⟩)] W fun e W' => e = .returned (.int .i64 (p : Int)) ∧ W = W' := gf_products f p W h.fld
theorem St.exp (h : St w f p W) (n : Int) (h1 : -9223372036854775808 ≤ n) (h2 : n ≤ 9223372036854775807) : Calls Try.prog 20 #[.pointer (some ⟨f, 0, none⟩), .int .i64 n] W fun e W' => e = .returned (.int .i64 (Gf.pw (arN n) : Nat)) ∧ St w f p W' :=
  (gf_exp f p n W h.fld h1 h2).mono fun _ _ ⟨h1, h2, h3⟩ => ⟨h1, h.next (.inr h2) h3⟩
theorem St.pow (h : St w f p W) (a n : Int) (h1 : -9223372036854775808 ≤ n) (h2 : n ≤ 9223372036854775807) : Calls Try.prog 22 #[.pointer (some ⟨f, 0, none⟩), .int .i64 a, .int .i64 n] W fun e W' => e = .returned (.int .i64 (powN (lowN a) n : Nat)) ∧ St w f p W' :=
  (gf_pow f p a n W h.fld h1 h2).mono fun _ _ ⟨h1, h2, h3⟩ => ⟨h1, h.next h2 h3⟩
noncomputable def logV2 (a : Int) : Nat := if lowN a = 0 then 0 else Gf.log (lowN a)
theorem logV2_lt (a : Int) : logV2 a < 8191 := by
  unfold logV2
  split
  · decide
  · exact Gf.log_lt _
theorem St.log (h : St w f p W) (a : Int) : Calls Try.prog 19 #[.pointer (some ⟨f, 0, none⟩), .int .i64 a] W fun e W' => e = .returned (.tuple #[.int .i64 (logV2 a : Nat), .bool (!decide (lowN a = 0))]) ∧ St w f p W' := by
  by_cases h0 : lowN a = 0
  · refine (gf_log_zero f a W h0).mono fun _ _ ⟨h1, h2⟩ => ⟨?_, h2 ▸ h⟩
    rw [h1, decide_eq_true h0]
    unfold logV2
    rw [if_pos h0]
    rfl
  · refine (gf_log f p a W h.fld (by omega)).mono fun _ _ ⟨h1, h2, h3⟩ => ⟨?_, h.next (.inr h2) h3⟩
    rw [h1, decide_eq_false h0]
    unfold logV2
    rw [if_neg h0]
    rfl
theorem inv_eq {a : Nat} (h0 : 0 < a) (h : a < 8192) : Gf.pw (8191 - Gf.log a) = invN a := by
  have hl := Gf.log_lt a
  unfold invN
  rw [if_neg (by omega), Gf.pow_log h0 h]
  generalize Gf.log a = i at *
  rcases Nat.eq_zero_or_pos i with rfl | hi
  · rw [Nat.zero_mul]; exact Gf.pw_order
  · have h1 := Gf.pw_mul_order (8191 - i) (i - 1)
    have e : 8191 - i + 8191 * (i - 1) = i * 8190 := by omega
    rw [e] at h1
    exact h1.symm
theorem St.inv (h : St w f p W) (a : Int) : Calls Try.prog 11 #[.pointer (some ⟨f, 0, none⟩), .int .i64 a] W fun e W' => e = .returned (.tuple #[.int .i64 (invN (lowN a) : Nat), .bool (!decide (lowN a = 0))]) ∧ St w f p W' := by
  by_cases h0 : lowN a = 0
  · refine (gf_inv_zero f a W h0).mono fun _ _ ⟨h1, h2⟩ => ⟨?_, h2 ▸ h⟩
    rw [h1, decide_eq_true h0]
    unfold invN
    rw [if_pos h0]
    rfl
  · refine (gf_inv f p a W h.fld (by omega)).mono fun _ _ ⟨h1, h2, h3⟩ => ⟨?_, h.next (.inr h2) h3⟩
    rw [h1, decide_eq_false h0, inv_eq (by omega) (lowN_lt a)]
    rfl
/-- Another field's block is written. -/
theorem Fld.other {W' : World} {g q : Nat} {cs : Array Value} (h : Fld W g q) (hf : W.heap[f]? = some (.cells cs 40)) (hne : f ≠ g) (hg : W.grownBy W' (some f)) : Fld W' g q := by
  have hrow : ∀ {b n : Nat} {xs : List Value}, Row W 0 3 1 (.slice (some ⟨b, 0, none⟩) n n) n xs → some b ≠ some f := fun {b n xs} hr e => by
    injection e with e
    subst e
    obtain ⟨_, _, cur, fr, h1⟩ := hr.blk b rfl
    rw [hf] at h1
    injection h1 with h1
    injection h1 with _ h1
    exact absurd h1 (by decide)
  rcases h with h | ⟨ge, gl, h⟩
  · exact .inl (FB.kept h hg (by simpa using Ne.symm hne))
  · exact .inr ⟨ge, gl, h.kept hg (by simpa using Ne.symm hne) (hrow h.ex) (hrow h.lg)⟩
theorem Fld.block (h : Fld W f p) : ∃ cs, W.heap[f]? = some (.cells cs 40) := by
  rcases h with h | ⟨ge, gl, h⟩
  · exact ⟨_, h⟩
  · exact ⟨_, h.fb⟩
end

structure St2 (w : World) (f g p q : Nat) (W : World) : Prop where
  bel : Below w.heap.size w W
  ff : Fld W f p
  fg : Fld W g q
  lo : w.heap.size ≤ f ∧ w.heap.size ≤ g
  ne : f ≠ g
section
variable {w W : World} {f g p q : Nat}
theorem St2.mulf (h : St2 w f g p q W) (hp : p ≤ 1000000) (a b : Int) : Calls Try.prog 12 #[.pointer (some ⟨f, 0, none⟩), .int .i64 a, .int .i64 b] W fun e W' => e = .returned (.int .i64 (mulV a b : Nat)) ∧ St2 w f g (p + 1) q W' := by
  obtain ⟨cs, hb⟩ := h.ff.block
  exact (gf_mul f p a b W h.ff hp).mono fun _ _ ⟨h1, h2, h3⟩ => ⟨h1, below_grown h.bel h3 h.lo.1 h.bel.size, .inr h2, h.fg.other hb h.ne h3, h.lo, h.ne⟩
theorem St2.mulg (h : St2 w f g p q W) (hq : q ≤ 1000000) (a b : Int) : Calls Try.prog 12 #[.pointer (some ⟨g, 0, none⟩), .int .i64 a, .int .i64 b] W fun e W' => e = .returned (.int .i64 (mulV a b : Nat)) ∧ St2 w f g p (q + 1) W' := by
  obtain ⟨cs, hb⟩ := h.fg.block
  exact (gf_mul g q a b W h.fg hq).mono fun _ _ ⟨h1, h2, h3⟩ => ⟨h1, below_grown h.bel h3 h.lo.2 h.bel.size, h.ff.other hb (Ne.symm h.ne) h3, .inr h2, h.lo, h.ne⟩
theorem St2.inv (h : St2 w f g p q W) (a : Int) : Calls Try.prog 11 #[.pointer (some ⟨f, 0, none⟩), .int .i64 a] W fun e W' => e = .returned (.tuple #[.int .i64 (invN (lowN a) : Nat), .bool (!decide (lowN a = 0))]) ∧ St2 w f g p q W' := by
  by_cases h0 : lowN a = 0
  · refine (gf_inv_zero f a W h0).mono fun _ _ ⟨h1, h2⟩ => ⟨?_, h2 ▸ h⟩
    rw [h1, decide_eq_true h0]
    unfold invN
    rw [if_pos h0]
    rfl
  · obtain ⟨cs, hb⟩ := h.ff.block
    refine (gf_inv f p a W h.ff (by omega)).mono fun _ _ ⟨h1, h2, h3⟩ => ⟨?_, below_grown h.bel h3 h.lo.1 h.bel.size, .inr h2, h.fg.other hb h.ne h3, h.lo, h.ne⟩
    rw [h1, decide_eq_false h0, inv_eq (by omega) (lowN_lt a)]
    rfl
theorem St2.productsf (h : St2 w f g p q W) : Calls Try.prog 16 #[.pointer (some ⟨f, 0, none⟩)] W fun e W' => e = .returned (.int .i64 (p : Int)) ∧ W = W' := gf_products f p W h.ff
theorem St2.productsg (h : St2 w f g p q W) : Calls Try.prog 16 #[.pointer (some ⟨g, 0, none⟩)] W fun e W' => e = .returned (.int .i64 (q : Int)) ∧ W = W' := gf_products g q W h.fg
end

theorem mul_27 : Gf.mul (lowN 4096) (lowN 2) = 27 := by decide +kernel
theorem mulV_27 : mulV 4096 2 = 27 := mul_27
set_option maxHeartbeats 400000 in
theorem gf_speaks (w : World) : Calls Try.prog 10 #[] w fun e w' => e = .returned (.bool true) ∧ Below w.heap.size w w' := by
  have HF := Aside.mk (St.new (Below.refl w.heap.size w))
  go_enter Try.func10, Try.ntmps10
  go_wp2_with (first | (go_at_call 12; refine (HF.out.mul (by omega) _ _).mono ?_; rw [mulV_27]; rintro e w1 ⟨rfl, hM⟩; clear HF; have HF := Aside.mk hM; clear hM) | (go_at_call 16; refine (HF.out.products).mono ?_; rintro e w2 ⟨rfl, rfl⟩))
  go_ret
  exact ⟨rfl, HF.out.bel⟩

theorem mulV_comm (a b : Int) : mulV a b = mulV b a := Gf.mul_comm (lowN_lt a) (lowN_lt b)
theorem low_bool (a : Int) : ((lowN a : Int) != 0) = !decide (lowN a = 0) := by
  by_cases h : lowN a = 0
  · rw [h]; rfl
  · rw [decide_eq_false h]; simp; omega

set_option maxRecDepth 100000 in
set_option maxHeartbeats 1600000 in
theorem gfProducts_walk (a b : Int) (w : World) (_h1 : (Lit.int .i64 a).wf = true) (_h2 : (Lit.int .i64 b).wf = true) :
    Calls Try.prog 3 #[.int .i64 a, .int .i64 b] w fun e w' => e = .returned (.bool true) ∧ Below w.heap.size w w' := by
  have hlb := low_bool a
  have hcm := mulV_comm b a
  go_enter Try.func3, Try.ntmps3
  go_upto_region 4 with (go_at_call 10; refine (gf_speaks _).mono ?_; rintro e w1 ⟨rfl, hb1⟩)
  have hS := St.new hb1
  have hS2 := St.new hS.bel
  have hSS := hS.below ((Below.refl _ _).alloc (Nat.le_refl _) (.cells #[.int .u32 0, .int .i32 0, .int .u32 0, .slice none 0 0, .slice none 0 0, .int .i64 0] 40))
  simp only [World.size_alloc] at hS2
  have HT : Aside (St2 w w1.heap.size (w1.heap.size + 1) 0 0 ((w1.alloc (.cells #[.int .u32 0, .int .i32 0, .int .u32 0, .slice none 0 0, .slice none 0 0, .int .i64 0] 40)).alloc (.cells #[.int .u32 0, .int .i32 0, .int .u32 0, .slice none 0 0, .slice none 0 0, .int .i64 0] 40))) := ⟨hSS.bel, hSS.fld, hS2.fld, ⟨hSS.lo, hS2.lo⟩, by omega⟩
  clear hS hS2 hSS hb1
  generalize (w1.alloc (.cells #[.int .u32 0, .int .i32 0, .int .u32 0, .slice none 0 0, .slice none 0 0, .int .i64 0] 40)).alloc (.cells #[.int .u32 0, .int .i32 0, .int .u32 0, .slice none 0 0, .slice none 0 0, .int .i64 0] 40) = W at *
  generalize w1.heap.size + 1 = g at *
  generalize w1.heap.size = f at *
  go_wp2_with (first | (go_at_call 11; refine (HT.out.inv a).mono ?_; rintro e w2 ⟨rfl, h⟩; clear HT; have HT := Aside.mk h; clear h) | (go_at_call 12; first | ((with_reducible refine (HT.out.mulf (by omega) _ _).mono ?_); rintro e w2 ⟨rfl, h⟩; clear HT; have HT := Aside.mk h; clear h) | ((with_reducible refine (HT.out.mulg (by omega) _ _).mono ?_); rintro e w2 ⟨rfl, h⟩; clear HT; have HT := Aside.mk h; clear h)) | (go_at_call 13; refine (ref_mul a b _).mono ?_; rintro e w2 ⟨rfl, rfl⟩) | (go_at_call 14; refine (ref_inv a _).mono ?_; rintro e w2 ⟨rfl, rfl⟩) | (go_at_call 15; refine (ref_low a _).mono ?_; rintro e w2 ⟨rfl, rfl⟩) | (go_at_call 16; first | ((with_reducible refine (HT.out.productsf).mono ?_); rintro e w2 ⟨rfl, rfl⟩) | ((with_reducible refine (HT.out.productsg).mono ?_); rintro e w2 ⟨rfl, rfl⟩)))
  go_ret
  exact ⟨rfl, HT.out.bel⟩
end Go.Proofs.Ytciacjegndjdmaa
