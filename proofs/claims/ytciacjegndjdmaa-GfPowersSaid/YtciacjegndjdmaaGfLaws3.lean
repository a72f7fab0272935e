/-
  The last statements of the field: squares, no field, powers, values of polynomials.
-/
import Derived.Test.YtciacjegndjdmaaGfLaws2
import Derived.Deep.CutBlock
namespace Go.Proofs.Ytciacjegndjdmaa
open Go.RowKit

/-! Squares -/
theorem powN_two (a : Nat) (h : a < 8192) : powN a 2 = Gf.mul a a := by
  have := powN_nat h 2
  rw [Gf.pow_two h] at this
  exact this
theorem sq_xor {x y : Nat} (hx : x < 8192) (hy : y < 8192) : Gf.mul (x ^^^ y) (x ^^^ y) = Gf.mul x x ^^^ Gf.mul y y := by
  rw [Gf.mul_xor_right _ _ (Gf.xor_lt hx hy), Gf.mul_xor_left _ hx hy, Gf.mul_xor_left _ hx hy, Gf.mul_comm hy hx]
  rw [show Gf.mul x x ^^^ Gf.mul x y ^^^ (Gf.mul x y ^^^ Gf.mul y y) = Gf.mul x x ^^^ Gf.mul y y ^^^ Gf.mul x y ^^^ Gf.mul x y by ac_rfl, Gf.xor_cancel]
theorem powN_8192 {a : Nat} (h : a < 8192) : powN a 8192 = a := by
  have h1 := powN_nat h 8192
  have h2 : Gf.pow a 8192 = a := by
    rcases Nat.eq_zero_or_pos a with rfl | h0
    · exact Gf.pow_zero (by omega)
    · show Gf.mul (Gf.pow a 8191) a = a
      rw [Gf.pow_order h0 h, Gf.one_mul h]
  rw [h2] at h1
  exact h1
theorem evalH_two (a b : Int) : evalH [b, a] (lowN 2) = mulV a 2 ^^^ lowN b := by
  show Gf.mul (Gf.mul 0 (lowN 2) ^^^ lowN a) (lowN 2) ^^^ lowN b = _
  rw [Gf.mul_zero_left, Nat.zero_xor]
  rfl
theorem St.eval {w W : World} {f p : Nat} (h : St w f p W) (A : Option Addr) (n c : Nat) (l : List Int) (x : Int) (hn : n ≤ 9223372036854775807) (hl : n = l.length) (hR : Rd W A n (fun k => .int .i64 (l.getD k 0))) (hA : ∀ b off, A = some ⟨b, off, none⟩ → b ≠ f) :
    Calls Try.prog 17 #[.pointer (some ⟨f, 0, none⟩), .slice A n c, .int .i64 x] W fun e W' => e = .returned (.int .i64 (evalH l (lowN x) : Nat)) ∧ St w f p W' ∧ W.grownBy W' (some f) :=
  (gf_eval f p A n c l x W h.fld hn hl hR hA).mono fun _ _ ⟨h1, h2, h3⟩ => ⟨h1, h.next (.inr h2) h3, h3⟩
theorem rd_two (W : World) (b a : Int) : Rd (W.alloc (.cells #[.int .i64 b, .int .i64 a] 3)) (some ⟨W.heap.size, 0, none⟩) 2 (fun k => .int .i64 ([b, a].getD k 0)) := by
  intro k hk
  have hc := fun i => cell_of_row _ W.heap.size i _ _ _ (heap_alloc_new W (.cells #[.int .i64 b, .int .i64 a] 3))
  refine ⟨_, _, rfl, by simp, ?_⟩
  match k, hk with
  | 0, _ => exact hc _
  | 1, _ => exact hc _
theorem St.evalTwo {w W : World} {f p : Nat} (h : St w f p W) (b a x : Int) :
    Calls Try.prog 17 #[.pointer (some ⟨f, 0, none⟩), .slice (some ⟨W.heap.size, 0, none⟩) 2 2, .int .i64 x] (W.alloc (.cells #[.int .i64 b, .int .i64 a] 3)) fun e W' => e = .returned (.int .i64 (evalH [b, a] (lowN x) : Nat)) ∧ St w f p W' :=
  ((h.below ((Below.refl _ _).alloc (Nat.le_refl _) _)).eval _ 2 2 [b, a] x (by omega) rfl (rd_two W b a) (fun b off hb => by
    injection hb with hb
    injection hb with hb
    have := h.fld.lt
    omega)).mono fun _ _ ⟨h1, h2, _⟩ => ⟨h1, h2⟩

set_option maxRecDepth 100000 in
set_option maxHeartbeats 3200000 in
theorem gfSquares_walk (a b : Int) (w : World) (_h1 : (Lit.int .i64 a).wf = true) (_h2 : (Lit.int .i64 b).wf = true) :
    Calls Try.prog 8 #[.int .i64 a, .int .i64 b] w fun e w' => e = .returned (.bool true) ∧ Below w.heap.size w w' := by
  have ha := lowN_lt a
  have hb := lowN_lt b
  have q0 : powN (lowN (bits .xor .i64 a b)) 2 = Gf.mul (lowN a) (lowN a) ^^^ Gf.mul (lowN b) (lowN b) := by rw [powN_two _ (lowN_lt _), lowN_xor, sq_xor ha hb]
  have q1 := powN_two (lowN a) ha
  have q2 := powN_two (lowN b) hb
  have q3 := powN_8192 ha
  have q4 : mulV a a = Gf.mul (lowN a) (lowN a) := rfl
  have q5 := evalH_two a b
  have l1 : Gf.mul (lowN a) (lowN a) < 8192 := Gf.mul_lt _ ha
  have l2 : Gf.mul (lowN b) (lowN b) < 8192 := Gf.mul_lt _ hb
  have l3 := mulV_lt a 2
  have f5 := and8191 a
  have f6 := and8191 b
  generalize Gf.mul (lowN a) (lowN a) = A at *
  generalize Gf.mul (lowN b) (lowN b) = B at *
  have x1 := i64_xor_nat (a := A) (b := B) (by omega) (by omega)
  have x2 := i64_xor_nat (a := mulV a 2) (b := lowN b) (by omega) (by omega)
  go_enter Try.func8, Try.ntmps8
  go_upto_region 4 with (go_at_call 10; refine (gf_speaks _).mono ?_; rintro e w1 ⟨rfl, hb1⟩)
  have HT := Aside.mk (St.new hb1)
  clear hb1
  generalize w1.alloc (.cells #[.int .u32 0, .int .i32 0, .int .u32 0, .slice none 0 0, .slice none 0 0, .int .i64 0] 40) = W at *
  generalize w1.heap.size = f at *
  go_wp2_with (first | (go_at_call 22; refine (HT.out.pow _ _ (by omega) (by omega)).mono ?_; rintro e w2 ⟨rfl, h⟩; clear HT; have HT := Aside.mk h; clear h) | (go_at_call 12; refine (HT.out.mul (by omega) _ _).mono ?_; rintro e w2 ⟨rfl, h⟩; clear HT; have HT := Aside.mk h; clear h) | (go_at_call 17; refine (HT.out.evalTwo _ _ _).mono ?_; rintro e w2 ⟨rfl, h⟩; clear HT; have HT := Aside.mk h; clear h))
  go_ret
  exact ⟨rfl, HT.out.bel⟩

/-! No field -/
set_option maxRecDepth 100000 in
set_option maxHeartbeats 3200000 in
theorem gfNil_walk (a n : Int) (w : World) (_h1 : (Lit.int .i64 a).wf = true) (_h2 : (Lit.int .i64 n).wf = true) :
    Calls Try.prog 9 #[.int .i64 a, .int .i64 n] w fun e w' => e = .returned (.bool true) ∧ Below w.heap.size w w' := by
  go_enter Try.func9, Try.ntmps9
  go_wp2_with (first | (go_at_call 10; refine (gf_speaks _).mono ?_; rintro e w1 ⟨rfl, hb1⟩; have HB := Aside.mk (hb1.alloc hb1.size (.cells #[.int .i64 a, .int .i64 n] 3)); clear hb1) | (go_at_call 11; refine (gf_inv_nil _ _).mono ?_; rintro e w2 ⟨rfl, rfl⟩) | (go_at_call 19; refine (gf_log_nil _ _).mono ?_; rintro e w2 ⟨rfl, rfl⟩) | (go_at_call 12; refine (gf_mul_nil _ _ _).mono ?_; rintro e w2 ⟨rfl, rfl⟩) | (go_at_call 22; refine (gf_pow_nil _ _ _).mono ?_; rintro e w2 ⟨rfl, rfl⟩) | (go_at_call 20; refine (gf_exp_nil _ _).mono ?_; rintro e w2 ⟨rfl, rfl⟩) | (go_at_call 17; refine (gf_eval_nil _ _ _).mono ?_; rintro e w2 ⟨rfl, rfl⟩) | (go_at_call 16; refine (gf_products_nil _).mono ?_; rintro e w2 ⟨rfl, rfl⟩))
  go_ret
  exact ⟨rfl, HB.out⟩

/-! Powers -/
theorem pw_of_sum {A B C k l : Nat} (h1 : A + C = 8191 * k) (h2 : B + C = 8191 * l) : Gf.pw A = Gf.pw B := by
  have e1 := Gf.pw_mul_order A l
  have e2 := Gf.pw_mul_order B k
  rw [show A + 8191 * l = B + 8191 * k by omega] at e1
  rw [← e1, e2]
theorem arN_neg {n : Int} (h : n < 0) : ∃ M : Nat, M < 8191 ∧ n.tmod 8191 = -(M : Int) ∧ (arN n = 8191 - M ∨ (M = 0 ∧ arN n = 0)) := by
  have hl := arN_lt n
  rcases tmod_neg h with h1 | ⟨h1, h2⟩
  · rcases Nat.eq_zero_or_pos (arN n) with h0 | h0
    · exfalso
      have := Int.tmod_eq_emod (a := n) (b := 8191)
      rw [h1, h0] at this
      have h3 : n % 8191 = 0 := by unfold arN at h0; omega
      rw [h3] at this
      have hd : (8191 : Int) ∣ n := Int.dvd_of_emod_eq_zero h3
      simp [hd] at this
    · exact ⟨8191 - arN n, by omega, by omega, .inl (by omega)⟩
  · exact ⟨0, by omega, by omega, .inr ⟨rfl, h2⟩⟩
/-- A power of a negative number is the inverse's. -/
theorem powN_neg {a : Nat} {n : Int} {M : Nat} (h0 : 0 < a) (ha : a < 8192) (hn : n < 0) (hM : M < 8191) (hr : arN n = 8191 - M ∨ (M = 0 ∧ arN n = 0)) : powN a n = Gf.pow (invN a) M := by
  have hl := Gf.log_lt a
  rw [powN_some (by omega) h0, Gf.pw_mod, ← inv_eq h0 ha, Gf.pow_pw]
  generalize Gf.log a = i at *
  generalize arN n = r at *
  rcases hr with rfl | ⟨rfl, rfl⟩
  · refine pw_of_sum (C := i * M) (k := i) (l := M) ?_ ?_
    · rw [← Nat.mul_add, Nat.sub_add_cancel (by omega), Nat.mul_comm]
    · rw [← Nat.add_mul, Nat.sub_add_cancel (by omega)]
  · rfl

def wantN (a : Nat) (n : Int) : Nat := if n = 0 then 1 else if 0 < n then Gf.pow a n.toNat else if a = 0 then 0 else Gf.pow (invN a) (n.tmod 8191).natAbs
theorem wantN_eq {a : Nat} (ha : a < 8192) (n : Int) : wantN a n = powN a n := by
  unfold wantN
  by_cases h0 : n = 0
  · subst h0; rw [if_pos rfl, powN_zero]
  · rw [if_neg h0]
    by_cases h1 : 0 < n
    · rw [if_pos h1]
      have := powN_nat ha n.toNat
      rw [Int.toNat_of_nonneg (by omega)] at this
      exact this.symm
    · rw [if_neg h1]
      by_cases h2 : a = 0
      · rw [if_pos h2, h2, powN_none h0]
      · rw [if_neg h2]
        obtain ⟨M, hM, ht, hr⟩ := arN_neg (show n < 0 by omega)
        rw [ht, Int.natAbs_neg, Int.natAbs_natCast]
        exact (powN_neg (by omega) ha (by omega) hM hr).symm

set_option maxRecDepth 100000 in
set_option maxHeartbeats 3200000 in
theorem gfPowers_walk (a n : Int) (w : World) (_h1 : (Lit.int .i64 a).wf = true) (h2 : (Lit.int .i64 n).wf = true) :
    Calls Try.prog 7 #[.int .i64 a, .int .i64 n] w fun e w' => e = .returned (.bool true) ∧ Below w.heap.size w w' := by
  have ha := lowN_lt a
  have hwant := wantN_eq ha n
  have hn1 : -9223372036854775808 ≤ n ∧ n ≤ 9223372036854775807 := by
    have := h2
    simp [Lit.wf] at this
    exact this
  obtain ⟨hn1, hn2⟩ := hn1
  have HW := Aside.mk hwant
  clear hwant
  go_enter Try.func7, Try.ntmps7
  go_upto_block 0 with (go_at_call 10; refine (gf_speaks _).mono ?_; rintro e w1 ⟨rfl, hb1⟩)
  have HT := Aside.mk (St.new hb1)
  clear hb1
  generalize w1.alloc (.cells #[.int .u32 0, .int .i32 0, .int .u32 0, .slice none 0 0, .slice none 0 0, .int .i64 0] 40) = W at *
  generalize w1.heap.size = f at *
  go_cut [6] (fun s6 wx => s6 = .int .i64 (powN (lowN a) n : Nat) ∧ W = wx)
  case first =>
    have hw := HW.out
    clear HW HT
    unfold wantN at hw
    by_cases h0 : n = 0
    · subst h0
      rw [if_pos rfl] at hw
      have HH := Aside.mk hw
      clear hw
      go_wp2
      go_meet
      exact ⟨by rw [← HH.out]; rfl, rfl⟩
    · by_cases h1 : 0 < n
      · rw [if_neg h0, if_pos h1] at hw
        obtain ⟨m, rfl⟩ := Int.eq_ofNat_of_zero_le (show 0 ≤ n by omega)
        rw [Int.toNat_natCast] at hw
        have HH := Aside.mk hw
        clear hw h0
        go_wp2_with (go_at_call 21; refine (ref_pow a m _ (by omega)).mono ?_; rintro e w2 ⟨rfl, rfl⟩)
        go_meet
        exact ⟨by rw [← HH.out], rfl⟩
      · rw [if_neg h0, if_neg h1] at hw
        obtain ⟨M, hM, ht, hr⟩ := arN_neg (show n < 0 by omega)
        rw [ht, Int.natAbs_neg, Int.natAbs_natCast] at hw
        have hneg : IntKind.i64.wrap (- -(M : Int)) = (M : Int) := by rw [IntKind.wrap_i64]; omega
        have hneg2 : IntKind.i64.wrap (M : Int) = (M : Int) := by rw [IntKind.wrap_i64]; omega
        have hil := invN_lt ha
        have HI := Aside.mk (fun W => ref_inv a W)
        have HL := Aside.mk (fun W => ref_low a W)
        have HP : Aside (∀ W, Calls Try.prog 21 #[.int .i64 (invN (lowN a) : Nat), .int .i64 (M : Int)] W fun e w' => e = .returned (.int .i64 (Gf.pow (invN (lowN a)) M : Nat)) ∧ W = w') := ⟨fun W => by
          have := ref_pow ((invN (lowN a) : Nat) : Int) M W (by omega)
          rwa [lowN_of_lt hil] at this⟩
        have hn3 : n < 0 := by omega
        clear h0 h1
        by_cases h3 : lowN a = 0
        · rw [if_pos h3] at hw
          rw [h3] at HL
          have HH := Aside.mk hw
          clear hw h3
          go_wp2_with (first | (go_at_call 14; refine (HI.out _).mono ?_; rintro e w2 ⟨rfl, rfl⟩) | (go_at_call 21; refine (HP.out _).mono ?_; rintro e w2 ⟨rfl, rfl⟩) | (go_at_call 15; refine (HL.out _).mono ?_; rintro e w2 ⟨rfl, rfl⟩))
          go_meet
          exact ⟨by rw [← HH.out]; rfl, rfl⟩
        · rw [if_neg h3] at hw
          have h4 : ((lowN a : Int) == 0) = false := by simp; omega
          have HH := Aside.mk hw
          clear hw h3
          go_wp2_with (first | (go_at_call 14; refine (HI.out _).mono ?_; rintro e w2 ⟨rfl, rfl⟩) | (go_at_call 21; refine (HP.out _).mono ?_; rintro e w2 ⟨rfl, rfl⟩) | (go_at_call 15; refine (HL.out _).mono ?_; rintro e w2 ⟨rfl, rfl⟩))
          go_meet
          exact ⟨by rw [← HH.out], rfl⟩
  case rest =>
    obtain ⟨rfl, rfl⟩ := hcut
    go_wp2_with (first | (go_at_call 22; refine (HT.out.pow _ _ (by omega) (by omega)).mono ?_; rintro e w2 ⟨rfl, h⟩; clear HT; have HT := Aside.mk h; clear h) | (go_at_call 20; refine (HT.out.exp _ (by omega) (by omega)).mono ?_; rintro e w2 ⟨rfl, h⟩; clear HT; have HT := Aside.mk h; clear h) | (go_at_call 23; refine (ref_exp n _ (by omega) (by omega)).mono ?_; rintro e w2 ⟨rfl, rfl⟩) | (go_at_call 16; refine (HT.out.products).mono ?_; rintro e w2 ⟨rfl, rfl⟩))
    go_ret
    exact ⟨rfl, HT.out.bel⟩
end Go.Proofs.Ytciacjegndjdmaa
