/-
  The statements of the polynomials: a product and a remainder more leave the remainder; squares.
-/
import Derived.Test.YtioagfbjjjankaaPolyLaws2
import Derived.Test.YtioagfbjjjankaaPolySq
namespace Go.Proofs.Ytioagfbjjjankaa
open Go.RowKit

theorem bits_listP {P : Nat} (h : P < 2 ^ Poly.lim) : Poly.bitsOf (Poly.ints (listP P)) = P := by
  have := Poly.bitsOf_fall (P := P) (n := Poly.lim) (Nat.le_refl _)
  rw [show Poly.ints (listP P) = Poly.ints (Poly.fall Poly.lim P) from rfl, this]
  exact Nat.mod_eq_of_lt h
theorem clmul_lim {A B : Nat} (hA : A < 2 ^ Poly.lim) (h : A.log2 + B.log2 ≤ 16384) : Poly.clmul A B < 2 ^ Poly.lim := by
  rw [← Poly.clmul_fall hA]
  exact Poly.mulL_lt _ (fun e he => room_of h (listP_mem he).2)
theorem log2_lt_lim {R Y : Nat} (hY : Y ≠ 0) (h : Y < 2 ^ Poly.lim) (hR : R < 2 ^ Y.log2) : R < 2 ^ Poly.lim :=
  Nat.lt_trans (Nat.lt_of_lt_of_le hR (Nat.log2_self_le hY)) h
/-- A list of natural numbers that is read, its slice written out. -/
theorem LRd.nat {W : World} {v : Value} {L : List Nat} (h : LRd W v (Poly.ints L)) : ∃ A c, v = .slice A L.length c ∧ (∀ i, i < L.length → ∃ b off, A = some ⟨b, off, none⟩ ∧ W.cell? ⟨b, off + i, none⟩ = some (.int .i64 ((L.getD i 0 : Nat) : Int))) := by
  obtain ⟨A, n, c, rfl, hn, _, hR⟩ := h
  rw [ints_length] at hn
  subst hn
  refine ⟨A, c, rfl, fun i hi => ?_⟩
  obtain ⟨b, off, h1, _, h3⟩ := hR i hi
  refine ⟨b, off, h1, ?_⟩
  rw [h3]
  show some (Value.int .i64 ((Poly.ints L).getD i 0)) = _
  rw [ints_getD hi]

set_option maxRecDepth 100000 in
set_option maxHeartbeats 3200000 in
theorem polyDivides_walk (XA : Option Addr) (n c : Nat) (l : List Int) (XB : Option Addr) (m d : Nat) (k : List Int) (XC : Option Addr) (n3 c3 : Nat) (j : List Int) (w : World)
    (hx : l.length = n ∧ n ≤ c ∧ c ≤ maxLen ∧ n * 8 ≤ 140737488351232 ∧ (∀ x ∈ l, (Lit.int .i64 x).wf = true) ∧ Rd w XA n (fun i => .int .i64 (l.getD i 0)))
    (hy : k.length = m ∧ m ≤ d ∧ d ≤ maxLen ∧ m * 8 ≤ 140737488351232 ∧ (∀ x ∈ k, (Lit.int .i64 x).wf = true) ∧ Rd w XB m (fun i => .int .i64 (k.getD i 0)))
    (hz : j.length = n3 ∧ n3 ≤ c3 ∧ c3 ≤ maxLen ∧ n3 * 8 ≤ 140737488351232 ∧ (∀ x ∈ j, (Lit.int .i64 x).wf = true) ∧ Rd w XC n3 (fun i => .int .i64 (j.getD i 0))) :
    Calls Try.prog 7 #[.slice XA n c, .slice XB m d, .slice XC n3 c3] w fun e w' => e = .returned (.bool true) ∧ Below w.heap.size w w' := by
  have S0 : Sx w [(.slice XA n c, l), (.slice XB m d, k), (.slice XC n3 c3, j)] w := ⟨Below.refl _ _, fun x hxx => by
    rcases List.mem_cons.1 hxx with rfl | hxx
    · exact ⟨XA, n, c, rfl, hx.1.symm, by omega, hx.2.2.2.2.2⟩
    · rcases List.mem_cons.1 hxx with rfl | hxx
      · exact ⟨XB, m, d, rfl, hy.1.symm, by omega, hy.2.2.2.2.2⟩
      · rw [List.mem_singleton] at hxx
        subst hxx
        exact ⟨XC, n3, c3, rfl, hz.1.symm, by omega, hz.2.2.2.2.2⟩⟩
  have S := Aside.mk S0
  have hA := Poly.bitsOf_lt l
  have hB := Poly.bitsOf_lt k
  have hC := Poly.bitsOf_lt j
  have HL := Aside.mk (And.intro hA (And.intro hB hC))
  have hyl := bits_listP hB
  have HY := Aside.mk hyl
  clear S0 hx hy hz hA hB hC hyl
  obtain ⟨r1, hr1⟩ : ∃ r, r = modR (Poly.bitsOf j) (Poly.bitsOf k) := ⟨_, rfl⟩
  obtain ⟨r2, hr2⟩ : ∃ r, r = mulR (Poly.bitsOf l) (Poly.bitsOf k) := ⟨_, rfl⟩
  have HR := Aside.mk (And.intro hr1 hr2)
  clear hr1 hr2
  go_enter Try.func7, Try.ntmps7
  go_upto_region 3 with (go_at_call 10; refine (S.out.speaks).mono ?_; rintro e w1 ⟨rfl, h⟩; clear S; have S := Aside.mk h; clear h)
  have C1 := Aside.mk (S.out.copied (v := .slice XB m d) (l := k) (by simp))
  go_upto_region 6 with (first | (obtain ⟨HI⟩ := C1; go_at_call 11; refine HI.mono ?_; clear HI; rintro e w2 ⟨v2, rfl, h⟩; clear S; have S := Aside.mk h; clear h) | (go_at_call 15; refine (S.out.of (l := k) (by simp)).mono ?_; rintro e w3 ⟨vy, rfl, h⟩; clear S; have S := Aside.mk h; clear h; have C2 := Aside.mk (S.out.copied (v := .slice XC n3 c3) (l := j) (by simp))) | (obtain ⟨HI⟩ := C2; go_at_call 11; refine HI.mono ?_; clear HI; rintro e w4 ⟨v4, rfl, h⟩; clear S; have S := Aside.mk h; clear h) | (go_at_call 19; refine (S.out.mod (l := j) (k := Poly.ints (listP (Poly.bitsOf k))) (by simp) (by simp)).mono ?_; rw [HY.out, ← HR.out.1]; rintro e w5 ⟨vr, rfl, h⟩; clear S; have S := Aside.mk h; clear h; have C3 := Aside.mk (S.out.copied (v := .slice XA n c) (l := l) (by simp))) | (obtain ⟨HI⟩ := C3; go_at_call 11; refine HI.mono ?_; clear HI; rintro e w6 ⟨v6, rfl, h⟩; clear S; have S := Aside.mk h; clear h) | (go_at_call 12; refine (S.out.mul (l := l) (k := Poly.ints (listP (Poly.bitsOf k))) (by simp) (by simp)).mono ?_; rw [HY.out, ← HR.out.2]; rintro e w7 ⟨vp, rfl, h⟩; clear S; have S := Aside.mk h; clear h))
  by_cases hB0 : Poly.bitsOf k = 0
  · have h1 : r1 = none := by rw [HR.out.1]; unfold modR; rw [if_pos hB0]
    have h2 : r2 = some 0 := by rw [HR.out.2]; unfold mulR; rw [if_neg (by simp [hB0]), hB0, Poly.clmul_zero]
    subst h1; subst h2
    have sy := S.out.has (vy, Poly.ints (listP (Poly.bitsOf k))) (by simp)
    have sr := S.out.has (vr, Poly.ints (optL none)) (by simp)
    rw [hB0, listP_zero] at sy
    obtain ⟨Ay, cy, rfl, _⟩ := sy.nat
    obtain ⟨Ar, cr, hvr, _⟩ := sr.nat
    dsimp only at hvr
    subst hvr
    clear sy sr hB0 HY HR
    go_wp2
    go_ret
    exact ⟨rfl, S.out.bel⟩
  · have h1 : r1 = some (Poly.modP (Poly.bitsOf j) (Poly.bitsOf k)) := by rw [HR.out.1]; unfold modR; rw [if_neg hB0]
    by_cases hbig : Poly.bitsOf l ≠ 0 ∧ Poly.bitsOf k ≠ 0 ∧ 16384 < (Poly.bitsOf l).log2 + (Poly.bitsOf k).log2
    · have h2 : r2 = none := by rw [HR.out.2]; unfold mulR; rw [if_pos hbig]
      subst h1; subst h2
      have sp := S.out.has (vp, Poly.ints (optL none)) (by simp)
      obtain ⟨Ap, cp, hvp, _⟩ := sp.nat
      dsimp only at hvp
      subst hvp
      clear sp hB0 hbig HY HR
      go_wp2
      go_ret
      exact ⟨rfl, S.out.bel⟩
    · have h2 : r2 = some (Poly.clmul (Poly.bitsOf l) (Poly.bitsOf k)) := by rw [HR.out.2]; unfold mulR; rw [if_neg hbig]
      subst h1; subst h2
      have S' := S.out
      simp only [optL] at S'
      clear S
      have S := Aside.mk S'
      clear S'
      have hPl : Poly.clmul (Poly.bitsOf l) (Poly.bitsOf k) < 2 ^ Poly.lim := by
        by_cases hA0 : Poly.bitsOf l = 0
        · rw [hA0, Poly.zero_clmul]; exact Nat.pow_pos (by omega)
        · exact clmul_lim HL.out.1 (by omega)
      have hRl := Poly.modP_lt (X := Poly.bitsOf j) hB0
      have hRl2 := log2_lt_lim hB0 HL.out.2.1 hRl
      have hun := Poly.modP_unique (X := Poly.clmul (Poly.bitsOf l) (Poly.bitsOf k) ^^^ Poly.modP (Poly.bitsOf j) (Poly.bitsOf k)) (q := Poly.bitsOf l) hB0 hRl (Nat.xor_comm _ _)
      have hyh := listP_head hB0 HL.out.2.1
      have sy := S.out.has (vy, Poly.ints (listP (Poly.bitsOf k))) (by simp)
      have sr := S.out.has (vr, Poly.ints (listP (Poly.modP (Poly.bitsOf j) (Poly.bitsOf k)))) (by simp)
      obtain ⟨Ay, cy, hvy, hry⟩ := sy.nat
      obtain ⟨Ar, cr, hvr, hrr⟩ := sr.nat
      dsimp only at hvy hvr
      subst hvy; subst hvr
      obtain ⟨by_, oy, hAy, cy0⟩ := hry 0 hyh.1
      subst hAy
      rw [hyh.2, Nat.add_zero] at cy0
      have hadd : Poly.bitsOf (Poly.ints (listP (Poly.clmul (Poly.bitsOf l) (Poly.bitsOf k)))) ^^^ Poly.bitsOf (Poly.ints (listP (Poly.modP (Poly.bitsOf j) (Poly.bitsOf k)))) = Poly.clmul (Poly.bitsOf l) (Poly.bitsOf k) ^^^ Poly.modP (Poly.bitsOf j) (Poly.bitsOf k) := by rw [bits_listP hPl, bits_listP hRl2]
      have hsum := bits_listP (Poly.xor_lt2 hPl hRl2)
      have hmr : modR (Poly.clmul (Poly.bitsOf l) (Poly.bitsOf k) ^^^ Poly.modP (Poly.bitsOf j) (Poly.bitsOf k)) (Poly.bitsOf k) = some (Poly.modP (Poly.bitsOf j) (Poly.bitsOf k)) := by
        unfold modR; rw [if_neg hB0, hun]
      have HM := Aside.mk (And.intro hadd (And.intro hsum hmr))
      have hylen := hyh.1
      have hlt3 : ∀ h : 0 < (listP (Poly.modP (Poly.bitsOf j) (Poly.bitsOf k))).length, ∃ b o, Ar = some ⟨b, o, none⟩ ∧ ∃ x : Nat, w7.cell? ⟨b, o, none⟩ = some (.int .i64 (x : Int)) ∧ x < (Poly.bitsOf k).log2 := fun h => by
        obtain ⟨b, o, e1, e2⟩ := hrr 0 h
        have hR0 : Poly.modP (Poly.bitsOf j) (Poly.bitsOf k) ≠ 0 := fun h0 => by rw [h0, listP_zero] at h; simp at h
        have hh := (listP_head hR0 hRl2).2
        rw [hh, Nat.add_zero] at e2
        exact ⟨b, o, e1, _, e2, (Nat.log2_lt hR0).2 hRl⟩
      have H3 := Aside.mk hlt3
      clear hPl hRl hRl2 hun hyh sy sr hry hrr hadd hsum hmr hlt3 hbig hB0
      have E1 := Aside.mk S.out
      go_upto_region 8 with fail
      generalize hq : (Poly.bitsOf k).log2 = q at *
      generalize hrn : (listP (Poly.modP (Poly.bitsOf j) (Poly.bitsOf k))).length = rn at *
      generalize hyn : (listP (Poly.bitsOf k)).length = yn at *
      have hyn2 : (0 : Int) < (yn : Int) := by omega
      have HN := Aside.mk (And.intro hq (And.intro hrn hyn))
      clear hq hrn hyn
      go_cut [67] (fun s67 wx => s67 = .bool false ∧ DrewOf w7 wx)
      case first =>
        by_cases h0 : rn = 0
        · subst h0
          go_quiet (fail)
          go_wp2
          go_meet
          exact ⟨rfl, (DrewOf.refl _).more _⟩
        · obtain ⟨b, o, rfl, x, cx, hxq⟩ := H3.out (by omega)
          have hr0 : (0 : Int) < (rn : Int) := by omega
          have hr1 : 0 < rn := by omega
          have hxq2 : ¬ (q : Int) ≤ (x : Int) := by omega
          have hxq3 : (x : Int) < (q : Int) := by omega
          clear h0
          go_quiet (fail)
          go_wp2
          go_meet
          exact ⟨by first | rfl | rw [decide_eq_false hxq2], (DrewOf.refl _).more _⟩
      case rest =>
        obtain ⟨rfl, hD⟩ := hcut
        have hS := S.out.step hD.same
        have S2 := Aside.mk hS
        clear hS hD S cy0 H3
        go_wp2_with (first | (go_at_call 16; refine (S2.out.plus (l := Poly.ints (listP (Poly.clmul (Poly.bitsOf l) (Poly.bitsOf k)))) (k := Poly.ints (listP (Poly.modP (Poly.bitsOf j) (Poly.bitsOf k)))) (by simp) (by simp)).mono ?_; rw [HM.out.1]; rintro e w8 ⟨vs, rfl, h⟩; clear S2; have S3 := Aside.mk h; clear h) | (go_at_call 19; refine (S3.out.mod (l := Poly.ints (listP (Poly.clmul (Poly.bitsOf l) (Poly.bitsOf k) ^^^ Poly.modP (Poly.bitsOf j) (Poly.bitsOf k)))) (k := Poly.ints (listP (Poly.bitsOf k))) (by simp) (by simp)).mono ?_; rw [HM.out.2.1, HY.out, HM.out.2.2]; rintro e w9 ⟨vm, rfl, h⟩; clear S3; have S4 := Aside.mk h; clear h) | (go_at_call 14; refine (S4.out.same (l := Poly.ints (listP (Poly.modP (Poly.bitsOf j) (Poly.bitsOf k)))) (by simp [optL]) (by simp)).mono ?_; rintro e w10 ⟨rfl, h⟩; have S5 := Aside.mk h.bel; clear h))
        go_ret
        exact ⟨rfl, S5.out⟩
end Go.Proofs.Ytioagfbjjjankaa
