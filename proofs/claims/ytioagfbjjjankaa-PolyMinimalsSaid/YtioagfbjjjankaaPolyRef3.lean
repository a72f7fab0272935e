/-
  What the document's remainder of polynomials answers.
-/
import Derived.Test.YtioagfbjjjankaaPolyRef2
namespace Go.Proofs.Ytioagfbjjjankaa
open Go.RowKit

theorem modD_yes {Y n k x : Nat} (h : x.testBit (n + k) = true) : Poly.modD Y n (k + 1) x = Poly.modD Y n k (x ^^^ Y * 2 ^ k) := by
  show Poly.modD Y n k (if x.testBit (n + k) = true then _ else _) = _
  rw [if_pos h]
theorem modD_no {Y n k x : Nat} (h : x.testBit (n + k) = false) : Poly.modD Y n (k + 1) x = Poly.modD Y n k x := by
  show Poly.modD Y n k (if x.testBit (n + k) = true then _ else _) = _
  rw [h]; rfl
theorem top_off {x m : Nat} (hx : x < 2 ^ (m + 1)) (h : x.testBit m = false) : x < 2 ^ m := by
  apply Poly.lt_of_tb
  intro i hi
  by_cases e : i = m
  · rw [e]; exact h
  · exact Poly.tb_lt hx (by omega)

set_option maxRecDepth 100000 in
set_option maxHeartbeats 6400000 in
theorem ref_modP (XA XB : Option Addr) (n c m d : Nat) (l k : List Int) (w : World) (hl : n = l.length) (hn : n ≤ 9223372036854775807) (hR : Rd w XA n (fun i => .int .i64 (l.getD i 0)))
    (hk : m = k.length) (hm : m ≤ 9223372036854775807) (hS : Rd w XB m (fun i => .int .i64 (k.getD i 0))) :
    Calls Try.prog 20 #[.slice XA n c, .slice XB m d] w (PairOf w (modR (Poly.bitsOf l) (Poly.bitsOf k))) := by
  have hP := Poly.bitsOf_lt l
  have hQ := Poly.bitsOf_lt k
  have H1 := Aside.mk (ref_bits XA n c l w hl hn hR)
  have H3 : Aside (∀ W, Below w.heap.size w W → Calls Try.prog 18 #[.slice XB m d] W (BitsOf W (Poly.bitsOf k))) := ⟨fun W hW => ref_bits XB m d k W hk hm (hS.below (Nat.le_refl _) hW)⟩
  have HL := Aside.mk (And.intro hP hQ)
  clear hP hQ hl hR hk hS
  generalize Poly.bitsOf l = P at *
  generalize Poly.bitsOf k = Q at *
  obtain ⟨R, hRr⟩ : ∃ R, R = modR P Q := ⟨_, rfl⟩
  rw [← hRr]
  have HR := Aside.mk hRr
  have hlq := listP_le Q
  clear hRr
  go_enter Try.func20, Try.ntmps20
  go_upto_region 2 with (first | (obtain ⟨HI⟩ := H1; go_at_call 18; refine (HI).mono ?_; clear HI; rintro e w1 ⟨g, hg, rfl, hr, hb⟩; have H4 := Aside.mk (H3.out _ hb)) | (obtain ⟨HI⟩ := H4; go_at_call 18; refine (HI).mono ?_; clear HI; rintro e w4 ⟨g4, hg4, rfl, hr4, hb4⟩; have L2 := Aside.mk (ref_list_lim _ g4 Q _ hr4); clear hr4) | (obtain ⟨HI⟩ := L2; go_at_call 17; refine (HI).mono ?_; clear HI; rintro e w5 ⟨v5, rfl, hr5, hb5⟩; obtain ⟨A5, c5, rfl, hc5⟩ := hr5.slice))
  have hb6 := hb.trans (hb4.mono hb.size)
  have hb7 := hb6.trans (hb5.mono hb6.size)
  have hr6 := Row.below (Row.below hr hb4) hb5
  have hlt6 : g < w1.heap.size := (Row.blk hr g rfl).2.1
  have hsz6 : w1.heap.size ≤ w4.heap.size := hb4.size
  have H6 := Aside.mk (And.intro hr6 (And.intro hr5 hb7))
  clear hb hb4 hb5 hb6 hb7 hr hr5 hr6 H3
  by_cases hQ0 : Q = 0
  · have hl0 : (listP Q).length = 0 := (listP_len HL.out.2).2 hQ0
    have hres : R = none := by rw [HR.out]; unfold modR; rw [if_pos hQ0]
    have HE := Aside.mk hres
    generalize (listP Q).length = q at *
    subst hl0
    clear hQ0 hres HR
    go_wp2
    go_ret2
    exact ⟨_, by rw [HE.out]; rfl, by rw [HE.out]; exact Row.nil _ _ _ _, H6.out.2.2⟩
  · obtain ⟨hql, hqh⟩ := listP_head hQ0 HL.out.2
    have hql3 : (((listP Q).length : Int) == 0) = false := beq_eq_false_iff_ne.2 (by omega)
    have hql4 : (0 : Int) < ((listP Q).length : Int) := by omega
    have hN5 := Row.nrd H6.out.2.1
    have hlq2 := log2_lim hQ0 HL.out.2
    have hres : R = some (Poly.modP P Q) := by rw [HR.out]; unfold modR; rw [if_neg hQ0]
    obtain ⟨b5, o5, rfl, hb5, hb5l, y5⟩ := hN5 0 hql
    have hPl : P < 2 ^ (Q.log2 + (16385 - Q.log2)) := by
      have h1 := HL.out.1
      have h2 := Poly.lim_eq
      rw [show Q.log2 + (16385 - Q.log2) = Poly.lim by omega]
      exact h1
    have hM := Poly.modD_eq hPl hQ0
    have HE := Aside.mk (And.intro hres (And.intro hQ0 (And.intro hN5 (And.intro hqh (And.intro hPl hM)))))
    clear hres hQ0 hN5 hqh hPl hM HR y5
    obtain ⟨q, hq⟩ : ∃ q, q = Q.log2 := ⟨_, rfl⟩
    rw [← hq] at hlq2
    have HQ := Aside.mk hq
    clear hq
    go_wp2
    go_loopw [8] (fun s8 wr => ∃ j X : Nat, j ≤ 16385 - q ∧ s8 = .int .i64 (((q + j : Nat) : Int) - 1) ∧ RowB wr w.heap.size (.slice (some ⟨g, 0, none⟩) 16385 16385) 16385 X ∧ w5.grownBy wr (some g) ∧ Aside (X < 2 ^ (q + j) ∧ Poly.modD Q q j X = Poly.modP P Q)) (fun s8 _ => ((intOf s8) + 1).toNat)
    case atStart => exact ⟨16385 - q, P, by omega, by rw [show q + (16385 - q) = 16385 by omega]; rfl, H6.out.1, World.grownBy.refl _ _, ⟨by rw [HQ.out]; exact HE.out.2.2.2.2.1, by rw [HQ.out]; exact HE.out.2.2.2.2.2⟩⟩
    case round =>
      obtain ⟨j, X, hj, rfl, hr, hg9, HX⟩ := hrel
      have H9 := Aside.mk (And.intro hr hg9)
      obtain ⟨b, off, e2, _, hbl0, y0⟩ := HE.out.2.2.1.far hg9 (fun b off h => by injection h with h; injection h with h; omega) 0 hql
      injection e2 with e2
      injection e2 with e2 e2'
      subst e2; subst e2'
      rw [HE.out.2.2.2.1, ← HQ.out, Nat.add_zero] at y0
      clear hr hg9
      by_cases h0 : j = 0
      · subst h0
        have hmod : Poly.modP P Q = X := HX.out.2.symm
        have hb9 : Below w.heap.size w wr := H6.out.2.2.grown H9.out.2 H6.out.2.2.size (fun j hj => by injection hj with hj; omega)
        have H10 := Aside.mk (And.intro hmod hb9)
        have hlt : ¬ (q : Int) ≤ ((q + 0 : Nat) : Int) - 1 := by omega
        rw [Nat.add_zero]
        clear hmod hb9
        go_wp2_with (go_at_call 17; refine (ref_list_lim _ g _ _ H9.out.1).mono ?_; rintro e w7 ⟨v7, rfl, hr7, hb7⟩)
        go_ret2
        exact ⟨_, by rw [HE.out.1]; rfl, by rw [HE.out.1, H10.out.1]; exact hr7.mono H10.out.2.size, H10.out.2.trans (hb7.mono H10.out.2.size)⟩
      · obtain ⟨i, rfl⟩ : ∃ i, j = i + 1 := ⟨j - 1, by omega⟩
        obtain ⟨D, hD⟩ : ∃ D, D = q + i := ⟨_, rfl⟩
        have e1 : ((q + (i + 1) : Nat) : Int) - 1 = (D : Int) := by omega
        have e3 : IntKind.i64.wrap ((D : Int) - 1) = (D : Int) - 1 := by rw [IntKind.wrap_i64]; omega
        have e4 : ((q + i : Nat) : Int) - 1 = (D : Int) - 1 := by omega
        have hD1 : D < 16385 := by omega
        have hD2 : (0 : Int) ≤ (D : Int) := by omega
        have hD3 : (D : Int) < 16385 := by omega
        have hD4 : (q : Int) ≤ (D : Int) := by omega
        have hDi : IntKind.i64.wrap ((D : Int) - (q : Int)) = (i : Int) := by rw [IntKind.wrap_i64]; omega
        have cX := (RowB.cell0 H9.out.1 hD1).1
        rw [e1]
        have HE4 := Aside.mk e4
        clear e1 e4
        cases hx : X.testBit D
        · rw [hx] at cX
          have hlow : X < 2 ^ (q + i) ∧ Poly.modD Q q i X = Poly.modP P Q := by
            rw [hD] at hx
            exact ⟨top_off HX.out.1 hx, by rw [← modD_no hx]; exact HX.out.2⟩
          have HLo := Aside.mk hlow
          clear hx hlow hD
          go_wp2
          go_roundw
          case rel => exact ⟨i, X, by omega, by rw [HE4.out], H9.out.1, H9.out.2, HLo⟩
          case measure => simp only [intOf]; omega
        · rw [hx] at cX
          have hlow : X ^^^ Q * 2 ^ i < 2 ^ (q + i) ∧ Poly.modD Q q i (X ^^^ Q * 2 ^ i) = Poly.modP P Q := by
            rw [hD] at hx
            have hr := Poly.red_lt (x := X) (k := i) HE.out.2.1 (by rw [← HQ.out]; exact HX.out.1) (by rw [← HQ.out]; exact hx)
            rw [← HQ.out] at hr
            exact ⟨hr, by rw [← modD_yes hx]; exact HX.out.2⟩
          have HLo := Aside.mk hlow
          clear hx hlow hD
          go_wp2
          clear cX
          go_loopw [9] (fun s9 wq => ∃ j : Nat, j ≤ (listP Q).length ∧ s9 = .int .i64 (j : Int) ∧ RowB wq w.heap.size (.slice (some ⟨g, 0, none⟩) 16385 16385) 16385 (X ^^^ sumL ((listP Q).take j) * 2 ^ i) ∧ wr.grownBy wq (some g)) (fun s9 _ => (listP Q).length - (intOf s9).toNat)
          case atStart => exact ⟨0, by omega, rfl, by rw [List.take_zero, sumL_nil, Nat.zero_mul, Nat.xor_zero]; exact H9.out.1, World.grownBy.refl _ _⟩
          case round =>
            clear y0
            obtain ⟨j, hj, rfl, hqr, hgq⟩ := hrel
            have hj2 : IntKind.i64.wrap ((j : Int) + 1) = (j : Int) + 1 := by rw [IntKind.wrap_i64]; omega
            by_cases hjt : j < (listP Q).length
            · have hj3 : (0 : Int) ≤ (j : Int) := by omega
              have hj4 : (j : Int) < ((listP Q).length : Int) := by omega
              have hNA := HE.out.2.2.1.far (World.grownBy.trans H9.out.2 hgq) (fun b off h => by injection h with h; injection h with h; omega)
              obtain ⟨b, off, e2, _, _, y0⟩ := hNA 0 hql
              injection e2 with e2
              injection e2 with e2 e2'
              subst e2; subst e2'
              rw [HE.out.2.2.2.1, ← HQ.out, Nat.add_zero] at y0
              obtain ⟨b, off, e2, _, _, x2⟩ := hNA j hjt
              injection e2 with e2
              injection e2 with e2 e2'
              subst e2; subst e2'
              have hm2 := (listP_mem (getD_memN hjt)).2
              rw [← HQ.out] at hm2
              have hst := laid_step (R := X) (x := i) hjt rfl
              generalize (listP Q).getD j 0 = y at *
              obtain ⟨e, he⟩ : ∃ e, e = i + y := ⟨_, rfl⟩
              rw [← he] at hst
              have he2 : e < 16385 := by omega
              have hwr : IntKind.i64.wrap ((i : Int) + (y : Int)) = (e : Int) := by rw [IntKind.wrap_i64]; omega
              have he3 : (0 : Int) ≤ (e : Int) := by omega
              have he4 : (e : Int) < 16385 := by omega
              obtain ⟨c1, z1⟩ := RowB.cell0 hqr he2
              have hf := RowB.flip hqr he2
              have HF := Aside.mk (And.intro hst (And.intro hf hgq))
              generalize (X ^^^ sumL ((listP Q).take j) * 2 ^ i).testBit e = tv at *
              clear hst hf hgq hqr hm2 hNA he
              go_upto_region 11 with fail
              go_region
              all_goals
                go_wp2
                go_roundw
                case rel => exact ⟨j + 1, by omega, by go_num, by rw [HF.out.1]; exact HF.out.2.1.1.drew, World.grownBy.trans HF.out.2.2 (grownBy_drewP HF.out.2.1.2)⟩
                case measure => simp [intOf]; omega
            · obtain rfl : j = (listP Q).length := by omega
              have hts : X ^^^ sumL ((listP Q).take (listP Q).length) * 2 ^ i = X ^^^ Q * 2 ^ i := by
                rw [List.take_length, sumL_all HL.out.2]
              rw [hts] at hqr
              have HF := Aside.mk (And.intro hqr (World.grownBy.trans H9.out.2 hgq))
              clear hts hqr hgq
              go_wp2
              go_roundw
              case rel => exact ⟨i, X ^^^ Q * 2 ^ i, by omega, by rw [HE4.out], HF.out.1, HF.out.2, HLo⟩
              case measure => simp only [intOf]; omega
end Go.Proofs.Ytioagfbjjjankaa
