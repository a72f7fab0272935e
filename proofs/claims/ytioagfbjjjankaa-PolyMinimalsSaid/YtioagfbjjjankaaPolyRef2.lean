/-
  What the document's product and remainder of polynomials answer.
-/
import Derived.Test.YtioagfbjjjankaaPolyRef
namespace Go.Proofs.Ytioagfbjjjankaa
open Go.RowKit

theorem listP_head {P : Nat} (h0 : P ≠ 0) (h : P < 2 ^ Poly.lim) : 0 < (listP P).length ∧ (listP P).getD 0 0 = P.log2 := by
  unfold listP
  rw [Poly.fall_top h0 h]
  simp
theorem listP_len {P : Nat} (h : P < 2 ^ Poly.lim) : (listP P).length = 0 ↔ P = 0 := by
  rw [List.length_eq_zero_iff]
  exact Poly.fall_nil h
/-- The sum of these powers. -/
def sumL (l : List Nat) : Nat := Poly.mulL l 1
theorem sumL_nil : sumL [] = 0 := rfl
theorem sumL_snoc (l : List Nat) (e : Nat) : sumL (l ++ [e]) = sumL l ^^^ 2 ^ e := by
  unfold sumL
  rw [Poly.mulL_snoc, Nat.one_mul]
theorem sumL_all {P : Nat} (h : P < 2 ^ Poly.lim) : sumL (listP P) = P := by
  unfold sumL listP
  rw [Poly.clmul_fall h]
  have := Poly.clmul_pow P 0
  rwa [Nat.pow_zero, Nat.mul_one] at this
theorem take_snocN {l : List Nat} {k : Nat} (h : k < l.length) : l.take (k + 1) = l.take k ++ [l.getD k 0] := by
  rw [List.take_succ_eq_append_getElem h]
  simp [List.getD_eq_getElem?_getD, List.getElem?_eq_getElem h]
theorem getD_memN {l : List Nat} {k : Nat} (h : k < l.length) : l.getD k 0 ∈ l := by
  rw [List.getD_eq_getElem?_getD, List.getElem?_eq_getElem h]
  exact List.getElem_mem _
theorem ints_getD {l : List Nat} {k : Nat} (h : k < l.length) : (Poly.ints l).getD k 0 = ((l.getD k 0 : Nat) : Int) := by
  simp [Poly.ints, List.getD_eq_getElem?_getD, List.getElem?_eq_getElem h]
theorem listP_le (P : Nat) : (listP P).length ≤ 16385 := by
  have := Poly.fall_len P Poly.lim
  rw [Poly.lim_eq] at this
  exact this
/-- One more. -/
theorem laid_step {R x y : Nat} {l : List Nat} {k : Nat} (h : k < l.length) (hy : l.getD k 0 = y) : R ^^^ sumL (l.take (k + 1)) * 2 ^ x = (R ^^^ sumL (l.take k) * 2 ^ x) ^^^ 2 ^ (x + y) := by
  rw [take_snocN h, sumL_snoc, hy, Poly.mul_xor, ← Nat.pow_add, Nat.add_comm y, Nat.xor_assoc]

/-- A slice of natural numbers that is read. -/
def NRd (w : World) (A : Option Addr) (L : List Nat) (B : Nat) : Prop := ∀ i, i < L.length → ∃ b off, A = some ⟨b, off, none⟩ ∧ B ≤ b ∧ b < w.heap.size ∧ w.cell? ⟨b, off + i, none⟩ = some (.int .i64 ((L.getD i 0 : Nat) : Int))
theorem Row.nrd {w : World} {base : Nat} {A : Option Addr} {n c : Nat} {L : List Nat} (h : Row w base 3 1 (.slice A n c) n (intsV (Poly.ints L))) : NRd w A L base := by
  intro i hi
  obtain ⟨A', c', hv, hn, _, _, hR⟩ := h.readInts
  injection hv with hv _ _
  subst hv
  have hn2 : n = L.length := by rw [hn, ints_length]
  obtain ⟨b, off, hA, hb, hc⟩ := hR i (by omega)
  subst hA
  refine ⟨b, off, rfl, (h.blk b rfl).1, hb, ?_⟩
  rw [hc]
  show some (Value.int .i64 ((Poly.ints L).getD i 0)) = _
  rw [ints_getD hi]
theorem NRd.below {w w' : World} {A : Option Addr} {L : List Nat} {B : Nat} (h : NRd w A L B) (hb : Below w.heap.size w w') : NRd w' A L B := by
  intro i hi
  obtain ⟨b, off, h1, h2, h3, h4⟩ := h i hi
  exact ⟨b, off, h1, h2, Nat.lt_of_lt_of_le h3 hb.size, (hb.cell (p := ⟨b, off + i, none⟩) h3).trans h4⟩
theorem NRd.far {w w' : World} {A : Option Addr} {L : List Nat} {B g : Nat} (h : NRd w A L B) (hg : w.grownBy w' (some g)) (hne : ∀ b off, A = some ⟨b, off, none⟩ → b ≠ g) : NRd w' A L B := by
  intro i hi
  obtain ⟨b, off, h1, h2, h3, h4⟩ := h i hi
  exact ⟨b, off, h1, h2, Nat.lt_of_lt_of_le h3 hg.size, hg.cell h4 (by have := hne b off h1; simpa using this)⟩

set_option maxRecDepth 100000 in
set_option maxHeartbeats 6400000 in
theorem ref_mulP (XA XB : Option Addr) (n c m d : Nat) (l k : List Int) (w : World) (hl : n = l.length) (hn : n ≤ 9223372036854775807) (hR : Rd w XA n (fun i => .int .i64 (l.getD i 0)))
    (hk : m = k.length) (hm : m ≤ 9223372036854775807) (hS : Rd w XB m (fun i => .int .i64 (k.getD i 0))) :
    Calls Try.prog 13 #[.slice XA n c, .slice XB m d] w (PairOf w (mulR (Poly.bitsOf l) (Poly.bitsOf k))) := by
  have hP := Poly.bitsOf_lt l
  have hQ := Poly.bitsOf_lt k
  have H1 := Aside.mk (ref_bits XA n c l w hl hn hR)
  have H3 : Aside (∀ W, Below w.heap.size w W → Calls Try.prog 18 #[.slice XB m d] W (BitsOf W (Poly.bitsOf k))) := ⟨fun W hW => ref_bits XB m d k W hk hm (hS.below (Nat.le_refl _) hW)⟩
  have HL := Aside.mk (And.intro hP hQ)
  clear hP hQ hl hR hk hS
  generalize Poly.bitsOf l = P at *
  generalize Poly.bitsOf k = Q at *
  obtain ⟨R, hRr⟩ : ∃ R, R = mulR P Q := ⟨_, rfl⟩
  rw [← hRr]
  have HR := Aside.mk hRr
  have hlp := listP_le P
  have hlq := listP_le Q
  clear hRr
  go_enter Try.func13, Try.ntmps13
  go_upto_region 2 with (first | (obtain ⟨HI⟩ := H1; go_at_call 18; refine (HI).mono ?_; clear HI; rintro e w1 ⟨g, hg, rfl, hr, hb⟩; have L1 := Aside.mk (ref_list_lim _ g P _ hr); clear hr) | (obtain ⟨HI⟩ := L1; go_at_call 17; refine (HI).mono ?_; clear HI; rintro e w2 ⟨v2, rfl, hr2, hb2⟩; obtain ⟨A2, c2, rfl, hc2⟩ := hr2.slice; have hb3 := hb.trans (hb2.mono hb.size); have H4 := Aside.mk (H3.out _ hb3)) | (obtain ⟨HI⟩ := H4; go_at_call 18; refine (HI).mono ?_; clear HI; rintro e w4 ⟨g4, hg4, rfl, hr4, hb4⟩; have L2 := Aside.mk (ref_list_lim _ g4 Q _ hr4); clear hr4) | (obtain ⟨HI⟩ := L2; go_at_call 17; refine (HI).mono ?_; clear HI; rintro e w5 ⟨v5, rfl, hr5, hb5⟩; obtain ⟨A5, c5, rfl, hc5⟩ := hr5.slice))
  have hb6 := hb3.trans (hb4.mono hb3.size)
  have hb7 := hb6.trans (hb5.mono hb6.size)
  have hr6 := Row.below (Row.below hr2 hb4) hb5
  have H6 := Aside.mk (And.intro hr6 (And.intro hr5 hb7))
  clear hb hb2 hb3 hb4 hb5 hb6 hb7 hr2 hr5 hr6 H3
  by_cases hP0 : P = 0
  · have hl0 : (listP P).length = 0 := (listP_len HL.out.1).2 hP0
    have hres : R = some 0 := by rw [HR.out]; unfold mulR; rw [if_neg (by simp [hP0]), hP0, Poly.zero_clmul]
    have HE := Aside.mk hres
    generalize (listP P).length = p at *
    subst hl0
    clear hP0 hres HR
    go_wp2
    go_ret2
    exact ⟨_, by rw [HE.out]; rfl, by rw [HE.out]; show Row _ _ _ _ _ (listP 0).length (intsV (Poly.ints (listP 0))); rw [listP_zero]; exact Row.nil _ _ _ _, H6.out.2.2⟩
  · by_cases hQ0 : Q = 0
    · have hl0 : (listP Q).length = 0 := (listP_len HL.out.2).2 hQ0
      have hpl := (listP_head hP0 HL.out.1).1
      have hpl2 : ((listP P).length == 0) = false := beq_eq_false_iff_ne.2 (by omega)
      have hpl3 : (((listP P).length : Int) == 0) = false := beq_eq_false_iff_ne.2 (by omega)
      have hres : R = some 0 := by rw [HR.out]; unfold mulR; rw [if_neg (by simp [hQ0]), hQ0, Poly.clmul_zero]
      have HE := Aside.mk hres
      generalize (listP Q).length = q at *
      subst hl0
      clear hP0 hQ0 hres HR
      go_wp2
      go_ret2
      exact ⟨_, by rw [HE.out]; rfl, by rw [HE.out]; show Row _ _ _ _ _ (listP 0).length (intsV (Poly.ints (listP 0))); rw [listP_zero]; exact Row.nil _ _ _ _, H6.out.2.2⟩
    · obtain ⟨hpl, hph⟩ := listP_head hP0 HL.out.1
      obtain ⟨hql, hqh⟩ := listP_head hQ0 HL.out.2
      have hpl3 : (((listP P).length : Int) == 0) = false := beq_eq_false_iff_ne.2 (by omega)
      have hql3 : (((listP Q).length : Int) == 0) = false := beq_eq_false_iff_ne.2 (by omega)
      have hpl4 : (0 : Int) < ((listP P).length : Int) := by omega
      have hql4 : (0 : Int) < ((listP Q).length : Int) := by omega
      have hR2 := Row.nrd H6.out.1
      have hR5 := Row.nrd H6.out.2.1
      obtain ⟨b2, o2, rfl, hb2, hb2l, y2⟩ := hR2 0 hpl
      obtain ⟨b5, o5, rfl, hb5, hb5l, y5⟩ := hR5 0 hql
      rw [hph, Nat.add_zero] at y2
      rw [hqh, Nat.add_zero] at y5
      have hlp2 := log2_lim hP0 HL.out.1
      have hlq2 := log2_lim hQ0 HL.out.2
      have hsum : IntKind.i64.wrap ((P.log2 : Int) + (Q.log2 : Int)) = (P.log2 : Int) + (Q.log2 : Int) := by rw [IntKind.wrap_i64]; omega
      have H7 := Aside.mk (And.intro hR2 (And.intro hR5 (And.intro hP0 hQ0)))
      clear hR2 hR5 hph hqh hP0 hQ0
      go_upto_region 4 with fail
      by_cases hgt : 16384 < P.log2 + Q.log2
      · have hres : R = none := by rw [HR.out]; unfold mulR; rw [if_pos ⟨H7.out.2.2.1, H7.out.2.2.2, hgt⟩]
        have HE := Aside.mk hres
        have hgt2 : (16384 : Int) < (P.log2 : Int) + (Q.log2 : Int) := by omega
        clear hres HR hgt
        go_quiet (fail)
        go_wp2
        go_ret2
        exact ⟨_, by rw [HE.out]; rfl, by rw [HE.out]; exact Row.nil _ _ _ _, (DrewOf.more (DrewOf.refl _) _).below H6.out.2.2⟩
      · have hres : R = some (Poly.clmul P Q) := by rw [HR.out]; unfold mulR; rw [if_neg (by omega)]
        have hgt2 : ¬ (16384 : Int) < (P.log2 : Int) + (Q.log2 : Int) := by omega
        have HE := Aside.mk (And.intro hres (Nat.le_of_not_lt hgt))
        clear hres HR hgt
        go_quiet (fail)
        clear y2 y5 hsum hgt2
        have hmk : ∀ W : World, (Instr.makeSlice 34 (.int .i64 16385) (.int .i64 16385)).run Try.prog W = .ok (.slice (some ⟨W.heap.size, 0, none⟩) 16385 16385) (W.alloc (.cells (madeCells #[.bool false] 16385) 4)) := make_bools 16385 (by omega)
        have hbD := (DrewOf.more (DrewOf.refl w5) nq).below H6.out.2.2
        have hRM : RowB ((w5.drewN nq).alloc (.cells (madeCells #[.bool false] 16385) 4)) w.heap.size (.slice (some ⟨w5.heap.size, 0, none⟩) 16385 16385) 16385 0 := RowB.made (w5.drewN nq) w.heap.size 16385 hbD.size (by omega)
        have hbm := hbD.alloc hbD.size (.cells (madeCells #[.bool false] 16385) 4)
        have hbm2 := ((DrewOf.more (DrewOf.refl w5) nq).same).alloc (Nat.le_refl _) (.cells (madeCells #[.bool false] 16385) 4)
        obtain ⟨cs, hcs⟩ : ∃ cs, cs = madeCells #[Value.bool false] 16385 := ⟨_, rfl⟩
        rw [← hcs] at hmk hRM hbm hbm2
        have HM := Aside.mk (And.intro hRM (And.intro hbm hbm2))
        have hb2l5 : b2 < w5.heap.size := hb2l
        have hb5l5 : b5 < w5.heap.size := hb5l
        have hge : w.heap.size ≤ w5.heap.size := H6.out.2.2.size
        have hN2 := H7.out.1.below HM.out.2.2
        have hN5 := H7.out.2.1.below HM.out.2.2
        have H8 := Aside.mk (And.intro HM.out.1 (And.intro HM.out.2.1 (And.intro hN2 hN5)))
        clear hRM hbm hbm2 hcs hbD hN2 hN5 HM
        go_wp2
        clear hmk
        generalize (w5.drewN nq).alloc (.cells cs 4) = w6 at *
        generalize w5.heap.size = g6 at *
        go_loopw [9] (fun s9 wr => ∃ i : Nat, i ≤ (listP P).length ∧ s9 = .int .i64 (i : Int) ∧ RowB wr w.heap.size (.slice (some ⟨g6, 0, none⟩) 16385 16385) 16385 (Poly.mulL ((listP P).take i) Q) ∧ w6.grownBy wr (some g6)) (fun s9 _ => (listP P).length - (intOf s9).toNat)
        case atStart => exact ⟨0, by omega, rfl, H8.out.1, World.grownBy.refl _ _⟩
        case round =>
          obtain ⟨i, hi, rfl, hr, hg9⟩ := hrel
          have H9 := Aside.mk (And.intro hr hg9)
          clear hr hg9
          have hi2 : IntKind.i64.wrap ((i : Int) + 1) = (i : Int) + 1 := by rw [IntKind.wrap_i64]; omega
          by_cases hlt : i < (listP P).length
          · have hi3 : (0 : Int) ≤ (i : Int) := by omega
            have hi4 : (i : Int) < ((listP P).length : Int) := by omega
            go_wp2
            obtain ⟨R0, hR0⟩ : ∃ R0, R0 = Poly.mulL ((listP P).take i) Q := ⟨_, rfl⟩
            have hrr := H9.out.1
            rw [← hR0] at hrr
            have H10 := Aside.mk (And.intro hR0 hrr)
            clear hR0 hrr
            go_loopw [10] (fun s10 wq => ∃ j : Nat, j ≤ (listP Q).length ∧ s10 = .int .i64 (j : Int) ∧ RowB wq w.heap.size (.slice (some ⟨g6, 0, none⟩) 16385 16385) 16385 (R0 ^^^ sumL ((listP Q).take j) * 2 ^ ((listP P).getD i 0)) ∧ wr.grownBy wq (some g6)) (fun s10 _ => (listP Q).length - (intOf s10).toNat)
            case atStart => exact ⟨0, by omega, rfl, by rw [List.take_zero, sumL_nil, Nat.zero_mul, Nat.xor_zero]; exact H10.out.2, World.grownBy.refl _ _⟩
            case round =>
              obtain ⟨j, hj, rfl, hq, hgq⟩ := hrel
              have hj2 : IntKind.i64.wrap ((j : Int) + 1) = (j : Int) + 1 := by rw [IntKind.wrap_i64]; omega
              by_cases hjt : j < (listP Q).length
              · have hj3 : (0 : Int) ≤ (j : Int) := by omega
                have hj4 : (j : Int) < ((listP Q).length : Int) := by omega
                have hgA := World.grownBy.trans H9.out.2 hgq
                obtain ⟨b, off, e1, hbB, hbl, x1⟩ := H8.out.2.2.1.far hgA (fun b off h => by injection h with h; injection h with h; omega) i hlt
                injection e1 with e1
                injection e1 with e1 e1'
                subst e1; subst e1'
                obtain ⟨b, off, e2, hbB2, hbl2, x2⟩ := H8.out.2.2.2.far hgA (fun b off h => by injection h with h; injection h with h; omega) j hjt
                injection e2 with e2
                injection e2 with e2 e2'
                subst e2; subst e2'
                have hm1 := (listP_mem (getD_memN hlt)).2
                have hm2 := (listP_mem (getD_memN hjt)).2
                have hst := laid_step (R := R0) (x := (listP P).getD i 0) hjt rfl
                generalize (listP P).getD i 0 = x at *
                generalize (listP Q).getD j 0 = y at *
                obtain ⟨e, he⟩ : ∃ e, e = x + y := ⟨_, rfl⟩
                rw [← he] at hst
                have he2 : e < 16385 := by have := HE.out.2; omega
                have hwr : IntKind.i64.wrap ((x : Int) + (y : Int)) = (e : Int) := by rw [IntKind.wrap_i64]; omega
                have he3 : (0 : Int) ≤ (e : Int) := by omega
                have he4 : (e : Int) < 16385 := by omega
                obtain ⟨c1, z1⟩ := RowB.cell0 hq he2
                have hf := RowB.flip hq he2
                have HF := Aside.mk (And.intro hst (And.intro hf hgq))
                generalize (R0 ^^^ sumL ((listP Q).take j) * 2 ^ x).testBit e = tv at *
                clear hst hf hgq hq hm1 hm2 hgA hbB hbl hbB2 hbl2 he
                go_upto_region 13 with fail
                go_region
                all_goals
                  go_wp2
                  go_roundw
                  case rel => exact ⟨j + 1, by omega, by go_num, by rw [HF.out.1]; exact HF.out.2.1.1.drew, World.grownBy.trans HF.out.2.2 (grownBy_drewP HF.out.2.1.2)⟩
                  case measure => simp [intOf]; omega
              · obtain rfl : j = (listP Q).length := by omega
                have hts : Poly.mulL ((listP P).take (i + 1)) Q = R0 ^^^ sumL ((listP Q).take (listP Q).length) * 2 ^ ((listP P).getD i 0) := by
                  rw [take_snocN hlt, Poly.mulL_snoc, List.take_length, sumL_all HL.out.2, H10.out.1]
                have HF := Aside.mk (And.intro hts (And.intro hq (World.grownBy.trans H9.out.2 hgq)))
                clear hts hq hgq
                go_wp2
                go_roundw
                case rel => exact ⟨i + 1, by omega, by go_num, by rw [HF.out.1]; exact HF.out.2.1, HF.out.2.2⟩
                case measure => simp [intOf]; omega
          · obtain rfl : i = (listP P).length := by omega
            have hall : Poly.mulL ((listP P).take (listP P).length) Q = Poly.clmul P Q := by rw [List.take_length]; exact Poly.clmul_fall HL.out.1 Q
            have hr9 := H9.out.1
            rw [hall] at hr9
            have hb9 : Below w.heap.size w wr := H8.out.2.1.grown H9.out.2 H8.out.2.1.size (fun j hj => by injection hj with hj; omega)
            have H10 := Aside.mk (And.intro hr9 hb9)
            clear hall hr9 hb9 H9
            go_wp2_with (go_at_call 17; refine (ref_list_lim _ g6 _ _ H10.out.1).mono ?_; rintro e w7 ⟨v7, rfl, hr7, hb7⟩)
            go_ret2
            exact ⟨_, by rw [HE.out.1]; rfl, by rw [HE.out.1]; exact hr7.mono H10.out.2.size, H10.out.2.trans (hb7.mono H10.out.2.size)⟩
end Go.Proofs.Ytioagfbjjjankaa
