/-
  What the program's polynomials answer: of a list, the sum, the product, the remainder.
-/
import Derived.Test.YtkdfbganhohbfaaDoorPolyList
import Derived.Test.YtkdfbganhohbfaaDoorPolyMod
import Derived.WalkLawsBesides
namespace Go.Proofs.YtkdfbganhohbfaaDoor
open Go.RowKit

/-- The exponents of a polynomial. -/
def listP (P : Nat) : List Nat := Poly.fall Poly.lim P
theorem listP_of {P n : Nat} (h : P < 2 ^ Poly.lim) (hn : Poly.lim ≤ n) : Poly.fall n P = listP P := Poly.fall_more hn h
theorem lim_lt {P n : Nat} (h : P < 2 ^ Poly.lim) (hn : Poly.lim ≤ n) : P < 2 ^ n := Nat.lt_of_lt_of_le h (Nat.pow_le_pow_right (by omega) hn)

theorem row_add_lim (br gr offr nr cr R bo go offo no co O up : Nat) (w : World) (hR : RowP w br (.slice (some ⟨gr, offr, none⟩) nr cr) nr R) (hO : RowP w bo (.slice (some ⟨go, offo, none⟩) no co) no O)
    (hne : gr ≠ go) (hOl : O < 2 ^ (64 * no)) (hroom : O * 2 ^ up < 2 ^ Poly.lim) (hnr : Poly.lim ≤ 64 * nr) (hup : up ≤ 1000000) (hn : nr ≤ 1000) (hn2 : no ≤ 1000) :
    Calls Tryd.prog 34 #[.slice (some ⟨gr, offr, none⟩) nr cr, .slice (some ⟨go, offo, none⟩) no co, .int .i64 (up : Int)] w (FlipPost w br gr (.slice (some ⟨gr, offr, none⟩) nr cr) nr (R ^^^ O * 2 ^ up)) :=
  row_add br gr offr nr cr R bo go offo no co O up w hR hO hne hOl (lim_lt hroom hnr) hup hn hn2
theorem row_add_all (br gr offr nr cr R bo go offo no co O : Nat) (w : World) (hR : RowP w br (.slice (some ⟨gr, offr, none⟩) nr cr) nr R) (hO : RowP w bo (.slice (some ⟨go, offo, none⟩) no co) no O)
    (hne : gr ≠ go) (hOl : O < 2 ^ Poly.lim) (hno : Poly.lim ≤ 64 * no) (hnr : Poly.lim ≤ 64 * nr) (hn : nr ≤ 1000) (hn2 : no ≤ 1000) :
    Calls Tryd.prog 34 #[.slice (some ⟨gr, offr, none⟩) nr cr, .slice (some ⟨go, offo, none⟩) no co, .int .i64 0] w (FlipPost w br gr (.slice (some ⟨gr, offr, none⟩) nr cr) nr (R ^^^ O)) := by
  have h := row_add_lim br gr offr nr cr R bo go offo no co O 0 w hR hO hne (lim_lt hOl hno) (by rw [Nat.pow_zero, Nat.mul_one]; exact hOl) hnr (by omega) hn hn2
  rw [Nat.pow_zero, Nat.mul_one] at h
  exact h
theorem row_poly_lim (b g off n c P : Nat) (w : World) (hR : RowP w b (.slice (some ⟨g, off, none⟩) n c) n P) (hP : P < 2 ^ Poly.lim) (hl : Poly.lim ≤ 64 * n) (hn : n ≤ 1000) :
    Calls Tryd.prog 33 #[.slice (some ⟨g, off, none⟩) n c] w (ListOf w (listP P)) := by
  have h := row_poly b g off n c P w hR hn
  rwa [listP_of hP hl] at h
/-! The product -/
theorem RowP.low {w : World} {b g off n c P m : Nat} (h : RowP w b (.slice (some ⟨g, off, none⟩) n c) n P) (hm : m ≤ n) : RowP w b (.slice (some ⟨g, off, none⟩) m c) m P := by
  have h1 := Row.part h rfl 0 m (by omega) hm
  have e : ((wordsV n P).drop (0 * 1)).take ((m - 0) * 1) = wordsV m P := by
    simp only [List.drop_zero, Nat.sub_zero, Nat.mul_one, wordsV, ← List.map_take, List.take_range, Nat.min_eq_left hm]
  rw [e] at h1
  simpa using h1
theorem listP_zero : listP 0 = [] := Poly.fall_zero _
def optL : Option Nat → List Nat
  | none => []
  | some P => listP P
/-- The exponents that are answered, and whether there is an answer. -/
def PairOf (w : World) (r : Option Nat) (e : Ending) (w' : World) : Prop := ∃ v, e = .returned (.tuple #[v, .bool r.isSome]) ∧ Row w' w.heap.size 3 1 v (optL r).length (intsV (Poly.ints (optL r))) ∧ Below w.heap.size w w'
/-- What Mul answers. -/
def mulR (A B : Nat) : Option Nat := if A ≠ 0 ∧ B ≠ 0 ∧ 16384 < A.log2 + B.log2 then none else some (Poly.clmul A B)
theorem row_degree_lim (b g off n c P : Nat) (w : World) (hR : RowP w b (.slice (some ⟨g, off, none⟩) n c) n P) (hP : P < 2 ^ Poly.lim) (hl : Poly.lim ≤ 64 * n) (hn : n ≤ 1000000) :
    Calls Tryd.prog 32 #[.slice (some ⟨g, off, none⟩) n c] w fun e w' => e = .returned (.int .i64 (deg P)) ∧ w = w' :=
  row_degree b g off n c P w hR (lim_lt hP hl) hn
theorem deg_neg {P : Nat} (h : P = 0) : deg P = -1 := by unfold deg; rw [if_pos h]
theorem deg_pos {P : Nat} (h : P ≠ 0) : deg P = (P.log2 : Int) := by unfold deg; rw [if_neg h]
theorem log2_lim {P : Nat} (h0 : P ≠ 0) (h : P < 2 ^ Poly.lim) : P.log2 ≤ 16384 := by
  have := Poly.log2_lt h0 h
  have := Poly.lim_eq
  omega
theorem room_of {A B e : Nat} (h : A.log2 + B.log2 ≤ 16384) (he : e ≤ A.log2) : B * 2 ^ e < 2 ^ Poly.lim := by
  have h1 : B * 2 ^ e < 2 ^ (B.log2 + 1 + e) := by
    rw [Nat.pow_add]
    exact Nat.mul_lt_mul_of_pos_right (Poly.lt_two_log2 B) (Nat.pow_pos (by omega))
  have hl := Poly.lim_eq
  exact Nat.lt_of_lt_of_le h1 (Nat.pow_le_pow_right (by omega) (by omega))
theorem listP_mem {P e : Nat} (h : e ∈ listP P) : P ≠ 0 ∧ e ≤ P.log2 := by
  have h1 := (Poly.fall_mem.1 h).2
  have h0 : P ≠ 0 := fun h => by rw [h] at h1; simp at h1
  refine ⟨h0, ?_⟩
  rcases Nat.lt_or_ge P.log2 e with h2 | h2
  · rw [Poly.tb_lt (Poly.lt_two_log2 P) h2] at h1
    cases h1
  · exact h2
theorem cut_words (g off n c m : Nat) (hm : m ≤ c) (W : World) :
    (Instr.slice 79 (.slice (some ⟨g, off, none⟩) n c) none (some (.int .i64 (m : Int))) none).run Tryd.prog W = .ok (.slice (some ⟨g, off, none⟩) m c) W :=
  cut_to (P := Tryd.prog) 79 89 Tryd.underlying79 (by kernel_rfl) g off n c m hm W
theorem low_lt (B : Nat) : B < 2 ^ (64 * (B.log2 / 64 + 1)) := Nat.lt_of_lt_of_le (Poly.lt_two_log2 B) (Nat.pow_le_pow_right (by omega) (by omega))

set_option maxRecDepth 100000 in
set_option maxHeartbeats 3200000 in
theorem poly_mul (XA XB : Option Addr) (n c m d : Nat) (l k : List Int) (w : World) (hl : n = l.length) (hn : n ≤ 9223372036854775807) (hR : Rd w XA n (fun i => .int .i64 (l.getD i 0)))
    (hk : m = k.length) (hm : m ≤ 9223372036854775807) (hS : Rd w XB m (fun i => .int .i64 (k.getD i 0))) :
    Calls Tryd.prog 21 #[.slice XA n c, .slice XB m d] w (PairOf w (mulR (Poly.bitsOf l) (Poly.bitsOf k))) := by
  have hL := Poly.lim_eq
  have hP := Poly.bitsOf_lt l
  have hQ := Poly.bitsOf_lt k
  have H1 := Aside.mk (row_of XA n c l w hl hn hR)
  have H3 : Aside (∀ W, Below w.heap.size w W → Calls Tryd.prog 31 #[.slice XB m d] W (RowOf W 257 (Poly.bitsOf k))) := ⟨fun W hW => row_of XB m d k W hk hm (hS.below (Nat.le_refl _) hW)⟩
  have HL := Aside.mk (And.intro hL (And.intro hP hQ))
  clear hL hP hQ hl hR hk hS
  generalize Poly.bitsOf l = P at *
  generalize Poly.bitsOf k = Q at *
  obtain ⟨R, hRr⟩ : ∃ R, R = mulR P Q := ⟨_, rfl⟩
  rw [← hRr]
  have HR := Aside.mk hRr
  clear hRr
  go_enter Tryd.func21, Tryd.ntmps21
  go_upto_region 2 with (first | (obtain ⟨HI⟩ := H1; go_at_call 31; refine (HI).mono ?_; clear HI; rintro e w1 ⟨g, hg, rfl, hr, hb⟩; have H4 := Aside.mk (H3.out _ hb)) | (obtain ⟨HI⟩ := H4; go_at_call 31; refine (HI).mono ?_; clear HI; rintro e w2 ⟨g2, hg2, rfl, hr2, hb2⟩))
  have hrx := Row.below hr hb2
  have hbw := hb.trans (hb2.mono hb.size)
  have hgg : g ≠ g2 := by have := (Row.blk hr g rfl).2.1; omega
  have HW := Aside.mk (And.intro hrx (And.intro hr2 (And.intro hbw (And.intro hb.size (And.intro hg hg2)))))
  have D1 := Aside.mk (row_degree_lim _ g 0 257 257 P w2 hrx HL.out.2.1 (by have := HL.out.1; omega) (by omega))
  have D2 := Aside.mk (row_degree_lim _ g2 0 257 257 Q w2 hr2 HL.out.2.2 (by have := HL.out.1; omega) (by omega))
  clear hrx hr2 hr hb hb2 hbw H3
  by_cases hP0 : P = 0
  · rw [deg_neg hP0] at D1
    have hres : R = some 0 := by rw [HR.out]; unfold mulR; rw [if_neg (by simp [hP0]), hP0, Poly.zero_clmul]
    have HE := Aside.mk hres
    clear hP0 hres HR
    go_wp2_with (first | (obtain ⟨HI⟩ := D1; go_at_call 32; refine (HI).mono ?_; clear HI; rintro e w3 ⟨rfl, rfl⟩) | (obtain ⟨HI⟩ := D2; go_at_call 32; refine (HI).mono ?_; clear HI; rintro e w3 ⟨rfl, rfl⟩))
    go_ret2
    exact ⟨_, by rw [HE.out]; rfl, by rw [HE.out]; show Row _ _ _ _ _ (listP 0).length (intsV (Poly.ints (listP 0))); rw [listP_zero]; exact Row.nil _ _ _ _, HW.out.2.2.1⟩
  · have hdp := deg_pos hP0
    have hlp := log2_lim hP0 HL.out.2.1
    rw [hdp] at D1
    clear hdp
    by_cases hQ0 : Q = 0
    · rw [deg_neg hQ0] at D2
      have hres : R = some 0 := by rw [HR.out]; unfold mulR; rw [if_neg (by simp [hQ0]), hQ0, Poly.clmul_zero]
      have HE := Aside.mk hres
      clear hP0 hQ0 hres HR
      go_wp2_with (first | (obtain ⟨HI⟩ := D1; go_at_call 32; refine (HI).mono ?_; clear HI; rintro e w3 ⟨rfl, rfl⟩) | (obtain ⟨HI⟩ := D2; go_at_call 32; refine (HI).mono ?_; clear HI; rintro e w3 ⟨rfl, rfl⟩))
      go_ret2
      exact ⟨_, by rw [HE.out]; rfl, by rw [HE.out]; show Row _ _ _ _ _ (listP 0).length (intsV (Poly.ints (listP 0))); rw [listP_zero]; exact Row.nil _ _ _ _, HW.out.2.2.1⟩
    · have hdq := deg_pos hQ0
      have hlq := log2_lim hQ0 HL.out.2.2
      rw [hdq] at D2
      clear hdq
      have hsum : IntKind.i64.wrap ((P.log2 : Int) + (Q.log2 : Int)) = (P.log2 : Int) + (Q.log2 : Int) := by rw [IntKind.wrap_i64]; omega
      by_cases hgt : 16384 < P.log2 + Q.log2
      · have hres : R = none := by rw [HR.out]; unfold mulR; rw [if_pos ⟨hP0, hQ0, hgt⟩]
        have HE := Aside.mk hres
        have hgt2 : (16384 : Int) < (P.log2 : Int) + (Q.log2 : Int) := by omega
        clear hP0 hQ0 hres HR hgt
        go_wp2_with (first | (obtain ⟨HI⟩ := D1; go_at_call 32; refine (HI).mono ?_; clear HI; rintro e w3 ⟨rfl, rfl⟩) | (obtain ⟨HI⟩ := D2; go_at_call 32; refine (HI).mono ?_; clear HI; rintro e w3 ⟨rfl, rfl⟩))
        go_ret2
        exact ⟨_, by rw [HE.out]; rfl, by rw [HE.out]; exact Row.nil _ _ _ _, HW.out.2.2.1⟩
      · have hres : R = some (Poly.clmul P Q) := by rw [HR.out]; unfold mulR; rw [if_neg (by omega)]
        have hgt2 : ¬ (16384 : Int) < (P.log2 : Int) + (Q.log2 : Int) := by omega
        have HE := Aside.mk (And.intro hres (And.intro hP0 (And.intro hQ0 (Nat.le_of_not_lt hgt))))
        have hmk : ∀ W : World, (Instr.makeSlice 79 (.int .i64 258) (.int .i64 258)).run Tryd.prog W = .ok (.slice (some ⟨W.heap.size, 0, none⟩) 258 258) (W.alloc (.cells (madeCells #[.int .u64 0] 258) 89)) := make_words 258 (by omega)
        have hRM := RowP.made w2 w.heap.size 258 HW.out.2.2.1.size (by omega)
        have hbm := HW.out.2.2.1.alloc HW.out.2.2.1.size (.cells (madeCells #[.int .u64 0] 258) 89)
        have hbm2 := (Below.refl w2.heap.size w2).alloc (Nat.le_refl _) (.cells (madeCells #[.int .u64 0] 258) 89)
        obtain ⟨cs, hcs⟩ : ∃ cs, cs = madeCells #[Value.int .u64 0] 258 := ⟨_, rfl⟩
        rw [← hcs] at hmk hRM hbm hbm2
        have HM := Aside.mk (And.intro hRM (And.intro hbm hbm2))
        clear hP0 hQ0 hres HR hgt hRM hbm hbm2 hcs
        go_upto_region 8 with (first | (obtain ⟨HI⟩ := D1; go_at_call 32; refine (HI).mono ?_; clear HI; rintro e w3 ⟨rfl, rfl⟩) | (obtain ⟨HI⟩ := D2; go_at_call 32; refine (HI).mono ?_; clear HI; rintro e w3 ⟨rfl, rfl⟩))
        have hx4 := Row.below HW.out.1 HM.out.2.2
        have hy4 := Row.below HW.out.2.1 HM.out.2.2
        have hlt2 : g2 < w2.heap.size := (Row.blk HW.out.2.1 g2 rfl).2.1
        have hlt1 : g < w2.heap.size := (Row.blk HW.out.1 g rfl).2.1
        have hge : w.heap.size ≤ w2.heap.size := HW.out.2.2.1.size
        have H4 := Aside.mk (And.intro hx4 (And.intro hy4 (And.intro HM.out.1 HM.out.2.1)))
        clear HM hx4 hy4 hmk
        generalize w2.alloc (.cells cs 89) = w4 at *
        generalize w2.heap.size = g3 at *
        go_wp2_with (go_at_call 33; refine (row_poly_lim _ g 0 257 257 P _ H4.out.1 HL.out.2.1 (by have := HL.out.1; omega) (by omega)).mono ?_; rintro e w5 ⟨v5, rfl, hr5, hb5⟩; obtain ⟨A5, c5, rfl, -, hc5, hm5, hR5⟩ := hr5.readInts)
        have hRo := Row.below H4.out.2.2.1 hb5
        have hy5 := Row.below H4.out.2.1 hb5
        have hbw5 := H4.out.2.2.2.trans (hb5.mono H4.out.2.2.2.size)
        have hlt3 : g3 < w4.heap.size := (Row.blk H4.out.2.2.1 g3 rfl).2.1
        have hA5 : ∀ b off, A5 = some ⟨b, off, none⟩ → b ≠ g3 := fun b off h => by
          subst h
          have := (Row.blk hr5 b rfl).1
          omega
        have hll : (listP P).length ≤ 16385 := by
          have := Poly.fall_len P Poly.lim
          rw [Poly.lim_eq] at this
          exact this
        have H5 := Aside.mk (And.intro hRo (And.intro hy5 (And.intro hbw5 (And.intro hR5 hA5))))
        clear hRo hy5 hbw5 hR5 hA5 hr5 hb5 H4
        obtain ⟨tq, htq⟩ : ∃ tq, tq = Q.log2 / 64 := ⟨_, rfl⟩
        have hmq : (Q.log2 : Int) / 64 = (tq : Int) := by omega
        obtain ⟨mq, hmqe⟩ : ∃ mq, mq = Q.log2 / 64 + 1 := ⟨_, rfl⟩
        have hmq2 : IntKind.i64.wrap ((tq : Int) + 1) = (mq : Int) := by rw [IntKind.wrap_i64]; omega
        have htq2 : tq ≤ 256 := by omega
        have hcut := cut_words g2 0 257 257 mq (by omega)
        have hmq3 : mq ≤ 257 := by omega
        have HMQ := Aside.mk hmqe
        clear hmqe htq
        go_loopw [38] (fun s38 wr => ∃ j : Nat, j ≤ (listP P).length ∧ s38 = .int .i64 (j : Int) ∧ RowP wr w.heap.size (.slice (some ⟨g3, 0, none⟩) 258 258) 258 (Poly.mulL ((listP P).take j) Q) ∧ w5.grownBy wr (some g3)) (fun s38 _ => (listP P).length - (intOf s38).toNat)
        case atStart => exact ⟨0, by omega, rfl, H5.out.1, World.grownBy.refl _ _⟩
        case round =>
          obtain ⟨j, hj, rfl, hr, hg9⟩ := hrel
          have H9 := Aside.mk (And.intro hr hg9)
          clear hr hg9
          have hj2 : IntKind.i64.wrap ((j : Int) + 1) = (j : Int) + 1 := by rw [IntKind.wrap_i64]; omega
          by_cases hlt : j < (listP P).length
          · obtain ⟨b, off, rfl, hbl, hc⟩ := H5.out.2.2.2.1 j hlt
            have hge5 : (Poly.ints (listP P)).getD j 0 = (((listP P).getD j 0 : Nat) : Int) := by simp [Poly.ints, List.getD_eq_getElem?_getD, List.getElem?_eq_getElem hlt]
            have y1 : wr.cell? ⟨b, off + j, none⟩ = some (.int .i64 ((Poly.ints (listP P)).getD j 0)) := H9.out.2.cell hc (by have := H5.out.2.2.2.2 b off rfl; simp; omega)
            rw [hge5] at y1
            have hmem : (listP P).getD j 0 ∈ listP P := by
              rw [List.getD_eq_getElem?_getD, List.getElem?_eq_getElem hlt]
              exact List.getElem_mem _
            have hts : Poly.mulL ((listP P).take (j + 1)) Q = Poly.mulL ((listP P).take j) Q ^^^ Q * 2 ^ ((listP P).getD j 0) := by
              rw [List.take_succ_eq_append_getElem hlt, Poly.mulL_snoc]
              simp [List.getD_eq_getElem?_getD, List.getElem?_eq_getElem hlt]
            have hel := (listP_mem hmem).2
            have hyr := RowP.low (Row.kept H5.out.2.1 H9.out.2 (.inr (by simp [Value.ownBlock]; omega))) hmq3
            generalize (listP P).getD j 0 = ex at *
            have hrm := room_of HE.out.2.2.2 hel
            have H10 := Aside.mk (And.intro hts (And.intro hyr hrm))
            have hj3 : (0 : Int) ≤ (j : Int) := by omega
            have hj4 : (j : Int) < ((listP P).length : Int) := by omega
            clear hts hyr hrm hmem hge5 hc
            go_wp2_with (go_at_call 34; refine (row_add_lim w.heap.size g3 0 258 258 _ _ g2 0 mq 257 Q ex _ H9.out.1 H10.out.2.1 (by omega) (by rw [HMQ.out]; exact low_lt Q) H10.out.2.2 (by have := HL.out.1; omega) (by omega) (by omega) (by omega)).mono ?_; rintro e w6 ⟨rfl, hr6, hg6⟩)
            go_roundw
            case rel => exact ⟨j + 1, by omega, by go_num, by rw [H10.out.1]; exact hr6, World.grownBy.trans H9.out.2 hg6⟩
            case measure => simp [intOf]; omega
          · obtain rfl : j = (listP P).length := by omega
            have hall : Poly.mulL ((listP P).take (listP P).length) Q = Poly.clmul P Q := by rw [List.take_length]; exact Poly.clmul_fall HL.out.2.1 Q
            have hcl : Poly.clmul P Q < 2 ^ Poly.lim := by
              rw [← Poly.clmul_fall HL.out.2.1]
              exact Poly.mulL_lt _ (fun e he => room_of HE.out.2.2.2 (listP_mem he).2)
            have hr9 := H9.out.1
            rw [hall] at hr9
            have hb9 : Below w.heap.size w wr := H5.out.2.2.1.grown H9.out.2 H5.out.2.2.1.size (fun j hj => by injection hj with hj; omega)
            have H10 := Aside.mk (And.intro hr9 (And.intro hcl hb9))
            clear hall hcl hr9 hb9 H9
            go_wp2_with (go_at_call 33; refine (row_poly_lim _ g3 0 258 258 _ _ H10.out.1 H10.out.2.1 (by have := HL.out.1; omega) (by omega)).mono ?_; rintro e w7 ⟨v7, rfl, hr7, hb7⟩)
            go_ret2
            exact ⟨_, by rw [HE.out.1]; rfl, by rw [HE.out.1]; exact hr7.mono H10.out.2.2.size, H10.out.2.2.trans (hb7.mono H10.out.2.2.size)⟩
end Go.Proofs.YtkdfbganhohbfaaDoor
