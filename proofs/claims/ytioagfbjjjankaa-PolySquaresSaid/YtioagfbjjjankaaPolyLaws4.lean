/-
  The square of a polynomial has its exponents doubled, and a product's degree is the sum of the degrees.
-/
import Derived.Test.YtioagfbjjjankaaPolyLaws3
import Derived.Deep.CutBlock
namespace Go.Proofs.Ytioagfbjjjankaa
open Go.RowKit

theorem sq_some (A : Nat) : (mulR A A).isSome = decide (A = 0 ∨ A.log2 ≤ 8192) := by
  unfold mulR
  by_cases h0 : A = 0
  · rw [if_neg (by simp [h0]), decide_eq_true (.inl h0)]; rfl
  · by_cases h1 : A.log2 ≤ 8192
    · rw [if_neg (by omega), decide_eq_true (.inr h1)]; rfl
    · rw [if_pos ⟨h0, h0, by omega⟩, decide_eq_false (by omega)]; rfl
theorem sq_list {A : Nat} (hA : A < 2 ^ Poly.lim) (h : (mulR A A).isSome = true) : optL (mulR A A) = (listP A).map (2 * ·) := by
  have h1 := sq_some A
  rw [h, eq_comm, decide_eq_true_eq] at h1
  have hl := Poly.lim_eq
  rcases h1 with h0 | h0
  · subst h0
    have : mulR 0 0 = some 0 := by unfold mulR; rw [if_neg (by simp), Poly.zero_clmul]
    rw [this]
    show listP 0 = _
    rw [listP_zero]; rfl
  · by_cases hA0 : A = 0
    · subst hA0
      have : mulR 0 0 = some 0 := by unfold mulR; rw [if_neg (by simp), Poly.zero_clmul]
      rw [this]
      show listP 0 = _
      rw [listP_zero]; rfl
    · have : mulR A A = some (Poly.clmul A A) := by unfold mulR; rw [if_neg (by omega)]
      rw [this]
      show Poly.fall Poly.lim (Poly.clmul A A) = _
      have hc := clmul_lim (A := A) (B := A) hA (by omega)
      obtain ⟨m, hm⟩ : ∃ m, m = 8193 := ⟨_, rfl⟩
      have ha : A < 2 ^ m := Nat.lt_of_lt_of_le (Poly.lt_two_log2 A) (Nat.pow_le_pow_right (by omega) (by omega))
      rw [← Poly.fall_more (n := 2 * m) (m := Poly.lim) (by omega) hc, Poly.fall_sq]
      congr 1
      exact (Poly.fall_more (n := Poly.lim) (m := m) (by omega) ha).symm
theorem mul_head {A B P : Nat} (hA : A < 2 ^ Poly.lim) (h : mulR A B = some P) (hA0 : A ≠ 0) (hB0 : B ≠ 0) : 0 < (listP P).length ∧ (listP P).getD 0 0 = A.log2 + B.log2 := by
  unfold mulR at h
  by_cases hb : A ≠ 0 ∧ B ≠ 0 ∧ 16384 < A.log2 + B.log2
  · rw [if_pos hb] at h; cases h
  · rw [if_neg hb] at h
    injection h with h
    subst h
    obtain ⟨h1, h2⟩ := Poly.clmul_top hA0 hB0
    have := listP_head h1 (clmul_lim hA (by omega))
    rwa [h2] at this

set_option maxRecDepth 100000 in
set_option maxHeartbeats 6400000 in
theorem polySquares_walk (XA : Option Addr) (n c : Nat) (l : List Int) (XB : Option Addr) (m d : Nat) (k : List Int) (w : World)
    (hx : l.length = n ∧ n ≤ c ∧ c ≤ maxLen ∧ n * 8 ≤ 140737488351232 ∧ (∀ x ∈ l, (Lit.int .i64 x).wf = true) ∧ Rd w XA n (fun i => .int .i64 (l.getD i 0)))
    (hy : k.length = m ∧ m ≤ d ∧ d ≤ maxLen ∧ m * 8 ≤ 140737488351232 ∧ (∀ x ∈ k, (Lit.int .i64 x).wf = true) ∧ Rd w XB m (fun i => .int .i64 (k.getD i 0))) :
    Calls Try.prog 4 #[.slice XA n c, .slice XB m d] w fun e w' => e = .returned (.bool true) ∧ Below w.heap.size w w' := by
  have S0 : Sx w [(.slice XA n c, l), (.slice XB m d, k)] w := ⟨Below.refl _ _, fun x hxx => by
    rcases List.mem_cons.1 hxx with rfl | hxx
    · exact ⟨XA, n, c, rfl, hx.1.symm, by omega, hx.2.2.2.2.2⟩
    · rw [List.mem_singleton] at hxx
      subst hxx
      exact ⟨XB, m, d, rfl, hy.1.symm, by omega, hy.2.2.2.2.2⟩⟩
  have S := Aside.mk S0
  have hA := Poly.bitsOf_lt l
  have hB := Poly.bitsOf_lt k
  have hya := bits_listP hA
  have hyb := bits_listP hB
  have HY := Aside.mk (And.intro hya hyb)
  have HL := Aside.mk (And.intro hA hB)
  clear S0 hx hy hA hB hya hyb
  generalize hPe : Poly.bitsOf l = P at *
  generalize hQe : Poly.bitsOf k = Q at *
  have HE := Aside.mk (And.intro hPe hQe)
  clear hPe hQe
  obtain ⟨r1, hr1⟩ : ∃ r, r = mulR P P := ⟨_, rfl⟩
  obtain ⟨r2, hr2⟩ : ∃ r, r = mulR P Q := ⟨_, rfl⟩
  have HR := Aside.mk (And.intro hr1 hr2)
  clear hr1 hr2
  go_enter Try.func4, Try.ntmps4
  go_upto_region 3 with (go_at_call 10; refine (S.out.speaks).mono ?_; rintro e w1 ⟨rfl, h⟩; clear S; have S := Aside.mk h; clear h)
  have C1 := Aside.mk (S.out.copied (v := .slice XA n c) (l := l) (by simp))
  go_upto_region 5 with (first | (obtain ⟨HI⟩ := C1; go_at_call 11; refine HI.mono ?_; clear HI; rintro e w2 ⟨v2, rfl, h⟩; clear S; have S := Aside.mk h; clear h; have O1 := Aside.mk (S.out.of (v := v2) (l := l) (by simp))) | (obtain ⟨HI⟩ := O1; go_at_call 15; refine HI.mono ?_; clear HI; rw [HE.out.1]; rintro e w3 ⟨vx, rfl, h⟩; clear S; have S := Aside.mk h; clear h; have C2 := Aside.mk (S.out.copied (v := .slice XB m d) (l := k) (by simp))) | (obtain ⟨HI⟩ := C2; go_at_call 11; refine HI.mono ?_; clear HI; rintro e w4 ⟨v4, rfl, h⟩; clear S; have S := Aside.mk h; clear h; have O2 := Aside.mk (S.out.of (v := v4) (l := k) (by simp))) | (obtain ⟨HI⟩ := O2; go_at_call 15; refine HI.mono ?_; clear HI; rw [HE.out.2]; rintro e w5 ⟨vy, rfl, h⟩; clear S; have S := Aside.mk h; clear h) | (go_at_call 12; refine (S.out.mul (l := Poly.ints (listP P)) (k := Poly.ints (listP P)) (by simp) (by simp)).mono ?_; rw [HY.out.1, ← HR.out.1]; rintro e w6 ⟨vs, rfl, h⟩; clear S; have S := Aside.mk h; clear h))
  have sx := S.out.has (vx, Poly.ints (listP P)) (by simp)
  have sy := S.out.has (vy, Poly.ints (listP Q)) (by simp)
  have ss := S.out.has (vs, Poly.ints (optL r1)) (by simp)
  obtain ⟨Ax, cx, hvx, hrx⟩ := sx.nat
  obtain ⟨Ay, cy, hvy, hry⟩ := sy.nat
  obtain ⟨As, cs, hvs, hrs⟩ := ss.nat
  dsimp only at hvx hvy hvs
  subst hvx; subst hvy; subst hvs
  have hsm := sq_some P
  rw [← HR.out.1] at hsm
  have hsl : r1.isSome = true → optL r1 = (listP P).map (2 * ·) := fun h => by rw [HR.out.1] at h ⊢; exact sq_list HL.out.1 h
  have hlp := listP_le P
  have hlq := listP_le Q
  have HX := Aside.mk (And.intro hrx (And.intro hry (And.intro hrs (And.intro hsm hsl))))
  clear sx sy ss hrx hry hrs hsm hsl
  obtain ⟨ok, hok⟩ : ∃ ok, ok = r1.isSome := ⟨_, rfl⟩
  rw [← hok]
  have HO := Aside.mk hok
  clear hok
  generalize hxn : (listP P).length = xn at *
  generalize hyn : (listP Q).length = yn at *
  generalize hsn : (optL r1).length = sn at *
  have HN := Aside.mk (And.intro hxn (And.intro hyn hsn))
  clear hxn hyn hsn
  go_cut [36] (fun s36 wx => s36 = .bool false ∧ w6 = wx)
  case first =>
    by_cases hP0 : P = 0
    · have hx0 : xn = 0 := by rw [← HN.out.1, listP_len HL.out.1]; exact hP0
      have hk : ok = true := by rw [HO.out, HX.out.2.2.2.1, decide_eq_true (.inl hP0)]
      subst hk; subst hx0
      clear hP0
      go_wp2
      go_meet
      exact ⟨rfl, rfl⟩
    · obtain ⟨h1, h2⟩ := listP_head hP0 HL.out.1
      rw [HN.out.1] at h1
      obtain ⟨b, o, rfl, y0⟩ := HX.out.1 0 h1
      rw [h2, Nat.add_zero] at y0
      have hxn3 : ((xn : Int) == 0) = false := by simp; omega
      have hxn4 : (0 : Int) < (xn : Int) := by omega
      by_cases h8 : P.log2 ≤ 8192
      · have hk : ok = true := by rw [HO.out, HX.out.2.2.2.1, decide_eq_true (.inr h8)]
        subst hk
        have h9 : (P.log2 : Int) ≤ 8192 := by omega
        clear hP0 h2
        go_wp2
        go_meet
        exact ⟨rfl, rfl⟩
      · have hk : ok = false := by rw [HO.out, HX.out.2.2.2.1, decide_eq_false (by omega)]
        subst hk
        have h9 : ¬ (P.log2 : Int) ≤ 8192 := by omega
        clear hP0 h2
        go_wp2
        go_meet
        exact ⟨rfl, rfl⟩
  case rest =>
    obtain ⟨rfl, rfl⟩ := hcut
    go_upto_block 0 with fail
    go_cut [9] (fun _ wx => DrewOf w6 wx)
    case first =>
      cases ok
      · go_wp2
        go_loopw [9] (fun s9 wr => s9 = .int .i64 0 ∧ w6 = wr) (fun _ _ => 0)
        case atStart => exact ⟨rfl, rfl⟩
        case round =>
          obtain ⟨rfl, rfl⟩ := hrel
          go_wp2
          go_meet
          exact DrewOf.refl _
      · have hsl := HX.out.2.2.2.2 HO.out.symm
        have hss : sn = xn := by rw [← HN.out.1, ← HN.out.2.2, hsl, List.length_map]
        have HS := Aside.mk hsl
        clear hsl
        subst hss
        go_wp2
        go_loopw [9] (fun s9 wr => ∃ i : Nat, i ≤ sn ∧ s9 = .int .i64 (i : Int) ∧ DrewOf w6 wr) (fun s9 _ => sn - (intOf s9).toNat)
        case atStart => exact ⟨0, by omega, rfl, DrewOf.refl _⟩
        case round =>
          obtain ⟨i, hi, rfl, hD⟩ := hrel
          have HD := Aside.mk hD
          clear hD
          by_cases hlt : i < sn
          · have hi1 : IntKind.i64.wrap ((i : Int) + 1) = (i : Int) + 1 := by rw [IntKind.wrap_i64]; omega
            have hi2 : (0 : Int) ≤ (i : Int) := by omega
            have hi3 : (i : Int) < (sn : Int) := by omega
            have hcell : ∀ (q : Addr), wr.cell? q = w6.cell? q := fun q => by obtain ⟨m, hm⟩ := HD.out; rw [hm]; rfl
            obtain ⟨b, o, rfl, y0⟩ := HX.out.1 i hlt
            obtain ⟨b2, o2, rfl, y2⟩ := HX.out.2.2.1 i hlt
            have hxl : i < (listP P).length := by rw [HN.out.1]; exact hlt
            have hg2 : (optL r1).getD i 0 = 2 * (listP P).getD i 0 := by
              rw [HS.out, List.getD_eq_getElem?_getD, List.getD_eq_getElem?_getD, List.getElem?_map, List.getElem?_eq_getElem hxl]
              rfl
            rw [hg2] at y2
            have hxm : (listP P).getD i 0 < 16385 := by
              have h1 : (listP P).getD i 0 < Poly.lim := (Poly.fall_mem.1 (getD_memN hxl)).1
              have h2 := Poly.lim_eq
              omega
            have z0 : wr.cell? ⟨b, o + i, none⟩ = _ := (hcell _).trans y0
            have z2 : wr.cell? ⟨b2, o2 + i, none⟩ = _ := (hcell _).trans y2
            generalize (listP P).getD i 0 = x at *
            have hmul : IntKind.i64.wrap (2 * (x : Int)) = ((2 * x : Nat) : Int) := by rw [IntKind.wrap_i64]; omega
            clear hcell y0 y2 hg2 hxl
            obtain ⟨y, hy⟩ : ∃ y, y = 2 * x := ⟨_, rfl⟩
            rw [← hy] at hmul z2
            have hge : decide ((sn : Int) ≤ (i : Int)) = false := by simp; omega
            have hge2 : decide (sn ≤ i) = false := by simp; omega
            clear hy
            go_upto_region 10 with fail
            go_quiet (fail)
            go_wp2
            go_roundw
            case rel => exact ⟨i + 1, by omega, by go_num, HD.out.more _⟩
            case measure => simp [intOf]; omega
          · obtain rfl : i = sn := by omega
            go_wp2
            go_meet
            exact HD.out
    case rest =>
      have hD := hcut
      have hS := S.out.step hD.same
      have S2 := Aside.mk (And.intro hS hD)
      clear hS hD hcut S
      have hoks : ok = true → sn = xn := fun h => by
        have h1 := HX.out.2.2.2.2 (by rw [← HO.out]; exact h)
        rw [← HN.out.1, ← HN.out.2.2, h1, List.length_map]
      have HK := Aside.mk hoks
      clear hoks HX
      go_upto_region 13 with (go_at_call 12; refine (S2.out.1.mul (l := Poly.ints (listP P)) (k := Poly.ints (listP Q)) (by simp) (by simp)).mono ?_; rw [HY.out.1, HY.out.2, ← HR.out.2]; rintro e w8 ⟨vp, rfl, h⟩; have S3 := Aside.mk h; clear h)
      have sx := S3.out.has (.slice Ax xn cx, Poly.ints (listP P)) (by simp)
      have sy := S3.out.has (.slice Ay yn cy, Poly.ints (listP Q)) (by simp)
      have sp := S3.out.has (vp, Poly.ints (optL r2)) (by simp)
      obtain ⟨Ax', cx', hvx, hrx⟩ := sx.nat
      obtain ⟨Ay', cy', hvy, hry⟩ := sy.nat
      obtain ⟨Ap, cp, hvp, hrp⟩ := sp.nat
      dsimp only at hvx hvy hvp
      have hxx : Ax' = Ax := by
        injection hvx with h1 h2 h3
        exact h1.symm
      have hyy : Ay' = Ay := by
        injection hvy with h1 h2 h3
        exact h1.symm
      rw [hxx, HN.out.1] at hrx
      rw [hyy, HN.out.2.1] at hry
      clear hvx hvy hxx hyy
      subst hvp
      have hb := S3.out.bel
      have HB := Aside.mk hb
      have HH := Aside.mk (And.intro hrx (And.intro hry hrp))
      clear sx sy sp hrx hry hrp hb S2 S3
      generalize hpn : (optL r2).length = pn at *
      have HPN := Aside.mk hpn
      clear hpn
      have hsx : (!ok || decide (sn = xn)) = true := by
        cases ok
        · rfl
        · rw [decide_eq_true (HK.out rfl)]; rfl
      obtain ⟨okb, hokb⟩ : ∃ okb, okb = ok := ⟨_, rfl⟩
      cases hr2 : r2 with
      | none =>
        rw [hr2] at HH
        cases ok
        · clear hsx
          go_quiet (fail)
          go_wp2
          go_ret
          exact ⟨rfl, (DrewOf.more (DrewOf.refl _) _).below HB.out⟩
        · obtain rfl : sn = xn := HK.out rfl
          clear hsx
          go_quiet (fail)
          go_wp2
          go_ret
          exact ⟨rfl, (DrewOf.more (DrewOf.refl _) _).below HB.out⟩
      | some R =>
        have hres : mulR P Q = some R := by rw [← HR.out.2]; exact hr2
        rw [hr2] at HH HPN
        have HRS := Aside.mk hres
        clear hr2 hres HR
        by_cases hP0 : P = 0
        · have hx0 : xn = 0 := by rw [← HN.out.1, listP_len HL.out.1]; exact hP0
          have HX0 := Aside.mk hx0
          have hx1 : ((xn : Int) == 0) = true := by simp [hx0]
          clear hP0 hx0
          cases ok
          · clear hsx
            go_quiet (fail)
            go_wp2
            go_ret
            exact ⟨rfl, (DrewOf.more (DrewOf.refl _) _).below HB.out⟩
          · obtain rfl : sn = xn := HK.out rfl
            clear hsx
            go_quiet (fail)
            go_wp2
            go_ret
            exact ⟨rfl, (DrewOf.more (DrewOf.refl _) _).below HB.out⟩
        · obtain ⟨h1, h2⟩ := listP_head hP0 HL.out.1
          rw [HN.out.1] at h1
          have hx1 : ((xn : Int) == 0) = false := by simp; omega
          have hx4 : (0 : Int) < (xn : Int) := by omega
          by_cases hQ0 : Q = 0
          · have hy0 : yn = 0 := by rw [← HN.out.2.1, listP_len HL.out.2]; exact hQ0
            have hy1 : ((yn : Int) == 0) = true := by simp [hy0]
            clear hP0 hQ0 hy0 h2 h1
            cases ok
            · clear hsx
              go_quiet (fail)
              go_wp2
              go_ret
              exact ⟨rfl, (DrewOf.more (DrewOf.refl _) _).below HB.out⟩
            · obtain rfl : sn = xn := HK.out rfl
              clear hsx
              go_quiet (fail)
              go_wp2
              go_ret
              exact ⟨rfl, (DrewOf.more (DrewOf.refl _) _).below HB.out⟩
          · obtain ⟨g1, g2⟩ := listP_head hQ0 HL.out.2
            rw [HN.out.2.1] at g1
            have hy1 : ((yn : Int) == 0) = false := by simp; omega
            have hy4 : (0 : Int) < (yn : Int) := by omega
            obtain ⟨k1, k2⟩ := mul_head HL.out.1 HRS.out hP0 hQ0
            have hlx := log2_lim hP0 HL.out.1
            have hly := log2_lim hQ0 HL.out.2
            obtain ⟨bx, ox, rfl, cx0⟩ := HH.out.1 0 h1
            obtain ⟨by_, oy, rfl, cy0⟩ := HH.out.2.1 0 g1
            have k3 : 0 < pn := by rw [← HPN.out]; exact k1
            obtain ⟨bp, op, rfl, cp0⟩ := HH.out.2.2 0 k3
            rw [h2, Nat.add_zero] at cx0
            rw [g2, Nat.add_zero] at cy0
            rw [show (optL (some R)).getD 0 0 = P.log2 + Q.log2 from k2, Nat.add_zero] at cp0
            generalize P.log2 = lx at *
            generalize Q.log2 = ly at *
            obtain ⟨lp, hlp9⟩ : ∃ lp, lp = lx + ly := ⟨_, rfl⟩
            rw [← hlp9] at cp0
            have hw9 : IntKind.i64.wrap ((lx : Int) + (ly : Int)) = (lp : Int) := by rw [IntKind.wrap_i64]; omega
            have k4 : (0 : Int) < (pn : Int) := by omega
            clear hlp9 hP0 hQ0 h1 h2 g1 g2 k1 k2 HL
            cases ok
            · clear hsx
              go_quiet (fail)
              go_wp2
              go_ret
              exact ⟨rfl, (DrewOf.more (DrewOf.refl _) _).below HB.out⟩
            · obtain rfl : sn = xn := HK.out rfl
              clear hsx
              go_quiet (fail)
              go_wp2
              go_ret
              exact ⟨rfl, (DrewOf.more (DrewOf.refl _) _).below HB.out⟩
end Go.Proofs.Ytioagfbjjjankaa
