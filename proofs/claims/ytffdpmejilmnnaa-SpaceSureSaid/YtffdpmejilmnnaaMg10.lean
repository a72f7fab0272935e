/-
  The generator by the document.
  The document's sizes of a page.
  Blocks that were laid in this call and that nobody writes any more: they stay, whatever is called.
  Which pages of a block hold data and which parities: what the program's and the document's functions make.
  The members of a group; the document's plan; eight pages.
-/
import Derived.Test.YtffdpmejilmnnaaMg9
import Derived.Test.YtffdpmejilmnnaaMg2
namespace Go.Proofs.Ytffdpmejilmnnaa
open Go.RowKit

theorem infoIntL : (Try.prog.info? 37).map (fun i => (i.zero, i.size, i.bytes)) = some (some (.slice none 0 0), 1, 24) := by kernel_rfl
/-- The lists seen so far. -/
def SeenL (w : World) (b : Nat) (v : Value) (i : Nat) : Prop :=
  ∃ vs : Nat → Value, Row w b 37 1 v i ((List.range i).map vs) ∧ ∀ j, j < i → Row w b 3 1 (vs j) (mkL j).length (intsV (Poly.ints (mkL j)))
theorem SeenL.below {w w' : World} {b i : Nat} {v : Value} (h : SeenL w b v i) (hb : Below w.heap.size w w') : SeenL w' b v i := by
  obtain ⟨vs, h1, h2⟩ := h
  exact ⟨vs, h1.below hb, fun j hj => (h2 j hj).below hb⟩
theorem ref_minimal_odd (i : Nat) (h : i < 8) (k : Nat) (hk : k = 2 * i + 1) (w : World) : Calls Try.prog 39 #[.int .i64 (k : Int)] w (ListOf w (mkL i)) := by
  have := ref_minimal k (Gf.pw (2 * i + 1)) w (by omega) (by omega) (by rw [hk, arN_odd h])
  rw [Gf.refN_eq (Gf.pw_pos _) (Gf.pw_lt _)] at this
  exact this
set_option maxRecDepth 100000 in
set_option maxHeartbeats 2000000 in
theorem ref_generator (t : Nat) (w : World) (ht : t ≤ 8) (h0 : 0 < t) :
    Calls Try.prog 33 #[.int .i64 (t : Int)] w (ListOf w (listP (genN t))) := by
  obtain ⟨t2, ht2⟩ : ∃ t2, t2 = 2 * t := ⟨_, rfl⟩
  have w2 : IntKind.i64.wrap (2 * (t : Int)) = (t2 : Int) := by rw [IntKind.wrap_i64]; omega
  have HT := Aside.mk (And.intro ht2 (And.intro ht h0))
  clear ht2 ht h0
  go_enter Try.func33, Try.ntmps33
  go_wp2_with fail
  go_loopw [3, 4, 5] (fun s3 s4 s5 wr => ∃ i k : Nat, s5 = .int .i64 (k : Int) ∧ i ≤ t ∧ Aside (k = 2 * i + 1) ∧ SeenL wr w.heap.size s4 i ∧ Row wr w.heap.size 3 1 s3 (listP (genN i)).length (intsV (Poly.ints (listP (genN i)))) ∧ Below w.heap.size w wr) (fun _ _ s5 _ => t2 - (intOf s5).toNat)
  case atStart =>
    refine ⟨0, 1, rfl, by omega, ⟨rfl⟩, ⟨fun _ => undef, Row.nil _ _ _ _, fun j hj => by omega⟩, ?_, (Below.refl _ _).alloc (Nat.le_refl _) _⟩
    rw [gen_zero]
    exact Row.lit w w.heap.size 3 1 #[.int .i64 0] 1 (Nat.le_refl _) (by decide) rfl
  case round =>
    obtain ⟨i, k, rfl, hit, HK, hsn, hout, hbl⟩ := hrel
    obtain ⟨A6, c6, rfl⟩ : ∃ A6 c6, u4 = .slice A6 i c6 := by obtain ⟨vs, h1, _⟩ := hsn; obtain ⟨A, c, e, _⟩ := h1.slice; exact ⟨A, c, e⟩
    obtain ⟨A7, c7, rfl⟩ : ∃ A7 c7, u3 = .slice A7 (listP (genN i)).length c7 := by obtain ⟨A, c, e, _⟩ := hout.slice; exact ⟨A, c, e⟩
    have HR := Aside.mk (And.intro hsn (And.intro hout hbl))
    clear hsn hout hbl
    by_cases hlt : i < t
    · have hk2 : (k : Int) < (t2 : Int) := by have := HK.out; have := HT.out; omega
      have hwk : IntKind.i64.wrap ((k : Int) + 2) = ((k + 2 : Nat) : Int) := by have := HK.out; have := HT.out; rw [IntKind.wrap_i64]; omega
      have hi8 : i < 8 := by have := HT.out; omega
      have HMN := Aside.mk (ref_minimal_odd i hi8 k HK.out wr)
      have HI8 := Aside.mk (And.intro hi8 hlt)
      clear hi8 hlt
      have HM2 : Aside (∀ e w', ListOf wr (mkL i) e w' → ∃ A1 c1, e = .returned (.slice A1 (mkL i).length c1) ∧ Aside (Row w' w.heap.size 3 1 (.slice A1 (mkL i).length c1) (mkL i).length (intsV (Poly.ints (mkL i))) ∧ SeenL w' w.heap.size (.slice A6 i c6) i ∧ Row w' w.heap.size 3 1 (.slice A7 (listP (genN i)).length c7) (listP (genN i)).length (intsV (Poly.ints (listP (genN i)))) ∧ Below w.heap.size w w')) := ⟨by
        rintro e w' ⟨v, rfl, hr, hb⟩
        obtain ⟨A1, c1, rfl, _⟩ := hr.slice
        exact ⟨A1, c1, rfl, hr.mono HR.out.2.2.size, HR.out.1.below hb, HR.out.2.1.below hb, HR.out.2.2.trans (hb.mono HR.out.2.2.size)⟩⟩
      go_wp2_with (go_at_call 39; refine HMN.out.mono ?_; intro e w1 h1; obtain ⟨A1, c1, rfl, HM1⟩ := HM2.out e w1 h1; clear h1)
      obtain ⟨vs, hv1, hv2⟩ := HM1.out.2.1
      have HV := Aside.mk (And.intro hv1 hv2)
      clear hv1 hv2
      go_loopw [7, 8] (fun s7 s8 w5 => ∃ j : Nat, s8 = .int .i64 (j : Int) ∧ s7 = .bool false ∧ j ≤ i ∧ DrewOf w1 w5) (fun _ s8 _ => i - (intOf s8).toNat)
      case atStart => exact ⟨0, rfl, rfl, by omega, DrewOf.refl _⟩
      case round =>
        obtain ⟨j, rfl, rfl, hji, hd⟩ := hrel
        have HD := Aside.mk hd
        clear hd
        have hj1 : IntKind.i64.wrap ((j : Int) + 1) = ((j + 1 : Nat) : Int) := by have := HI8.out; rw [IntKind.wrap_i64]; omega
        by_cases hlt : j < i
        · have hrow : Row wr w.heap.size 37 1 (.slice A6 i c6) i ((List.range i).map vs) := by obtain ⟨q, hq⟩ := HD.out; rw [hq]; exact HV.out.1.drewN q
          obtain ⟨b6, o6, cap, e6, x1, x2, x3⟩ := hrow.form (by omega)
          injection e6 with e6 e7 e8
          subst e6; subst e8
          clear e7
          have hy := (hrow.at_ rfl j hlt).1
          have hgj : ((List.range i).map vs).getD j undef = vs j := by simp [List.getD_eq_getElem?_getD, hlt]
          rw [hgj] at hy
          have hrj : Row wr w.heap.size 3 1 (vs j) (mkL j).length (intsV (Poly.ints (mkL j))) := by obtain ⟨q, hq⟩ := HD.out; rw [hq]; exact (HV.out.2 j hlt).drewN q
          have hrm : Row wr w.heap.size 3 1 (.slice A1 (mkL i).length c1) (mkL i).length (intsV (Poly.ints (mkL i))) := by obtain ⟨q, hq⟩ := HD.out; rw [hq]; exact HM1.out.1.drewN q
          obtain ⟨A2, c2, hvj, hl2, x4, x5, hrd2⟩ := hrj.readInts
          obtain ⟨A1', c1', e1, hl1, x6, x7, hrd1⟩ := hrm.readInts
          injection e1 with e1 e3 e2
          subst e1; subst e2
          clear e3
          rw [hvj] at hy
          have HSM := Aside.mk (ref_same A2 A1 (mkL j).length c2 (mkL i).length c1 (Poly.ints (mkL j)) (Poly.ints (mkL i)) wr hl2 (by have := mkL_len j; omega) hrd2 hl1 (by have := mkL_len i; omega) hrd1)
          have HNE := Aside.mk (decide_eq_false (fun e => by have := mkL_inj (by have := HI8.out; omega) HI8.out.1 e; omega : ¬ Poly.ints (mkL j) = Poly.ints (mkL i)))
          have hj2 : (0 : Int) ≤ (j : Int) := by omega
          have hj3 : (j : Int) < (i : Int) := by omega
          have HJ := Aside.mk hlt
          clear hrow hgj hrj hrm hvj hl2 hrd2 hl1 hrd1 hlt x1 x2 x3 x4 x5 x6 x7
          go_wp2_with (go_at_call 40; refine HSM.out.mono ?_; rw [HNE.out]; rintro e w6 ⟨rfl, hd6⟩; have HD6 := Aside.mk hd6; clear hd6)
          go_roundw
          case rel => exact ⟨j + 1, rfl, rfl, by have := HJ.out; omega, HD.out.trans HD6.out⟩
          case measure => have := HJ.out; simp [intOf]; omega
        · have hrow : Row wr w.heap.size 37 1 (.slice A6 i c6) i ((List.range i).map vs) := by obtain ⟨q, hq⟩ := HD.out; rw [hq]; exact HV.out.1.drewN q
          have HRW := Aside.mk hrow
          have HBW : Aside (Below w.heap.size w wr) := ⟨by obtain ⟨q, hq⟩ := HD.out; rw [hq]; exact HM1.out.2.2.2.trans ⟨rfl, rfl, rfl, Nat.le_refl _, fun _ _ => rfl⟩⟩
          have HKP : Aside (∀ {v : Value} {n : Nat} {xs : List Value}, Row w1 w.heap.size 3 1 v n xs → Row wr w.heap.size 3 1 v n xs) := ⟨fun h => by obtain ⟨q, hq⟩ := HD.out; rw [hq]; exact h.drewN q⟩
          have HAP : Aside (∀ v4 w4, Row w4 w.heap.size 37 1 v4 (i + 1) ((List.range i).map vs ++ [.slice A1 (mkL i).length c1]) → wr.grownBy w4 (Value.slice A6 i c6).ownBlock → Below w.heap.size wr w4 →
              Aside (SeenL w4 w.heap.size v4 (i + 1) ∧ Below w.heap.size w w4 ∧ Row w4 w.heap.size 3 1 (.slice A1 (mkL i).length c1) (mkL i).length (intsV (Poly.ints (mkL i))) ∧ Row w4 w.heap.size 3 1 (.slice A7 (listP (genN i)).length c7) (listP (genN i)).length (intsV (Poly.ints (listP (genN i)))))) := ⟨by
            intro v4 w4 hr4 hg4 hb4
            have hk : ∀ {v : Value} {n : Nat} {xs : List Value}, Row w1 w.heap.size 3 1 v n xs → Row w4 w.heap.size 3 1 v n xs := fun h => (HKP.out h).kept hg4 (Row.other (HKP.out h) HRW.out (by decide))
            refine ⟨⟨fun j => if j = i then .slice A1 (mkL i).length c1 else vs j, ?_, fun j hj => ?_⟩, HBW.out.trans hb4, hk HM1.out.1, hk HM1.out.2.2.1⟩
            · have e : (List.range (i + 1)).map (fun j => if j = i then Value.slice A1 (mkL i).length c1 else vs j) = (List.range i).map vs ++ [.slice A1 (mkL i).length c1] := by
                rw [List.range_succ, List.map_append]
                congr 1
                · apply List.map_congr_left
                  intro j hj
                  rw [if_neg (by have := List.mem_range.1 hj; omega)]
                · simp
              rw [e]
              exact hr4
            · by_cases hji : j = i
              · subst hji
                simp only [if_true]
                exact hk HM1.out.1
              · simp only [if_neg hji]
                exact hk (HV.out.2 j (by omega))⟩
          have HML : Aside (∀ w4, Row w4 w.heap.size 3 1 (.slice A1 (mkL i).length c1) (mkL i).length (intsV (Poly.ints (mkL i))) → Row w4 w.heap.size 3 1 (.slice A7 (listP (genN i)).length c7) (listP (genN i)).length (intsV (Poly.ints (listP (genN i)))) →
              Calls Try.prog 41 #[.slice A7 (listP (genN i)).length c7, .slice A1 (mkL i).length c1] w4 (PairOf w4 (some (genN (i + 1))))) := ⟨fun w4 h1 h2 => by
            have := lrmul (.slice A7 (listP (genN i)).length c7) (.slice A1 (mkL i).length c1) (Poly.ints (listP (genN i))) (Poly.ints (mkL i)) w4 (Row.lrd h2 (listP_short _)) (Row.lrd h1 (by have := mkL_len i; omega))
            rw [bits_gen (by have := HI8.out.1; omega), bits_mk HI8.out.1, gen_mul HI8.out.1] at this
            exact this⟩
          have hj3 : ¬ (j : Int) < (i : Int) := by omega
          clear hlt hrow
          go_wp2_with (first | (at_builtin; refine wpList_append_one (w0 := wr) w.heap.size rfl _ _ 99 37 1 24 (.slice none 0 0) rfl Try.underlying99 infoIntL rfl (by decide) (.slice A6 i c6) i ((List.range i).map vs) #[.slice A1 (mkL i).length c1] rfl rfl rfl HRW.out (by simp [Value.oneCell']) (Below.refl _ _) HBW.out.size (by have := HI8.out; omega) (by have := HI8.out; simp only [maxLen]; omega) ?_; intro v4 w4 hr4 hb4 hg4 hat4; have HS4 := HAP.out v4 w4 hr4 hg4 hb4; clear hr4 hb4 hg4 hat4) | (go_at_call 41; refine (HML.out _ HS4.out.2.2.1 HS4.out.2.2.2).mono ?_; rintro e w5 ⟨v5, rfl, hr5, hb5⟩; have H5 := Aside.mk (And.intro hr5 hb5); clear hr5 hb5))
          go_roundw
          case rel =>
            obtain ⟨hs4, hb4, hm4, ho4⟩ := HS4.out
            obtain ⟨hr5, hb5⟩ := H5.out
            exact ⟨i + 1, k + 2, rfl, HI8.out.2, ⟨by have := HK.out; omega⟩, hs4.below hb5, hr5.mono hb4.size, hb4.trans (hb5.mono hb4.size)⟩
          case measure => have := HK.out; have := HT.out; have := HI8.out; simp [intOf]; omega
    · have hk2 : ¬ (k : Int) < (t2 : Int) := by have := HK.out; have := HT.out; omega
      have hit2 : i = t := by omega
      have HI := Aside.mk hit2
      clear hit2 hlt hit
      go_wp2
      go_ret
      exact ⟨_, rfl, by rw [← HI.out]; exact HR.out.2.1, HR.out.2.2⟩
end Go.Proofs.Ytffdpmejilmnnaa
namespace Go.Proofs.Ytffdpmejilmnnaa
open Go.RowKit

theorem page_raw_not (b p c ch t : Int) (w : World) (hg : ¬ goodP b p c ch t) :
    Calls Try.prog 12 #[geoV b p c ch t] w fun e w' => e = .returned (.tuple #[.int .i64 0, .int .i64 0]) ∧ Below w.heap.size w w' := by
  have hb := (Below.refl w.heap.size w).alloc (Nat.le_refl _) (.cells #[.int .i64 b, .int .i64 p, .int .i64 c, .int .i64 ch, .int .i64 t] 29)
  have HB := Aside.mk hb
  have HG := Aside.mk hg
  clear hb hg
  go_enter Try.func12, Try.ntmps12
  go_wp2_with (go_at_call 19; refine (code_of_not b p c ch t _ HG.out).mono ?_; rintro e w1 ⟨rfl, hb1⟩)
  go_ret2
  exact ⟨rfl, HB.out.trans (hb1.mono HB.out.size)⟩
set_option maxRecDepth 20000 in
set_option maxHeartbeats 4000000 in
theorem ref_good (b p c ch t : Int) (w : World) :
    Calls Try.prog 22 #[geoV b p c ch t] w fun e w' => e = .returned (.bool (decide (goodP b p c ch t))) ∧ Below w.heap.size w w' := by
  have hb := (Below.refl w.heap.size w).alloc (Nat.le_refl _) (.cells #[.int .i64 b, .int .i64 p, .int .i64 c, .int .i64 ch, .int .i64 t] 33)
  have HB := Aside.mk hb
  clear hb
  go_enter Try.func22, Try.ntmps22
  by_cases hg : goodP b p c ch t
  · rw [good_yes hg]
    obtain ⟨h0, h1, h2, h3, h4, h5, h6, h7, h8, h9, h10⟩ := hg
    have hm : p.tmod 4 = 0 := by rw [Int.tmod_eq_emod_of_nonneg (by omega)]; exact h4
    go_wp2
    go_ret
    exact ⟨rfl, HB.out⟩
  · rw [good_no hg]
    have HG := Aside.mk hg
    clear hg
    by_cases h0 : 1 ≤ b
    · by_cases h1 : b ≤ 64
      · by_cases h2 : 4 ≤ p
        · by_cases h3 : p ≤ 64
          · by_cases h4 : p % 4 = 0
            · have hm : p.tmod 4 = 0 := by rw [Int.tmod_eq_emod_of_nonneg (by omega)]; exact h4
              by_cases h5 : 1 ≤ c
              · by_cases h6 : c ≤ 4
                · by_cases h7 : 16 ≤ ch
                  · by_cases h8 : ch ≤ 256
                    · by_cases h9 : 1 ≤ t
                      · by_cases h10 : t ≤ 8
                        · exact absurd ⟨h0, h1, h2, h3, h4, h5, h6, h7, h8, h9, h10⟩ HG.out
                        · go_wp2
                          go_ret
                          exact ⟨rfl, HB.out⟩
                      · go_wp2
                        go_ret
                        exact ⟨rfl, HB.out⟩
                    · go_wp2
                      go_ret
                      exact ⟨rfl, HB.out⟩
                  · go_wp2
                    go_ret
                    exact ⟨rfl, HB.out⟩
                · go_wp2
                  go_ret
                  exact ⟨rfl, HB.out⟩
              · go_wp2
                go_ret
                exact ⟨rfl, HB.out⟩
            · have hm : ¬ p.tmod 4 = 0 := by rw [Int.tmod_eq_emod_of_nonneg (by omega)]; exact h4
              have hm2 : (p % 4 != 0) = true := by simpa using h4
              go_wp2
              go_ret
              exact ⟨rfl, HB.out⟩
          · go_wp2
            go_ret
            exact ⟨rfl, HB.out⟩
        · go_wp2
          go_ret
          exact ⟨rfl, HB.out⟩
      · go_wp2
        go_ret
        exact ⟨rfl, HB.out⟩
    · go_wp2
      go_ret
      exact ⟨rfl, HB.out⟩
theorem gen_head {t : Nat} (ht : t ≤ 8) : (listP (genN t)).getD 0 0 = degN t := by
  have e : listP (genN t) = (genN t).log2 :: Poly.fall Poly.lim (genN t ^^^ 2 ^ (genN t).log2) := Poly.fall_top (gen_lt t ht).2 (gen_lim ht)
  rw [e]; rfl
theorem ref_degree (t : Nat) (w : World) (ht : t ≤ 8) (h1 : 1 ≤ t) :
    Calls Try.prog 23 #[.int .i64 (t : Int)] w fun e w' => e = .returned (.int .i64 (degN t : Int)) ∧ Below w.heap.size w w' := by
  have HG : Aside (Calls Try.prog 33 #[.int .i64 (t : Int)] w fun e w' => ∃ g off len cap, e = .returned (.slice (some ⟨g, off, none⟩) len cap) ∧ w'.cell? ⟨g, off, none⟩ = some (.int .i64 (degN t : Int)) ∧ (0 : Int) < (len : Int) ∧ 0 < len ∧ Aside (Below w.heap.size w w')) := ⟨by
    refine (ref_generator t w ht (by omega)).mono ?_
    rintro e w1 ⟨v, rfl, hr, hb⟩
    have h2 := gen_two ht h1
    obtain ⟨g, off, cap, rfl, _⟩ := hr.form (by omega)
    have hat := (hr.at_ rfl 0 (by omega)).1
    have hv : (intsV (Poly.ints (listP (genN t)))).getD 0 undef = .int .i64 (degN t : Int) := by
      rw [← gen_head ht]
      simp [intsV, Poly.ints, show 0 < (listP (genN t)).length by omega]
    rw [hv, Nat.add_zero] at hat
    exact ⟨g, off, _, cap, rfl, hat, by omega, by omega, ⟨hb⟩⟩⟩
  clear ht h1
  go_enter Try.func23, Try.ntmps23
  go_wp2_with (go_at_call 33; refine HG.out.mono ?_; rintro e w1 ⟨g, off, len, cap, rfl, hcell, hl1, hl2, HB⟩)
  go_ret
  exact ⟨rfl, HB.out⟩
set_option maxRecDepth 20000 in
set_option maxHeartbeats 2000000 in
theorem ref_sizes (b p c ch t : Int) (w : World) (hg : goodP b p c ch t) :
    Calls Try.prog 14 #[geoV b p c ch t] w fun e w' => e = .returned (.tuple #[.int .i64 (rawI c ch t), .int .i64 (payI c ch)]) ∧ Below w.heap.size w w' := by
  have hb := (Below.refl w.heap.size w).alloc (Nat.le_refl _) (.cells #[.int .i64 b, .int .i64 p, .int .i64 c, .int .i64 ch, .int .i64 t] 33)
  have HB := Aside.mk hb
  have HG := Aside.mk hg
  have HGC := Aside.mk (ref_good b p c ch t)
  rw [good_yes hg] at HGC
  clear hb hg
  go_enter Try.func14, Try.ntmps14
  go_upto_region 3 with (go_at_call 22; refine (HGC.out _).mono ?_; rintro e w2 ⟨rfl, hb2⟩)
  have hs : w.heap.size < (w.alloc (.cells #[.int .i64 b, .int .i64 p, .int .i64 c, .int .i64 ch, .int .i64 t] 33)).heap.size := by simp
  have hblk : w2.heap[w.heap.size]? = some (.cells #[.int .i64 b, .int .i64 p, .int .i64 c, .int .i64 ch, .int .i64 t] 33 (0, 0)) := (hb2.block _ hs).trans (heap_alloc_new w _)
  have HBK := Aside.mk hblk
  have HB2 : Aside (Below w.heap.size w w2 ∧ w.heap.size ≤ w2.heap.size) := ⟨HB.out.trans (hb2.mono HB.out.size), (HB.out.trans (hb2.mono HB.out.size)).size⟩
  obtain ⟨tn, htn⟩ : ∃ tn : Nat, (tn : Int) = t := ⟨t.toNat, by have := HG.out.2.2.2.2.2.2.2.2.2; omega⟩
  have htz : t.toNat = tn := by omega
  have HTN : Aside (tn ≤ 8 ∧ 1 ≤ tn) := ⟨by have := HG.out.2.2.2.2.2.2.2.2.2; omega⟩
  have hbd := raw_bounds HG.out
  have h7 : payI c ch = c * ch - 7 := rfl
  have hr : rawI c ch t = c * (ch + (lowN8 t.toNat : Int)) := rfl
  have hdg : ((degN tn : Int) + 7) / 8 = (lowN8 tn : Int) := by unfold lowN8; omega
  have hdl : degN tn ≤ 1000 := by have := (degN_le tn (by have := HTN.out; omega) HTN.out.2).2; have := HTN.out; omega
  have HH := Aside.mk (And.intro h7 hr)
  rw [htz] at HH hbd
  subst htn
  have HLL : Aside (0 ≤ (lowN8 tn : Int) ∧ (lowN8 tn : Int) ≤ 200) := ⟨by unfold lowN8; omega⟩
  generalize (lowN8 tn : Int) = L at *
  have HDE := Aside.mk (fun W => ref_degree tn W HTN.out.1 HTN.out.2)
  have e0 : IntKind.i64.wrap ((degN tn : Int) + 7) = (degN tn : Int) + 7 := by rw [IntKind.wrap_i64]; omega
  have e6 : ((degN tn : Int) + 7).tdiv 8 = L := by rw [Int.tdiv_eq_ediv_of_nonneg (by omega)]; exact hdg
  generalize hdd : (degN tn : Int) = dd at *
  have e1 : IntKind.i64.wrap (ch + L) = ch + L := by rw [IntKind.wrap_i64]; omega
  have e2 : IntKind.i64.wrap (c * (ch + L)) = c * (ch + L) := by rw [IntKind.wrap_i64]; omega
  have e3 : IntKind.i64.wrap (c * ch) = c * ch := by rw [IntKind.wrap_i64]; omega
  have e5 : IntKind.i64.wrap (c * ch - 7) = c * ch - 7 := by rw [IntKind.wrap_i64]; omega
  have hL0 : 0 ≤ L := by have := HLL.out; omega
  have hL1 : L ≤ 300 := by have := HLL.out; omega
  clear hbd hs hb2 hblk h7 hr hdg hdl hdd htz
  refine wp_region_r 19 (by kernel_rfl) (by kernel_rfl) (rel_small (by kernel_rfl)) (chgV (fun _ => False) (fun _ => True) [(2, .val (.int .i64 (c * (ch + L)))), (3, .val (.int .i64 (c * ch - 7))), (7, .val (.pointer (some ⟨w.heap.size, 2, none⟩))), (8, .val (.int .i64 c)), (9, .val (.pointer (some ⟨w.heap.size, 3, none⟩))), (10, .val (.int .i64 ch)), (11, .val (.pointer (some ⟨w.heap.size, 4, none⟩))), (12, .val (.int .i64 (tn : Nat))), (13, .val (.int .i64 dd)), (14, .val (.int .i64 (dd + 7))), (15, .val (.int .i64 L)), (16, .val (.int .i64 (ch + L))), (17, .val (.int .i64 (c * (ch + L)))), (18, .val (.pointer (some ⟨w.heap.size, 2, none⟩))), (19, .val (.int .i64 c)), (20, .val (.pointer (some ⟨w.heap.size, 3, none⟩))), (21, .val (.int .i64 ch)), (22, .val (.int .i64 (c * ch))), (23, .val (.int .i64 (c * ch - 7)))]) (Chg (fun _ => False) (fun _ => True)) (chg_drew _ _ _ (id)) Chg.refl (fun _ _ _ => Chg.trans) (chgV_stable _ _ _) ⟨?_, ?_, ?_, ?_, ?_, ?_, ?_, ?_, ?_, ?_, ?_, ?_, ?_, ?_, ?_, ?_, ?_, ?_, ?_, trivial⟩ ?_
  · -- 7 := fieldAddr 33 t1 2
    intro f W hW hold hd K hK
    refine .inl ⟨wanted_free rfl _, ?_⟩
    dsimp only [bare]
    have ze1 : f 1 = .pointer (some ⟨w.heap.size, 0, none⟩) := hold 1 rfl
    have HK : ∀ v W', Chg (fun _ => False) (fun _ => True) W W' → chgV (fun _ => False) (fun _ => True) _ 7 v W' → K { tmps := #[f 0, f 1, f 2, f 3, f 4, f 5, f 6, v, f 8, f 9, f 10, f 11, f 12, f 13, f 14, f 15, f 16, f 17, f 18, f 19, f 20, f 21, f 22, f 23], defers := [] } W' := hK
    change wpList _ #[_] _ [_] { tmps := #[f 0, f 1, f 2, f 3, f 4, f 5, f 6, f 7, f 8, f 9, f 10, f 11, f 12, f 13, f 14, f 15, f 16, f 17, f 18, f 19, f 20, f 21, f 22, f 23], defers := [] } W
    clear hK hd hold
    simp only [ze1] at HK ⊢
    clear ze1
    have HK := Aside.mk HK
    go_wp2
    exact HK.out _ _ (Chg.refl _) rfl
  · -- 8 := load 3 t7
    intro f W hW hold hd K hK
    refine .inl ⟨wanted_free rfl _, ?_⟩
    dsimp only [bare]
    have ze7 : f 7 = .pointer (some ⟨w.heap.size, 2, none⟩) := hd 7 rfl rfl
    have HK : ∀ v W', Chg (fun _ => False) (fun _ => True) W W' → chgV (fun _ => False) (fun _ => True) _ 8 v W' → K { tmps := #[f 0, f 1, f 2, f 3, f 4, f 5, f 6, f 7, v, f 9, f 10, f 11, f 12, f 13, f 14, f 15, f 16, f 17, f 18, f 19, f 20, f 21, f 22, f 23], defers := [] } W' := hK
    change wpList _ #[_] _ [_] { tmps := #[f 0, f 1, f 2, f 3, f 4, f 5, f 6, f 7, f 8, f 9, f 10, f 11, f 12, f 13, f 14, f 15, f 16, f 17, f 18, f 19, f 20, f 21, f 22, f 23], defers := [] } W
    clear hK hd hold
    simp only [ze7] at HK ⊢
    clear ze7
    have HK := Aside.mk HK
    have hh := hW.blk (HBK.out) (id); have hcell := cell_of_row W (w.heap.size) 2 _ _ _ hh; clear hh
    go_wp2
    exact HK.out _ _ (Chg.refl _) rfl
  · -- 9 := fieldAddr 33 t1 3
    intro f W hW hold hd K hK
    refine .inl ⟨wanted_free rfl _, ?_⟩
    dsimp only [bare]
    have ze1 : f 1 = .pointer (some ⟨w.heap.size, 0, none⟩) := hold 1 rfl
    have HK : ∀ v W', Chg (fun _ => False) (fun _ => True) W W' → chgV (fun _ => False) (fun _ => True) _ 9 v W' → K { tmps := #[f 0, f 1, f 2, f 3, f 4, f 5, f 6, f 7, f 8, v, f 10, f 11, f 12, f 13, f 14, f 15, f 16, f 17, f 18, f 19, f 20, f 21, f 22, f 23], defers := [] } W' := hK
    change wpList _ #[_] _ [_] { tmps := #[f 0, f 1, f 2, f 3, f 4, f 5, f 6, f 7, f 8, f 9, f 10, f 11, f 12, f 13, f 14, f 15, f 16, f 17, f 18, f 19, f 20, f 21, f 22, f 23], defers := [] } W
    clear hK hd hold
    simp only [ze1] at HK ⊢
    clear ze1
    have HK := Aside.mk HK
    go_wp2
    exact HK.out _ _ (Chg.refl _) rfl
  · -- 10 := load 3 t9
    intro f W hW hold hd K hK
    refine .inl ⟨wanted_free rfl _, ?_⟩
    dsimp only [bare]
    have ze9 : f 9 = .pointer (some ⟨w.heap.size, 3, none⟩) := hd 9 rfl rfl
    have HK : ∀ v W', Chg (fun _ => False) (fun _ => True) W W' → chgV (fun _ => False) (fun _ => True) _ 10 v W' → K { tmps := #[f 0, f 1, f 2, f 3, f 4, f 5, f 6, f 7, f 8, f 9, v, f 11, f 12, f 13, f 14, f 15, f 16, f 17, f 18, f 19, f 20, f 21, f 22, f 23], defers := [] } W' := hK
    change wpList _ #[_] _ [_] { tmps := #[f 0, f 1, f 2, f 3, f 4, f 5, f 6, f 7, f 8, f 9, f 10, f 11, f 12, f 13, f 14, f 15, f 16, f 17, f 18, f 19, f 20, f 21, f 22, f 23], defers := [] } W
    clear hK hd hold
    simp only [ze9] at HK ⊢
    clear ze9
    have HK := Aside.mk HK
    have hh := hW.blk (HBK.out) (id); have hcell := cell_of_row W (w.heap.size) 3 _ _ _ hh; clear hh
    go_wp2
    exact HK.out _ _ (Chg.refl _) rfl
  · -- 11 := fieldAddr 33 t1 4
    intro f W hW hold hd K hK
    refine .inl ⟨wanted_free rfl _, ?_⟩
    dsimp only [bare]
    have ze1 : f 1 = .pointer (some ⟨w.heap.size, 0, none⟩) := hold 1 rfl
    have HK : ∀ v W', Chg (fun _ => False) (fun _ => True) W W' → chgV (fun _ => False) (fun _ => True) _ 11 v W' → K { tmps := #[f 0, f 1, f 2, f 3, f 4, f 5, f 6, f 7, f 8, f 9, f 10, v, f 12, f 13, f 14, f 15, f 16, f 17, f 18, f 19, f 20, f 21, f 22, f 23], defers := [] } W' := hK
    change wpList _ #[_] _ [_] { tmps := #[f 0, f 1, f 2, f 3, f 4, f 5, f 6, f 7, f 8, f 9, f 10, f 11, f 12, f 13, f 14, f 15, f 16, f 17, f 18, f 19, f 20, f 21, f 22, f 23], defers := [] } W
    clear hK hd hold
    simp only [ze1] at HK ⊢
    clear ze1
    have HK := Aside.mk HK
    go_wp2
    exact HK.out _ _ (Chg.refl _) rfl
  · -- 12 := load 3 t11
    intro f W hW hold hd K hK
    refine .inl ⟨wanted_free rfl _, ?_⟩
    dsimp only [bare]
    have ze11 : f 11 = .pointer (some ⟨w.heap.size, 4, none⟩) := hd 11 rfl rfl
    have HK : ∀ v W', Chg (fun _ => False) (fun _ => True) W W' → chgV (fun _ => False) (fun _ => True) _ 12 v W' → K { tmps := #[f 0, f 1, f 2, f 3, f 4, f 5, f 6, f 7, f 8, f 9, f 10, f 11, v, f 13, f 14, f 15, f 16, f 17, f 18, f 19, f 20, f 21, f 22, f 23], defers := [] } W' := hK
    change wpList _ #[_] _ [_] { tmps := #[f 0, f 1, f 2, f 3, f 4, f 5, f 6, f 7, f 8, f 9, f 10, f 11, f 12, f 13, f 14, f 15, f 16, f 17, f 18, f 19, f 20, f 21, f 22, f 23], defers := [] } W
    clear hK hd hold
    simp only [ze11] at HK ⊢
    clear ze11
    have HK := Aside.mk HK
    have hh := hW.blk (HBK.out) (id); have hcell := cell_of_row W (w.heap.size) 4 _ _ _ hh; clear hh
    go_wp2
    exact HK.out _ _ (Chg.refl _) rfl
  · -- 13 := CALL f23 chert/chertref04.Degree [t12] : [3]
    intro f W hW hold hd K hK
    refine .inl ⟨wanted_free rfl _, ?_⟩
    dsimp only [bare]
    have ze12 : f 12 = .int .i64 (tn : Nat) := hd 12 rfl rfl
    have HK : ∀ v W', Chg (fun _ => False) (fun _ => True) W W' → chgV (fun _ => False) (fun _ => True) _ 13 v W' → K { tmps := #[f 0, f 1, f 2, f 3, f 4, f 5, f 6, f 7, f 8, f 9, f 10, f 11, f 12, v, f 14, f 15, f 16, f 17, f 18, f 19, f 20, f 21, f 22, f 23], defers := [] } W' := hK
    change wpList _ #[_] _ [_] { tmps := #[f 0, f 1, f 2, f 3, f 4, f 5, f 6, f 7, f 8, f 9, f 10, f 11, f 12, f 13, f 14, f 15, f 16, f 17, f 18, f 19, f 20, f 21, f 22, f 23], defers := [] } W
    clear hK hd hold
    simp only [ze12] at HK ⊢
    clear ze12
    have HK := Aside.mk HK
    go_wp2_with (go_at_call 23; refine (HDE.out W).mono ?_; rintro e w3 ⟨rfl, hb3⟩)
    exact HK.out _ _ (Chg.of_below hb3 id) rfl
  · -- 14 := binOp add 3 t13 <i64 7> 3
    intro f W hW hold hd K hK
    refine .inl ⟨wanted_free rfl _, ?_⟩
    dsimp only [bare]
    have ze13 : f 13 = .int .i64 dd := hd 13 rfl rfl
    have HK : ∀ v W', Chg (fun _ => False) (fun _ => True) W W' → chgV (fun _ => False) (fun _ => True) _ 14 v W' → K { tmps := #[f 0, f 1, f 2, f 3, f 4, f 5, f 6, f 7, f 8, f 9, f 10, f 11, f 12, f 13, v, f 15, f 16, f 17, f 18, f 19, f 20, f 21, f 22, f 23], defers := [] } W' := hK
    change wpList _ #[_] _ [_] { tmps := #[f 0, f 1, f 2, f 3, f 4, f 5, f 6, f 7, f 8, f 9, f 10, f 11, f 12, f 13, f 14, f 15, f 16, f 17, f 18, f 19, f 20, f 21, f 22, f 23], defers := [] } W
    clear hK hd hold
    simp only [ze13] at HK ⊢
    clear ze13
    have HK := Aside.mk HK
    go_wp2
    exact HK.out _ _ (Chg.refl _) rfl
  · -- 15 := binOp quo 3 t14 <i64 8> 3
    intro f W hW hold hd K hK
    refine .inl ⟨wanted_free rfl _, ?_⟩
    dsimp only [bare]
    have ze14 : f 14 = .int .i64 (dd + 7) := hd 14 rfl rfl
    have HK : ∀ v W', Chg (fun _ => False) (fun _ => True) W W' → chgV (fun _ => False) (fun _ => True) _ 15 v W' → K { tmps := #[f 0, f 1, f 2, f 3, f 4, f 5, f 6, f 7, f 8, f 9, f 10, f 11, f 12, f 13, f 14, v, f 16, f 17, f 18, f 19, f 20, f 21, f 22, f 23], defers := [] } W' := hK
    change wpList _ #[_] _ [_] { tmps := #[f 0, f 1, f 2, f 3, f 4, f 5, f 6, f 7, f 8, f 9, f 10, f 11, f 12, f 13, f 14, f 15, f 16, f 17, f 18, f 19, f 20, f 21, f 22, f 23], defers := [] } W
    clear hK hd hold
    simp only [ze14] at HK ⊢
    clear ze14
    have HK := Aside.mk HK
    go_wp2
    exact HK.out _ _ (Chg.refl _) rfl
  · -- 16 := binOp add 3 t10 t15 3
    intro f W hW hold hd K hK
    refine .inl ⟨wanted_free rfl _, ?_⟩
    dsimp only [bare]
    have ze10 : f 10 = .int .i64 ch := hd 10 rfl rfl
    have ze15 : f 15 = .int .i64 L := hd 15 rfl rfl
    have HK : ∀ v W', Chg (fun _ => False) (fun _ => True) W W' → chgV (fun _ => False) (fun _ => True) _ 16 v W' → K { tmps := #[f 0, f 1, f 2, f 3, f 4, f 5, f 6, f 7, f 8, f 9, f 10, f 11, f 12, f 13, f 14, f 15, v, f 17, f 18, f 19, f 20, f 21, f 22, f 23], defers := [] } W' := hK
    change wpList _ #[_] _ [_] { tmps := #[f 0, f 1, f 2, f 3, f 4, f 5, f 6, f 7, f 8, f 9, f 10, f 11, f 12, f 13, f 14, f 15, f 16, f 17, f 18, f 19, f 20, f 21, f 22, f 23], defers := [] } W
    clear hK hd hold
    simp only [ze10, ze15] at HK ⊢
    clear ze10 ze15
    have HK := Aside.mk HK
    go_wp2
    exact HK.out _ _ (Chg.refl _) rfl
  · -- 17 := binOp mul 3 t8 t16 3
    intro f W hW hold hd K hK
    refine .inl ⟨wanted_free rfl _, ?_⟩
    dsimp only [bare]
    have ze8 : f 8 = .int .i64 c := hd 8 rfl rfl
    have ze16 : f 16 = .int .i64 (ch + L) := hd 16 rfl rfl
    have HK : ∀ v W', Chg (fun _ => False) (fun _ => True) W W' → chgV (fun _ => False) (fun _ => True) _ 17 v W' → K { tmps := #[f 0, f 1, f 2, f 3, f 4, f 5, f 6, f 7, f 8, f 9, f 10, f 11, f 12, f 13, f 14, f 15, f 16, v, f 18, f 19, f 20, f 21, f 22, f 23], defers := [] } W' := hK
    change wpList _ #[_] _ [_] { tmps := #[f 0, f 1, f 2, f 3, f 4, f 5, f 6, f 7, f 8, f 9, f 10, f 11, f 12, f 13, f 14, f 15, f 16, f 17, f 18, f 19, f 20, f 21, f 22, f 23], defers := [] } W
    clear hK hd hold
    simp only [ze8, ze16] at HK ⊢
    clear ze8 ze16
    have HK := Aside.mk HK
    go_wp2
    exact HK.out _ _ (Chg.refl _) rfl
  · -- 18 := fieldAddr 33 t1 2
    intro f W hW hold hd K hK
    refine .inl ⟨wanted_free rfl _, ?_⟩
    dsimp only [bare]
    have ze1 : f 1 = .pointer (some ⟨w.heap.size, 0, none⟩) := hold 1 rfl
    have HK : ∀ v W', Chg (fun _ => False) (fun _ => True) W W' → chgV (fun _ => False) (fun _ => True) _ 18 v W' → K { tmps := #[f 0, f 1, f 2, f 3, f 4, f 5, f 6, f 7, f 8, f 9, f 10, f 11, f 12, f 13, f 14, f 15, f 16, f 17, v, f 19, f 20, f 21, f 22, f 23], defers := [] } W' := hK
    change wpList _ #[_] _ [_] { tmps := #[f 0, f 1, f 2, f 3, f 4, f 5, f 6, f 7, f 8, f 9, f 10, f 11, f 12, f 13, f 14, f 15, f 16, f 17, f 18, f 19, f 20, f 21, f 22, f 23], defers := [] } W
    clear hK hd hold
    simp only [ze1] at HK ⊢
    clear ze1
    have HK := Aside.mk HK
    go_wp2
    exact HK.out _ _ (Chg.refl _) rfl
  · -- 19 := load 3 t18
    intro f W hW hold hd K hK
    refine .inl ⟨wanted_free rfl _, ?_⟩
    dsimp only [bare]
    have ze18 : f 18 = .pointer (some ⟨w.heap.size, 2, none⟩) := hd 18 rfl rfl
    have HK : ∀ v W', Chg (fun _ => False) (fun _ => True) W W' → chgV (fun _ => False) (fun _ => True) _ 19 v W' → K { tmps := #[f 0, f 1, f 2, f 3, f 4, f 5, f 6, f 7, f 8, f 9, f 10, f 11, f 12, f 13, f 14, f 15, f 16, f 17, f 18, v, f 20, f 21, f 22, f 23], defers := [] } W' := hK
    change wpList _ #[_] _ [_] { tmps := #[f 0, f 1, f 2, f 3, f 4, f 5, f 6, f 7, f 8, f 9, f 10, f 11, f 12, f 13, f 14, f 15, f 16, f 17, f 18, f 19, f 20, f 21, f 22, f 23], defers := [] } W
    clear hK hd hold
    simp only [ze18] at HK ⊢
    clear ze18
    have HK := Aside.mk HK
    have hh := hW.blk (HBK.out) (id); have hcell := cell_of_row W (w.heap.size) 2 _ _ _ hh; clear hh
    go_wp2
    exact HK.out _ _ (Chg.refl _) rfl
  · -- 20 := fieldAddr 33 t1 3
    intro f W hW hold hd K hK
    refine .inl ⟨wanted_free rfl _, ?_⟩
    dsimp only [bare]
    have ze1 : f 1 = .pointer (some ⟨w.heap.size, 0, none⟩) := hold 1 rfl
    have HK : ∀ v W', Chg (fun _ => False) (fun _ => True) W W' → chgV (fun _ => False) (fun _ => True) _ 20 v W' → K { tmps := #[f 0, f 1, f 2, f 3, f 4, f 5, f 6, f 7, f 8, f 9, f 10, f 11, f 12, f 13, f 14, f 15, f 16, f 17, f 18, f 19, v, f 21, f 22, f 23], defers := [] } W' := hK
    change wpList _ #[_] _ [_] { tmps := #[f 0, f 1, f 2, f 3, f 4, f 5, f 6, f 7, f 8, f 9, f 10, f 11, f 12, f 13, f 14, f 15, f 16, f 17, f 18, f 19, f 20, f 21, f 22, f 23], defers := [] } W
    clear hK hd hold
    simp only [ze1] at HK ⊢
    clear ze1
    have HK := Aside.mk HK
    go_wp2
    exact HK.out _ _ (Chg.refl _) rfl
  · -- 21 := load 3 t20
    intro f W hW hold hd K hK
    refine .inl ⟨wanted_free rfl _, ?_⟩
    dsimp only [bare]
    have ze20 : f 20 = .pointer (some ⟨w.heap.size, 3, none⟩) := hd 20 rfl rfl
    have HK : ∀ v W', Chg (fun _ => False) (fun _ => True) W W' → chgV (fun _ => False) (fun _ => True) _ 21 v W' → K { tmps := #[f 0, f 1, f 2, f 3, f 4, f 5, f 6, f 7, f 8, f 9, f 10, f 11, f 12, f 13, f 14, f 15, f 16, f 17, f 18, f 19, f 20, v, f 22, f 23], defers := [] } W' := hK
    change wpList _ #[_] _ [_] { tmps := #[f 0, f 1, f 2, f 3, f 4, f 5, f 6, f 7, f 8, f 9, f 10, f 11, f 12, f 13, f 14, f 15, f 16, f 17, f 18, f 19, f 20, f 21, f 22, f 23], defers := [] } W
    clear hK hd hold
    simp only [ze20] at HK ⊢
    clear ze20
    have HK := Aside.mk HK
    have hh := hW.blk (HBK.out) (id); have hcell := cell_of_row W (w.heap.size) 3 _ _ _ hh; clear hh
    go_wp2
    exact HK.out _ _ (Chg.refl _) rfl
  · -- 22 := binOp mul 3 t19 t21 3
    intro f W hW hold hd K hK
    refine .inl ⟨wanted_free rfl _, ?_⟩
    dsimp only [bare]
    have ze19 : f 19 = .int .i64 c := hd 19 rfl rfl
    have ze21 : f 21 = .int .i64 ch := hd 21 rfl rfl
    have HK : ∀ v W', Chg (fun _ => False) (fun _ => True) W W' → chgV (fun _ => False) (fun _ => True) _ 22 v W' → K { tmps := #[f 0, f 1, f 2, f 3, f 4, f 5, f 6, f 7, f 8, f 9, f 10, f 11, f 12, f 13, f 14, f 15, f 16, f 17, f 18, f 19, f 20, f 21, v, f 23], defers := [] } W' := hK
    change wpList _ #[_] _ [_] { tmps := #[f 0, f 1, f 2, f 3, f 4, f 5, f 6, f 7, f 8, f 9, f 10, f 11, f 12, f 13, f 14, f 15, f 16, f 17, f 18, f 19, f 20, f 21, f 22, f 23], defers := [] } W
    clear hK hd hold
    simp only [ze19, ze21] at HK ⊢
    clear ze19 ze21
    have HK := Aside.mk HK
    go_wp2
    exact HK.out _ _ (Chg.refl _) rfl
  · -- 23 := binOp sub 3 t22 <i64 7> 3
    intro f W hW hold hd K hK
    refine .inl ⟨wanted_free rfl _, ?_⟩
    dsimp only [bare]
    have ze22 : f 22 = .int .i64 (c * ch) := hd 22 rfl rfl
    have HK : ∀ v W', Chg (fun _ => False) (fun _ => True) W W' → chgV (fun _ => False) (fun _ => True) _ 23 v W' → K { tmps := #[f 0, f 1, f 2, f 3, f 4, f 5, f 6, f 7, f 8, f 9, f 10, f 11, f 12, f 13, f 14, f 15, f 16, f 17, f 18, f 19, f 20, f 21, f 22, v], defers := [] } W' := hK
    change wpList _ #[_] _ [_] { tmps := #[f 0, f 1, f 2, f 3, f 4, f 5, f 6, f 7, f 8, f 9, f 10, f 11, f 12, f 13, f 14, f 15, f 16, f 17, f 18, f 19, f 20, f 21, f 22, f 23], defers := [] } W
    clear hK hd hold
    simp only [ze22] at HK ⊢
    clear ze22
    have HK := Aside.mk HK
    go_wp2
    exact HK.out _ _ (Chg.refl _) rfl
  · -- 2 := assign t17
    intro f W hW hold hd K hK
    refine .inl ⟨wanted_free rfl _, ?_⟩
    dsimp only [bare]
    have ze17 : f 17 = .int .i64 (c * (ch + L)) := hd 17 rfl rfl
    have HK : ∀ v W', Chg (fun _ => False) (fun _ => True) W W' → chgV (fun _ => False) (fun _ => True) _ 2 v W' → K { tmps := #[f 0, f 1, v, f 3, f 4, f 5, f 6, f 7, f 8, f 9, f 10, f 11, f 12, f 13, f 14, f 15, f 16, f 17, f 18, f 19, f 20, f 21, f 22, f 23], defers := [] } W' := hK
    change wpList _ #[_] _ [_] { tmps := #[f 0, f 1, f 2, f 3, f 4, f 5, f 6, f 7, f 8, f 9, f 10, f 11, f 12, f 13, f 14, f 15, f 16, f 17, f 18, f 19, f 20, f 21, f 22, f 23], defers := [] } W
    clear hK hd hold
    simp only [ze17] at HK ⊢
    clear ze17
    have HK := Aside.mk HK
    go_wp2
    exact HK.out _ _ (Chg.refl _) rfl
  · -- 3 := assign t23
    intro f W hW hold hd K hK
    refine .inl ⟨wanted_free rfl _, ?_⟩
    dsimp only [bare]
    have ze23 : f 23 = .int .i64 (c * ch - 7) := hd 23 rfl rfl
    have HK : ∀ v W', Chg (fun _ => False) (fun _ => True) W W' → chgV (fun _ => False) (fun _ => True) _ 3 v W' → K { tmps := #[f 0, f 1, f 2, v, f 4, f 5, f 6, f 7, f 8, f 9, f 10, f 11, f 12, f 13, f 14, f 15, f 16, f 17, f 18, f 19, f 20, f 21, f 22, f 23], defers := [] } W' := hK
    change wpList _ #[_] _ [_] { tmps := #[f 0, f 1, f 2, f 3, f 4, f 5, f 6, f 7, f 8, f 9, f 10, f 11, f 12, f 13, f 14, f 15, f 16, f 17, f 18, f 19, f 20, f 21, f 22, f 23], defers := [] } W
    clear hK hd hold
    simp only [ze23] at HK ⊢
    clear ze23
    have HK := Aside.mk HK
    go_wp2
    exact HK.out _ _ (Chg.refl _) rfl
  · intro f W hW hold hd aa ha
    replace ha := ha.trans (rel_puts hold)
    have ze2 : f 2 = .int .i64 (c * (ch + L)) := hd 2 rfl
    have ze3 : f 3 = .int .i64 (c * ch - 7) := hd 3 rfl
    have ze7 : f 7 = .pointer (some ⟨w.heap.size, 2, none⟩) := hd 7 rfl
    have ze8 : f 8 = .int .i64 c := hd 8 rfl
    have ze9 : f 9 = .pointer (some ⟨w.heap.size, 3, none⟩) := hd 9 rfl
    have ze10 : f 10 = .int .i64 ch := hd 10 rfl
    have ze11 : f 11 = .pointer (some ⟨w.heap.size, 4, none⟩) := hd 11 rfl
    have ze12 : f 12 = .int .i64 (tn : Nat) := hd 12 rfl
    have ze13 : f 13 = .int .i64 dd := hd 13 rfl
    have ze14 : f 14 = .int .i64 (dd + 7) := hd 14 rfl
    have ze15 : f 15 = .int .i64 L := hd 15 rfl
    have ze16 : f 16 = .int .i64 (ch + L) := hd 16 rfl
    have ze17 : f 17 = .int .i64 (c * (ch + L)) := hd 17 rfl
    have ze18 : f 18 = .pointer (some ⟨w.heap.size, 2, none⟩) := hd 18 rfl
    have ze19 : f 19 = .int .i64 c := hd 19 rfl
    have ze20 : f 20 = .pointer (some ⟨w.heap.size, 3, none⟩) := hd 20 rfl
    have ze21 : f 21 = .int .i64 ch := hd 21 rfl
    have ze22 : f 22 = .int .i64 (c * ch) := hd 22 rfl
    have ze23 : f 23 = .int .i64 (c * ch - 7) := hd 23 rfl
    simp only [List.take_succ_cons, List.take_zero, putAll, List.foldl_cons, List.foldl_nil, Option.getD_some] at ha
    simp only [ze2, ze3, ze7, ze8, ze9, ze10, ze11, ze12, ze13, ze14, ze15, ze16, ze17, ze18, ze19, ze20, ze21, ze22, ze23] at ha
    subst ha
    simp only [List.drop_succ_cons, List.drop_nil, Act.put, List.setIfInBounds_toArray, List.set_cons_zero, List.set_cons_succ]
    clear hold hd ze2 ze3 ze7 ze8 ze9 ze10 ze11 ze12 ze13 ze14 ze15 ze16 ze17 ze18 ze19 ze20 ze21 ze22 ze23
    have hbf : Below w.heap.size w W := ⟨hW.os.trans HB2.out.1.os, hW.tape.trans HB2.out.1.tape, hW.output.trans HB2.out.1.output, Nat.le_trans HB2.out.2 hW.size, fun b hb => (hW.block b (Nat.lt_of_lt_of_le hb HB2.out.2) id).trans (HB2.out.1.block b hb)⟩
    go_wp2
    go_ret2
    exact ⟨by rw [HH.out.1, HH.out.2]; rfl, hbf⟩
end Go.Proofs.Ytffdpmejilmnnaa
namespace Go.Proofs.Ytffdpmejilmnnaa
open Go.RowKit

structure Held (w : World) (bs : List (Nat × Obj)) (W : World) : Prop where
  bel : Below w.heap.size w W
  has : ∀ x ∈ bs, x.1 < W.heap.size ∧ W.heap[x.1]? = some x.2
section
variable {w W W' : World} {bs : List (Nat × Obj)}
theorem Held.refl (w : World) : Held w [] w := ⟨Below.refl _ _, by simp⟩
theorem Held.step (h : Held w bs W) (hb : Below W.heap.size W W') : Held w bs W' :=
  ⟨h.bel.trans (hb.mono h.bel.size), fun x hx => ⟨Nat.lt_of_lt_of_le (h.has x hx).1 hb.size, (hb.block _ (h.has x hx).1).trans (h.has x hx).2⟩⟩
theorem Held.drew (h : Held w bs W) : Held w bs W.drew := ⟨h.bel.drew, h.has⟩
theorem Held.alloc (h : Held w bs W) (o : Obj) : Held w bs (W.alloc o) := h.step ((Below.refl _ _).alloc (Nat.le_refl _) o)
/-- A new block, held from now on. -/
theorem Held.lay (h : Held w bs W) (o : Obj) : Held w ((W.heap.size, o) :: bs) (W.alloc o) :=
  ⟨(h.alloc o).bel, fun x hx => by
    rcases List.mem_cons.1 hx with rfl | hx
    · exact ⟨by simp, heap_alloc_new W o⟩
    · exact (h.alloc o).has x hx⟩
theorem Held.cells (h : Held w bs W) {g : Nat} {cs : Array Value} {t : TypeId} {fr : Nat × Nat} (hx : (g, Obj.cells cs t fr) ∈ bs) (i : Nat) {v : Value} (hv : cs[i]? = some v) : W.cell? ⟨g, i, none⟩ = some v :=
  (cell_of_row W g i _ _ _ (h.has _ hx).2).trans hv
theorem Held.more (h : Held w bs W) {x : Nat × Obj} (hx : x.1 < W.heap.size ∧ W.heap[x.1]? = some x.2) : Held w (x :: bs) W :=
  ⟨h.bel, fun y hy => by
    rcases List.mem_cons.1 hy with rfl | hy
    · exact hx
    · exact h.has y hy⟩
end
end Go.Proofs.Ytffdpmejilmnnaa
namespace Go.Proofs.Ytffdpmejilmnnaa
open Go.RowKit

def upB (p : Int) : Bool := decide (0 ≤ p ∧ 2 ≤ p % 4)
def grp (p : Int) : Int := if upB p = true then 1 else 0

theorem tmod4 {p : Int} (h : 0 ≤ p) : p.tmod 4 = p % 4 := by rw [Int.tmod_eq_emod_of_nonneg h]
set_option maxHeartbeats 400000 in
theorem nand_upper (p : Int) (w : World) (h : 0 ≤ p) (_h2 : p ≤ 9223372036854775807) :
    Calls Try.prog 32 #[.int .i64 p] w fun e w' => e = .returned (.bool (decide (2 ≤ p % 4))) ∧ w = w' := by
  have ht := tmod4 h
  have hw : IntKind.i64.wrap (p.tmod 4) = p % 4 := by rw [ht, IntKind.wrap_i64]; omega
  go_enter Try.func32, Try.ntmps32
  go_wp2
  go_ret
  exact ⟨rfl, rfl⟩
def pairQ (p : Int) : Int := if p < 0 then 0 else if upB p = true then p - 2 else p + 2
set_option maxHeartbeats 400000 in
theorem nand_pair (p : Int) (w : World) (h2 : p ≤ 9223372036854775805) :
    Calls Try.prog 21 #[.int .i64 p] w fun e w' => e = .returned (.tuple #[.int .i64 (pairQ p), .bool (upB p)]) ∧ w = w' := by
  unfold pairQ
  by_cases h : p < 0
  · have hu : upB p = false := by unfold upB; simp; omega
    rw [if_pos h, hu]
    go_enter Try.func21, Try.ntmps21
    go_wp2
    go_ret2
    exact ⟨rfl, rfl⟩
  · rw [if_neg h]
    have h0 : 0 ≤ p := by omega
    by_cases hu : 2 ≤ p % 4
    · have hu2 : upB p = true := by unfold upB; simp; omega
      have hd : decide (2 ≤ p % 4) = true := by simp [hu]
      have hw : IntKind.i64.wrap (p - 2) = p - 2 := by rw [IntKind.wrap_i64]; omega
      rw [if_pos hu2, hu2]
      go_enter Try.func21, Try.ntmps21
      go_wp2_with (go_at_call 32; refine (nand_upper p _ h0 (by omega)).mono ?_; rintro e w1 ⟨rfl, rfl⟩)
      go_ret2
      exact ⟨rfl, rfl⟩
    · have hu2 : upB p = false := by unfold upB; simp; omega
      have hd : decide (2 ≤ p % 4) = false := by simp; omega
      have hw : IntKind.i64.wrap (p + 2) = p + 2 := by rw [IntKind.wrap_i64]; omega
      rw [if_neg (by simp [hu2]), hu2]
      go_enter Try.func21, Try.ntmps21
      go_wp2_with (go_at_call 32; refine (nand_upper p _ h0 (by omega)).mono ?_; rintro e w1 ⟨rfl, rfl⟩)
      go_ret2
      exact ⟨rfl, rfl⟩
set_option maxHeartbeats 400000 in
theorem ref_lower (p : Int) (w : World) (h : 0 ≤ p) (_h2 : p ≤ 9223372036854775807) :
    Calls Try.prog 24 #[.int .i64 p] w fun e w' => e = .returned (.bool (!upB p)) ∧ w = w' := by
  have ht := tmod4 h
  have hw : IntKind.i64.wrap (p.tmod 4) = p % 4 := by rw [ht, IntKind.wrap_i64]; omega
  have hcas : p % 4 = 0 ∨ p % 4 = 1 ∨ 2 ≤ p % 4 := by omega
  rcases hcas with h4 | h4 | h4
  · have hu : upB p = false := by unfold upB; simp; omega
    rw [hu]
    go_enter Try.func24, Try.ntmps24
    go_wp2
    go_ret
    exact ⟨rfl, rfl⟩
  · have hu : upB p = false := by unfold upB; simp; omega
    rw [hu]
    go_enter Try.func24, Try.ntmps24
    go_wp2
    go_ret
    exact ⟨rfl, rfl⟩
  · have hu : upB p = true := by unfold upB; simp; omega
    have h5 : (p % 4 == 0) = false := by simp; omega
    have h6 : (p % 4 == 1) = false := by simp; omega
    rw [hu]
    go_enter Try.func24, Try.ntmps24
    go_wp2
    all_goals (go_ret; exact ⟨rfl, rfl⟩)

/-- The data pages among the first k ones, and the parities' pages. -/
def dataL (b : Bool) : Nat → List Int
  | 0 => []
  | k + 1 => if (upB k && b) = true then dataL b k else dataL b k ++ [(k : Int)]
def parL (b : Bool) (N : Nat) : List Int := if b = true then [(N : Int) - 3] else [(N : Int) - 3, (N : Int) - 1]
theorem dataL_skip {b : Bool} {k : Nat} (h : (upB k && b) = true) : dataL b (k + 1) = dataL b k := by rw [dataL, if_pos h]
theorem dataL_more {b : Bool} {k : Nat} (h : (upB k && b) = false) : dataL b (k + 1) = dataL b k ++ [(k : Int)] := by rw [dataL, if_neg (by simp [h])]
theorem dataL_len (b : Bool) : ∀ k, (dataL b k).length ≤ k
  | 0 => by simp [dataL]
  | k + 1 => by
    have := dataL_len b k
    cases h : (upB k && b)
    · rw [dataL_more h, List.length_append]; simp; omega
    · rw [dataL_skip h]; omega
/-- A plan lies in block g. -/
def PlanAt (w : World) (g : Nat) (v1 v2 : Value) : Prop := w.heap[g]? = some (.cells #[v1, v2] 45 (0, 0))
section
variable {w w' : World} {g : Nat} {v1 v2 : Value}
theorem PlanAt.lt (p : PlanAt w g v1 v2) : g < w.heap.size := (Array.getElem?_eq_some_iff.1 p).1
theorem PlanAt.c0 (p : PlanAt w g v1 v2) : w.cell? ⟨g, 0, none⟩ = some v1 := cell_of_row w g 0 _ _ _ p
theorem PlanAt.c1 (p : PlanAt w g v1 v2) : w.cell? ⟨g, 1, none⟩ = some v2 := cell_of_row w g 1 _ _ _ p
theorem PlanAt.free (p : PlanAt w g v1 v2) (i : Nat) : w.frozen? ⟨g, i, none⟩ = false := by
  unfold PlanAt at p
  simp [World.frozen?, p]
theorem PlanAt.kept {row : Option Nat} (p : PlanAt w g v1 v2) (hg : w.grownBy w' row) (hne : some g ≠ row) : PlanAt w' g v1 v2 := (hg.block g p.lt hne).trans p
theorem PlanAt.below {B : Nat} (p : PlanAt w g v1 v2) (hb : Below B w w') (hlt : g < B) : PlanAt w' g v1 v2 := (hb.block g hlt).trans p
theorem PlanAt.set0 (p : PlanAt w g v1 v2) (x : Value) : PlanAt (w.setCell ⟨g, 0, none⟩ x) g x v2 := by
  have hlt := p.lt
  unfold PlanAt at *
  simp [World.setCell, Array.getElem?_modify, p]
theorem PlanAt.set1 (p : PlanAt w g v1 v2) (x : Value) : PlanAt (w.setCell ⟨g, 1, none⟩ x) g v1 x := by
  have hlt := p.lt
  unfold PlanAt at *
  simp [World.setCell, Array.getElem?_modify, p]
end
theorem grownBy_set (w : World) (g i : Nat) (x : Value) : w.grownBy (w.setCell ⟨g, i, none⟩ x) (some g) :=
  ⟨rfl, rfl, rfl, by simp [World.setCell], fun k _ hne => Below.heap_setCell _ _ _ _ (by simpa using fun e => hne (by simp [e]))⟩

theorem Row.belowAt {w w' : World} {base : Nat} {e : TypeId} {size : Nat} {v : Value} {n : Nat} {xs : List Value} {B : Nat} (h : Row w base e size v n xs) (hb : Below B w w') (hlt : ∀ q, v.ownBlock = some q → q < B) : Row w' base e size v n xs := by
  refine ⟨h.1, ?_⟩
  rcases h.2 with hn | ⟨g, off, cap, cur, fr, rfl, hbg, hgg, rest⟩
  · exact .inl hn
  · exact .inr ⟨g, off, cap, cur, fr, rfl, hbg, (hb.block g (hlt g rfl)).trans hgg, rest⟩

/-- What Of answers where there is a plan. -/
def PlanEnd (N : Nat) (b : Bool) (base : Nat) (e : Ending) (w : World) : Prop :=
  ∃ v1 v2, Row w base 3 1 v1 (dataL b (N - 3)).length (intsV (dataL b (N - 3))) ∧ Row w base 3 1 v2 (parL b N).length (intsV (parL b N)) ∧ e = .returned (.tuple #[.agg #[v1, v2], .bool true])

set_option maxHeartbeats 4000000 in
theorem parity_of (N : Nat) (b : Bool) (w : World) (h1 : 4 ≤ N) (h2 : N ≤ 64) (h3 : N % 4 = 0) :
    Calls Try.prog 13 #[.int .i64 N, .bool b] w fun e w' => PlanEnd N b w.heap.size e w' ∧ Below w.heap.size w w' := by
  have ht : ((N : Int).tmod 4) = 0 := by rw [tmod4 (by omega)]; omega
  have hw : IntKind.i64.wrap ((N : Int).tmod 4) = 0 := by rw [ht]; rfl
  have hw1 : IntKind.i64.wrap ((N : Int) - 3) = (N : Int) - 3 := by rw [IntKind.wrap_i64]; omega
  have hw2 : IntKind.i64.wrap ((N : Int) - 1) = (N : Int) - 1 := by rw [IntKind.wrap_i64]; omega
  have g1 : ¬ (N : Int) < 4 := by omega
  have g2 : ¬ 64 < (N : Int) := by omega
  go_enter Try.func13, Try.ntmps13
  go_upto_region 4 with fail
  obtain ⟨g, hg⟩ : ∃ g, g = w.heap.size := ⟨_, rfl⟩
  have hP0 : PlanAt (((w.alloc (.cells #[.slice none 0 0, .slice none 0 0] 45)).alloc (.cells #[.int .i64 ((N : Int) - 3)] 3)).alloc (.cells #[.slice none 0 0, .slice (some ⟨w.heap.size + 1, 0, none⟩) 1 1] 45)) g (.slice none 0 0) (.slice none 0 0) := by
    have h0 : PlanAt (w.alloc (.cells #[.slice none 0 0, .slice none 0 0] 45)) w.heap.size (.slice none 0 0) (.slice none 0 0) := heap_alloc_new w _
    rw [hg]
    exact (h0.kept (World.grownBy_alloc _ _ none) (by simp)).kept (World.grownBy_alloc _ _ none) (by simp)
  have hP : PlanAt (((w.alloc (.cells #[.slice none 0 0, .slice none 0 0] 45)).alloc (.cells #[.int .i64 ((N : Int) - 3)] 3)).alloc (.cells #[.slice none 0 0, .slice (some ⟨w.heap.size + 1, 0, none⟩) 1 1] 45)) (g + 1 + 1) (.slice none 0 0) (.slice (some ⟨w.heap.size + 1, 0, none⟩) 1 1) := by
    have h0 := heap_alloc_new ((w.alloc (.cells #[.slice none 0 0, .slice none 0 0] 45)).alloc (.cells #[.int .i64 ((N : Int) - 3)] 3)) (.cells #[.slice none 0 0, .slice (some ⟨w.heap.size + 1, 0, none⟩) 1 1] 45)
    simp only [World.size_alloc] at h0
    rw [hg]
    exact h0
  have hr : Row (((w.alloc (.cells #[.slice none 0 0, .slice none 0 0] 45)).alloc (.cells #[.int .i64 ((N : Int) - 3)] 3)).alloc (.cells #[.slice none 0 0, .slice (some ⟨w.heap.size + 1, 0, none⟩) 1 1] 45)) (g + 1) 3 1 (.slice (some ⟨w.heap.size + 1, 0, none⟩) 1 1) 1 (intsV [(N : Int) - 3]) := by
    have h0 := Row.lit (w.alloc (.cells #[.slice none 0 0, .slice none 0 0] 45)) (w.heap.size + 1) 3 1 #[.int .i64 ((N : Int) - 3)] 1 (by simp) (by decide) rfl
    simp only [World.size_alloc] at h0
    rw [hg]
    exact h0.alloc _
  have hb : Below g w (((w.alloc (.cells #[.slice none 0 0, .slice none 0 0] 45)).alloc (.cells #[.int .i64 ((N : Int) - 3)] 3)).alloc (.cells #[.slice none 0 0, .slice (some ⟨w.heap.size + 1, 0, none⟩) 1 1] 45)) := by
    rw [hg]
    exact (((Below.refl _ _).alloc (Nat.le_refl _) _).alloc (by simp) _).alloc (by simp; omega) _
  have hsz : (((w.alloc (.cells #[.slice none 0 0, .slice none 0 0] 45)).alloc (.cells #[.int .i64 ((N : Int) - 3)] 3)).alloc (.cells #[.slice none 0 0, .slice (some ⟨w.heap.size + 1, 0, none⟩) 1 1] 45)).heap.size = g + 3 := by
    rw [hg]; simp
  generalize ((w.alloc (.cells #[.slice none 0 0, .slice none 0 0] 45)).alloc (.cells #[.int .i64 ((N : Int) - 3)] 3)).alloc (.cells #[.slice none 0 0, .slice (some ⟨w.heap.size + 1, 0, none⟩) 1 1] 45) = W at *
  rw [← hg] at hP hr ⊢
  have HG := Aside.mk (And.intro hg hsz)
  clear hg hsz
  have c0 := hP.c0
  have c1 := hP.c1
  have f0 := hP.free 0
  have f1 := hP.free 1
  go_upto_if 27 with fail
  go_cut [6] (fun s6 wx => ∃ v2, s6 = .pointer (some ⟨g + 1 + 1, 0, none⟩) ∧ PlanAt wx g (.slice none 0 0) (.slice none 0 0) ∧ PlanAt wx (g + 1 + 1) (.slice none 0 0) v2 ∧ Row wx (g + 1) 3 1 v2 (parL b N).length (intsV (parL b N)) ∧ v2.ownBlock ≠ some (g + 1 + 1) ∧ Below g w wx)
  case first =>
    cases b
    · have hsz := HG.out.2
      have hbs : g + 1 ≤ W.heap.size := by omega
      have HA := Aside.mk (And.intro hP0 (And.intro hP (And.intro hr (And.intro hb hbs))))
      clear hP0 hP hr hb hsz hbs
      go_wp2_with (at_builtin; refine wpList_append_one (w0 := W) (g + 1) rfl _ _ 37 3 1 8 (.int .i64 0) rfl Try.underlying37 infoInt rfl (by decide) (.slice (some ⟨g + 1, 0, none⟩) 1 1) 1 _ #[.int .i64 ((N : Int) - 1)] rfl rfl rfl HA.out.2.2.1 (by simp [Value.oneCell']) (Below.refl (g + 1) W) HA.out.2.2.2.2 (by omega) (by decide) ?_; intro v1 w1 hr1 hb1 hg1 hat1; obtain ⟨A1, k1, rfl, hk1⟩ := hr1.slice; have hP1 := HA.out.2.1.kept hg1 (by simp [Value.ownBlock]); have d1 := hP1.c1; have d2 := hP1.free 1; have HC := Aside.mk (And.intro hr1 (And.intro hb1 (And.intro hg1 (And.intro hat1 hP1)))); clear hr1 hb1 hg1 hat1 hP1)
      go_meet
      obtain ⟨hP0, hP, hr, hb, hbs⟩ := HA.out
      obtain ⟨hr1, hb1, hg1, hat1, hP1⟩ := HC.out
      have hv1 : (Value.slice A1 (1 + 1) k1).ownBlock ≠ some (g + 1 + 1) := by
        rcases hat1 with h | ⟨b, h, hb⟩
        · rw [h]; simp [Value.ownBlock]
        · rw [h]; have := HG.out.2; simp; omega
      refine ⟨_, rfl, ?_, hP1.set1 _, ?_, hv1, ?_⟩
      · exact (hP0.kept hg1 (by simp [Value.ownBlock])).kept (grownBy_set _ _ _ _) (by simp; omega)
      · exact hr1.kept (grownBy_set _ _ _ _) (.inr hv1)
      · exact (hb.trans (hb1.mono (by omega))).setCell (by simp; omega) _
    · go_wp2
      go_meet
      exact ⟨_, rfl, hP0, hP, hr, by simp [Value.ownBlock], hb⟩
  case rest =>
    clear hP0 hP hr hb c0 c1 f0 f1
    obtain ⟨v2, rfl, hP0, hP, hr2, hne, hb⟩ := hcut
    obtain ⟨A2, k2, rfl, hk2⟩ := hr2.slice
    have HB2 := Aside.mk (fun q hq => (hr2.blk q hq).2.1)
    have hlt := hP.lt
    have hlt0 := hb.size
    clear hk2
    generalize hlen2 : (parL b N).length = n2 at *
    have HL2 := Aside.mk hlen2
    clear hlen2
    obtain ⟨B1, hB1⟩ : ∃ B1, B1 = wc.heap.size := ⟨_, rfl⟩
    have hBg : g + 1 + 1 < B1 := by omega
    have HQ := Aside.mk hB1
    have hin := Aside.mk (And.intro hP0 (And.intro hP (And.intro hr2 (And.intro hb (show B1 ≤ wc.heap.size by omega)))))
    clear hP0 hP hr2 hb hlt hlt0 hB1
    go_wp2
    go_loopw [37] (fun s37 wr => ∃ (k : Nat) (A1 : Option Addr) (k1 : Nat), s37 = .int .i64 k ∧ k ≤ N - 3 ∧ PlanAt wr g (.slice none 0 0) (.slice none 0 0) ∧ PlanAt wr (g + 1 + 1) (.slice A1 (dataL b k).length k1) (.slice A2 n2 k2) ∧ Aside (Row wr (g + 1) 3 1 (.slice A2 n2 k2) n2 (intsV (parL b N)) ∧ Row wr B1 3 1 (.slice A1 (dataL b k).length k1) (dataL b k).length (intsV (dataL b k)) ∧ Below g w wr ∧ B1 ≤ wr.heap.size)) (fun s37 _ => N - (intOf s37).toNat)
    case atStart =>
      obtain ⟨q1, q2, q3, q4, q5⟩ := hin.out
      exact ⟨0, none, 0, rfl, by omega, q1, q2, ⟨q3, Row.nil _ _ _ _, q4, q5⟩⟩
    case round =>
      obtain ⟨k, A1, k1, rfl, hk, hP0, hP, hI⟩ := hrel
      clear hin
      have c0 := hP.c0
      have f0 := hP.free 0
      by_cases hlt : k < N - 3
      · have hk1 : IntKind.i64.wrap ((k : Int) + 1) = (k : Int) + 1 := by rw [IntKind.wrap_i64]; omega
        have hlt2 : (k : Int) < (N : Int) - 3 := by omega
        have hdl := dataL_len b k
        cases hs : (upB k && b)
        · have HD := Aside.mk (dataL_more hs)
          generalize hln : (dataL b k).length = ln at *
          have HLN := Aside.mk hln
          clear hln
          have hcs : (upB k = false) ∨ (upB k = true ∧ b = false) := by
            cases h : upB k <;> simp_all
          clear hs
          rcases hcs with hu | ⟨hu, rfl⟩
          all_goals
            go_wp2_with (first | (go_at_call 21; refine (nand_pair k _ (by omega)).mono ?_; rintro e w5 ⟨rfl, rfl⟩) | (at_builtin; refine wpList_append_one (w0 := wr) B1 rfl _ _ 37 3 1 8 (.int .i64 0) rfl Try.underlying37 infoInt rfl (by decide) (.slice A1 ln k1) ln _ #[.int .i64 (k : Int)] rfl rfl rfl hI.out.2.1 (by simp [Value.oneCell']) (Below.refl B1 wr) hI.out.2.2.2 (by omega) (by simp only [maxLen]; omega) ?_; intro v1 w1 hr1 hb1 hg1 hat1; obtain ⟨A3, k3, rfl, hk3⟩ := hr1.slice; have hPk := hP.below hb1 hBg; have d1 := hPk.c0; have d2 := hPk.free 0; have HC := Aside.mk (And.intro hr1 (And.intro hb1 (And.intro hg1 (And.intro hat1 hPk)))); clear hr1 hb1 hg1 hat1 hPk))
            go_roundw
            case rel =>
              obtain ⟨q1, q2, q3, q4⟩ := hI.out
              obtain ⟨hr1, hb1, hg1, hat1, hPk⟩ := HC.out
              have hne3 : (Value.slice A3 (ln + 1) k3).ownBlock ≠ some (g + 1 + 1) := fun h => by
                have := (hr1.blk _ h).1
                omega
              have hll := congrArg List.length HD.out
              rw [List.length_append, HLN.out] at hll
              have hll : _ = ln + 1 := hll
              refine ⟨k + 1, A3, k3, by go_num, by omega, (hP0.below hb1 (by omega)).kept (grownBy_set _ _ _ _) (by simp; omega), ?_, ⟨?_, ?_, ?_, ?_⟩⟩
              · rw [hll]; exact hPk.set0 _
              · exact (q1.belowAt hb1 (fun q hq => by have := HB2.out q hq; have := HQ.out; omega)).kept (grownBy_set _ _ _ _) (.inr hne)
              · rw [hll, HD.out, intsV_append]
                exact hr1.kept (grownBy_set _ _ _ _) (.inr hne3)
              · exact (q3.trans (hb1.mono (by omega))).setCell (by simp; omega) _
              · exact Nat.le_trans (Nat.le_trans q4 hb1.size) (grownBy_set _ _ _ _).size
            case measure => simp [intOf]; omega
        · obtain ⟨hu, hbt⟩ : upB k = true ∧ b = true := by simpa using hs
          have HD := Aside.mk (dataL_skip hs)
          clear hs
          subst hbt
          go_wp2_with (go_at_call 21; refine (nand_pair k _ (by omega)).mono ?_; rintro e w5 ⟨rfl, rfl⟩)
          go_roundw
          case rel => exact ⟨k + 1, A1, k1, by go_num, by omega, hP0, by rw [HD.out]; exact hP, by rw [HD.out]; exact hI⟩
          case measure => simp [intOf]; omega
      · obtain rfl : k = N - 3 := by omega
        have hkc : ((N - 3 : Nat) : Int) = (N : Int) - 3 := by omega
        have hge : ¬ ((N - 3 : Nat) : Int) < (N : Int) - 3 := by omega
        have c1 := hP.c1
        have f1 := hP.free 1
        have e0 := hP0.c0
        have e1 := hP0.c1
        have e2 := hP0.free 0
        have e3 := hP0.free 1
        go_wp2
        obtain ⟨q1, q2, q3, q4⟩ := hI.out
        have hgl : g < B1 := by omega
        have hne2 : (Value.slice A2 n2 k2).ownBlock ≠ some g := fun h => by
          have := (q1.blk _ h).1
          omega
        have hne1 : (Value.slice A1 (dataL b (N - 3)).length k1).ownBlock ≠ some g := fun h => by
          have := (q2.blk _ h).1
          omega
        have hPf := (hP0.set0 (.slice A1 (dataL b (N - 3)).length k1)).set1 (.slice A2 n2 k2)
        have q1 := (q1.kept (grownBy_set _ g 0 (.slice A1 (dataL b (N - 3)).length k1)) (.inr hne2)).kept (grownBy_set _ g 1 (.slice A2 n2 k2)) (.inr hne2)
        have q2 := (q2.kept (grownBy_set _ g 0 (.slice A1 (dataL b (N - 3)).length k1)) (.inr hne1)).kept (grownBy_set _ g 1 (.slice A2 n2 k2)) (.inr hne1)
        have q3 := (q3.setCell (p := ⟨g, 0, none⟩) (Nat.le_refl g) (.slice A1 (dataL b (N - 3)).length k1)).setCell (p := ⟨g, 1, none⟩) (Nat.le_refl g) (.slice A2 n2 k2)
        have z0 := hPf.c0
        have z1 := hPf.c1
        clear c0 c1 f0 f1 e0 e1 e2 e3 hP hP0 hPf hI
        generalize (wr.setCell ⟨g, 0, none⟩ (.slice A1 (dataL b (N - 3)).length k1)).setCell ⟨g, 1, none⟩ (.slice A2 n2 k2) = Wf at *
        rw [HG.out.1] at q3
        have r1 : Row Wf (g + 1) 3 1 (.slice A2 n2 k2) (parL b N).length (intsV (parL b N)) := by rw [HL2.out]; exact q1
        exact bodyPost_ret (v := .tuple #[.agg #[.slice A1 (dataL b (N - 3)).length k1, .slice A2 n2 k2], .bool true]) (by simp [results, Try.results13, go_sem, z0, z1]) rfl ⟨⟨_, _, q2.mono (show w.heap.size ≤ B1 by have := HG.out.1; omega), r1.mono (show w.heap.size ≤ g + 1 by have := HG.out.1; omega), rfl⟩, q3⟩

set_option maxHeartbeats 1000000 in
theorem parity_of_not (n : Int) (b : Bool) (w : World) (h : ¬ (4 ≤ n ∧ n ≤ 64 ∧ n % 4 = 0)) :
    Calls Try.prog 13 #[.int .i64 n, .bool b] w fun e w' => e = .returned (.tuple #[.agg #[.slice none 0 0, .slice none 0 0], .bool false]) ∧ Below w.heap.size w w' := by
  have hcas : n < 4 ∨ (¬ n < 4 ∧ 64 < n) ∨ (¬ n < 4 ∧ ¬ 64 < n ∧ n % 4 ≠ 0) := by omega
  clear h
  have hb := (Below.refl w.heap.size w).alloc (Nat.le_refl _) (.cells #[.slice none 0 0, .slice none 0 0] 45)
  have hP : PlanAt (w.alloc (.cells #[.slice none 0 0, .slice none 0 0] 45)) w.heap.size (.slice none 0 0) (.slice none 0 0) := heap_alloc_new w _
  have z0 := hP.c0
  have z1 := hP.c1
  have HZ := Aside.mk (And.intro hb (And.intro z0 z1))
  clear hb hP z0 z1
  have ht : ¬ n < 4 → n.tmod 4 = n % 4 := fun h => tmod4 (by omega)
  rcases hcas with h | ⟨h, h2⟩ | ⟨h, h2, h3⟩
  all_goals
    have hw : ¬ n < 4 → IntKind.i64.wrap (n.tmod 4) = n % 4 := fun h => by rw [ht h, IntKind.wrap_i64]; omega
  case' inr.inr => have hw := hw h; have h4 : (n % 4 == 0) = false := by simp; exact h3
  all_goals
    clear ht
    go_enter Try.func13, Try.ntmps13
    go_wp2
    obtain ⟨hb, z0, z1⟩ := HZ.out
    generalize w.alloc (.cells #[.slice none 0 0, .slice none 0 0] 45) = Wf at *
    exact bodyPost_ret (v := .tuple #[.agg #[.slice none 0 0, .slice none 0 0], .bool false]) (by simp [results, Try.results13, go_sem, z0, z1]) rfl ⟨rfl, hb⟩
end Go.Proofs.Ytffdpmejilmnnaa
namespace Go.Proofs.Ytffdpmejilmnnaa
open Go.RowKit

def membL (l : List Int) (gr : Int) : List Int := l.filter fun p => grp p == gr
theorem memb_take {l : List Int} {gr : Int} {k : Nat} (hk : k < l.length) (h : grp (l.getD k 0) = gr) : membL (l.take (k + 1)) gr = membL (l.take k) gr ++ [l.getD k 0] := by
  rw [List.take_succ_eq_append_getElem hk]
  simp only [membL, List.filter_append]
  have : l.getD k 0 = l[k] := by simp [List.getD_eq_getElem?_getD, List.getElem?_eq_getElem hk]
  rw [this] at h ⊢
  simp [h]
theorem memb_skip {l : List Int} {gr : Int} {k : Nat} (hk : k < l.length) (h : ¬ grp (l.getD k 0) = gr) : membL (l.take (k + 1)) gr = membL (l.take k) gr := by
  rw [List.take_succ_eq_append_getElem hk]
  simp only [membL, List.filter_append]
  have : l.getD k 0 = l[k] := by simp [List.getD_eq_getElem?_getD, List.getElem?_eq_getElem hk]
  rw [this] at h
  simp [h]
theorem memb_len (l : List Int) (gr : Int) : (membL l gr).length ≤ l.length := List.length_filter_le ..

/-- The last lower one of the first k pages. -/
def lowL : Nat → Int
  | 0 => -1
  | k + 1 => if upB k = true then lowL k else (k : Int)
theorem lowL_skip {k : Nat} (h : upB k = true) : lowL (k + 1) = lowL k := by rw [lowL, if_pos h]
theorem lowL_more {k : Nat} (h : upB k = false) : lowL (k + 1) = k := by rw [lowL, if_neg (by simp [h])]
theorem lowL_end {N : Nat} (h1 : 4 ≤ N) (h3 : N % 4 = 0) : lowL N = (N : Int) - 3 := by
  obtain ⟨m, rfl⟩ : ∃ m, N = m + 1 + 1 + 1 := ⟨N - 3, by omega⟩
  rw [lowL_skip (by unfold upB; simp; omega), lowL_skip (by unfold upB; simp; omega), lowL_more (by unfold upB; simp; omega)]
  omega

def RefEnd (N : Nat) (b : Bool) (base : Nat) (e : Ending) (w : World) : Prop :=
  ∃ v1 v2, Row w base 3 1 v1 (dataL b (N - 3)).length (intsV (dataL b (N - 3))) ∧ Row w base 3 1 v2 (parL b N).length (intsV (parL b N)) ∧ e = .returned (.tuple #[v1, v2, .bool true])

set_option maxHeartbeats 4000000 in
theorem ref_of (N : Nat) (b : Bool) (w : World) (h1 : 4 ≤ N) (h2 : N ≤ 64) (h3 : N % 4 = 0) :
    Calls Try.prog 15 #[.int .i64 N, .bool b] w fun e w' => RefEnd N b w.heap.size e w' ∧ Below w.heap.size w w' := by
  have ht : ((N : Int).tmod 4) = 0 := by rw [tmod4 (by omega)]; omega
  have hw : IntKind.i64.wrap ((N : Int).tmod 4) = 0 := by rw [ht]; rfl
  have hw2 : IntKind.i64.wrap ((N : Int) - 1) = (N : Int) - 1 := by rw [IntKind.wrap_i64]; omega
  have g1 : ¬ (N : Int) < 4 := by omega
  have g2 : ¬ 64 < (N : Int) := by omega
  have HN := Aside.mk (lowL_end h1 h3)
  go_enter Try.func15, Try.ntmps15
  go_wp2
  clear ht hw h3
  go_loopw [7, 9] (fun s7 s9 wr => ∃ (k : Nat), s9 = .int .i64 k ∧ k ≤ N ∧ s7 = .int .i64 (lowL k) ∧ w = wr) (fun _ s9 _ => N - (intOf s9).toNat)
  case atStart => exact ⟨0, rfl, by omega, rfl, rfl⟩
  case round =>
    obtain ⟨k, rfl, hk, rfl, rfl⟩ := hrel
    have hk1 : IntKind.i64.wrap ((k : Int) + 1) = (k : Int) + 1 := by rw [IntKind.wrap_i64]; omega
    by_cases hlt : k < N
    · cases hu : upB k
      · have H1 := Aside.mk (lowL_more hu)
        go_wp2_with (go_at_call 24; refine (ref_lower k _ (by omega) (by omega)).mono ?_; rintro e w5 ⟨rfl, rfl⟩)
        go_roundw
        case rel => exact ⟨k + 1, by go_num, by omega, by rw [H1.out], trivial⟩
        case measure => simp [intOf]; omega
      · have H1 := Aside.mk (lowL_skip hu)
        go_wp2_with (go_at_call 24; refine (ref_lower k _ (by omega) (by omega)).mono ?_; rintro e w5 ⟨rfl, rfl⟩)
        go_roundw
        case rel => exact ⟨k + 1, by go_num, by omega, by rw [H1.out], trivial⟩
        case measure => simp [intOf]; omega
    · obtain rfl : N = k := by omega
      rw [HN.out]
      clear hk1 hlt hk HN
      go_wp2
      go_loopw [10, 11] (fun s10 s11 wr => ∃ (k : Nat), s11 = .int .i64 k ∧ k ≤ N ∧ Row wr w.heap.size 3 1 s10 (dataL b (min k (N - 3))).length (intsV (dataL b (min k (N - 3)))) ∧ Below w.heap.size w wr) (fun _ s11 _ => N - (intOf s11).toNat)
      case atStart => exact ⟨0, rfl, by omega, by rw [Nat.zero_min]; exact Row.nil _ _ _ _, Below.refl _ _⟩
      case round =>
        obtain ⟨k, rfl, hk, hr, hb⟩ := hrel
        have hk1 : IntKind.i64.wrap ((k : Int) + 1) = (k : Int) + 1 := by rw [IntKind.wrap_i64]; omega
        by_cases hlt : k < N
        · by_cases hlow : k < N - 3
          · have e1 : min k (N - 3) = k := by omega
            have e2 : min (k + 1) (N - 3) = k + 1 := by omega
            have hin : (k : Int) < (N : Int) - 3 := by omega
            rw [e1] at hr
            have E2 := Aside.mk e2
            clear e1 e2
            have hdl := dataL_len b k
            cases hs : (upB k && b)
            · have HD := Aside.mk (dataL_more hs)
              generalize hmm : dataL b k = mm at *
              clear hmm
              have hbase := hb.size
              have hcs : (upB k = false) ∨ (upB k = true ∧ b = false) := by
                cases h : upB k <;> simp_all
              clear hs
              rcases hcs with hu | ⟨hu, rfl⟩
              all_goals
                go_wp2_with (first | (go_at_call 24; refine (ref_lower k _ (by omega) (by omega)).mono ?_; rintro e w5 ⟨rfl, rfl⟩) | (at_builtin; refine wpList_append_one (w0 := w) w.heap.size rfl _ _ 37 3 1 8 (.int .i64 0) rfl Try.underlying37 infoInt rfl (by decide) u10 mm.length _ #[.int .i64 (k : Int)] rfl rfl rfl hr (by simp [Value.oneCell']) hb hbase (by omega) (by simp only [maxLen]; omega) ?_; intro v1 w1 hr1 hb1 hg1 hat1))
                go_roundw
                case rel => exact ⟨k + 1, by go_num, by omega, by rw [E2.out, HD.out, List.length_append, intsV_append]; exact hr1, hb1⟩
                case measure => simp [intOf]; omega
            · obtain ⟨hu, hbt⟩ : upB k = true ∧ b = true := by simpa using hs
              have HD := Aside.mk (dataL_skip hs)
              clear hs
              subst hbt
              go_wp2_with (first | (go_at_call 24; refine (ref_lower k _ (by omega) (by omega)).mono ?_; rintro e w5 ⟨rfl, rfl⟩))
              go_roundw
              case rel => exact ⟨k + 1, by go_num, by omega, by rw [E2.out, HD.out]; exact hr, hb⟩
              case measure => simp [intOf]; omega
          · have e1 : min k (N - 3) = N - 3 := by omega
            have e2 : min (k + 1) (N - 3) = N - 3 := by omega
            have hin : ¬ (k : Int) < (N : Int) - 3 := by omega
            rw [e1] at hr
            have E2 := Aside.mk e2
            clear e1 e2
            go_wp2
            go_roundw
            case rel => exact ⟨k + 1, by go_num, by omega, by rw [E2.out]; exact hr, hb⟩
            case measure => simp [intOf]; omega
        · have e1 : min k (N - 3) = N - 3 := by omega
          rw [e1] at hr
          have hbase := hb.size
          clear e1
          have hge : ¬ (k : Int) < (N : Int) := by omega
          cases b
          · have hp := Row.lit wr w.heap.size 3 1 #[.int .i64 ((N : Int) - 3), .int .i64 ((N : Int) - 1)] 2 hbase (by decide) rfl
            go_wp2
            go_ret3
            exact ⟨⟨_, _, hr.alloc _, hp, rfl⟩, hb.alloc hbase _⟩
          · have hp := Row.lit wr w.heap.size 3 1 #[.int .i64 ((N : Int) - 3)] 1 hbase (by decide) rfl
            go_wp2
            go_ret3
            exact ⟨⟨_, _, hr.alloc _, hp, rfl⟩, hb.alloc hbase _⟩

set_option maxHeartbeats 1000000 in
theorem ref_of_not (n : Int) (b : Bool) (w : World) (h : ¬ (4 ≤ n ∧ n ≤ 64 ∧ n % 4 = 0)) :
    Calls Try.prog 15 #[.int .i64 n, .bool b] w fun e w' => e = .returned (.tuple #[.slice none 0 0, .slice none 0 0, .bool false]) ∧ w = w' := by
  have hcas : n < 4 ∨ (¬ n < 4 ∧ 64 < n) ∨ (¬ n < 4 ∧ ¬ 64 < n ∧ n % 4 ≠ 0) := by omega
  clear h
  have ht : ¬ n < 4 → n.tmod 4 = n % 4 := fun h => tmod4 (by omega)
  rcases hcas with h | ⟨h, h2⟩ | ⟨h, h2, h3⟩
  all_goals
    have hw : ¬ n < 4 → IntKind.i64.wrap (n.tmod 4) = n % 4 := fun h => by rw [ht h, IntKind.wrap_i64]; omega
  case' inr.inr => have hw := hw h; have h4 : (n % 4 == 0) = false := by simp; exact h3
  all_goals
    clear ht
    go_enter Try.func15, Try.ntmps15
    go_wp2
    go_ret3
    exact ⟨rfl, rfl⟩

theorem data8 : dataL true 5 = [0, 1, 4] := by decide
theorem par8 : parL true 8 = [5] := by decide
theorem Rd.litInts (W : World) (l : List Int) (cs : Array Value) (n : Nat) (h : cs.toList = intsV l) (hn : n = l.length) : Rd (W.alloc (.cells cs 3)) (some ⟨W.heap.size, 0, none⟩) n (fun i => .int .i64 (l.getD i 0)) := by
  intro k hk
  refine ⟨W.heap.size, 0, rfl, by simp, ?_⟩
  rw [cell_of_row _ W.heap.size (0 + k) cs 3 (0, 0) (heap_alloc_new W _)]
  rw [Nat.zero_add, ← Array.getElem?_toList, h]
  simp [intsV, List.getD_eq_getElem?_getD, List.getElem?_eq_getElem (show k < l.length by omega)]
end Go.Proofs.Ytffdpmejilmnnaa
