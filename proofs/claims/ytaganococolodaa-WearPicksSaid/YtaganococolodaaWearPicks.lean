/-
  What is picked is free, and none of the free ones was erased less; what should be moved is used, and none of the used ones was erased less.
-/
import Derived.Test.YtaganococolodaaWearChoices
namespace Go.Proofs.Ytaganococolodaa
open Go.RowKit Go.Sort

/-- What the picked one is. -/
theorem pick_is (f : Nat → Blk) (n : Nat) : (least f n = -1 ∧ ∀ i, i < n → ¬ ((f i).us = false ∧ (f i).wo = false)) ∨ ∃ q : Nat, least f n = (q : Int) ∧ q < n ∧ (f q).us = false ∧ (f q).wo = false ∧ ∀ i, i < n → (f i).us = false → (f i).wo = false → ¬ (f i).er < (f q).er := by
  rcases least_spec f n with ⟨h1, h2⟩ | ⟨q, h1, h2, h3, h4⟩
  · refine .inl ⟨h1, fun i hi ⟨hu, hw⟩ => ?_⟩
    have := h2 i hi
    unfold Blk.free at this
    rw [hu, hw] at this
    cases this
  · unfold Blk.free at h3
    have h3' : (f q).us = false ∧ (f q).wo = false := by simpa using h3
    refine .inr ⟨q, h1, h2, h3'.1, h3'.2, fun i hi hu hw => ?_⟩
    have := h4 i hi (by unfold Blk.free; rw [hu, hw]; rfl)
    omega
theorem level_is (f : Nat → Blk) (n : Nat) (apart : Int) : levelF f n apart = -1 ∨ ∃ q : Nat, levelF f n apart = (q : Int) ∧ q < n ∧ (f q).us = true ∧ (f q).wo = false ∧ ∀ i, i < n → (f i).us = true → (f i).wo = false → ¬ (f i).er < (f q).er := by
  unfold levelF
  rcases pick_is (flp f) n with ⟨h1, _⟩ | ⟨q, h1, h2, h3, h4, h5⟩
  · left; rw [if_pos (by omega)]
  · rw [h1, if_neg (by omega)]
    split
    · right
      have hu : (f q).us = true := by simpa [flp, Blk.flip] using h3
      have hw : (f q).wo = false := by simpa [flp, Blk.flip] using h4
      refine ⟨q, rfl, h2, hu, hw, fun i hi h6 h7 => ?_⟩
      have := h5 i hi (by simp [flp, Blk.flip, h6]) (by simpa [flp, Blk.flip] using h7)
      simpa [flp, Blk.flip] using this
    · exact .inl rfl
theorem spare_none {f : Nat → Blk} : ∀ {n : Nat}, (∀ i, i < n → ¬ ((f i).us = false ∧ (f i).wo = false)) → spareN f n = 0
  | 0, _ => rfl
  | n + 1, h => by
    have h1 := h n (by omega)
    have hf : (f n).free = false := by
      unfold Blk.free
      cases hu : (f n).us
      · cases hw : (f n).wo
        · exact absurd ⟨hu, hw⟩ h1
        · rfl
      · rfl
    show spareN f n + (if (f n).free = true then 1 else 0) = 0
    rw [hf, spare_none (fun i hi => h i (by omega))]
    rfl
theorem spare_some {f : Nat → Blk} {q : Nat} (hu : (f q).us = false) (hw : (f q).wo = false) : ∀ {n : Nat}, q < n → 0 < spareN f n
  | n + 1, h => by
    simp only [spareN]
    by_cases e : q = n
    · subst e
      have : (f q).free = true := by unfold Blk.free; rw [hu, hw]; rfl
      rw [this]; simp
    · have := spare_some hu hw (show q < n by omega)
      omega
structure PkAt (w : World) (A4 : Option Addr) (n : Nat) (f : Nat → Blk) (v11 : Value) (l : List Nat) (W : World) : Prop where
  bel : Below w.heap.size w W
  a : BRd W A4 n f
  r11 : Row W w.heap.size 3 1 v11 l.length (natsL l)
theorem PkAt.below {w W W' : World} {A4 : Option Addr} {n : Nat} {f : Nat → Blk} {v11 : Value} {l : List Nat} (h : PkAt w A4 n f v11 l W) (hb : Below W.heap.size W W') : PkAt w A4 n f v11 l W' :=
  ⟨h.bel.trans (hb.mono h.bel.size), h.a.below hb, h.r11.below hb⟩
theorem blk_cells {W : World} {g off n : Nat} {f : Nat → Blk} (h : BRd W (some ⟨g, off, none⟩) n f) {k : Nat} (hk : k < n) : BlkAt W g (off + k * 4) (f k) := by
  obtain ⟨g', off', e, _, hc⟩ := h k hk
  injection e with e
  injection e with e1 e2
  subst e1; subst e2
  exact hc
theorem blk_addr {W : World} {A : Option Addr} {n : Nat} {f : Nat → Blk} (h : BRd W A n f) (hn : 0 < n) : ∃ g off, A = some ⟨g, off, none⟩ := by
  obtain ⟨g, off, e, _⟩ := h 0 hn
  exact ⟨g, off, e⟩
set_option maxRecDepth 20000 in
set_option maxHeartbeats 6000000 in
theorem wearPicks_walk (A : Option Addr) (n c : Nat) (f : Nat → Blk) (apart most : Int) (w : World) (hK : KIn w A n c f) (hap : (Lit.int .i64 apart).wf = true) (_hmo : (Lit.int .i64 most).wf = true) :
    Calls Try.prog 5 #[.slice A n c, .int .i64 apart, .int .i64 most] w fun e w' => e = .returned (.bool true) ∧ Below w.heap.size w w' := by
  have hap2 : -9223372036854775808 ≤ apart ∧ apart ≤ 9223372036854775807 := by simpa [Lit.wf, IntKind.min, IntKind.max, IntKind.signed, IntKind.bits] using hap
  have HAP := Aside.mk hap2
  have HK := Aside.mk hK
  have hn := hK.hn
  have hcm := hK.hcm
  have hc := hK.hc
  clear hK hap hap2 _hmo
  go_enter Try.func5, Try.ntmps5
  go_upto_region 3 with (go_at_call 6; refine (wear_speaks _).mono ?_; rintro e w1 ⟨rfl, hb1⟩; have HB1 := Aside.mk hb1; clear hb1)
  go_upto_region 4 with (go_at_call 8; refine (law_both A n c f _ HK.out.hn HK.out.hc HK.out.hcm (HK.out.rd.below HB1.out)).mono ?_; rintro e w2 ⟨v4, v5, rfl, HBO⟩)
  obtain ⟨A4, c4, rfl, hc4, hm4⟩ := row_slice HBO.r4
  have hb2 : Below w.heap.size w w2 := HB1.out.trans (HBO.bel.mono HB1.out.size)
  have HA := Aside.mk (And.intro hb2 (brd_of_row HBO.r4))
  have hn2 : n ≤ 10000000000000 := by omega
  have HPK := Aside.mk (pick_is f n)
  have HLV := Aside.mk (level_is f n apart)
  clear HBO hb2
  go_upto_region 5 with (first
    | (go_at_call 7; refine (wear_pick A4 n c4 f w2 hn2 hc4 hm4 HA.out.2).mono ?_; rintro e w5 ⟨rfl, hb5⟩; have H5 : Aside (Below w.heap.size w w5 ∧ BRd w5 A4 n f) := ⟨HA.out.1.trans (hb5.mono HA.out.1.size), HA.out.2.below hb5⟩; clear hb5)
    | (go_at_call 12; refine (wear_level A4 n c4 f apart w5 hn2 hc4 hm4 H5.out.2 HK.out.er HAP.out.1 HAP.out.2).mono ?_; rintro e w7 ⟨rfl, hb7⟩; have H7 : Aside (Below w.heap.size w w7 ∧ BRd w7 A4 n f) := ⟨H5.out.1.trans (hb7.mono H5.out.1.size), H5.out.2.below hb7⟩; clear hb7))
  clear HA H5
  generalize levelF f n apart = lv at *
  generalize least f n = pk at *
  go_upto_region 7 with (go_at_call 9; refine (wear_scrub A4 n c4 f most w7 hn2 hc4 hm4 H7.out.2).mono ?_; rintro e w3 ⟨v11, l, rfl, hr9, hb3, hs9, hm9⟩; have H8 : Aside (PkAt w A4 n f v11 l w3 ∧ l.Pairwise (Ahead fun x => (f x).rd) ∧ ∀ x ∈ l, x < n ∧ (f x).us = true ∧ most < (f x).rd) := ⟨⟨H7.out.1.trans (hb3.mono H7.out.1.size), H7.out.2.below hb3, hr9.mono H7.out.1.size⟩, hs9, fun x hx => (by
      have h := (hm9 x).1 hx
      have h2 := (List.mem_filter.1 h).2
      simp only [Bool.and_eq_true, decide_eq_true_eq] at h2
      exact ⟨scrubL_lt h, h2.1, h2.2⟩)⟩; clear hr9 hb3 hs9 hm9)
  clear H7
  obtain ⟨A11, c11, rfl, hc11, hm11⟩ := row_slice H8.out.1.r11
  generalize hll : l.length = len at *
  have HLL := Aside.mk hll
  clear hll
  have HL := Aside.mk H8.out.2
  go_loopw [12, 13] (fun s12 _ wx => ∃ k : Nat, k ≤ n ∧ s12 = .int .i64 k ∧ Aside (PkAt w A4 n f (.slice A11 len c11) l wx)) (fun s12 _ _ => n - (intOf s12).toNat)
  case atStart => exact ⟨0, Nat.zero_le _, rfl, ⟨H8.out.1⟩⟩
  case round =>
    clear H8
    obtain ⟨k, hk, rfl, HB⟩ := hrel
    by_cases hlt : k < n
    · obtain ⟨g, off, rfl⟩ := blk_addr HB.out.a (by omega)
      obtain ⟨c0, c1, c2, c3⟩ := blk_cells HB.out.a hlt
      have hk1 : IntKind.i64.wrap ((k : Int) + 1) = (k : Int) + 1 := by rw [IntKind.wrap_i64]; omega
      have hkn : (k : Int) < (n : Int) := by omega
      have hk0 : (0 : Int) ≤ (k : Int) := by omega
      clear c1
      have HNX : Aside (PkAt w (some ⟨g, off, none⟩) n f (.slice A11 len c11) l (wr.drewN 1) → True) := ⟨fun _ => trivial⟩
      cases hU : (f k).us
      · cases hW : (f k).wo
        · -- free
          rcases HPK.out with ⟨_, h⟩ | ⟨q, rfl, hq, _, _, hmin⟩
          · exact absurd ⟨hU, hW⟩ (h k hlt)
          · have hlo : decide ((f k).er < (f q).er) = false := by
              have := hmin k hlt hU hW
              simpa using this
            have e0 := (blk_cells HB.out.a hq).1
            have q1 : (q : Int) < (n : Int) := by omega
            have q0 : (0 : Int) ≤ (q : Int) := by omega
            have q2 : decide ((q : Int) < 0) = false := by simp
            rw [hU] at c2
            rw [hW] at c3
            clear hU hW hmin
            generalize (f k).er = xe at *
            generalize (f q).er = ye at *
            go_upto_region 10 with fail
            go_quiet (fail)
            go_wp2
            go_roundw
            case rel => exact ⟨k + 1, by omega, by go_num, ⟨HB.out.below ⟨rfl, rfl, rfl, Nat.le_refl _, fun _ _ => rfl⟩⟩⟩
            case measure => simp [intOf]; omega
        · rw [hU] at c2
          rw [hW] at c3
          clear hU hW
          generalize (f k).er = xe at *
          go_upto_region 10 with fail
          go_quiet (fail)
          go_wp2
          go_roundw
          case rel => exact ⟨k + 1, by omega, by go_num, ⟨HB.out.below ⟨rfl, rfl, rfl, Nat.le_refl _, fun _ _ => rfl⟩⟩⟩
          case measure => simp [intOf]; omega
      · cases hW : (f k).wo
        · -- used
          rcases HLV.out with rfl | ⟨q, rfl, hq, _, _, hmin⟩
          · rw [hU] at c2
            rw [hW] at c3
            clear hU hW
            generalize (f k).er = xe at *
            go_upto_region 10 with fail
            go_quiet (fail)
            go_wp2
            go_roundw
            case rel => exact ⟨k + 1, by omega, by go_num, ⟨HB.out.below ⟨rfl, rfl, rfl, Nat.le_refl _, fun _ _ => rfl⟩⟩⟩
            case measure => simp [intOf]; omega
          · have hlo : decide ((f k).er < (f q).er) = false := by
              have := hmin k hlt hU hW
              simpa using this
            have e0 := (blk_cells HB.out.a hq).1
            have q1 : (q : Int) < (n : Int) := by omega
            have q0 : (0 : Int) ≤ (q : Int) := by omega
            rw [hU] at c2
            rw [hW] at c3
            clear hU hW hmin
            generalize (f k).er = xe at *
            generalize (f q).er = ye at *
            go_upto_region 10 with fail
            go_quiet (fail)
            go_wp2
            go_roundw
            case rel => exact ⟨k + 1, by omega, by go_num, ⟨HB.out.below ⟨rfl, rfl, rfl, Nat.le_refl _, fun _ _ => rfl⟩⟩⟩
            case measure => simp [intOf]; omega
        · rw [hU] at c2
          rw [hW] at c3
          clear hU hW
          generalize (f k).er = xe at *
          go_upto_region 10 with fail
          go_quiet (fail)
          go_wp2
          go_roundw
          case rel => exact ⟨k + 1, by omega, by go_num, ⟨HB.out.below ⟨rfl, rfl, rfl, Nat.le_refl _, fun _ _ => rfl⟩⟩⟩
          case measure => simp [intOf]; omega
    · obtain rfl : k = n := by omega
      go_upto_region 13 with fail
      go_loopw [14] (fun s14 wx => ∃ j : Nat, j ≤ len ∧ s14 = .int .i64 j ∧ Aside (PkAt w A4 k f (.slice A11 len c11) l wx)) (fun s14 _ => len - (intOf s14).toNat)
      case atStart => exact ⟨0, Nat.zero_le _, rfl, HB⟩
      case round =>
        clear HB
        obtain ⟨j, hj, rfl, HB⟩ := hrel
        have hlen9 : len ≤ 9223372036854775807 := by omega
        by_cases hjl : j < len
        · obtain ⟨g9, o9, rfl, e9⟩ := nat_cell HB.out.r11 HLL.out hjl
          have hj1 : IntKind.i64.wrap ((j : Int) + 1) = (j : Int) + 1 := by rw [IntKind.wrap_i64]; omega
          have hjn : (j : Int) < (len : Int) := by omega
          have hj0 : (0 : Int) ≤ (j : Int) := by omega
          have hjl2 : j < l.length := by rw [HLL.out]; exact hjl
          obtain ⟨x, hx⟩ : ∃ x, x = l.getD j 0 := ⟨_, rfl⟩
          rw [← hx] at e9
          have hxl : x ∈ l := by rw [hx]; simp [hjl2]
          obtain ⟨hxn, hxu, hxm⟩ := HL.out.2 x hxl
          obtain ⟨g, off, rfl⟩ := blk_addr HB.out.a (by omega)
          obtain ⟨_, c1, c2, _⟩ := blk_cells HB.out.a hxn
          rw [hxu] at c2
          have hxn' : (x : Int) < (k : Int) := by omega
          have hx0 : (0 : Int) ≤ (x : Int) := by omega
          have hxle : decide ((f x).rd ≤ most) = false := by simp; omega
          have hkk : k ≤ 9223372036854775807 := by omega
          by_cases hjz : j = 0
          · subst hjz
            rw [Nat.add_zero] at e9
            have hlen0 : (0 : Int) < (len : Int) := by omega
            have hlen1 : 0 < len := by omega
            clear hxl hx hxu hxm
            generalize (f x).rd = xr at *
            go_upto_region 15 with fail
            go_quiet (fail)
            go_wp2
            go_roundw
            case rel => exact ⟨0 + 1, by omega, by go_num, ⟨HB.out.below ⟨rfl, rfl, rfl, Nat.le_refl _, fun _ _ => rfl⟩⟩⟩
            case measure => simp [intOf]; omega
          · obtain ⟨i, hi⟩ : ∃ i, j = i + 1 := ⟨j - 1, by omega⟩
            have e3 : IntKind.i64.wrap ((j : Int) - 1) = (i : Int) := by rw [IntKind.wrap_i64]; omega
            obtain ⟨g9', o9', ea, e8⟩ := nat_cell HB.out.r11 HLL.out (show i < len by omega)
            injection ea with ea
            injection ea with ea eb
            subst ea; subst eb
            obtain ⟨y, hy⟩ : ∃ y, y = l.getD i 0 := ⟨_, rfl⟩
            rw [← hy] at e8
            have hil2 : i < l.length := by omega
            have hyl : y ∈ l := by rw [hy]; simp [hil2]
            obtain ⟨hyn, _, _⟩ := HL.out.2 y hyl
            obtain ⟨_, d1, _, _⟩ := blk_cells HB.out.a hyn
            have hyn' : (y : Int) < (k : Int) := by omega
            have hy0 : (0 : Int) ≤ (y : Int) := by omega
            have hin : (i : Int) < (len : Int) := by omega
            have hi0 : (0 : Int) ≤ (i : Int) := by omega
            have hjp : (0 : Int) < (j : Int) := by omega
            have hjp2 : 0 < j := by omega
            have hord : decide ((f y).rd < (f x).rd) = false := by
              have hp := List.pairwise_iff_getElem.1 HL.out.1 i j hil2 hjl2 (by omega)
              have ex : l[j] = x := by rw [hx]; simp [hjl2]
              have ey : l[i] = y := by rw [hy]; simp [hil2]
              rw [ex, ey] at hp
              unfold Ahead at hp
              simp only at hp
              simp; omega
            have HJ := Aside.mk hjl
            clear hxl hx hxu hxm hyl hy hi
            generalize (f x).rd = xr at *
            generalize (f y).rd = yr at *
            go_upto_region 15 with fail
            go_quiet (fail)
            go_wp2
            go_roundw
            case rel => exact ⟨j + 1, by omega, by go_num, ⟨HB.out.below ⟨rfl, rfl, rfl, Nat.le_refl _, fun _ _ => rfl⟩⟩⟩
            case measure => simp [intOf]; omega
        · obtain rfl : j = len := by omega
          go_upto_region 17 with fail
          rcases HPK.out with ⟨rfl, h⟩ | ⟨q, rfl, hq, hu, hwq, hmin⟩
          · have hsp := spare_none h
            have HSP := Aside.mk hsp
            clear h hsp
            rcases HLV.out with rfl | ⟨q, rfl, hq, hu, hwq, _⟩
            · go_wp2_with (go_at_call 14; refine (wear_spare A4 k c4 f _ hn2 hc4 hm4 HB.out.a).mono ?_; rw [HSP.out]; rintro e w9 ⟨rfl, hb9⟩; have H9 := Aside.mk (HB.out.below hb9); clear hb9)
              go_ret
              exact ⟨by simp, H9.out.bel⟩
            · obtain ⟨g, off, rfl⟩ := blk_addr HB.out.a (by omega)
              obtain ⟨_, _, c2, c3⟩ := blk_cells HB.out.a hq
              rw [hu] at c2
              rw [hwq] at c3
              have q1 : (q : Int) < (k : Int) := by omega
              have q0 : (0 : Int) ≤ (q : Int) := by omega
              clear hu hwq
              go_wp2_with (go_at_call 14; refine (wear_spare (some ⟨g, off, none⟩) k c4 f _ hn2 hc4 hm4 HB.out.a).mono ?_; rw [HSP.out]; rintro e w9 ⟨rfl, hb9⟩; have H9 := Aside.mk (HB.out.below hb9); clear hb9)
              go_ret
              exact ⟨by simp, H9.out.bel⟩
          · have hsp := spare_some hu hwq hq
            have hs2 : (((spareN f k : Nat) : Int) == 0) = false := by simp; omega
            obtain ⟨g, off, rfl⟩ := blk_addr HB.out.a (by omega)
            obtain ⟨_, _, c2, c3⟩ := blk_cells HB.out.a hq
            rw [hu] at c2
            rw [hwq] at c3
            have q1 : (q : Int) < (k : Int) := by omega
            have q0 : (0 : Int) ≤ (q : Int) := by omega
            clear hu hwq hmin
            generalize hspn : spareN f k = sp at *
            have HSP := Aside.mk hspn
            clear hspn
            rcases HLV.out with rfl | ⟨q2, rfl, hq2, hu, hwq, _⟩
            · go_wp2_with (go_at_call 14; refine (wear_spare (some ⟨g, off, none⟩) k c4 f _ hn2 hc4 hm4 HB.out.a).mono ?_; rw [HSP.out]; rintro e w9 ⟨rfl, hb9⟩; have H9 := Aside.mk (HB.out.below hb9); clear hb9)
              go_ret
              exact ⟨by simp, H9.out.bel⟩
            · obtain ⟨_, _, d2, d3⟩ := blk_cells HB.out.a hq2
              rw [hu] at d2
              rw [hwq] at d3
              have p1 : (q2 : Int) < (k : Int) := by omega
              have p0 : (0 : Int) ≤ (q2 : Int) := by omega
              clear hu hwq
              go_wp2_with (go_at_call 14; refine (wear_spare (some ⟨g, off, none⟩) k c4 f _ hn2 hc4 hm4 HB.out.a).mono ?_; rw [HSP.out]; rintro e w9 ⟨rfl, hb9⟩; have H9 := Aside.mk (HB.out.below hb9); clear hb9)
              go_ret
              exact ⟨by simp, H9.out.bel⟩
end Go.Proofs.Ytaganococolodaa
