/-
  What is picked, moved and scrubbed, of any blocks; they stay.
-/
import Derived.Test.YtaganococolodaaWearBoth
import Derived.Test.YtaganococolodaaWearEven
namespace Go.Proofs.Ytaganococolodaa
open Go.RowKit Go.Sort

theorem BRd.below {w w' : World} {A : Option Addr} {n : Nat} {f : Nat → Blk} (h : BRd w A n f) (hb : Below w.heap.size w w') : BRd w' A n f := fun k hk => by
  obtain ⟨g, off, e, hlt, c0, c1, c2, c3⟩ := h k hk
  have hc : ∀ o, w'.cell? ⟨g, o, none⟩ = w.cell? ⟨g, o, none⟩ := fun o => hb.cell (p := ⟨g, o, none⟩) hlt
  exact ⟨g, off, e, Nat.lt_of_lt_of_le hlt hb.size, (hc _).trans c0, (hc _).trans c1, (hc _).trans c2, (hc _).trans c3⟩
theorem row_slice {W : World} {B : Nat} {e : TypeId} {size n : Nat} {v : Value} {xs : List Value} (h : Row W B e size v n xs) : ∃ A c, v = .slice A n c ∧ n ≤ c ∧ c ≤ 9223372036854775807 := by
  rcases h.2 with ⟨rfl, rfl⟩ | ⟨g, off, cap, cur, fr, rfl, _, _, h1, h2, _⟩
  · exact ⟨none, 0, rfl, Nat.le_refl _, Nat.zero_le _⟩
  · exact ⟨_, cap, rfl, h1, h2⟩
/-- What is known of an argument. -/
structure KIn (w : World) (A : Option Addr) (n c : Nat) (f : Nat → Blk) : Prop where
  hn : n ≤ 5864062014805
  hc : n ≤ c
  hcm : c ≤ 9223372036854775807
  rd : BRd w A n f
  er : ∀ i, i < n → -9223372036854775808 ≤ (f i).er ∧ (f i).er ≤ 9223372036854775807
theorem nat_cell {W : World} {B : Nat} {A : Option Addr} {c len : Nat} {l : List Nat} (h : Row W B 3 1 (.slice A len c) l.length (natsL l)) (hl : l.length = len) {j : Nat} (hj : j < len) :
    ∃ g off, A = some ⟨g, off, none⟩ ∧ W.cell? ⟨g, off + j, none⟩ = some (.int .i64 ((l.getD j 0 : Nat) : Int)) := by
  obtain ⟨g, off, cap, e, _⟩ := h.form (by omega)
  injection e with e1 e2 e3
  subst e1
  have := (h.at_ (by rw [← hl]) j (by omega)).1
  rw [natsL_at (by omega)] at this
  exact ⟨g, off, rfl, this⟩
/-- What lies there behind the calls. -/
structure ChAt (w : World) (A A4 : Option Addr) (n c4 : Nat) (f : Nat → Blk) (v9 v10 : Value) (l : List Nat) (W : World) : Prop where
  bel : Below w.heap.size w W
  arg : BRd W A n f
  a : BRd W A4 n f
  r9 : Row W w.heap.size 3 1 v9 l.length (natsL l)
  r10 : Row W w.heap.size 3 1 v10 l.length (natsL l)
theorem ChAt.below {w W W' : World} {A A4 : Option Addr} {n c4 : Nat} {f : Nat → Blk} {v9 v10 : Value} {l : List Nat} (h : ChAt w A A4 n c4 f v9 v10 l W) (hb : Below W.heap.size W W') : ChAt w A A4 n c4 f v9 v10 l W' :=
  ⟨h.bel.trans (hb.mono h.bel.size), h.arg.below hb, h.a.below hb, h.r9.below hb, h.r10.below hb⟩
set_option maxRecDepth 20000 in
set_option maxHeartbeats 4000000 in
theorem wearChoices_walk (A : Option Addr) (n c : Nat) (f : Nat → Blk) (apart most : Int) (w : World) (hK : KIn w A n c f) (hap : (Lit.int .i64 apart).wf = true) (_hmo : (Lit.int .i64 most).wf = true) :
    Calls Try.prog 4 #[.slice A n c, .int .i64 apart, .int .i64 most] w fun e w' => e = .returned (.bool true) ∧ Below w.heap.size w w' := by
  have hap2 : -9223372036854775808 ≤ apart ∧ apart ≤ 9223372036854775807 := by simpa [Lit.wf, IntKind.min, IntKind.max, IntKind.signed, IntKind.bits] using hap
  have HAP := Aside.mk hap2
  have HK := Aside.mk hK
  have hn := hK.hn
  have hcm := hK.hcm
  have hc := hK.hc
  have HIN : ∀ W B, Below w.heap.size w W → BRd W B n f → BRd W B n f := fun _ _ _ h => h
  clear hK hap HIN hap2 _hmo
  go_enter Try.func4, Try.ntmps4
  go_upto_region 3 with (go_at_call 6; go_loud (refine (wear_speaks _).mono ?_; rintro e w1 ⟨rfl, hb1⟩; have HB1 := Aside.mk hb1; clear hb1))
  go_upto_region 4 with (go_at_call 8; refine (law_both A n c f _ HK.out.hn HK.out.hc HK.out.hcm (HK.out.rd.below HB1.out)).mono ?_; rintro e w2 ⟨v4, v5, rfl, HBO⟩)
  obtain ⟨A4, c4, rfl, hc4, hm4⟩ := row_slice HBO.r4
  obtain ⟨A5, c5, rfl, hc5, hm5⟩ := row_slice HBO.r5
  have hb2 : Below w.heap.size w w2 := HB1.out.trans (HBO.bel.mono HB1.out.size)
  have HA := Aside.mk (And.intro hb2 (And.intro (brd_of_row HBO.r4) (brd_of_row HBO.r5)))
  clear HBO hb2
  go_upto_region 5 with (first
    | (go_at_call 9; refine (wear_scrub A4 n c4 f most w2 (by omega) hc4 hm4 HA.out.2.1).mono ?_; rintro e w3 ⟨v9, l, rfl, hr9, hb3, hs9, hm9⟩; have H3 := Aside.mk (And.intro hr9 (And.intro hb3 (And.intro hs9 hm9))); clear hr9 hb3 hs9 hm9)
    | (go_at_call 10; refine (ref_scrub A5 n c5 f most w3 (by omega) hc5 hm5 (HA.out.2.2.below H3.out.2.1)).mono ?_; rintro e w4 ⟨v10, l2, rfl, hr10, hb4, hs10, hm10⟩; have H4 := Aside.mk (And.intro hr10 (And.intro hb4 (And.intro hs10 hm10))); clear hr10 hb4 hs10 hm10))
  have HLL : Aside (l2 = l) := ⟨sorted_unique H4.out.2.2.1 H3.out.2.2.1 fun x => (H4.out.2.2.2 x).trans (H3.out.2.2.2 x).symm⟩
  have HCH : Aside (ChAt w A A4 n c4 f v9 v10 l w4 ∧ BRd w4 A5 n f) := ⟨by
    have hb24 : Below w2.heap.size w2 w4 := H3.out.2.1.trans (H4.out.2.1.mono H3.out.2.1.size)
    have h10 := H4.out.1
    rw [HLL.out] at h10
    exact ⟨⟨HA.out.1.trans (hb24.mono HA.out.1.size), HK.out.rd.below (HA.out.1.trans (hb24.mono HA.out.1.size)), HA.out.2.1.below hb24, (H3.out.1.below H4.out.2.1).mono HA.out.1.size, h10.mono (Nat.le_trans HA.out.1.size H3.out.2.1.size)⟩, HA.out.2.2.below hb24⟩⟩
  clear H3 H4 HA HLL
  obtain ⟨A9, c9, rfl, hc9, hm9⟩ := row_slice HCH.out.1.r9
  obtain ⟨A10, c10, rfl, hc10, hm10⟩ := row_slice HCH.out.1.r10
  have hn2 : n ≤ 10000000000000 := by omega
  go_upto_region 9 with (first
    | (go_at_call 7; refine (wear_pick A4 n c4 f w4 hn2 hc4 hm4 HCH.out.1.a).mono ?_; rintro e w5 ⟨rfl, hb5⟩; have H5 : Aside (ChAt w A A4 n c4 f (.slice A9 l.length c9) (.slice A10 l.length c10) l w5 ∧ BRd w5 A5 n f) := ⟨HCH.out.1.below hb5, HCH.out.2.below hb5⟩; clear hb5)
    | (go_at_call 11; refine (ref_pick A5 n c5 f w5 hn2 hc5 hm5 H5.out.2).mono ?_; rintro e w6 ⟨rfl, hb6⟩; have H6 : Aside (ChAt w A A4 n c4 f (.slice A9 l.length c9) (.slice A10 l.length c10) l w6 ∧ BRd w6 A5 n f) := ⟨H5.out.1.below hb6, H5.out.2.below hb6⟩; clear hb6)
    | (go_at_call 12; refine (wear_level A4 n c4 f apart w6 hn2 hc4 hm4 H6.out.1.a HK.out.er HAP.out.1 HAP.out.2).mono ?_; rintro e w7 ⟨rfl, hb7⟩; have H7 : Aside (ChAt w A A4 n c4 f (.slice A9 l.length c9) (.slice A10 l.length c10) l w7 ∧ BRd w7 A5 n f) := ⟨H6.out.1.below hb7, H6.out.2.below hb7⟩; clear hb7)
    | (go_at_call 13; refine (ref_level A5 n c5 f apart w7 hn2 hc5 hm5 H7.out.2 HK.out.er HAP.out.2).mono ?_; rintro e w8 ⟨rfl, hb8⟩; have H8 := Aside.mk (H7.out.1.below hb8); clear hb8))
  clear HCH H5 H6 H7
  generalize levelF f n apart = lv at *
  generalize least f n = pk at *
  generalize hll : l.length = len at *
  have HLL := Aside.mk hll
  clear hll
  go_loopw [11, 12] (fun s11 s12 wx => ∃ k : Nat, k ≤ n ∧ s12 = .int .i64 k ∧ s11 = .int .i64 (spareN f k : Nat) ∧ Aside (ChAt w A A4 n c4 f (.slice A9 len c9) (.slice A10 len c10) l wx)) (fun _ s12 _ => n - (intOf s12).toNat)
  case atStart => exact ⟨0, Nat.zero_le _, rfl, rfl, H8⟩
  case round =>
    clear H8
    obtain ⟨k, hk, rfl, rfl, HB⟩ := hrel
    by_cases hlt : k < n
    · obtain ⟨g, off, rfl, hcell⟩ := HB.out.arg.cells hlt
      obtain ⟨g4, off4, rfl, hcell4⟩ := HB.out.a.cells hlt
      obtain ⟨c0, c1, c2, c3⟩ := hcell _ wr (Nat.le_refl _) (Below.refl _ _)
      obtain ⟨d0, d1, d2, d3⟩ := hcell4 _ wr (Nat.le_refl _) (Below.refl _ _)
      have hk1 : IntKind.i64.wrap ((k : Int) + 1) = (k : Int) + 1 := by rw [IntKind.wrap_i64]; omega
      have hkn : (k : Int) < (n : Int) := by omega
      have hk0 : (0 : Int) ≤ (k : Int) := by omega
      have hsl := spareN_le f k
      have hs1 : IntKind.i64.wrap ((spareN f k : Nat) + 1 : Int) = ((spareN f k + 1 : Nat) : Int) := by rw [IntKind.wrap_i64]; omega
      have HSN : Aside (spareN f (k + 1) = spareN f k + if (!(f k).us && !(f k).wo) = true then 1 else 0) := ⟨rfl⟩
      clear hcell hcell4
      generalize (f k).er = xe at *
      generalize (f k).rd = xr at *
      generalize (f k).us = xu at *
      generalize (f k).wo = xw at *
      generalize spareN f k = sp at *
      clear hsl
      cases xu <;> cases xw
      case false.false =>
        have HN : Aside (spareN f (k + 1) = sp + 1) := ⟨by rw [HSN.out]; rfl⟩
        go_upto_region 13 with fail
        go_quiet (fail)
        go_wp2
        go_roundw
        case rel => exact ⟨k + 1, by omega, by go_num, by rw [HN.out]; simp, ⟨HB.out.below ⟨rfl, rfl, rfl, Nat.le_refl _, fun _ _ => rfl⟩⟩⟩
        case measure => simp [intOf]; omega
      all_goals
        have HN : Aside (spareN f (k + 1) = sp) := ⟨by rw [HSN.out]; rfl⟩
        go_upto_region 13 with fail
        go_quiet (fail)
        go_wp2
        go_roundw
        case rel => exact ⟨k + 1, by omega, by go_num, by rw [HN.out], ⟨HB.out.below ⟨rfl, rfl, rfl, Nat.le_refl _, fun _ _ => rfl⟩⟩⟩
        case measure => simp [intOf]; omega
    · obtain rfl : k = n := by omega
      have hsp := spareN_le f k
      go_upto_region 16 with fail
      go_loopw [13] (fun s13 wx => ∃ j : Nat, j ≤ len ∧ s13 = .int .i64 j ∧ Aside (ChAt w A A4 k c4 f (.slice A9 len c9) (.slice A10 len c10) l wx)) (fun s13 _ => len - (intOf s13).toNat)
      case atStart => exact ⟨0, Nat.zero_le _, rfl, HB⟩
      case round =>
        clear HB
        obtain ⟨j, hj, rfl, HB⟩ := hrel
        have hlen9 : len ≤ 9223372036854775807 := by omega
        by_cases hjl : j < len
        · obtain ⟨g9, o9, rfl, e9⟩ := nat_cell HB.out.r9 HLL.out hjl
          obtain ⟨g10, o10, rfl, e10⟩ := nat_cell HB.out.r10 HLL.out hjl
          have hj1 : IntKind.i64.wrap ((j : Int) + 1) = (j : Int) + 1 := by rw [IntKind.wrap_i64]; omega
          have hjn : (j : Int) < (len : Int) := by omega
          have hj0 : (0 : Int) ≤ (j : Int) := by omega
          generalize ((l.getD j 0 : Nat) : Int) = x at *
          go_upto_region 18 with fail
          go_quiet (fail)
          go_wp2
          go_roundw
          case rel => exact ⟨j + 1, by omega, by go_num, ⟨HB.out.below ⟨rfl, rfl, rfl, Nat.le_refl _, fun _ _ => rfl⟩⟩⟩
          case measure => simp [intOf]; omega
        · obtain rfl : j = len := by omega
          go_wp2_with (go_at_call 14; refine (wear_spare A4 k c4 f _ hn2 hc4 hm4 HB.out.a).mono ?_; rintro e w9 ⟨rfl, hb9⟩; have H9 := Aside.mk (HB.out.below hb9); clear hb9)
          go_ret
          exact ⟨by simp, H9.out.bel⟩
end Go.Proofs.Ytaganococolodaa
