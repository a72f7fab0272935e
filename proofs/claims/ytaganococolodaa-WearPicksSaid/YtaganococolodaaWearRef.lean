/-
  What the document says: which block is picked, which is moved.
-/
import Derived.Test.YtaganococolodaaWearLevel
namespace Go.Proofs.Ytaganococolodaa
open Go.RowKit Go.Sort

theorem ref_beyond (b a c : Int) (w : World) (hb1 : -9223372036854775808 ≤ b) (hb2 : b ≤ 9223372036854775807) (ha1 : -9223372036854775808 ≤ a) (ha2 : a ≤ 9223372036854775807) (hc1 : 0 ≤ c) (hc2 : c ≤ 9223372036854775807) :
    Calls Try.prog 23 #[.int .i64 b, .int .i64 a, .int .i64 c] w fun e w' => e = .returned (.bool (decide (a + c < b))) ∧ w' = w := by
  by_cases h : b ≤ a
  · have hd : decide (a + c < b) = false := by simp; omega
    go_enter Try.func23, Try.ntmps23
    go_wp2
    go_ret
    exact ⟨by rw [hd]; rfl, rfl⟩
  · have e1 : IntKind.u64.wrap (IntKind.u64.wrap b - IntKind.u64.wrap a) = b - a := by rw [IntKind.wrap_u64, IntKind.wrap_u64, IntKind.wrap_u64]; omega
    have e2 : IntKind.u64.wrap c = c := by rw [IntKind.wrap_u64]; omega
    have hd : decide (a + c < b) = decide (c < b - a) := by
      by_cases h2 : a + c < b
      · simp [h2]; omega
      · simp [h2]; omega
    rw [hd]
    go_enter Try.func23, Try.ntmps23
    go_wp2
    go_ret
    exact ⟨rfl, rfl⟩
theorem below_drewN {B : Nat} {w W : World} (h : Below B w W) (m : Nat) : Below B w (W.drewN m) := ⟨h.os, h.tape, h.output, h.size, h.block⟩
set_option maxRecDepth 20000 in
set_option maxHeartbeats 4000000 in
theorem ref_level (A : Option Addr) (n c : Nat) (f : Nat → Blk) (apart : Int) (w : World) (hn : n ≤ 10000000000000) (hc : n ≤ c) (hcm : c ≤ 9223372036854775807) (hR : BRd w A n f) (hE : ∀ i, i < n → -9223372036854775808 ≤ (f i).er ∧ (f i).er ≤ 9223372036854775807) (ha2 : apart ≤ 9223372036854775807) :
    Calls Try.prog 13 #[.slice A n c, .int .i64 apart] w fun e w' => e = .returned (.int .i64 (levelF f n apart)) ∧ Below w.heap.size w w' := by
  have HR := Aside.mk hR
  have HE := Aside.mk hE
  have hdef : levelF f n apart = if least (flp f) n < 0 then -1 else if anyAbove f ((f (least (flp f) n).toNat).er + max apart 0) n then least (flp f) n else -1 := rfl
  have HD := Aside.mk hdef
  obtain ⟨far, hfar⟩ : ∃ far, far = max apart 0 := ⟨_, rfl⟩
  rw [← hfar] at HD
  have HFA := Aside.mk (show 0 ≤ far ∧ far ≤ 9223372036854775807 by omega)
  have HF2 := Aside.mk hfar
  clear hR hE hdef ha2 hfar
  go_enter Try.func13, Try.ntmps13
  go_upto_region 1 with fail
  go_cut [9] (fun s9 wx => s9 = .bool (decide (apart < 0)) ∧ w = wx)
  case first =>
    go_wp2
    go_meet
    exact ⟨rfl, rfl⟩
  case rest =>
  obtain ⟨rfl, rfl⟩ := hcut
  apply_assumption
  go_cut [1] (fun s1 wx => s1 = .int .i64 far ∧ w = wx)
  case first =>
    by_cases ha : apart < 0
    · have := HF2.out
      obtain rfl : far = 0 := by omega
      clear this
      go_wp2
      go_meet
      exact ⟨rfl, rfl⟩
    · have := HF2.out
      obtain rfl : far = apart := by omega
      clear this
      go_wp2
      go_meet
      exact ⟨rfl, rfl⟩
  case rest =>
  obtain ⟨rfl, rfl⟩ := hcut
  apply_assumption
  go_wp2
  go_loopw [5, 6] (fun s5 s6 wr => ∃ k : Nat, k ≤ n ∧ s6 = .int .i64 k ∧ s5 = .int .i64 (least (flp f) k) ∧ Below w.heap.size w wr) (fun _ s6 _ => n - (intOf s6).toNat)
  case atStart => exact ⟨0, by omega, rfl, rfl, Below.refl _ _⟩
  case round =>
    obtain ⟨k, hk, rfl, rfl, hb⟩ := hrel
    by_cases hlt : k < n
    · obtain ⟨g, off, rfl, hcell⟩ := HR.out.cells hlt
      have hk1 : IntKind.i64.wrap ((k : Int) + 1) = (k : Int) + 1 := by rw [IntKind.wrap_i64]; omega
      obtain ⟨c0, c1, c2, c3⟩ := hcell w.heap.size wr (Nat.le_refl _) hb
      obtain ⟨x, hx⟩ : ∃ x, x = f k := ⟨_, rfl⟩
      rw [← hx] at c0 c1 c2 c3
      have HX := Aside.mk hx
      clear hx hcell
      have hll := least_lt (flp f) k
      obtain ⟨B, hB⟩ : ∃ B, B = least (flp f) k := ⟨_, rfl⟩
      rw [← hB] at hll ⊢
      have HB := Aside.mk hB
      clear hB
      have hq : ∀ q : Nat, B = (q : Int) → ∀ wz, Below w.heap.size w wz → wz.cell? ⟨g, off + q * 4, none⟩ = some (.int .i64 (f q).er) := fun q hq wz hz => by
        obtain ⟨g2, off2, h1, h2⟩ := HR.out.cells (show q < n by omega)
        injection h1 with h1
        injection h1 with h1 h3
        subst h1; subst h3
        exact (h2 _ wz (Nat.le_refl _) hz).1
      have HQ := Aside.mk hq
      have HBW := Aside.mk hb
      clear hq hb
      obtain ⟨xe, xr, xu, xw⟩ := x
      simp only at c0 c1 c2 c3
      go_upto_region 7 with fail
      go_cut [45] (fun s45 wx => s45 = .bool ((⟨xe, xr, xu, xw⟩ : Blk).busy && (decide (B < 0) || decide (xe < (f B.toNat).er))) ∧ Below w.heap.size w wx)
      case first =>
        as_aux_lemma =>
          by_cases hB0 : B < 0
          · have hB1 : decide (B < 0) = true := by simp [hB0]
            cases xu <;> cases xw
            all_goals
              go_quiet (fail)
              simp only [Exit.then]
              apply_assumption
              go_meet
              exact ⟨by simp [Blk.busy, Blk.flip, Blk.free, hB0], below_drewN HBW.out _⟩
          · obtain ⟨q, rfl⟩ := Int.eq_ofNat_of_zero_le (show 0 ≤ B by omega)
            have hqn : q < n := by omega
            have hq0 : (0 : Int) ≤ (q : Int) := by omega
            have hqn' : (q : Int) < (n : Int) := by omega
            have hB1 : decide ((q : Int) < 0) = false := by simp
            have g0 := HQ.out q rfl _ HBW.out
            cases xu <;> cases xw
            all_goals
              go_quiet (fail)
              simp only [Exit.then]
              apply_assumption
              go_meet
              exact ⟨by first | (simp [Blk.busy, Blk.flip, Blk.free]; done) | (simp [Blk.busy, Blk.flip, Blk.free]; omega), below_drewN HBW.out _⟩
      case rest =>
        obtain ⟨rfl, hb⟩ := hcut
        apply_assumption
        cases hS : ((⟨xe, xr, xu, xw⟩ : Blk).busy && (decide (B < 0) || decide (xe < (f B.toNat).er)))
        · have hls : least (flp f) (k + 1) = B := by rw [HB.out]; exact least_skip (by unfold flp; rw [← HX.out]; rw [HB.out] at hS; exact hS)
          have HL := Aside.mk hls
          clear hS hls
          go_wp2
          go_roundw
          case rel => exact ⟨k + 1, by omega, by go_num, by rw [HL.out], hb⟩
          case measure => simp [intOf]; omega
        · have hls : least (flp f) (k + 1) = k := least_take (by unfold flp; rw [← HX.out]; rw [HB.out] at hS; exact hS)
          have HL := Aside.mk hls
          clear hS hls
          go_wp2
          go_roundw
          case rel => exact ⟨k + 1, by omega, by go_num, by rw [HL.out], hb⟩
          case measure => simp [intOf]; omega
    · obtain rfl : n = k := by omega
      obtain ⟨B, hB⟩ : ∃ B, B = least (flp f) n := ⟨_, rfl⟩
      have hll := least_lt (flp f) n
      rw [← hB] at HD hll ⊢
      clear hB hlt
      have HB := Aside.mk hb
      clear hb
      by_cases hB0 : B < 0
      · have HDD := Aside.mk (HD.out.trans (if_pos hB0))
        have hB1 : ¬ (0 ≤ B) := by omega
        have HR2 := Aside.mk hll
        clear hll
        go_wp2
        go_loopw [7] (fun s7 wx => s7 = .int .i64 0 ∧ Aside (Below w.heap.size w wx)) (fun _ _ => 0)
        case atStart => exact ⟨rfl, HB⟩
        case round =>
          obtain ⟨rfl, HB5⟩ := hrel
          by_cases hn0 : 0 < n
          · have hn1 : (0 : Int) < (n : Int) := by omega
            go_wp2
            go_ret
            exact ⟨by rw [HDD.out]; rfl, HB5.out⟩
          · have hn1 : decide ((0 : Int) < (n : Int)) = false := by simp; omega
            have hn2 : n = 0 := by omega
            go_wp2
            go_ret
            exact ⟨by rw [HDD.out]; rfl, HB5.out⟩
      · obtain ⟨q, rfl⟩ := Int.eq_ofNat_of_zero_le (show 0 ≤ B by omega)
        have hqn : q < n := by omega
        have hq0 : (0 : Int) ≤ (q : Int) := by omega
        have hqn' : (q : Int) < (n : Int) := by omega
        have HD2 := Aside.mk (HD.out.trans (if_neg hB0))
        rw [Int.toNat_natCast] at HD2
        obtain ⟨gq, oq, hAq, hcq⟩ := HR.out.cells hqn
        have hq : ∀ wz, Below w.heap.size w wz → wz.cell? ⟨gq, oq + q * 4, none⟩ = some (.int .i64 (f q).er) := fun wz hz => (hcq _ wz (Nat.le_refl _) hz).1
        have HQ := Aside.mk hq
        have hEq := HE.out q hqn
        generalize (f q).er = low at *
        have HEQ := Aside.mk hEq
        clear hq hcq hll hEq hB0
        subst hAq
        go_wp2
        go_loopw [7] (fun s7 wx => ∃ k : Nat, k ≤ n ∧ s7 = .int .i64 k ∧ Aside (Below w.heap.size w wx ∧ anyAbove f (low + far) k = false)) (fun s7 _ => n - (intOf s7).toNat)
        case atStart => exact ⟨0, Nat.zero_le _, rfl, ⟨HB.out, rfl⟩⟩
        case round =>
          obtain ⟨k, hk, rfl, HB5⟩ := hrel
          by_cases hlt : k < n
          · obtain ⟨g2, off2, e1, hcell⟩ := HR.out.cells hlt
            injection e1 with e1
            injection e1 with e1 e2
            subst e1; subst e2
            obtain ⟨c0, c1, c2, c3⟩ := hcell w.heap.size wr (Nat.le_refl _) HB5.out.1
            have g0 := HQ.out wr HB5.out.1
            have hk1 : IntKind.i64.wrap ((k : Int) + 1) = (k : Int) + 1 := by rw [IntKind.wrap_i64]; omega
            have hek := HE.out k hlt
            have hbe := fun W => ref_beyond (f k).er low far W hek.1 hek.2 HEQ.out.1 HEQ.out.2 HFA.out.1 HFA.out.2
            have hnext : anyAbove f (low + far) (k + 1) = (!(f k).wo && decide (low + far < (f k).er)) := by simp only [anyAbove, HB5.out.2, Bool.false_or]
            have HNX := Aside.mk hnext
            have HHIT : Aside ((!(f k).wo && decide (low + far < (f k).er)) = true → anyAbove f (low + far) n = true) := ⟨fun h => anyAbove_hit hlt h⟩
            clear hcell hnext hek
            generalize hd : decide (low + far < (f k).er) = bb at *
            have HBE := Aside.mk hbe
            generalize (f k).er = xe at *
            generalize (f k).rd = xr at *
            generalize (f k).us = xu at *
            generalize (f k).wo = xw at *
            clear hbe hd
            have hkn : (k : Int) < (n : Int) := by omega
            cases xw with
            | true =>
              have HF : Aside (anyAbove f (low + far) (k + 1) = false) := ⟨by rw [HNX.out]; rfl⟩
              go_upto_region 12 with fail
              go_quiet (fail)
              go_wp2
              go_roundw
              case rel => exact ⟨k + 1, by omega, by go_num, ⟨below_drewN HB5.out.1 _, HF.out⟩⟩
              case measure => simp [intOf]; omega
            | false =>
              cases bb with
              | true =>
                have HT := Aside.mk (HHIT.out rfl)
                go_upto_region 12 with fail
                go_quiet ((go_at_call 23; exact Calls.quiet_of_same (HBE.out _)))
                go_wp2
                go_ret
                exact ⟨by rw [HD2.out, if_pos HT.out]; rfl, below_drewN HB5.out.1 _⟩
              | false =>
                have HF : Aside (anyAbove f (low + far) (k + 1) = false) := ⟨by rw [HNX.out]; rfl⟩
                go_upto_region 12 with fail
                go_quiet ((go_at_call 23; exact Calls.quiet_of_same (HBE.out _)))
                go_wp2
                go_roundw
                case rel => exact ⟨k + 1, by omega, by go_num, ⟨below_drewN HB5.out.1 _, HF.out⟩⟩
                case measure => simp [intOf]; omega
          · obtain rfl : k = n := by omega
            have hlt2 : decide ((k : Int) < (k : Int)) = false := by simp
            have HF : Aside (anyAbove f (low + far) k = false) := ⟨HB5.out.2⟩
            go_wp2
            go_ret
            exact ⟨by rw [HD2.out, if_neg (by rw [HF.out]; simp)]; rfl, HB5.out.1⟩
end Go.Proofs.Ytaganococolodaa
