/-
  A row's exponents, falling; a row laid over another.
-/
import Derived.Test.YtkdfbganhohbfaaDoorPolyRows
namespace Go.Proofs.YtkdfbganhohbfaaDoor
open Go.RowKit

theorem fall_word (P i : Nat) : Poly.fall (64 * (i + 1)) P = (Poly.fall 64 (Poly.wordN P i)).map (64 * i + ·) ++ Poly.fall (64 * i) P := by
  rw [show 64 * (i + 1) = 64 * i + 64 by omega, Poly.fall_split]
  congr 2
  apply Poly.fall_congr
  intro j hj
  rw [Poly.wordN_tb, Poly.tb_div, decide_eq_true hj, Bool.true_and]

set_option maxRecDepth 100000 in
set_option maxHeartbeats 3200000 in
theorem row_poly (b g off n c P : Nat) (w : World) (hR : RowP w b (.slice (some ⟨g, off, none⟩) n c) n P) (hn : n ≤ 1000) :
    Calls Tryd.prog 33 #[.slice (some ⟨g, off, none⟩) n c] w (ListOf w (Poly.fall (64 * n) P)) := by
  have HR := Aside.mk hR
  clear hR
  go_enter Tryd.func33, Tryd.ntmps33
  go_wp2
  go_loopw [3, 4] (fun s3 s4 wr => ∃ (j : Nat) (L : List Nat), j ≤ n ∧ s4 = .int .i64 ((j : Int) - 1) ∧ Row wr w.heap.size 3 1 s3 L.length (intsV (Poly.ints L)) ∧ Below w.heap.size w wr ∧ Aside (L ++ Poly.fall (64 * j) P = Poly.fall (64 * n) P)) (fun _ s4 _ => ((intOf s4) + 1).toNat)
  case atStart => exact ⟨n, [], by omega, rfl, Row.nil _ _ _ _, Below.refl _ _, ⟨rfl⟩⟩
  case round =>
    obtain ⟨j, L, hj, rfl, hr, hb, HL⟩ := hrel
    by_cases h0 : j = 0
    · subst h0
      have hLn : L = Poly.fall (64 * n) P := by
        have := HL.out
        rw [Nat.mul_zero] at this
        rw [← this]
        simp [Poly.fall]
      have HN := Aside.mk hLn
      have HH := Aside.mk (And.intro hr hb)
      clear hLn hr hb
      go_wp2
      go_ret
      exact ⟨_, rfl, by rw [← HN.out]; exact HH.out.1, HH.out.2⟩
    · obtain ⟨i, rfl⟩ : ∃ i, j = i + 1 := ⟨j - 1, by omega⟩
      have hin : i < n := by omega
      have c1 := (RowP.cell (Row.below HR.out hb) hin).1
      have hwl := Poly.wordN_lt P i
      have e1 : ((i + 1 : Nat) : Int) - 1 = (i : Int) := by omega
      have e2 : IntKind.i64.wrap ((i : Int) - 1) = (i : Int) - 1 := by rw [IntKind.wrap_i64]; omega
      have hi0 : (0 : Int) ≤ (i : Int) := by omega
      have hi1 : (i : Int) < (n : Int) := by omega
      have hin3 : i < 1000 := by omega
      rw [e1]
      clear e1
      have hL2 : L ++ ((Poly.fall 64 (Poly.wordN P i)).map (64 * i + ·) ++ Poly.fall (64 * i) P) = Poly.fall (64 * n) P := by rw [← fall_word]; exact HL.out
      have HL2 := Aside.mk hL2
      have HH := Aside.mk (And.intro hr hb)
      clear hL2 HL hr hb
      generalize Poly.wordN P i = x at *
      go_wp2
      clear c1
      go_loopw [3, 5] (fun s3 s5 wr => ∃ (x : Nat) (L : List Nat), x < 18446744073709551616 ∧ s5 = .int .u64 (x : Int) ∧ Row wr w.heap.size 3 1 s3 L.length (intsV (Poly.ints L)) ∧ Below w.heap.size w wr ∧ Aside (L ++ ((Poly.fall 64 x).map (64 * i + ·) ++ Poly.fall (64 * i) P) = Poly.fall (64 * n) P)) (fun _ s5 _ => (intOf s5).toNat)
      case atStart => exact ⟨x, L, hwl, rfl, HH.out.1, HH.out.2, HL2⟩
      case round =>
        clear HH HL2 hwl
        obtain ⟨x, L, hwl, rfl, hr, hb, HL⟩ := hrel
        by_cases hz : x = 0
        · subst hz
          have hL3 : L ++ Poly.fall (64 * i) P = Poly.fall (64 * n) P := by
            have := HL.out
            rwa [Poly.fall_zero, List.map_nil, List.nil_append] at this
          have HL3 := Aside.mk (And.intro hr (And.intro hb hL3))
          clear hL3 hr hb
          go_wp2
          go_roundw
          case rel => exact ⟨i, L, by omega, rfl, HL3.out.1, HL3.out.2.1, ⟨HL3.out.2.2⟩⟩
          case measure => simp [intOf]
        · have hz3 : ((x : Int) != 0) = true := by simp; omega
          have hl6 := log2_lt64 hz hwl
          have hlen := Aside.mk (fun W => len64 x W hz hwl)
          have htop := Poly.fall_top hz (n := 64) hwl
          have hxl := Poly.xor_top_lt hz
          generalize x.log2 = t at *
          have hL3 := HL.out
          rw [htop, List.map_cons] at hL3
          have hL4 : (L ++ [64 * i + t]) ++ ((Poly.fall 64 (x ^^^ 2 ^ t)).map (64 * i + ·) ++ Poly.fall (64 * i) P) = Poly.fall (64 * n) P := by
            rw [← hL3]; simp
          have hll : L.length + 1 ≤ 64 * n := by
            have h1 := congrArg List.length hL4
            have h2 := Poly.fall_len P (64 * n)
            simp at h1
            omega
          obtain ⟨d, hde⟩ : ∃ d, d = 2 ^ t := ⟨_, rfl⟩
          have hd2 : d < 18446744073709551616 := by rw [hde]; exact (Nat.pow_lt_pow_right (by omega) hl6 : 2 ^ t < 2 ^ 64)
          have hw : IntKind.u64.wrap ((2 : Int) ^ t) = (d : Int) := by
            rw [show ((2 : Int) ^ t) = (d : Int) by rw [hde, Int.natCast_pow]; rfl, IntKind.wrap_u64]
            omega
          rw [← hde] at hxl hL4
          have hx := u64_xor hwl hd2
          have hs1 : IntKind.i64.wrap (((t + 1 : Nat) : Int) - 1) = (t : Int) := by rw [IntKind.wrap_i64]; omega
          have hs2 : IntKind.i64.wrap (64 * (i : Int) + (t : Int)) = 64 * (i : Int) + (t : Int) := by rw [IntKind.wrap_i64]; omega
          have hsz := hb.size
          have HX := Aside.mk (And.intro hL4 hxl)
          clear hL3 hL4 htop hde hz hxl HL
          generalize x ^^^ d = y at *
          go_wp2_with (first | (go_at_call 46; refine (hlen.out _).mono ?_; rintro e w1 ⟨rfl, rfl⟩) | (at_builtin; refine wpList_append_one (w0 := w) w.heap.size rfl _ _ 57 3 1 8 (.int .i64 0) rfl Tryd.underlying57 infoInt rfl (by decide) u3 L.length _ #[.int .i64 (64 * (i : Int) + (t : Int))] rfl rfl rfl hr (by simp [Value.oneCell']) hb hsz (by omega) (by simp only [maxLen]; omega) ?_; intro v5 w5 hr5 hb5 hg5 hat5; have HR5 := Aside.mk (And.intro hr5 hb5); clear hr5 hb5 hg5 hat5))
          go_roundw
          case rel => exact ⟨y, L ++ [64 * i + t], by have := HX.out.2; omega, rfl, by have := HR5.out.1; rw [ints_append, intsV_append, List.length_append]; exact this, HR5.out.2, ⟨HX.out.1⟩⟩
          case measure => simp [intOf]; exact HX.out.2

/-! One row laid over another, so many bits higher. -/
theorem low_word {O k : Nat} : Poly.wordN O k * 2 ^ (64 * k) ≤ O := by
  have h1 := Nat.div_mul_le_self O (2 ^ (64 * k))
  have h2 : Poly.wordN O k ≤ O / 2 ^ (64 * k) := Nat.mod_le _ _
  exact Nat.le_trans (Nat.mul_le_mul_right _ h2) h1
theorem word_room {O k up nr : Nat} (h : O * 2 ^ up < 2 ^ (64 * nr)) (h0 : Poly.wordN O k ≠ 0) : k + up / 64 < nr := by
  have h1 : 2 ^ (64 * k) ≤ Poly.wordN O k * 2 ^ (64 * k) := Nat.le_mul_of_pos_left _ (by omega)
  have h2 : 2 ^ (64 * k + up) < 2 ^ (64 * nr) := by
    rw [Nat.pow_add]
    exact Nat.lt_of_le_of_lt (Nat.mul_le_mul_right _ (Nat.le_trans h1 low_word)) h
  have h3 := (Nat.pow_lt_pow_iff_right (by omega : 1 < 2)).1 h2
  omega
theorem word_room2 {O k up nr : Nat} (h : O * 2 ^ up < 2 ^ (64 * nr)) (h0 : Poly.wordN O k / 2 ^ (64 - up % 64) ≠ 0) : k + up / 64 + 1 < nr := by
  have h1 : 2 ^ (64 - up % 64) ≤ Poly.wordN O k := by
    rcases Nat.lt_or_ge (Poly.wordN O k) (2 ^ (64 - up % 64)) with h2 | h2
    · exact absurd (Nat.div_eq_of_lt h2) h0
    · exact h2
  have h2 : 2 ^ (64 - up % 64 + (64 * k + up)) < 2 ^ (64 * nr) := by
    rw [Nat.pow_add, Nat.pow_add 2 (64 * k), ← Nat.mul_assoc]
    exact Nat.lt_of_le_of_lt (Nat.mul_le_mul_right _ (Nat.le_trans (Nat.mul_le_mul_right _ h1) low_word)) h
  have h3 := (Nat.pow_lt_pow_iff_right (by omega : 1 < 2)).1 h2
  omega
def overlaid (R O k up : Nat) : Nat := R ^^^ O % 2 ^ (64 * k) * 2 ^ up
theorem overlaid_zero (R O up : Nat) : overlaid R O 0 up = R := by simp [overlaid, Nat.mod_one]
theorem overlaid_all {R O n up : Nat} (h : O < 2 ^ (64 * n)) : overlaid R O n up = R ^^^ O * 2 ^ up := by
  unfold overlaid
  rw [Nat.mod_eq_of_lt h]
theorem overlaid_step (R O k up : Nat) : overlaid R O (k + 1) up = overlaid R O k up ^^^ (Poly.wordN O k * 2 ^ (up % 64) % 2 ^ 64) * 2 ^ (64 * (k + up / 64)) ^^^ (Poly.wordN O k / 2 ^ (64 - up % 64)) * 2 ^ (64 * (k + up / 64 + 1)) := by
  unfold overlaid
  rw [Poly.low_step, Poly.mul_xor, Nat.mul_assoc, ← Nat.pow_add, Poly.shift_word]
  ac_rfl
theorem overlaid_skip {R O k up : Nat} (h : Poly.wordN O k = 0) : overlaid R O (k + 1) up = overlaid R O k up := by
  unfold overlaid
  rw [Poly.low_step, h, Nat.zero_mul, Nat.xor_zero]

theorem grownBy_drewP {w w' : World} {row : Option Nat} (h : w.grownBy w' row) : w.grownBy w'.drew row := ⟨h.os, h.tape, h.output, h.size, h.block⟩
set_option maxRecDepth 100000 in
set_option maxHeartbeats 3200000 in
theorem row_add (br gr offr nr cr R bo go offo no co O up : Nat) (w : World) (hR : RowP w br (.slice (some ⟨gr, offr, none⟩) nr cr) nr R) (hO : RowP w bo (.slice (some ⟨go, offo, none⟩) no co) no O)
    (hne : gr ≠ go) (hOl : O < 2 ^ (64 * no)) (hroom : O * 2 ^ up < 2 ^ (64 * nr)) (hup : up ≤ 1000000) (hn : nr ≤ 1000) (hn2 : no ≤ 1000) :
    Calls Tryd.prog 34 #[.slice (some ⟨gr, offr, none⟩) nr cr, .slice (some ⟨go, offo, none⟩) no co, .int .i64 (up : Int)] w (FlipPost w br gr (.slice (some ⟨gr, offr, none⟩) nr cr) nr (R ^^^ O * 2 ^ up)) := by
  have HW := Aside.mk (And.intro hO (And.intro hOl hroom))
  have hR0 : RowP w br (.slice (some ⟨gr, offr, none⟩) nr cr) nr (overlaid R O 0 up) := by rw [overlaid_zero]; exact hR
  have HR0 := Aside.mk hR0
  clear hR hO hOl hroom hR0
  obtain ⟨q, hq⟩ : ∃ q, q = up / 64 := ⟨_, rfl⟩
  obtain ⟨l, hl⟩ : ∃ l, l = up % 64 := ⟨_, rfl⟩
  have hl64 : l < 64 := by omega
  have hq0 : q ≤ 1000000 := by omega
  have hq1 : (up : Int) / 64 = (q : Int) := by omega
  have hl1 : (up : Int) % 64 = (l : Int) := by omega
  obtain ⟨s, hs⟩ : ∃ s, s = 64 - l := ⟨_, rfl⟩
  have hs1 : IntKind.i64.wrap (64 - (l : Int)) = (s : Int) := by rw [IntKind.wrap_i64]; omega
  have hs2 : s ≤ 64 := by omega
  have HQ := Aside.mk (And.intro hq (And.intro hl hs))
  clear hq hl hs
  go_enter Tryd.func34, Tryd.ntmps34
  go_wp2
  go_loopw [16] (fun s16 wr => ∃ k : Nat, k ≤ no ∧ s16 = .int .i64 (k : Int) ∧ RowP wr br (.slice (some ⟨gr, offr, none⟩) nr cr) nr (overlaid R O k up) ∧ w.grownBy wr (some gr)) (fun s16 _ => no - (intOf s16).toNat)
  case atStart => exact ⟨0, by omega, rfl, HR0.out, World.grownBy.refl _ _⟩
  case round =>
    clear HR0
    obtain ⟨k, hk, rfl, hr, hg⟩ := hrel
    by_cases hlt : k < no
    · have hO := Row.kept HW.out.1 hg (.inr (by simp [Value.ownBlock]; omega))
      have c1 := (RowP.cell hO hlt).1
      have hwl := Poly.wordN_lt O k
      have hk0 : (0 : Int) ≤ (k : Int) := by omega
      have hk1 : (k : Int) < (no : Int) := by omega
      have hk2 : IntKind.i64.wrap ((k : Int) + 1) = (k : Int) + 1 := by rw [IntKind.wrap_i64]; omega
      by_cases hz : Poly.wordN O k = 0
      · have hsk := overlaid_skip (R := R) (up := up) hz
        rw [hz] at c1
        have c2 : wr.cell? ⟨go, offo + k, none⟩ = some (.int .u64 0) := c1
        have HS := Aside.mk (And.intro hsk (And.intro hr hg))
        clear hsk hz hr hg hO c1 hwl
        go_wp2
        go_roundw
        case rel => exact ⟨k + 1, by omega, by go_num, by rw [HS.out.1]; exact HS.out.2.1, HS.out.2.2⟩
        case measure => simp [intOf]; omega
      · have hrm := word_room HW.out.2.2 hz
        have hrm2 := fun h => word_room2 (k := k) HW.out.2.2 h
        have hst := overlaid_step R O k up
        rw [← HQ.out.1] at hrm hst
        rw [← HQ.out.1, ← HQ.out.2.1, ← HQ.out.2.2] at hrm2
        rw [← HQ.out.2.1, ← HQ.out.2.2] at hst
        have hz3 : ((Poly.wordN O k : Int) == 0) = false := by simp; omega
        obtain ⟨c2, z2⟩ := hr.cell hrm
        have hxl := Poly.wordN_lt (overlaid R O k up) (k + q)
        obtain ⟨j, hj⟩ : ∃ j, j = k + q := ⟨_, rfl⟩
        rw [← hj] at c2 z2 hxl hrm hrm2 hst
        have hj1 : IntKind.i64.wrap ((k : Int) + (q : Int)) = (j : Int) := by rw [IntKind.wrap_i64]; omega
        have hj2 : (0 : Int) ≤ (j : Int) := by omega
        have hj3 : (j : Int) < (nr : Int) := by omega
        have hj4 : IntKind.i64.wrap ((j : Int) + 1) = ((j + 1 : Nat) : Int) := by rw [IntKind.wrap_i64]; omega
        generalize hy : Poly.wordN O k = y at *
        obtain ⟨lo, hlo⟩ : ∃ lo, lo = y * 2 ^ l % 2 ^ 64 := ⟨_, rfl⟩
        obtain ⟨hi, hhi⟩ : ∃ hi, hi = y / 2 ^ s := ⟨_, rfl⟩
        rw [← hlo, ← hhi] at hst
        rw [← hhi] at hrm2
        have hlol : lo < 18446744073709551616 := by rw [hlo]; exact Nat.mod_lt _ (by decide)
        have hhil : hi < 18446744073709551616 := by rw [hhi]; exact Nat.lt_of_le_of_lt (Nat.div_le_self _ _) hwl
        have hlo2 : IntKind.u64.wrap ((y : Int) * 2 ^ l) = (lo : Int) := by
          rw [show ((y : Int) * 2 ^ l) = ((y * 2 ^ l : Nat) : Int) by rw [Int.natCast_mul, Int.natCast_pow]; rfl, IntKind.wrap_u64, hlo]
          omega
        have hhi2 : (y : Int) / 2 ^ s = (hi : Int) := by rw [hhi, Int.natCast_ediv, Int.natCast_pow]; rfl
        have hx := u64_xor hxl hlol
        have hS := hr.set hrm hlol
        have HS := Aside.mk (And.intro hst (And.intro hS hg))
        have HM := Aside.mk hrm2
        generalize Poly.wordN (overlaid R O k up) j = x at *
        clear hst hS hr hg hO hj hlo hhi hy hz hrm2
        go_upto_region 5 with fail
        go_region
        all_goals
          have hT := HS.out.2.1.1.drew
          have hgT := grownBy_drewP HS.out.2.1.2
          have HT := Aside.mk (And.intro HS.out.1 (And.intro hT (World.grownBy.trans HS.out.2.2 hgT)))
          clear HS hT hgT c1 c2 z2 hx hxl
          generalize (wr.setCell ⟨gr, offr + j, none⟩ (.int .u64 ((x ^^^ lo : Nat) : Int))).drew = w5 at *
          by_cases h0 : hi = 0
          · have hov : overlaid R O (k + 1) up = overlaid R O k up ^^^ lo * 2 ^ (64 * j) := by rw [HT.out.1, h0, Nat.zero_mul, Nat.xor_zero]
            have HV := Aside.mk hov
            have h1 : ((hi : Int) != 0) = false := by simp [h0]
            clear hov h0
            by_cases hl0 : 0 < l
            · have hl2 : (0 : Int) < (l : Int) := by omega
              go_wp2
              go_roundw
              case rel => exact ⟨k + 1, by omega, by go_num, by rw [HV.out]; exact HT.out.2.1, HT.out.2.2⟩
              case measure => simp [intOf]; omega
            · have hl2 : ¬ (0 : Int) < (l : Int) := by omega
              go_wp2
              go_roundw
              case rel => exact ⟨k + 1, by omega, by go_num, by rw [HV.out]; exact HT.out.2.1, HT.out.2.2⟩
              case measure => simp [intOf]; omega
          · have hl0 : 0 < l := by
              rcases Nat.eq_zero_or_pos l with h | h
              · exfalso
                have h2 := HQ.out.2.2
                rw [h] at h2
                rw [show s = 64 from h2] at hhi2
                have : (y : Int) / 2 ^ 64 = 0 := by omega
                omega
              · exact h
            have hl2 : (0 : Int) < (l : Int) := by omega
            have h1 : ((hi : Int) != 0) = true := by simp; omega
            have hjn := HM.out h0
            have hT := HT.out.2.1
            obtain ⟨c2, z2⟩ := RowP.cell hT hjn
            have hxl2 := Poly.wordN_lt (overlaid R O k up ^^^ lo * 2 ^ (64 * j)) (j + 1)
            have hx2 := u64_xor hxl2 hhil
            have hS2 := RowP.set hT hjn hhil
            have hov := HT.out.1
            have hgg := HT.out.2.2
            obtain ⟨j2, hj5⟩ : ∃ j2, j2 = j + 1 := ⟨_, rfl⟩
            rw [← hj5] at c2 z2 hxl2 hx2 hS2 hov hj4 hjn
            have hj6 : (0 : Int) ≤ (j2 : Int) := by omega
            have hj7 : (j2 : Int) < (nr : Int) := by omega
            generalize Poly.wordN (overlaid R O k up ^^^ lo * 2 ^ (64 * j)) j2 = x2 at *
            have HU := Aside.mk (And.intro hov (And.intro hS2 hgg))
            clear hov hS2 hgg hT HT hj5 h0 HM
            go_upto_region 7 with fail
            go_region
            all_goals
              go_wp2
              go_roundw
              case rel => exact ⟨k + 1, by omega, by go_num, by rw [HU.out.1]; exact HU.out.2.1.1.drew, World.grownBy.trans HU.out.2.2 (grownBy_drewP HU.out.2.1.2)⟩
              case measure => simp [intOf]; omega
    · obtain rfl : k = no := by omega
      have hall := overlaid_all (R := R) (up := up) HW.out.2.1
      have HS := Aside.mk (And.intro hall (And.intro hr hg))
      clear hall hr hg
      go_wp2
      go_end0
      exact ⟨rfl, by rw [← HS.out.1]; exact HS.out.2.1, HS.out.2.2⟩
end Go.Proofs.YtkdfbganhohbfaaDoor
