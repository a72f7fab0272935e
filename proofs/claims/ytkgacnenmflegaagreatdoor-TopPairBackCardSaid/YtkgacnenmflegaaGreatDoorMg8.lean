/-
  A row's exponents, falling; a row laid over another.
  Products and remainders of polynomials, as numbers.
  What the program's polynomials answer: of a list, the sum, the product, the remainder.
  What the program's remainder answers.
  What the document's polynomials answer: a row of truths, the exponents, are two lists alike.
  What the document's product and remainder of polynomials answer.
  What the document's remainder of polynomials answers.
  append of a slice whose type bears another name.
-/
import Derived.Test.YtkgacnenmflegaaGreatDoorMg7
import Derived.WalkLawsBesides
import Derived.Test.YtkgacnenmflegaaGreatDoorMg6
import Derived.Test.YtkgacnenmflegaaGreatDoorMg1
namespace Go.Proofs.YtkgacnenmflegaaGreatDoor
open Go.RowKit

theorem fall_word (P i : Nat) : Poly.fall (64 * (i + 1)) P = (Poly.fall 64 (Poly.wordN P i)).map (64 * i + ·) ++ Poly.fall (64 * i) P := by
  rw [show 64 * (i + 1) = 64 * i + 64 by omega, Poly.fall_split]
  congr 2
  apply Poly.fall_congr
  intro j hj
  rw [Poly.wordN_tb, Poly.tb_div, decide_eq_true hj, Bool.true_and]

set_option maxRecDepth 100000 in
set_option maxHeartbeats 3200000 in
theorem row_poly (b g off n c P : Nat) (w : World) (hR : RowP w b (.slice (some ⟨g, off, none⟩) n c) n P) (hn : n ≤ 1000) :
    Calls Tryz.prog 208 #[.slice (some ⟨g, off, none⟩) n c] w (ListOf w (Poly.fall (64 * n) P)) := by
  have HR := Aside.mk hR
  clear hR
  go_enter Tryz.func208, Tryz.ntmps208
  go_wp2
  go_loopw [3, 4] (fun s3 s4 wr => ∃ (j : Nat) (L : List Nat), j ≤ n ∧ s4 = .int .i64 ((j : Int) - 1) ∧ Row wr w.heap.size 3 1 s3 L.length (intsV (Poly.ints L)) ∧ Below w.heap.size w wr ∧ Aside (L ++ Poly.fall (64 * j) P = Poly.fall (64 * n) P)) (fun _ s4 _ => ((intOf s4) + 1).toNat)
  case atStart => exact ⟨n, [], by omega, rfl, Row.nil _ _ _ _, Below.refl _ _, ⟨rfl⟩⟩
  case round =>
    obtain ⟨j, L, hj, rfl, hr, hb, HL⟩ := hrel
    by_cases h0 : j = 0
    · subst h0
      have hLn : L = Poly.fall (64 * n) P := by
        have := HL.out
        rw [Nat.mul_zero] at this
        rw [← this]
        simp [Poly.fall]
      have HN := Aside.mk hLn
      have HH := Aside.mk (And.intro hr hb)
      clear hLn hr hb
      go_wp2
      go_ret
      exact ⟨_, rfl, by rw [← HN.out]; exact HH.out.1, HH.out.2⟩
    · obtain ⟨i, rfl⟩ : ∃ i, j = i + 1 := ⟨j - 1, by omega⟩
      have hin : i < n := by omega
      have c1 := (RowP.cell (Row.below HR.out hb) hin).1
      have hwl := Poly.wordN_lt P i
      have e1 : ((i + 1 : Nat) : Int) - 1 = (i : Int) := by omega
      have e2 : IntKind.i64.wrap ((i : Int) - 1) = (i : Int) - 1 := by rw [IntKind.wrap_i64]; omega
      have hi0 : (0 : Int) ≤ (i : Int) := by omega
      have hi1 : (i : Int) < (n : Int) := by omega
      have hin3 : i < 1000 := by omega
      rw [e1]
      clear e1
      have hL2 : L ++ ((Poly.fall 64 (Poly.wordN P i)).map (64 * i + ·) ++ Poly.fall (64 * i) P) = Poly.fall (64 * n) P := by rw [← fall_word]; exact HL.out
      have HL2 := Aside.mk hL2
      have HH := Aside.mk (And.intro hr hb)
      clear hL2 HL hr hb
      generalize Poly.wordN P i = x at *
      go_wp2
      clear c1
      go_loopw [3, 5] (fun s3 s5 wr => ∃ (x : Nat) (L : List Nat), x < 18446744073709551616 ∧ s5 = .int .u64 (x : Int) ∧ Row wr w.heap.size 3 1 s3 L.length (intsV (Poly.ints L)) ∧ Below w.heap.size w wr ∧ Aside (L ++ ((Poly.fall 64 x).map (64 * i + ·) ++ Poly.fall (64 * i) P) = Poly.fall (64 * n) P)) (fun _ s5 _ => (intOf s5).toNat)
      case atStart => exact ⟨x, L, hwl, rfl, HH.out.1, HH.out.2, HL2⟩
      case round =>
        clear HH HL2 hwl
        obtain ⟨x, L, hwl, rfl, hr, hb, HL⟩ := hrel
        by_cases hz : x = 0
        · subst hz
          have hL3 : L ++ Poly.fall (64 * i) P = Poly.fall (64 * n) P := by
            have := HL.out
            rwa [Poly.fall_zero, List.map_nil, List.nil_append] at this
          have HL3 := Aside.mk (And.intro hr (And.intro hb hL3))
          clear hL3 hr hb
          go_wp2
          go_roundw
          case rel => exact ⟨i, L, by omega, rfl, HL3.out.1, HL3.out.2.1, ⟨HL3.out.2.2⟩⟩
          case measure => simp [intOf]
        · have hz3 : ((x : Int) != 0) = true := by simp; omega
          have hl6 := log2_lt64 hz hwl
          have hlen := Aside.mk (fun W => len64 x W hz hwl)
          have htop := Poly.fall_top hz (n := 64) hwl
          have hxl := Poly.xor_top_lt hz
          generalize x.log2 = t at *
          have hL3 := HL.out
          rw [htop, List.map_cons] at hL3
          have hL4 : (L ++ [64 * i + t]) ++ ((Poly.fall 64 (x ^^^ 2 ^ t)).map (64 * i + ·) ++ Poly.fall (64 * i) P) = Poly.fall (64 * n) P := by
            rw [← hL3]; simp
          have hll : L.length + 1 ≤ 64 * n := by
            have h1 := congrArg List.length hL4
            have h2 := Poly.fall_len P (64 * n)
            simp at h1
            omega
          obtain ⟨d, hde⟩ : ∃ d, d = 2 ^ t := ⟨_, rfl⟩
          have hd2 : d < 18446744073709551616 := by rw [hde]; exact (Nat.pow_lt_pow_right (by omega) hl6 : 2 ^ t < 2 ^ 64)
          have hw : IntKind.u64.wrap ((2 : Int) ^ t) = (d : Int) := by
            rw [show ((2 : Int) ^ t) = (d : Int) by rw [hde, Int.natCast_pow]; rfl, IntKind.wrap_u64]
            omega
          rw [← hde] at hxl hL4
          have hx := u64_xor hwl hd2
          have hs1 : IntKind.i64.wrap (((t + 1 : Nat) : Int) - 1) = (t : Int) := by rw [IntKind.wrap_i64]; omega
          have hs2 : IntKind.i64.wrap (64 * (i : Int) + (t : Int)) = 64 * (i : Int) + (t : Int) := by rw [IntKind.wrap_i64]; omega
          have hsz := hb.size
          have HX := Aside.mk (And.intro hL4 hxl)
          clear hL3 hL4 htop hde hz hxl HL
          generalize x ^^^ d = y at *
          go_wp2_with (first | (go_at_call 195; refine (hlen.out _).mono ?_; rintro e w1 ⟨rfl, rfl⟩) | (at_builtin; refine wpList_append_one (w0 := w) w.heap.size rfl _ _ 270 3 1 8 (.int .i64 0) rfl Tryz.underlying270 infoInt rfl (by decide) u3 L.length _ #[.int .i64 (64 * (i : Int) + (t : Int))] rfl rfl rfl hr (by simp [Value.oneCell']) hb hsz (by omega) (by simp only [maxLen]; omega) ?_; intro v5 w5 hr5 hb5 hg5 hat5; have HR5 := Aside.mk (And.intro hr5 hb5); clear hr5 hb5 hg5 hat5))
          go_roundw
          case rel => exact ⟨y, L ++ [64 * i + t], by have := HX.out.2; omega, rfl, by have := HR5.out.1; rw [ints_append, intsV_append, List.length_append]; exact this, HR5.out.2, ⟨HX.out.1⟩⟩
          case measure => simp [intOf]; exact HX.out.2

/-! One row laid over another, so many bits higher. -/
theorem low_word {O k : Nat} : Poly.wordN O k * 2 ^ (64 * k) ≤ O := by
  have h1 := Nat.div_mul_le_self O (2 ^ (64 * k))
  have h2 : Poly.wordN O k ≤ O / 2 ^ (64 * k) := Nat.mod_le _ _
  exact Nat.le_trans (Nat.mul_le_mul_right _ h2) h1
theorem word_room {O k up nr : Nat} (h : O * 2 ^ up < 2 ^ (64 * nr)) (h0 : Poly.wordN O k ≠ 0) : k + up / 64 < nr := by
  have h1 : 2 ^ (64 * k) ≤ Poly.wordN O k * 2 ^ (64 * k) := Nat.le_mul_of_pos_left _ (by omega)
  have h2 : 2 ^ (64 * k + up) < 2 ^ (64 * nr) := by
    rw [Nat.pow_add]
    exact Nat.lt_of_le_of_lt (Nat.mul_le_mul_right _ (Nat.le_trans h1 low_word)) h
  have h3 := (Nat.pow_lt_pow_iff_right (by omega : 1 < 2)).1 h2
  omega
theorem word_room2 {O k up nr : Nat} (h : O * 2 ^ up < 2 ^ (64 * nr)) (h0 : Poly.wordN O k / 2 ^ (64 - up % 64) ≠ 0) : k + up / 64 + 1 < nr := by
  have h1 : 2 ^ (64 - up % 64) ≤ Poly.wordN O k := by
    rcases Nat.lt_or_ge (Poly.wordN O k) (2 ^ (64 - up % 64)) with h2 | h2
    · exact absurd (Nat.div_eq_of_lt h2) h0
    · exact h2
  have h2 : 2 ^ (64 - up % 64 + (64 * k + up)) < 2 ^ (64 * nr) := by
    rw [Nat.pow_add, Nat.pow_add 2 (64 * k), ← Nat.mul_assoc]
    exact Nat.lt_of_le_of_lt (Nat.mul_le_mul_right _ (Nat.le_trans (Nat.mul_le_mul_right _ h1) low_word)) h
  have h3 := (Nat.pow_lt_pow_iff_right (by omega : 1 < 2)).1 h2
  omega
def overlaid (R O k up : Nat) : Nat := R ^^^ O % 2 ^ (64 * k) * 2 ^ up
theorem overlaid_zero (R O up : Nat) : overlaid R O 0 up = R := by simp [overlaid, Nat.mod_one]
theorem overlaid_all {R O n up : Nat} (h : O < 2 ^ (64 * n)) : overlaid R O n up = R ^^^ O * 2 ^ up := by
  unfold overlaid
  rw [Nat.mod_eq_of_lt h]
theorem overlaid_step (R O k up : Nat) : overlaid R O (k + 1) up = overlaid R O k up ^^^ (Poly.wordN O k * 2 ^ (up % 64) % 2 ^ 64) * 2 ^ (64 * (k + up / 64)) ^^^ (Poly.wordN O k / 2 ^ (64 - up % 64)) * 2 ^ (64 * (k + up / 64 + 1)) := by
  unfold overlaid
  rw [Poly.low_step, Poly.mul_xor, Nat.mul_assoc, ← Nat.pow_add, Poly.shift_word]
  ac_rfl
theorem overlaid_skip {R O k up : Nat} (h : Poly.wordN O k = 0) : overlaid R O (k + 1) up = overlaid R O k up := by
  unfold overlaid
  rw [Poly.low_step, h, Nat.zero_mul, Nat.xor_zero]

theorem grownBy_drewP {w w' : World} {row : Option Nat} (h : w.grownBy w' row) : w.grownBy w'.drew row := ⟨h.os, h.tape, h.output, h.size, h.block⟩
set_option maxRecDepth 100000 in
set_option maxHeartbeats 3200000 in
theorem row_add (br gr offr nr cr R bo go offo no co O up : Nat) (w : World) (hR : RowP w br (.slice (some ⟨gr, offr, none⟩) nr cr) nr R) (hO : RowP w bo (.slice (some ⟨go, offo, none⟩) no co) no O)
    (hne : gr ≠ go) (hOl : O < 2 ^ (64 * no)) (hroom : O * 2 ^ up < 2 ^ (64 * nr)) (hup : up ≤ 1000000) (hn : nr ≤ 1000) (hn2 : no ≤ 1000) :
    Calls Tryz.prog 209 #[.slice (some ⟨gr, offr, none⟩) nr cr, .slice (some ⟨go, offo, none⟩) no co, .int .i64 (up : Int)] w (FlipPost w br gr (.slice (some ⟨gr, offr, none⟩) nr cr) nr (R ^^^ O * 2 ^ up)) := by
  have HW := Aside.mk (And.intro hO (And.intro hOl hroom))
  have hR0 : RowP w br (.slice (some ⟨gr, offr, none⟩) nr cr) nr (overlaid R O 0 up) := by rw [overlaid_zero]; exact hR
  have HR0 := Aside.mk hR0
  clear hR hO hOl hroom hR0
  obtain ⟨q, hq⟩ : ∃ q, q = up / 64 := ⟨_, rfl⟩
  obtain ⟨l, hl⟩ : ∃ l, l = up % 64 := ⟨_, rfl⟩
  have hl64 : l < 64 := by omega
  have hq0 : q ≤ 1000000 := by omega
  have hq1 : (up : Int) / 64 = (q : Int) := by omega
  have hl1 : (up : Int) % 64 = (l : Int) := by omega
  obtain ⟨s, hs⟩ : ∃ s, s = 64 - l := ⟨_, rfl⟩
  have hs1 : IntKind.i64.wrap (64 - (l : Int)) = (s : Int) := by rw [IntKind.wrap_i64]; omega
  have hs2 : s ≤ 64 := by omega
  have HQ := Aside.mk (And.intro hq (And.intro hl hs))
  clear hq hl hs
  go_enter Tryz.func209, Tryz.ntmps209
  go_wp2
  go_loopw [16] (fun s16 wr => ∃ k : Nat, k ≤ no ∧ s16 = .int .i64 (k : Int) ∧ RowP wr br (.slice (some ⟨gr, offr, none⟩) nr cr) nr (overlaid R O k up) ∧ w.grownBy wr (some gr)) (fun s16 _ => no - (intOf s16).toNat)
  case atStart => exact ⟨0, by omega, rfl, HR0.out, World.grownBy.refl _ _⟩
  case round =>
    clear HR0
    obtain ⟨k, hk, rfl, hr, hg⟩ := hrel
    by_cases hlt : k < no
    · have hO := Row.kept HW.out.1 hg (.inr (by simp [Value.ownBlock]; omega))
      have c1 := (RowP.cell hO hlt).1
      have hwl := Poly.wordN_lt O k
      have hk0 : (0 : Int) ≤ (k : Int) := by omega
      have hk1 : (k : Int) < (no : Int) := by omega
      have hk2 : IntKind.i64.wrap ((k : Int) + 1) = (k : Int) + 1 := by rw [IntKind.wrap_i64]; omega
      by_cases hz : Poly.wordN O k = 0
      · have hsk := overlaid_skip (R := R) (up := up) hz
        rw [hz] at c1
        have c2 : wr.cell? ⟨go, offo + k, none⟩ = some (.int .u64 0) := c1
        have HS := Aside.mk (And.intro hsk (And.intro hr hg))
        clear hsk hz hr hg hO c1 hwl
        go_wp2
        go_roundw
        case rel => exact ⟨k + 1, by omega, by go_num, by rw [HS.out.1]; exact HS.out.2.1, HS.out.2.2⟩
        case measure => simp [intOf]; omega
      · have hrm := word_room HW.out.2.2 hz
        have hrm2 := fun h => word_room2 (k := k) HW.out.2.2 h
        have hst := overlaid_step R O k up
        rw [← HQ.out.1] at hrm hst
        rw [← HQ.out.1, ← HQ.out.2.1, ← HQ.out.2.2] at hrm2
        rw [← HQ.out.2.1, ← HQ.out.2.2] at hst
        have hz3 : ((Poly.wordN O k : Int) == 0) = false := by simp; omega
        obtain ⟨c2, z2⟩ := hr.cell hrm
        have hxl := Poly.wordN_lt (overlaid R O k up) (k + q)
        obtain ⟨j, hj⟩ : ∃ j, j = k + q := ⟨_, rfl⟩
        rw [← hj] at c2 z2 hxl hrm hrm2 hst
        have hj1 : IntKind.i64.wrap ((k : Int) + (q : Int)) = (j : Int) := by rw [IntKind.wrap_i64]; omega
        have hj2 : (0 : Int) ≤ (j : Int) := by omega
        have hj3 : (j : Int) < (nr : Int) := by omega
        have hj4 : IntKind.i64.wrap ((j : Int) + 1) = ((j + 1 : Nat) : Int) := by rw [IntKind.wrap_i64]; omega
        generalize hy : Poly.wordN O k = y at *
        obtain ⟨lo, hlo⟩ : ∃ lo, lo = y * 2 ^ l % 2 ^ 64 := ⟨_, rfl⟩
        obtain ⟨hi, hhi⟩ : ∃ hi, hi = y / 2 ^ s := ⟨_, rfl⟩
        rw [← hlo, ← hhi] at hst
        rw [← hhi] at hrm2
        have hlol : lo < 18446744073709551616 := by rw [hlo]; exact Nat.mod_lt _ (by decide)
        have hhil : hi < 18446744073709551616 := by rw [hhi]; exact Nat.lt_of_le_of_lt (Nat.div_le_self _ _) hwl
        have hlo2 : IntKind.u64.wrap ((y : Int) * 2 ^ l) = (lo : Int) := by
          rw [show ((y : Int) * 2 ^ l) = ((y * 2 ^ l : Nat) : Int) by rw [Int.natCast_mul, Int.natCast_pow]; rfl, IntKind.wrap_u64, hlo]
          omega
        have hhi2 : (y : Int) / 2 ^ s = (hi : Int) := by rw [hhi, Int.natCast_ediv, Int.natCast_pow]; rfl
        have hx := u64_xor hxl hlol
        have hS := hr.set hrm hlol
        have HS := Aside.mk (And.intro hst (And.intro hS hg))
        have HM := Aside.mk hrm2
        generalize Poly.wordN (overlaid R O k up) j = x at *
        clear hst hS hr hg hO hj hlo hhi hy hz hrm2
        go_upto_region 5 with fail
        go_region
        all_goals
          have hT := HS.out.2.1.1.drew
          have hgT := grownBy_drewP HS.out.2.1.2
          have HT := Aside.mk (And.intro HS.out.1 (And.intro hT (World.grownBy.trans HS.out.2.2 hgT)))
          clear HS hT hgT c1 c2 z2 hx hxl
          generalize (wr.setCell ⟨gr, offr + j, none⟩ (.int .u64 ((x ^^^ lo : Nat) : Int))).drew = w5 at *
          by_cases h0 : hi = 0
          · have hov : overlaid R O (k + 1) up = overlaid R O k up ^^^ lo * 2 ^ (64 * j) := by rw [HT.out.1, h0, Nat.zero_mul, Nat.xor_zero]
            have HV := Aside.mk hov
            have h1 : ((hi : Int) != 0) = false := by simp [h0]
            clear hov h0
            by_cases hl0 : 0 < l
            · have hl2 : (0 : Int) < (l : Int) := by omega
              go_wp2
              go_roundw
              case rel => exact ⟨k + 1, by omega, by go_num, by rw [HV.out]; exact HT.out.2.1, HT.out.2.2⟩
              case measure => simp [intOf]; omega
            · have hl2 : ¬ (0 : Int) < (l : Int) := by omega
              go_wp2
              go_roundw
              case rel => exact ⟨k + 1, by omega, by go_num, by rw [HV.out]; exact HT.out.2.1, HT.out.2.2⟩
              case measure => simp [intOf]; omega
          · have hl0 : 0 < l := by
              rcases Nat.eq_zero_or_pos l with h | h
              · exfalso
                have h2 := HQ.out.2.2
                rw [h] at h2
                rw [show s = 64 from h2] at hhi2
                have : (y : Int) / 2 ^ 64 = 0 := by omega
                omega
              · exact h
            have hl2 : (0 : Int) < (l : Int) := by omega
            have h1 : ((hi : Int) != 0) = true := by simp; omega
            have hjn := HM.out h0
            have hT := HT.out.2.1
            obtain ⟨c2, z2⟩ := RowP.cell hT hjn
            have hxl2 := Poly.wordN_lt (overlaid R O k up ^^^ lo * 2 ^ (64 * j)) (j + 1)
            have hx2 := u64_xor hxl2 hhil
            have hS2 := RowP.set hT hjn hhil
            have hov := HT.out.1
            have hgg := HT.out.2.2
            obtain ⟨j2, hj5⟩ : ∃ j2, j2 = j + 1 := ⟨_, rfl⟩
            rw [← hj5] at c2 z2 hxl2 hx2 hS2 hov hj4 hjn
            have hj6 : (0 : Int) ≤ (j2 : Int) := by omega
            have hj7 : (j2 : Int) < (nr : Int) := by omega
            generalize Poly.wordN (overlaid R O k up ^^^ lo * 2 ^ (64 * j)) j2 = x2 at *
            have HU := Aside.mk (And.intro hov (And.intro hS2 hgg))
            clear hov hS2 hgg hT HT hj5 h0 HM
            go_upto_region 7 with fail
            go_region
            all_goals
              go_wp2
              go_roundw
              case rel => exact ⟨k + 1, by omega, by go_num, by rw [HU.out.1]; exact HU.out.2.1.1.drew, World.grownBy.trans HU.out.2.2 (grownBy_drewP HU.out.2.1.2)⟩
              case measure => simp [intOf]; omega
    · obtain rfl : k = no := by omega
      have hall := overlaid_all (R := R) (up := up) HW.out.2.1
      have HS := Aside.mk (And.intro hall (And.intro hr hg))
      clear hall hr hg
      go_wp2
      go_end0
      exact ⟨rfl, by rw [← HS.out.1]; exact HS.out.2.1, HS.out.2.2⟩
end Go.Proofs.YtkgacnenmflegaaGreatDoor
namespace Go.Proofs.YtkgacnenmflegaaGreatDoor.Poly

/-- Term by term. -/
def mulL (l : List Nat) (B : Nat) : Nat := l.foldl (fun P e => P ^^^ B * 2 ^ e) 0
theorem mulL_snoc (l : List Nat) (B e : Nat) : mulL (l ++ [e]) B = mulL l B ^^^ B * 2 ^ e := by simp [mulL]
theorem foldl_xor (B : Nat) (l : List Nat) : ∀ P Q, l.foldl (fun P e => P ^^^ B * 2 ^ e) (P ^^^ Q) = l.foldl (fun P e => P ^^^ B * 2 ^ e) P ^^^ Q := by
  induction l with
  | nil => intro P Q; rfl
  | cons e l ih =>
    intro P Q
    simp only [List.foldl_cons]
    rw [show P ^^^ Q ^^^ B * 2 ^ e = (P ^^^ B * 2 ^ e) ^^^ Q by ac_rfl, ih]
theorem mulL_cons (e : Nat) (l : List Nat) (B : Nat) : mulL (e :: l) B = B * 2 ^ e ^^^ mulL l B := by
  have := foldl_xor B l 0 (B * 2 ^ e)
  show l.foldl _ (0 ^^^ B * 2 ^ e) = _
  rw [this, Nat.xor_comm]; rfl
theorem mulL_nil (B : Nat) : mulL [] B = 0 := rfl
theorem mulL_lt {B m : Nat} : ∀ (l : List Nat), (∀ e ∈ l, B * 2 ^ e < 2 ^ m) → mulL l B < 2 ^ m
  | [], _ => Nat.pow_pos (by omega)
  | e :: l, h => by
    rw [mulL_cons]
    exact xor_lt2 (h e (by simp)) (mulL_lt l (fun x hx => h x (by simp [hx])))
theorem mulL_zero (l : List Nat) : mulL l 0 = 0 := by
  induction l with
  | nil => rfl
  | cons e l ih => rw [mulL_cons, ih]; simp
theorem mulL_xor (l : List Nat) (B C : Nat) : mulL l (B ^^^ C) = mulL l B ^^^ mulL l C := by
  induction l with
  | nil => simp [mulL]
  | cons e l ih => rw [mulL_cons, mulL_cons, mulL_cons, ih, mul_xor]; ac_rfl
theorem mulL_pow (l : List Nat) (B k : Nat) : mulL l (B * 2 ^ k) = mulL l B * 2 ^ k := by
  induction l with
  | nil => simp [mulL]
  | cons e l ih => rw [mulL_cons, mulL_cons, ih, mul_xor, Nat.mul_right_comm]
/-- The product. -/
def clmul (A B : Nat) : Nat := mulL (fall (A.log2 + 1) A) B
theorem clmul_fall {A n : Nat} (h : A < 2 ^ n) (B : Nat) : mulL (fall n A) B = clmul A B := by
  unfold clmul
  by_cases h0 : A = 0
  · subst h0; rw [fall_zero, fall_zero]
  · have := log2_lt h0 h
    rw [fall_more (m := A.log2 + 1) (by omega) (lt_two_log2 A)]
theorem zero_clmul (B : Nat) : clmul 0 B = 0 := by unfold clmul; rw [fall_zero]; rfl
theorem clmul_zero (A : Nat) : clmul A 0 = 0 := mulL_zero _
theorem clmul_xor_right (A B C : Nat) : clmul A (B ^^^ C) = clmul A B ^^^ clmul A C := mulL_xor _ B C
/-- The lowest bit first. -/
theorem clmul_rec (A B : Nat) : clmul A B = clmul (A / 2) B * 2 ^ 1 ^^^ (if A % 2 = 1 then B else 0) := by
  have key : ∀ n, ∀ A, mulL (fall (n + 1) A) B = mulL (fall n (A / 2)) B * 2 ^ 1 ^^^ (if A % 2 = 1 then B else 0) := by
    intro n
    induction n with
    | zero =>
      intro A
      have hb : A.testBit 0 = decide (A % 2 = 1) := by rw [tb]; simp
      by_cases h : A % 2 = 1
      · rw [fall_yes (by rw [hb]; simp [h]), if_pos h]; simp [fall, mulL]
      · rw [fall_no (by rw [hb]; simp [h]), if_neg h]; simp [fall, mulL]
    | succ n ih =>
      intro A
      have hb : (A / 2).testBit n = A.testBit (n + 1) := by
        have := tb_div A 1 n
        rw [Nat.pow_one] at this
        rw [this, Nat.add_comm]
      cases h : A.testBit (n + 1)
      · rw [fall_no h, fall_no (P := A / 2) (by rw [hb, h]), ih]
      · rw [fall_yes h, fall_yes (P := A / 2) (by rw [hb, h]), mulL_cons, mulL_cons, ih, mul_xor, Nat.mul_assoc, ← Nat.pow_add]
        ac_rfl
  have hA : A < 2 ^ (A.log2 + 1 + 1) := Nat.lt_of_lt_of_le (lt_two_log2 A) (Nat.pow_le_pow_right (by omega) (by omega))
  have hA2 : A / 2 < 2 ^ (A.log2 + 1) := by rw [Nat.pow_succ] at hA; omega
  rw [← clmul_fall hA, ← clmul_fall hA2]
  exact key _ A
theorem half_xor (A C : Nat) : (A ^^^ C) / 2 = A / 2 ^^^ C / 2 := by
  have := div_xor A C 1
  rwa [Nat.pow_one] at this
theorem par_xor (A C : Nat) : (A ^^^ C) % 2 = (A % 2 + C % 2) % 2 := by
  have h := Nat.xor_mod_two_eq_one (a := A) (b := C)
  omega
theorem clmul_xor_left (B : Nat) : ∀ (n A C : Nat), A < 2 ^ n → C < 2 ^ n → clmul (A ^^^ C) B = clmul A B ^^^ clmul C B
  | 0, A, C, hA, hC => by
    obtain rfl : A = 0 := by simpa using hA
    obtain rfl : C = 0 := by simpa using hC
    rw [Nat.xor_self, zero_clmul]; rfl
  | n + 1, A, C, hA, hC => by
    have hA2 : A / 2 < 2 ^ n := by rw [Nat.pow_succ] at hA; omega
    have hC2 : C / 2 < 2 ^ n := by rw [Nat.pow_succ] at hC; omega
    have ih := clmul_xor_left B n _ _ hA2 hC2
    have hp := par_xor A C
    rw [clmul_rec (A ^^^ C), clmul_rec A, clmul_rec C, half_xor, ih, mul_xor]
    generalize clmul (A / 2) B * 2 ^ 1 = X
    generalize clmul (C / 2) B * 2 ^ 1 = Y
    by_cases h1 : A % 2 = 1 <;> by_cases h2 : C % 2 = 1
    · rw [if_pos h1, if_pos h2, if_neg (by omega), Nat.xor_zero, show X ^^^ B ^^^ (Y ^^^ B) = X ^^^ Y ^^^ B ^^^ B by ac_rfl, xor_cancel]
    · rw [if_pos h1, if_neg h2, if_pos (by omega)]; simp only [Nat.xor_zero]; ac_rfl
    · rw [if_neg h1, if_pos h2, if_pos (by omega)]; simp only [Nat.xor_zero]; ac_rfl
    · rw [if_neg h1, if_neg h2, if_neg (by omega)]; simp only [Nat.xor_zero]
theorem clmul_xor (A C B : Nat) : clmul (A ^^^ C) B = clmul A B ^^^ clmul C B := by
  have h1 : A < 2 ^ (A + C) := Nat.lt_of_lt_of_le Nat.lt_two_pow_self (Nat.pow_le_pow_right (by omega) (by omega))
  have h2 : C < 2 ^ (A + C) := Nat.lt_of_lt_of_le Nat.lt_two_pow_self (Nat.pow_le_pow_right (by omega) (by omega))
  exact clmul_xor_left B _ A C h1 h2
theorem pow_clmul (k B : Nat) : clmul (2 ^ k) B = B * 2 ^ k := by
  have h : fall (k + 1) (2 ^ k) = [k] := by
    rw [fall_yes (by rw [tb_pow]; simp), show fall k (2 ^ k) = fall k 0 from fall_congr (fun i hi => by rw [tb_pow, decide_eq_false (by omega)]; simp), fall_zero]
  rw [← clmul_fall (n := k + 1) (Nat.pow_lt_pow_right (by omega) (by omega)), h, mulL_cons, mulL_nil, Nat.xor_zero]
theorem clmul_pow (A k : Nat) : clmul A (2 ^ k) = A * 2 ^ k := by
  have h := mulL_pow (fall (A.log2 + 1) A) 1 k
  rw [Nat.one_mul] at h
  show mulL _ _ = _
  rw [h]
  congr 1
  have key : ∀ n, mulL (fall n A) 1 = A % 2 ^ n := by
    intro n
    induction n with
    | zero => simp [fall, mulL, Nat.mod_one]
    | succ n ih =>
      have hm : A % 2 ^ (n + 1) = (if A.testBit n then 2 ^ n else 0) ^^^ A % 2 ^ n := by
        apply ext; intro i
        rw [Nat.testBit_xor, Nat.testBit_mod_two_pow, Nat.testBit_mod_two_pow]
        by_cases hi : i = n
        · subst hi
          rw [decide_eq_true (show i < i + 1 by omega), decide_eq_false (show ¬ i < i by omega)]
          cases hb : A.testBit i
          · simp
          · rw [if_pos rfl, tb_pow]; simp
        · have hne : (if A.testBit n = true then 2 ^ n else 0).testBit i = false := by
            cases hb : A.testBit n
            · simp
            · rw [if_pos rfl, tb_pow, decide_eq_false (by omega)]
          rw [hne]
          by_cases h1 : i < n
          · rw [decide_eq_true h1, decide_eq_true (show i < n + 1 by omega)]; simp
          · rw [decide_eq_false h1, decide_eq_false (show ¬ i < n + 1 by omega)]; simp
      cases hb : A.testBit n
      · rw [fall_no hb, ih, hm, hb]; simp
      · rw [fall_yes hb, mulL_cons, ih, hm, hb]; simp
  rw [key, Nat.mod_eq_of_lt (lt_two_log2 A)]
theorem clmul_comm (A : Nat) : ∀ (n B : Nat), B < 2 ^ n → clmul A B = clmul B A
  | 0, B, h => by
    obtain rfl : B = 0 := by simpa using h
    rw [clmul_zero, zero_clmul]
  | n + 1, B, h => by
    by_cases h0 : B.testBit n = true
    · have hx : B ^^^ 2 ^ n < 2 ^ n := by
        apply lt_of_tb
        intro i hi
        rw [Nat.testBit_xor, tb_pow]
        by_cases e : n = i
        · subst e; rw [h0]; simp
        · rw [tb_lt h (by omega)]; simp [e]
      have e : B = (B ^^^ 2 ^ n) ^^^ 2 ^ n := (xor_cancel _ _).symm
      have ih := clmul_comm A n _ hx
      rw [e, clmul_xor_right, clmul_xor, ih, clmul_pow, pow_clmul]
    · have hB : B < 2 ^ n := by
        apply lt_of_tb
        intro i hi
        by_cases e : i = n
        · subst e; simpa using h0
        · exact tb_lt h (by omega)
      exact clmul_comm A n B hB
theorem mul_comm (A B : Nat) : clmul A B = clmul B A := clmul_comm A B B (Nat.lt_two_pow_self)

/-- The highest bits multiply. -/
theorem log2_shift {B : Nat} (h : B ≠ 0) (k : Nat) : B * 2 ^ k ≠ 0 ∧ (B * 2 ^ k).log2 = B.log2 + k := by
  have hp : 0 < 2 ^ k := Nat.pow_pos (by omega)
  have h0 : B * 2 ^ k ≠ 0 := by
    have := Nat.mul_pos (Nat.pos_of_ne_zero h) hp
    omega
  refine ⟨h0, ?_⟩
  apply Nat.le_antisymm
  · have : B * 2 ^ k < 2 ^ (B.log2 + k + 1) := by
      rw [show B.log2 + k + 1 = (B.log2 + 1) + k by omega, Nat.pow_add]
      exact Nat.mul_lt_mul_of_pos_right (lt_two_log2 B) hp
    have := (Nat.log2_lt h0).2 this
    omega
  · rw [Nat.le_log2 h0, Nat.pow_add]
    exact Nat.mul_le_mul_right _ (Nat.log2_self_le h)
theorem xor_small {X Y m : Nat} (hX : X.testBit m = true) (hX2 : X < 2 ^ (m + 1)) (hY : Y < 2 ^ m) : X ^^^ Y ≠ 0 ∧ (X ^^^ Y).log2 = m := by
  have h1 : (X ^^^ Y).testBit m = true := by rw [Nat.testBit_xor, hX, tb_lt hY (by omega)]; rfl
  have h0 : X ^^^ Y ≠ 0 := fun e => by rw [e] at h1; simp at h1
  have h2 : X ^^^ Y < 2 ^ (m + 1) := xor_lt2 hX2 (Nat.lt_of_lt_of_le hY (Nat.pow_le_pow_right (by omega) (by omega)))
  refine ⟨h0, ?_⟩
  have h3 := (Nat.log2_lt h0).2 h2
  have h4 : m ≤ (X ^^^ Y).log2 := by
    rcases Nat.lt_or_ge (X ^^^ Y).log2 m with h5 | h5
    · have := lt_two_log2 (X ^^^ Y)
      rw [tb_lt this (by omega)] at h1
      cases h1
    · exact h5
  omega
theorem clmul_top {A B : Nat} (hA : A ≠ 0) (hB : B ≠ 0) : clmul A B ≠ 0 ∧ (clmul A B).log2 = A.log2 + B.log2 := by
  have hx : A ^^^ 2 ^ A.log2 < 2 ^ A.log2 := by
    apply lt_of_tb
    intro i hi
    rw [Nat.testBit_xor, tb_pow]
    by_cases e : A.log2 = i
    · rw [← e, log2_tb hA]; simp
    · rw [tb_lt (lt_two_log2 A) (by omega)]; simp [e]
  have e : A = 2 ^ A.log2 ^^^ (A ^^^ 2 ^ A.log2) := by rw [Nat.xor_comm, xor_cancel]
  obtain ⟨s1, s2⟩ := log2_shift hB A.log2
  have h1 : clmul A B = B * 2 ^ A.log2 ^^^ clmul (A ^^^ 2 ^ A.log2) B := by
    conv => lhs; rw [e]
    rw [clmul_xor, pow_clmul]
  have hsm : clmul (A ^^^ 2 ^ A.log2) B < 2 ^ (A.log2 + B.log2) := by
    rw [← clmul_fall hx]
    apply mulL_lt
    intro i hi
    have := (fall_mem.1 hi).1
    have h2 : B * 2 ^ i < 2 ^ (B.log2 + 1 + i) := by
      rw [Nat.pow_add]
      exact Nat.mul_lt_mul_of_pos_right (lt_two_log2 B) (Nat.pow_pos (by omega))
    exact Nat.lt_of_lt_of_le h2 (Nat.pow_le_pow_right (by omega) (by omega))
  have hb : (B * 2 ^ A.log2).testBit (A.log2 + B.log2) = true := by
    rw [Nat.add_comm, ← s2]; exact log2_tb s1
  have hl : B * 2 ^ A.log2 < 2 ^ (A.log2 + B.log2 + 1) := by
    have := lt_two_log2 (B * 2 ^ A.log2)
    rwa [s2, Nat.add_comm B.log2] at this
  rw [h1]
  exact xor_small hb hl hsm

/-! Long division -/
/-- The bits from n + k - 1 down to n. -/
def modD (Y n : Nat) : Nat → Nat → Nat
  | 0, x => x
  | k + 1, x => modD Y n k (if x.testBit (n + k) then x ^^^ Y * 2 ^ k else x)
def modP (X Y : Nat) : Nat := modD Y Y.log2 (X.log2 + 1) X
/-- A step. -/
theorem red_lt {x Y k : Nat} (hY : Y ≠ 0) (hx : x < 2 ^ (Y.log2 + k + 1)) (h : x.testBit (Y.log2 + k) = true) : x ^^^ Y * 2 ^ k < 2 ^ (Y.log2 + k) := by
  obtain ⟨s1, s2⟩ := log2_shift hY k
  have h2 := lt_two_log2 (Y * 2 ^ k)
  rw [s2] at h2
  have hb := log2_tb s1
  rw [s2] at hb
  apply lt_of_tb
  intro i hi
  rw [Nat.testBit_xor]
  by_cases e : i = Y.log2 + k
  · rw [e, h, hb]; rfl
  · rw [tb_lt hx (by omega), tb_lt h2 (by omega)]; rfl
theorem modD_lt {Y : Nat} (hY : Y ≠ 0) : ∀ (k x : Nat), x < 2 ^ (Y.log2 + k) → modD Y Y.log2 k x < 2 ^ Y.log2
  | 0, x, h => h
  | k + 1, x, h => by
    simp only [modD]
    apply modD_lt hY k
    split
    · rename_i hb
      exact red_lt hY h hb
    · rename_i hb
      apply lt_of_tb
      intro i hi
      by_cases e : i = Y.log2 + k
      · rw [e]; simpa using hb
      · exact tb_lt h (by omega)
theorem modD_skip {Y n : Nat} : ∀ (k m x : Nat), m ≤ k → x < 2 ^ (n + m) → modD Y n k x = modD Y n m x
  | 0, m, x, h, _ => by obtain rfl : m = 0 := by omega
                        rfl
  | k + 1, m, x, h, hx => by
    by_cases e : m = k + 1
    · rw [e]
    · simp only [modD]
      have : x.testBit (n + k) = false := tb_lt hx (by omega)
      rw [this]
      exact modD_skip k m x (by omega) hx
theorem modD_eq {X Y n : Nat} (h : X < 2 ^ (Y.log2 + n)) (_hY : Y ≠ 0) : modD Y Y.log2 n X = modP X Y := by
  unfold modP
  by_cases hle : n ≤ X.log2 + 1
  · exact (modD_skip _ _ _ hle h).symm
  · exact modD_skip _ _ _ (by omega) (Nat.lt_of_lt_of_le (lt_two_log2 X) (Nat.pow_le_pow_right (by omega) (by omega)))
/-- What is taken away is a multiple. -/
theorem modD_mul {Y n : Nat} : ∀ (k x : Nat), ∃ q, x = modD Y n k x ^^^ clmul q Y
  | 0, x => ⟨0, by rw [zero_clmul, Nat.xor_zero]; rfl⟩
  | k + 1, x => by
    simp only [modD]
    split
    · obtain ⟨q, hq⟩ := modD_mul (Y := Y) (n := n) k (x ^^^ Y * 2 ^ k)
      refine ⟨q ^^^ 2 ^ k, ?_⟩
      rw [clmul_xor, pow_clmul]
      have : x = (x ^^^ Y * 2 ^ k) ^^^ Y * 2 ^ k := (xor_cancel _ _).symm
      rw [hq] at this
      rw [← Nat.xor_assoc]
      exact this
    · exact modD_mul k x
theorem modP_lt {X Y : Nat} (hY : Y ≠ 0) : modP X Y < 2 ^ Y.log2 := by
  apply modD_lt hY
  exact Nat.lt_of_lt_of_le (lt_two_log2 X) (Nat.pow_le_pow_right (by omega) (by omega))
/-- The remainder is the only one. -/
theorem modP_unique {X Y R q : Nat} (hY : Y ≠ 0) (hR : R < 2 ^ Y.log2) (h : X = R ^^^ clmul q Y) : modP X Y = R := by
  obtain ⟨p, hp⟩ := modD_mul (Y := Y) (n := Y.log2) (X.log2 + 1) X
  have hM := modP_lt (X := X) hY
  have hp2 : X = modP X Y ^^^ clmul p Y := hp
  have he : modP X Y ^^^ R = clmul (p ^^^ q) Y := by
    rw [clmul_xor]
    have h1 : modP X Y = X ^^^ clmul p Y := by
      conv => rhs; rw [hp2]
      rw [xor_cancel]
    have h2 : R = X ^^^ clmul q Y := by rw [h, xor_cancel]
    rw [h1]
    conv => lhs; rw [h2]
    rw [show X ^^^ clmul p Y ^^^ (X ^^^ clmul q Y) = clmul p Y ^^^ clmul q Y ^^^ X ^^^ X by ac_rfl, xor_cancel]
  by_cases hpq : p ^^^ q = 0
  · rw [hpq, zero_clmul] at he
    have : modP X Y = (modP X Y ^^^ R) ^^^ R := (xor_cancel _ _).symm
    rw [he, Nat.zero_xor] at this
    exact this
  · exfalso
    obtain ⟨t1, t2⟩ := clmul_top hpq hY
    have h3 : clmul (p ^^^ q) Y < 2 ^ Y.log2 := by rw [← he]; exact xor_lt2 hM hR
    have := (Nat.log2_lt t1).2 h3
    omega
end Go.Proofs.YtkgacnenmflegaaGreatDoor.Poly
namespace Go.Proofs.YtkgacnenmflegaaGreatDoor
open Go.RowKit

/-- The exponents of a polynomial. -/
def listP (P : Nat) : List Nat := Poly.fall Poly.lim P
theorem listP_of {P n : Nat} (h : P < 2 ^ Poly.lim) (hn : Poly.lim ≤ n) : Poly.fall n P = listP P := Poly.fall_more hn h
theorem lim_lt {P n : Nat} (h : P < 2 ^ Poly.lim) (hn : Poly.lim ≤ n) : P < 2 ^ n := Nat.lt_of_lt_of_le h (Nat.pow_le_pow_right (by omega) hn)

theorem row_add_lim (br gr offr nr cr R bo go offo no co O up : Nat) (w : World) (hR : RowP w br (.slice (some ⟨gr, offr, none⟩) nr cr) nr R) (hO : RowP w bo (.slice (some ⟨go, offo, none⟩) no co) no O)
    (hne : gr ≠ go) (hOl : O < 2 ^ (64 * no)) (hroom : O * 2 ^ up < 2 ^ Poly.lim) (hnr : Poly.lim ≤ 64 * nr) (hup : up ≤ 1000000) (hn : nr ≤ 1000) (hn2 : no ≤ 1000) :
    Calls Tryz.prog 209 #[.slice (some ⟨gr, offr, none⟩) nr cr, .slice (some ⟨go, offo, none⟩) no co, .int .i64 (up : Int)] w (FlipPost w br gr (.slice (some ⟨gr, offr, none⟩) nr cr) nr (R ^^^ O * 2 ^ up)) :=
  row_add br gr offr nr cr R bo go offo no co O up w hR hO hne hOl (lim_lt hroom hnr) hup hn hn2
theorem row_add_all (br gr offr nr cr R bo go offo no co O : Nat) (w : World) (hR : RowP w br (.slice (some ⟨gr, offr, none⟩) nr cr) nr R) (hO : RowP w bo (.slice (some ⟨go, offo, none⟩) no co) no O)
    (hne : gr ≠ go) (hOl : O < 2 ^ Poly.lim) (hno : Poly.lim ≤ 64 * no) (hnr : Poly.lim ≤ 64 * nr) (hn : nr ≤ 1000) (hn2 : no ≤ 1000) :
    Calls Tryz.prog 209 #[.slice (some ⟨gr, offr, none⟩) nr cr, .slice (some ⟨go, offo, none⟩) no co, .int .i64 0] w (FlipPost w br gr (.slice (some ⟨gr, offr, none⟩) nr cr) nr (R ^^^ O)) := by
  have h := row_add_lim br gr offr nr cr R bo go offo no co O 0 w hR hO hne (lim_lt hOl hno) (by rw [Nat.pow_zero, Nat.mul_one]; exact hOl) hnr (by omega) hn hn2
  rw [Nat.pow_zero, Nat.mul_one] at h
  exact h
theorem row_poly_lim (b g off n c P : Nat) (w : World) (hR : RowP w b (.slice (some ⟨g, off, none⟩) n c) n P) (hP : P < 2 ^ Poly.lim) (hl : Poly.lim ≤ 64 * n) (hn : n ≤ 1000) :
    Calls Tryz.prog 208 #[.slice (some ⟨g, off, none⟩) n c] w (ListOf w (listP P)) := by
  have h := row_poly b g off n c P w hR hn
  rwa [listP_of hP hl] at h
/-! The product -/
theorem RowP.low {w : World} {b g off n c P m : Nat} (h : RowP w b (.slice (some ⟨g, off, none⟩) n c) n P) (hm : m ≤ n) : RowP w b (.slice (some ⟨g, off, none⟩) m c) m P := by
  have h1 := Row.part h rfl 0 m (by omega) hm
  have e : ((wordsV n P).drop (0 * 1)).take ((m - 0) * 1) = wordsV m P := by
    simp only [List.drop_zero, Nat.sub_zero, Nat.mul_one, wordsV, ← List.map_take, List.take_range, Nat.min_eq_left hm]
  rw [e] at h1
  simpa using h1
theorem listP_zero : listP 0 = [] := Poly.fall_zero _
def optL : Option Nat → List Nat
  | none => []
  | some P => listP P
/-- The exponents that are answered, and whether there is an answer. -/
def PairOf (w : World) (r : Option Nat) (e : Ending) (w' : World) : Prop := ∃ v, e = .returned (.tuple #[v, .bool r.isSome]) ∧ Row w' w.heap.size 3 1 v (optL r).length (intsV (Poly.ints (optL r))) ∧ Below w.heap.size w w'
/-- What Mul answers. -/
def mulR (A B : Nat) : Option Nat := if A ≠ 0 ∧ B ≠ 0 ∧ 16384 < A.log2 + B.log2 then none else some (Poly.clmul A B)
theorem row_degree_lim (b g off n c P : Nat) (w : World) (hR : RowP w b (.slice (some ⟨g, off, none⟩) n c) n P) (hP : P < 2 ^ Poly.lim) (hl : Poly.lim ≤ 64 * n) (hn : n ≤ 1000000) :
    Calls Tryz.prog 207 #[.slice (some ⟨g, off, none⟩) n c] w fun e w' => e = .returned (.int .i64 (deg P)) ∧ w = w' :=
  row_degree b g off n c P w hR (lim_lt hP hl) hn
theorem deg_neg {P : Nat} (h : P = 0) : deg P = -1 := by unfold deg; rw [if_pos h]
theorem deg_pos {P : Nat} (h : P ≠ 0) : deg P = (P.log2 : Int) := by unfold deg; rw [if_neg h]
theorem log2_lim {P : Nat} (h0 : P ≠ 0) (h : P < 2 ^ Poly.lim) : P.log2 ≤ 16384 := by
  have := Poly.log2_lt h0 h
  have := Poly.lim_eq
  omega
theorem room_of {A B e : Nat} (h : A.log2 + B.log2 ≤ 16384) (he : e ≤ A.log2) : B * 2 ^ e < 2 ^ Poly.lim := by
  have h1 : B * 2 ^ e < 2 ^ (B.log2 + 1 + e) := by
    rw [Nat.pow_add]
    exact Nat.mul_lt_mul_of_pos_right (Poly.lt_two_log2 B) (Nat.pow_pos (by omega))
  have hl := Poly.lim_eq
  exact Nat.lt_of_lt_of_le h1 (Nat.pow_le_pow_right (by omega) (by omega))
theorem listP_mem {P e : Nat} (h : e ∈ listP P) : P ≠ 0 ∧ e ≤ P.log2 := by
  have h1 := (Poly.fall_mem.1 h).2
  have h0 : P ≠ 0 := fun h => by rw [h] at h1; simp at h1
  refine ⟨h0, ?_⟩
  rcases Nat.lt_or_ge P.log2 e with h2 | h2
  · rw [Poly.tb_lt (Poly.lt_two_log2 P) h2] at h1
    cases h1
  · exact h2
theorem cut_words (g off n c m : Nat) (hm : m ≤ c) (W : World) :
    (Instr.slice 325 (.slice (some ⟨g, off, none⟩) n c) none (some (.int .i64 (m : Int))) none).run Tryz.prog W = .ok (.slice (some ⟨g, off, none⟩) m c) W :=
  cut_to (P := Tryz.prog) 325 239 Tryz.underlying325 (by kernel_rfl) g off n c m hm W
theorem low_lt (B : Nat) : B < 2 ^ (64 * (B.log2 / 64 + 1)) := Nat.lt_of_lt_of_le (Poly.lt_two_log2 B) (Nat.pow_le_pow_right (by omega) (by omega))

set_option maxRecDepth 100000 in
set_option maxHeartbeats 3200000 in
theorem poly_mul (XA XB : Option Addr) (n c m d : Nat) (l k : List Int) (w : World) (hl : n = l.length) (hn : n ≤ 9223372036854775807) (hR : Rd w XA n (fun i => .int .i64 (l.getD i 0)))
    (hk : m = k.length) (hm : m ≤ 9223372036854775807) (hS : Rd w XB m (fun i => .int .i64 (k.getD i 0))) :
    Calls Tryz.prog 177 #[.slice XA n c, .slice XB m d] w (PairOf w (mulR (Poly.bitsOf l) (Poly.bitsOf k))) := by
  have hL := Poly.lim_eq
  have hP := Poly.bitsOf_lt l
  have hQ := Poly.bitsOf_lt k
  have H1 := Aside.mk (row_of XA n c l w hl hn hR)
  have H3 : Aside (∀ W, Below w.heap.size w W → Calls Tryz.prog 206 #[.slice XB m d] W (RowOf W 257 (Poly.bitsOf k))) := ⟨fun W hW => row_of XB m d k W hk hm (hS.below (Nat.le_refl _) hW)⟩
  have HL := Aside.mk (And.intro hL (And.intro hP hQ))
  clear hL hP hQ hl hR hk hS
  generalize Poly.bitsOf l = P at *
  generalize Poly.bitsOf k = Q at *
  obtain ⟨R, hRr⟩ : ∃ R, R = mulR P Q := ⟨_, rfl⟩
  rw [← hRr]
  have HR := Aside.mk hRr
  clear hRr
  go_enter Tryz.func177, Tryz.ntmps177
  go_upto_region 2 with (first | (obtain ⟨HI⟩ := H1; go_at_call 206; refine (HI).mono ?_; clear HI; rintro e w1 ⟨g, hg, rfl, hr, hb⟩; have H4 := Aside.mk (H3.out _ hb)) | (obtain ⟨HI⟩ := H4; go_at_call 206; refine (HI).mono ?_; clear HI; rintro e w2 ⟨g2, hg2, rfl, hr2, hb2⟩))
  have hrx := Row.below hr hb2
  have hbw := hb.trans (hb2.mono hb.size)
  have hgg : g ≠ g2 := by have := (Row.blk hr g rfl).2.1; omega
  have HW := Aside.mk (And.intro hrx (And.intro hr2 (And.intro hbw (And.intro hb.size (And.intro hg hg2)))))
  have D1 := Aside.mk (row_degree_lim _ g 0 257 257 P w2 hrx HL.out.2.1 (by have := HL.out.1; omega) (by omega))
  have D2 := Aside.mk (row_degree_lim _ g2 0 257 257 Q w2 hr2 HL.out.2.2 (by have := HL.out.1; omega) (by omega))
  clear hrx hr2 hr hb hb2 hbw H3
  by_cases hP0 : P = 0
  · rw [deg_neg hP0] at D1
    have hres : R = some 0 := by rw [HR.out]; unfold mulR; rw [if_neg (by simp [hP0]), hP0, Poly.zero_clmul]
    have HE := Aside.mk hres
    clear hP0 hres HR
    go_wp2_with (first | (obtain ⟨HI⟩ := D1; go_at_call 207; refine (HI).mono ?_; clear HI; rintro e w3 ⟨rfl, rfl⟩) | (obtain ⟨HI⟩ := D2; go_at_call 207; refine (HI).mono ?_; clear HI; rintro e w3 ⟨rfl, rfl⟩))
    go_ret2
    exact ⟨_, by rw [HE.out]; rfl, by rw [HE.out]; show Row _ _ _ _ _ (listP 0).length (intsV (Poly.ints (listP 0))); rw [listP_zero]; exact Row.nil _ _ _ _, HW.out.2.2.1⟩
  · have hdp := deg_pos hP0
    have hlp := log2_lim hP0 HL.out.2.1
    rw [hdp] at D1
    clear hdp
    by_cases hQ0 : Q = 0
    · rw [deg_neg hQ0] at D2
      have hres : R = some 0 := by rw [HR.out]; unfold mulR; rw [if_neg (by simp [hQ0]), hQ0, Poly.clmul_zero]
      have HE := Aside.mk hres
      clear hP0 hQ0 hres HR
      go_wp2_with (first | (obtain ⟨HI⟩ := D1; go_at_call 207; refine (HI).mono ?_; clear HI; rintro e w3 ⟨rfl, rfl⟩) | (obtain ⟨HI⟩ := D2; go_at_call 207; refine (HI).mono ?_; clear HI; rintro e w3 ⟨rfl, rfl⟩))
      go_ret2
      exact ⟨_, by rw [HE.out]; rfl, by rw [HE.out]; show Row _ _ _ _ _ (listP 0).length (intsV (Poly.ints (listP 0))); rw [listP_zero]; exact Row.nil _ _ _ _, HW.out.2.2.1⟩
    · have hdq := deg_pos hQ0
      have hlq := log2_lim hQ0 HL.out.2.2
      rw [hdq] at D2
      clear hdq
      have hsum : IntKind.i64.wrap ((P.log2 : Int) + (Q.log2 : Int)) = (P.log2 : Int) + (Q.log2 : Int) := by rw [IntKind.wrap_i64]; omega
      by_cases hgt : 16384 < P.log2 + Q.log2
      · have hres : R = none := by rw [HR.out]; unfold mulR; rw [if_pos ⟨hP0, hQ0, hgt⟩]
        have HE := Aside.mk hres
        have hgt2 : (16384 : Int) < (P.log2 : Int) + (Q.log2 : Int) := by omega
        clear hP0 hQ0 hres HR hgt
        go_wp2_with (first | (obtain ⟨HI⟩ := D1; go_at_call 207; refine (HI).mono ?_; clear HI; rintro e w3 ⟨rfl, rfl⟩) | (obtain ⟨HI⟩ := D2; go_at_call 207; refine (HI).mono ?_; clear HI; rintro e w3 ⟨rfl, rfl⟩))
        go_ret2
        exact ⟨_, by rw [HE.out]; rfl, by rw [HE.out]; exact Row.nil _ _ _ _, HW.out.2.2.1⟩
      · have hres : R = some (Poly.clmul P Q) := by rw [HR.out]; unfold mulR; rw [if_neg (by omega)]
        have hgt2 : ¬ (16384 : Int) < (P.log2 : Int) + (Q.log2 : Int) := by omega
        have HE := Aside.mk (And.intro hres (And.intro hP0 (And.intro hQ0 (Nat.le_of_not_lt hgt))))
        have hmk : ∀ W : World, (Instr.makeSlice 325 (.int .i64 258) (.int .i64 258)).run Tryz.prog W = .ok (.slice (some ⟨W.heap.size, 0, none⟩) 258 258) (W.alloc (.cells (madeCells #[.int .u64 0] 258) 239)) := make_words 258 (by omega)
        have hRM := RowP.made w2 w.heap.size 258 HW.out.2.2.1.size (by omega)
        have hbm := HW.out.2.2.1.alloc HW.out.2.2.1.size (.cells (madeCells #[.int .u64 0] 258) 239)
        have hbm2 := (Below.refl w2.heap.size w2).alloc (Nat.le_refl _) (.cells (madeCells #[.int .u64 0] 258) 239)
        obtain ⟨cs, hcs⟩ : ∃ cs, cs = madeCells #[Value.int .u64 0] 258 := ⟨_, rfl⟩
        rw [← hcs] at hmk hRM hbm hbm2
        have HM := Aside.mk (And.intro hRM (And.intro hbm hbm2))
        clear hP0 hQ0 hres HR hgt hRM hbm hbm2 hcs
        go_upto_region 8 with (first | (obtain ⟨HI⟩ := D1; go_at_call 207; refine (HI).mono ?_; clear HI; rintro e w3 ⟨rfl, rfl⟩) | (obtain ⟨HI⟩ := D2; go_at_call 207; refine (HI).mono ?_; clear HI; rintro e w3 ⟨rfl, rfl⟩))
        have hx4 := Row.below HW.out.1 HM.out.2.2
        have hy4 := Row.below HW.out.2.1 HM.out.2.2
        have hlt2 : g2 < w2.heap.size := (Row.blk HW.out.2.1 g2 rfl).2.1
        have hlt1 : g < w2.heap.size := (Row.blk HW.out.1 g rfl).2.1
        have hge : w.heap.size ≤ w2.heap.size := HW.out.2.2.1.size
        have H4 := Aside.mk (And.intro hx4 (And.intro hy4 (And.intro HM.out.1 HM.out.2.1)))
        clear HM hx4 hy4 hmk
        generalize w2.alloc (.cells cs 239) = w4 at *
        generalize w2.heap.size = g3 at *
        go_wp2_with (go_at_call 208; refine (row_poly_lim _ g 0 257 257 P _ H4.out.1 HL.out.2.1 (by have := HL.out.1; omega) (by omega)).mono ?_; rintro e w5 ⟨v5, rfl, hr5, hb5⟩; obtain ⟨A5, c5, rfl, -, hc5, hm5, hR5⟩ := hr5.readInts)
        have hRo := Row.below H4.out.2.2.1 hb5
        have hy5 := Row.below H4.out.2.1 hb5
        have hbw5 := H4.out.2.2.2.trans (hb5.mono H4.out.2.2.2.size)
        have hlt3 : g3 < w4.heap.size := (Row.blk H4.out.2.2.1 g3 rfl).2.1
        have hA5 : ∀ b off, A5 = some ⟨b, off, none⟩ → b ≠ g3 := fun b off h => by
          subst h
          have := (Row.blk hr5 b rfl).1
          omega
        have hll : (listP P).length ≤ 16385 := by
          have := Poly.fall_len P Poly.lim
          rw [Poly.lim_eq] at this
          exact this
        have H5 := Aside.mk (And.intro hRo (And.intro hy5 (And.intro hbw5 (And.intro hR5 hA5))))
        clear hRo hy5 hbw5 hR5 hA5 hr5 hb5 H4
        obtain ⟨tq, htq⟩ : ∃ tq, tq = Q.log2 / 64 := ⟨_, rfl⟩
        have hmq : (Q.log2 : Int) / 64 = (tq : Int) := by omega
        obtain ⟨mq, hmqe⟩ : ∃ mq, mq = Q.log2 / 64 + 1 := ⟨_, rfl⟩
        have hmq2 : IntKind.i64.wrap ((tq : Int) + 1) = (mq : Int) := by rw [IntKind.wrap_i64]; omega
        have htq2 : tq ≤ 256 := by omega
        have hcut := cut_words g2 0 257 257 mq (by omega)
        have hmq3 : mq ≤ 257 := by omega
        have HMQ := Aside.mk hmqe
        clear hmqe htq
        go_loopw [38] (fun s38 wr => ∃ j : Nat, j ≤ (listP P).length ∧ s38 = .int .i64 (j : Int) ∧ RowP wr w.heap.size (.slice (some ⟨g3, 0, none⟩) 258 258) 258 (Poly.mulL ((listP P).take j) Q) ∧ w5.grownBy wr (some g3)) (fun s38 _ => (listP P).length - (intOf s38).toNat)
        case atStart => exact ⟨0, by omega, rfl, H5.out.1, World.grownBy.refl _ _⟩
        case round =>
          obtain ⟨j, hj, rfl, hr, hg9⟩ := hrel
          have H9 := Aside.mk (And.intro hr hg9)
          clear hr hg9
          have hj2 : IntKind.i64.wrap ((j : Int) + 1) = (j : Int) + 1 := by rw [IntKind.wrap_i64]; omega
          by_cases hlt : j < (listP P).length
          · obtain ⟨b, off, rfl, hbl, hc⟩ := H5.out.2.2.2.1 j hlt
            have hge5 : (Poly.ints (listP P)).getD j 0 = (((listP P).getD j 0 : Nat) : Int) := by simp [Poly.ints, List.getD_eq_getElem?_getD, List.getElem?_eq_getElem hlt]
            have y1 : wr.cell? ⟨b, off + j, none⟩ = some (.int .i64 ((Poly.ints (listP P)).getD j 0)) := H9.out.2.cell hc (by have := H5.out.2.2.2.2 b off rfl; simp; omega)
            rw [hge5] at y1
            have hmem : (listP P).getD j 0 ∈ listP P := by
              rw [List.getD_eq_getElem?_getD, List.getElem?_eq_getElem hlt]
              exact List.getElem_mem _
            have hts : Poly.mulL ((listP P).take (j + 1)) Q = Poly.mulL ((listP P).take j) Q ^^^ Q * 2 ^ ((listP P).getD j 0) := by
              rw [List.take_succ_eq_append_getElem hlt, Poly.mulL_snoc]
              simp [List.getD_eq_getElem?_getD, List.getElem?_eq_getElem hlt]
            have hel := (listP_mem hmem).2
            have hyr := RowP.low (Row.kept H5.out.2.1 H9.out.2 (.inr (by simp [Value.ownBlock]; omega))) hmq3
            generalize (listP P).getD j 0 = ex at *
            have hrm := room_of HE.out.2.2.2 hel
            have H10 := Aside.mk (And.intro hts (And.intro hyr hrm))
            have hj3 : (0 : Int) ≤ (j : Int) := by omega
            have hj4 : (j : Int) < ((listP P).length : Int) := by omega
            clear hts hyr hrm hmem hge5 hc
            go_wp2_with (go_at_call 209; refine (row_add_lim w.heap.size g3 0 258 258 _ _ g2 0 mq 257 Q ex _ H9.out.1 H10.out.2.1 (by omega) (by rw [HMQ.out]; exact low_lt Q) H10.out.2.2 (by have := HL.out.1; omega) (by omega) (by omega) (by omega)).mono ?_; rintro e w6 ⟨rfl, hr6, hg6⟩)
            go_roundw
            case rel => exact ⟨j + 1, by omega, by go_num, by rw [H10.out.1]; exact hr6, World.grownBy.trans H9.out.2 hg6⟩
            case measure => simp [intOf]; omega
          · obtain rfl : j = (listP P).length := by omega
            have hall : Poly.mulL ((listP P).take (listP P).length) Q = Poly.clmul P Q := by rw [List.take_length]; exact Poly.clmul_fall HL.out.2.1 Q
            have hcl : Poly.clmul P Q < 2 ^ Poly.lim := by
              rw [← Poly.clmul_fall HL.out.2.1]
              exact Poly.mulL_lt _ (fun e he => room_of HE.out.2.2.2 (listP_mem he).2)
            have hr9 := H9.out.1
            rw [hall] at hr9
            have hb9 : Below w.heap.size w wr := H5.out.2.2.1.grown H9.out.2 H5.out.2.2.1.size (fun j hj => by injection hj with hj; omega)
            have H10 := Aside.mk (And.intro hr9 (And.intro hcl hb9))
            clear hall hcl hr9 hb9 H9
            go_wp2_with (go_at_call 208; refine (row_poly_lim _ g3 0 258 258 _ _ H10.out.1 H10.out.2.1 (by have := HL.out.1; omega) (by omega)).mono ?_; rintro e w7 ⟨v7, rfl, hr7, hb7⟩)
            go_ret2
            exact ⟨_, by rw [HE.out.1]; rfl, by rw [HE.out.1]; exact hr7.mono H10.out.2.2.size, H10.out.2.2.trans (hb7.mono H10.out.2.2.size)⟩
end Go.Proofs.YtkgacnenmflegaaGreatDoor
namespace Go.Proofs.YtkgacnenmflegaaGreatDoor
open Go.RowKit

def modR (A B : Nat) : Option Nat := if B = 0 then none else some (Poly.modP A B)
theorem modP_small {X Y : Nat} (h : X < 2 ^ Y.log2) (hY : Y ≠ 0) : Poly.modP X Y = X := by
  have := Poly.modD_eq (X := X) (Y := Y) (n := 0) (by rw [Nat.add_zero]; exact h) hY
  rw [← this]; rfl
theorem modP_step {X Y : Nat} (hX : X ≠ 0) (hY : Y ≠ 0) (h : Y.log2 ≤ X.log2) : X ^^^ Y * 2 ^ (X.log2 - Y.log2) < 2 ^ X.log2 ∧ Poly.modP (X ^^^ Y * 2 ^ (X.log2 - Y.log2)) Y = Poly.modP X Y := by
  have hb := Poly.log2_tb hX
  have e : Y.log2 + (X.log2 - Y.log2) = X.log2 := by omega
  have h1 : X < 2 ^ (Y.log2 + (X.log2 - Y.log2) + 1) := by rw [e]; exact Poly.lt_two_log2 X
  have h2 := Poly.red_lt hY h1 (by rw [e]; exact hb)
  refine ⟨by rwa [e] at h2, ?_⟩
  rw [← Poly.modD_eq h2 hY, ← Poly.modD_eq (X := X) (n := X.log2 - Y.log2 + 1) h1 hY]
  show _ = Poly.modD Y Y.log2 (X.log2 - Y.log2) (if X.testBit (Y.log2 + (X.log2 - Y.log2)) = true then _ else _)
  rw [e, if_pos hb]
theorem deg_lt {X m : Nat} (h : X < 2 ^ m) : deg X < (m : Int) := by
  unfold deg
  split
  · omega
  · rename_i h0
    have := Poly.log2_lt h0 h
    omega

end Go.Proofs.YtkgacnenmflegaaGreatDoor
namespace Go.Proofs.YtkgacnenmflegaaGreatDoor
open Go.RowKit

def boolsV (n P : Nat) : List Value := (List.range n).map fun i => .bool (P.testBit i)
theorem boolsV_length (n P : Nat) : (boolsV n P).length = n := by simp [boolsV]
theorem boolsV_get {n P i : Nat} (h : i < n) : (boolsV n P).getD i undef = .bool (P.testBit i) := by simp [boolsV, List.getD_eq_getElem?_getD, h]
theorem boolsV_set (n P e : Nat) : (boolsV n P).set e (.bool (!P.testBit e)) = boolsV n (P ^^^ 2 ^ e) := by
  apply List.ext_getElem
  · simp [boolsV]
  · intro i h1 h2
    simp only [boolsV, List.getElem_set, List.getElem_map, List.getElem_range, Nat.testBit_xor, Poly.tb_pow]
    by_cases h : e = i
    · subst h; simp
    · rw [if_neg h]; simp [h]
theorem boolsV_zero (n : Nat) : boolsV n 0 = List.replicate n (.bool false) := by
  apply List.ext_getElem
  · rw [boolsV_length, List.length_replicate]
  · intro i h1 h2
    simp only [boolsV, List.getElem_map, List.getElem_range, List.getElem_replicate]
    simp
abbrev RowB (w : World) (b : Nat) (v : Value) (n P : Nat) : Prop := Row w b 4 1 v n (boolsV n P)
theorem RowB.cell {w : World} {b g off n c P : Nat} (h : RowB w b (.slice (some ⟨g, off, none⟩) n c) n P) {i : Nat} (hi : i < n) :
    w.cell? ⟨g, off + i, none⟩ = some (.bool (P.testBit i)) ∧ w.frozen? ⟨g, off + i, none⟩ = false := by
  have := Row.at_ h rfl i hi
  rwa [boolsV_get hi] at this
theorem RowB.cell0 {w : World} {b g n c P : Nat} (h : RowB w b (.slice (some ⟨g, 0, none⟩) n c) n P) {i : Nat} (hi : i < n) :
    w.cell? ⟨g, i, none⟩ = some (.bool (P.testBit i)) ∧ w.frozen? ⟨g, i, none⟩ = false := by
  have := RowB.cell h hi
  rwa [Nat.zero_add] at this
theorem RowB.flip {w : World} {b g n c P : Nat} (h : RowB w b (.slice (some ⟨g, 0, none⟩) n c) n P) {e : Nat} (he : e < n) :
    RowB (w.setCell ⟨g, e, none⟩ (.bool (!P.testBit e))) b (.slice (some ⟨g, 0, none⟩) n c) n (P ^^^ 2 ^ e) ∧ w.grownBy (w.setCell ⟨g, e, none⟩ (.bool (!P.testBit e))) (some g) := by
  have := Row.store h rfl e (by omega) (.bool (!P.testBit e))
  rwa [boolsV_set, Nat.zero_add] at this
theorem make_bools (m : Nat) (h : m ≤ 1000000) (W : World) :
    (Instr.makeSlice 165 (.int .i64 (m : Int)) (.int .i64 (m : Int))).run Tryz.prog W = .ok (.slice (some ⟨W.heap.size, 0, none⟩) m m) (W.alloc (.cells (madeCells #[.bool false] m) 4)) :=
  run_make_row' 165 4 (.bool false) 1 Tryz.underlying165 (by kernel_rfl) rfl .i64 .i64 m (by omega) (by omega) W
theorem RowB.made (w : World) (b n : Nat) (hb : b ≤ w.heap.size) (hn : n ≤ 1000000) : RowB (w.alloc (.cells (madeCells #[.bool false] n) 4)) b (.slice (some ⟨w.heap.size, 0, none⟩) n n) n 0 := by
  have h := Row.zeros w b 4 (.bool false) n hb (by simp only [maxLen]; omega)
  rwa [← boolsV_zero] at h
def BitsOf (w : World) (P : Nat) (e : Ending) (w' : World) : Prop := ∃ g, w.heap.size ≤ g ∧ e = .returned (.slice (some ⟨g, 0, none⟩) 16385 16385) ∧ RowB w' w.heap.size (.slice (some ⟨g, 0, none⟩) 16385 16385) 16385 P ∧ Below w.heap.size w w'

/-! Are two lists alike? -/
theorem alike_take {l k : List Int} {i : Nat} (hi : i < l.length) (hlk : l.length = k.length) (h : l.take i = k.take i) : (l.take (i + 1) = k.take (i + 1)) ↔ l.getD i 0 = k.getD i 0 := by
  have hk : i < k.length := by omega
  have e1 : l.getD i 0 = l[i] := by simp [List.getD_eq_getElem?_getD, List.getElem?_eq_getElem hi]
  have e2 : k.getD i 0 = k[i] := by simp [List.getD_eq_getElem?_getD, List.getElem?_eq_getElem hk]
  rw [List.take_succ_eq_append_getElem hi, List.take_succ_eq_append_getElem hk, h, e1, e2, List.append_right_inj]
  constructor
  · intro e; injection e
  · intro e; rw [e]
end Go.Proofs.YtkgacnenmflegaaGreatDoor
namespace Go.Proofs.YtkgacnenmflegaaGreatDoor
open Go.RowKit

theorem listP_head {P : Nat} (h0 : P ≠ 0) (h : P < 2 ^ Poly.lim) : 0 < (listP P).length ∧ (listP P).getD 0 0 = P.log2 := by
  unfold listP
  rw [Poly.fall_top h0 h]
  simp
theorem listP_len {P : Nat} (h : P < 2 ^ Poly.lim) : (listP P).length = 0 ↔ P = 0 := by
  rw [List.length_eq_zero_iff]
  exact Poly.fall_nil h
/-- The sum of these powers. -/
def sumL (l : List Nat) : Nat := Poly.mulL l 1
theorem sumL_nil : sumL [] = 0 := rfl
theorem sumL_snoc (l : List Nat) (e : Nat) : sumL (l ++ [e]) = sumL l ^^^ 2 ^ e := by
  unfold sumL
  rw [Poly.mulL_snoc, Nat.one_mul]
theorem sumL_all {P : Nat} (h : P < 2 ^ Poly.lim) : sumL (listP P) = P := by
  unfold sumL listP
  rw [Poly.clmul_fall h]
  have := Poly.clmul_pow P 0
  rwa [Nat.pow_zero, Nat.mul_one] at this
theorem take_snocN {l : List Nat} {k : Nat} (h : k < l.length) : l.take (k + 1) = l.take k ++ [l.getD k 0] := by
  rw [List.take_succ_eq_append_getElem h]
  simp [List.getD_eq_getElem?_getD, List.getElem?_eq_getElem h]
theorem getD_memN {l : List Nat} {k : Nat} (h : k < l.length) : l.getD k 0 ∈ l := by
  rw [List.getD_eq_getElem?_getD, List.getElem?_eq_getElem h]
  exact List.getElem_mem _
theorem ints_getD {l : List Nat} {k : Nat} (h : k < l.length) : (Poly.ints l).getD k 0 = ((l.getD k 0 : Nat) : Int) := by
  simp [Poly.ints, List.getD_eq_getElem?_getD, List.getElem?_eq_getElem h]
theorem listP_le (P : Nat) : (listP P).length ≤ 16385 := by
  have := Poly.fall_len P Poly.lim
  rw [Poly.lim_eq] at this
  exact this
/-- One more. -/
theorem laid_step {R x y : Nat} {l : List Nat} {k : Nat} (h : k < l.length) (hy : l.getD k 0 = y) : R ^^^ sumL (l.take (k + 1)) * 2 ^ x = (R ^^^ sumL (l.take k) * 2 ^ x) ^^^ 2 ^ (x + y) := by
  rw [take_snocN h, sumL_snoc, hy, Poly.mul_xor, ← Nat.pow_add, Nat.add_comm y, Nat.xor_assoc]

/-- A slice of natural numbers that is read. -/
def NRd (w : World) (A : Option Addr) (L : List Nat) (B : Nat) : Prop := ∀ i, i < L.length → ∃ b off, A = some ⟨b, off, none⟩ ∧ B ≤ b ∧ b < w.heap.size ∧ w.cell? ⟨b, off + i, none⟩ = some (.int .i64 ((L.getD i 0 : Nat) : Int))
theorem Row.nrd {w : World} {base : Nat} {A : Option Addr} {n c : Nat} {L : List Nat} (h : Row w base 3 1 (.slice A n c) n (intsV (Poly.ints L))) : NRd w A L base := by
  intro i hi
  obtain ⟨A', c', hv, hn, _, _, hR⟩ := h.readInts
  injection hv with hv _ _
  subst hv
  have hn2 : n = L.length := by rw [hn, ints_length]
  obtain ⟨b, off, hA, hb, hc⟩ := hR i (by omega)
  subst hA
  refine ⟨b, off, rfl, (h.blk b rfl).1, hb, ?_⟩
  rw [hc]
  show some (Value.int .i64 ((Poly.ints L).getD i 0)) = _
  rw [ints_getD hi]
theorem NRd.below {w w' : World} {A : Option Addr} {L : List Nat} {B : Nat} (h : NRd w A L B) (hb : Below w.heap.size w w') : NRd w' A L B := by
  intro i hi
  obtain ⟨b, off, h1, h2, h3, h4⟩ := h i hi
  exact ⟨b, off, h1, h2, Nat.lt_of_lt_of_le h3 hb.size, (hb.cell (p := ⟨b, off + i, none⟩) h3).trans h4⟩
theorem NRd.far {w w' : World} {A : Option Addr} {L : List Nat} {B g : Nat} (h : NRd w A L B) (hg : w.grownBy w' (some g)) (hne : ∀ b off, A = some ⟨b, off, none⟩ → b ≠ g) : NRd w' A L B := by
  intro i hi
  obtain ⟨b, off, h1, h2, h3, h4⟩ := h i hi
  exact ⟨b, off, h1, h2, Nat.lt_of_lt_of_le h3 hg.size, hg.cell h4 (by have := hne b off h1; simpa using this)⟩

end Go.Proofs.YtkgacnenmflegaaGreatDoor
namespace Go.Proofs.YtkgacnenmflegaaGreatDoor
open Go.RowKit

theorem modD_yes {Y n k x : Nat} (h : x.testBit (n + k) = true) : Poly.modD Y n (k + 1) x = Poly.modD Y n k (x ^^^ Y * 2 ^ k) := by
  show Poly.modD Y n k (if x.testBit (n + k) = true then _ else _) = _
  rw [if_pos h]
theorem modD_no {Y n k x : Nat} (h : x.testBit (n + k) = false) : Poly.modD Y n (k + 1) x = Poly.modD Y n k x := by
  show Poly.modD Y n k (if x.testBit (n + k) = true then _ else _) = _
  rw [h]; rfl
theorem top_off {x m : Nat} (hx : x < 2 ^ (m + 1)) (h : x.testBit m = false) : x < 2 ^ m := by
  apply Poly.lt_of_tb
  intro i hi
  by_cases e : i = m
  · rw [e]; exact h
  · exact Poly.tb_lt hx (by omega)

end Go.Proofs.YtkgacnenmflegaaGreatDoor
namespace Go.Proofs.YtkgacnenmflegaaGreatDoor
open Go.RowKit
section
variable {P : Program} {ops : Array Oper} {rest : List Oper} {o : Oper} {a : Act} {Q : Exit → Act → World → Prop}
theorem append_types {t t2 e e2 ty : TypeId} (ht : P.underlying t = some (.slice e)) (ht2 : P.underlying t2 = some (.slice e2)) (v x : Value) (w : World) :
    (Builtin.append_ #[t, t2] ty #[v, x]).run P w = (Builtin.append_ #[t, t] ty #[v, x]).run P w := by
  cases v <;> simp [Builtin.append_, run_underlying ht, run_underlying ht2, Sem.run_bind]
theorem wpList_append_row2 {W w0 : World} (base : Nat) (hgd : o.guard = none) (s x : Operand) (t t2 e e2 : TypeId) (size bytes : Nat) (z : Value)
    (ho : o.op = .call { callee := .builtin .append, args := #[s, x], argTypes := #[t, t2] }) (ht2 : P.underlying t2 = some (.slice e2))
    (ht : P.underlying t = some (.slice e)) (hinfo : (P.info? e).map (fun i => (i.zero, i.size, i.bytes)) = some (some z, size, bytes)) (hzs : z.cells.size = size) (hsz : 0 < size)
    (v : Value) (n : Nat) (xs : List Value) (y : Value) (m : Nat) (ys : List Value) (hs : a.eval s = v) (hx : a.eval x = y)
    (HR : Row W base e size v n xs) (HS : Src W size y m ys) (h1 : ∀ u ∈ ys, u.oneCell' = true) (HB : Below base w0 W) (hbase : base ≤ W.heap.size) (hl : (n + m) * bytes ≤ 140737488355328) (hm : n + m ≤ maxLen)
    (h : ∀ v1 w1, Row w1 base e size v1 (n + m) (xs ++ ys) → Below base w0 w1 → W.grownBy w1 v.ownBlock → (v1.ownBlock = v.ownBlock ∨ v1.ownBlock = some W.heap.size) → wpList P ops Q rest (a.put o.dst v1) w1) :
    wpList P ops Q (o :: rest) a W := by
  obtain ⟨v1, w1, hr, h2, h3, h4⟩ := run_append_row (P := P) W base t o.type e size bytes z ht hinfo hzs hsz v n xs HR y m ys HS h1 hm hl hbase
  rw [← append_types ht ht2] at hr
  refine wpList_plain hgd fun K hK => ?_
  unfold Oper.wp execOp
  simp only [ho, resolve, invoke, builtin, Sem.run_bind, Sem.run_pure, Result.andThen_ok, List.map_toArray, List.map_cons, List.map_nil, hs, hx, hr]
  exact hK _ _ (h v1 w1 h2 (HB.grown h3 hbase (fun k hk => (HR.blk k hk).1)) h3 h4)
end
end Go.Proofs.YtkgacnenmflegaaGreatDoor
