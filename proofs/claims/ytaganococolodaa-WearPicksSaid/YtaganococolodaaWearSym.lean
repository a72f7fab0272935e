/-
  Two sorted parts merged in place.
-/
import Derived.Test.YtaganococolodaaWearOne
namespace Go.Proofs.Ytaganococolodaa
open Go.RowKit

/-- The search for the place where the merge parts. -/
structure PartAt (rd : Nat → Int) (w : World) (g off n c nb : Nat) (F : Nat → Nat) (a m b mid s r : Nat) (W : World) : Prop where
  srt : SrtW w g off n c nb F W
  lo : a ≤ s
  sr : s ≤ r
  rm : r ≤ m
  sl : mid + m - b ≤ s
  ru : r ≤ mid
  dn : ∀ p, a ≤ p → p < s → mid + m - b ≤ p → ¬ rd (F p) < rd (F (mid + m - 1 - p))
  up : ∀ p, r ≤ p → p < m → p < mid → rd (F p) < rd (F (mid + m - 1 - p))
theorem PartAt.parts {rd : Nat → Int} {w W : World} {g off n c nb : Nat} {F : Nat → Nat} {a m b mid s : Nat} (h : PartAt rd w g off n c nb F a m b mid s s W) (hM : MIn rd F a m b) (hmid : mid = (a + b) / 2) : Parts rd F a m b mid s (mid + m - s) := by
  have h1 := h.lo; have h2 := h.rm; have h3 := h.sl; have h4 := h.ru; have am := hM.am; have mb := hM.mb
  refine ⟨h1, h2, by omega, by omega, by omega, fun k1 k2 => ?_, fun k1 k2 => ?_⟩
  · have hd := h.dn (s - 1) (by omega) (by omega) (by omega)
    rw [show mid + m - 1 - (s - 1) = mid + m - s by omega] at hd
    exact hM.more (by omega) (by omega) (by omega) (by omega) hd
  · have hu := h.up s (by omega) k2 (by omega)
    rw [show mid + m - 1 - s = mid + m - s - 1 by omega] at hu
    exact Or.inl hu
theorem half_in {rd : Nat → Int} {F : Nat → Nat} {a s m : Nat} (h1 : a ≤ s) (h2 : s ≤ m) (l : Srt rd F a s) (r : Srt rd F s m) (hr : ∀ i j, a ≤ i → i < s → s ≤ j → j < m → F i < F j) :
    ((decide (a < s) && decide (s < m)) = true → MIn rd F a s m) ∧ ((decide (a < s) && decide (s < m)) = false → MOut rd F a m F) := by
  constructor
  · intro h
    have h3 := Bool.and_eq_true_iff.1 h
    exact ⟨of_decide_eq_true h3.1, of_decide_eq_true h3.2, l, r, hr⟩
  · intro h
    apply MOut.none
    by_cases c : a < s
    · have : decide (a < s) = true := by simpa using c
      rw [this, Bool.true_and] at h
      have h4 := of_decide_eq_false h
      obtain rfl : s = m := by omega
      exact l
    · obtain rfl : a = s := by omega
      exact r
set_option maxRecDepth 100000 in
set_option maxHeartbeats 4000000 in
theorem merge_main (w W : World) (g off n c nb : Nat) (F : Nat → Nat) (bx cb : Nat) (A : Option Addr) (f : Nat → Blk) (a m b : Nat) (hC : Ctx w g bx A nb cb f) (hS : SrtW w g off n c nb F W) (hM : MIn (fun x => (f x).rd) F a m b) (h0 : m ≠ a + 1) (h1 : b ≠ m + 1) (hbn : b ≤ n) (hn : n ≤ 10000000000000) (hnc : n ≤ c)
    (IH : ∀ (W' : World) (F' : Nat → Nat) (a' m' b' : Nat), b' - a' < b - a → SrtW w g off n c nb F' W' → MIn (fun x => (f x).rd) F' a' m' b' → b' ≤ n → Calls Try.prog 28 #[.slice (some ⟨g, off, none⟩) n c, .int .i64 (a' : Nat), .int .i64 (m' : Nat), .int .i64 (b' : Nat), cmpV bx] W' (MergedPost (fun x => (f x).rd) w g off n c nb F' a' b')) :
    Calls Try.prog 28 #[.slice (some ⟨g, off, none⟩) n c, .int .i64 (a : Nat), .int .i64 (m : Nat), .int .i64 (b : Nat), cmpV bx] W (MergedPost (fun x => (f x).rd) w g off n c nb F a b) := by
  generalize hrd : (fun x => (f x).rd) = rd at *
  have HRD : Aside (∀ x, (f x).rd = rd x) := ⟨fun x => by rw [← hrd]⟩
  have HIH := Aside.mk IH
  have ham := hM.am
  have hmb := hM.mb
  have e1 : IntKind.i64.wrap ((b : Int) - (m : Int)) = (b : Int) - (m : Int) := by rw [IntKind.wrap_i64]; omega
  have e0 : IntKind.i64.wrap ((m : Int) - (a : Int)) = (m : Int) - (a : Int) := by rw [IntKind.wrap_i64]; omega
  have hne : ¬ (m : Int) - (a : Int) = 1 := by omega
  have hne1 : ¬ (b : Int) - (m : Int) = 1 := by omega
  have e2 : IntKind.i64.wrap ((a : Int) + (b : Int)) = ((a + b : Nat) : Int) := by rw [IntKind.wrap_i64]; omega
  obtain ⟨mid, hmid⟩ : ∃ mid, mid = (a + b) / 2 := ⟨_, rfl⟩
  have eh : ((a : Int) + (b : Int)) / 2 = (mid : Int) := by omega
  have e3 : IntKind.i64.wrap ((mid : Int) + (m : Int)) = ((mid + m : Nat) : Int) := by rw [IntKind.wrap_i64]; omega
  have e5 : IntKind.i64.wrap (((mid + m : Nat) : Int) - 1) = ((mid + m - 1 : Nat) : Int) := by rw [IntKind.wrap_i64]; omega
  have hab : a + b ≤ 20000000000000 := by omega
  have HN := Aside.mk (And.intro hmid (And.intro hbn (And.intro hn hnc)))
  have HM := Aside.mk hM
  have HC := Aside.mk hC
  have HS := Aside.mk hS
  have HAB := Aside.mk (And.intro ham hmb)
  clear hrd hS hM h1 hbn hn hnc hC ham hmb h0 IH hmid
  go_enter Try.func28, Try.ntmps28
  go_upto_region 25 with fail
  clear eh e0 e1 e2 hne hne1 hab
  obtain ⟨nn, hnn⟩ : ∃ nn, nn = mid + m := ⟨_, rfl⟩
  obtain ⟨pp, hpp⟩ : ∃ pp, pp = mid + m - 1 := ⟨_, rfl⟩
  rw [← hnn] at e3
  rw [← hpp, ← hnn] at e5
  have HNN := Aside.mk (And.intro hnn hpp)
  clear hnn hpp
  go_upto_region 27 with fail
  clear e3
  go_cut [140] (fun s140 wx => s140 = .bool (decide (mid < m)) ∧ W = wx)
  case first =>
    as_aux_lemma =>
      go_wp2
      go_meet
      exact ⟨rfl, rfl⟩
  case rest =>
  obtain ⟨rfl, rfl⟩ := hcut
  apply_assumption
  go_cut [20, 21] (fun s20 s21 wx => ∃ s r : Nat, s20 = .int .i64 (s : Int) ∧ s21 = .int .i64 (r : Int) ∧ PartAt rd w g off n c nb F a m b mid s r wx)
  case first =>
    as_aux_lemma =>
      by_cases h : mid < m
      · have hgt : (mid : Int) < (m : Int) := by omega
        have e4 : IntKind.i64.wrap ((nn : Int) - (b : Int)) = ((nn - b : Nat) : Int) := by have := HNN.out; have := HN.out; have := HAB.out; rw [IntKind.wrap_i64]; omega
        go_wp2
        go_meet
        have h1 := HNN.out; have h2 := HN.out; have h3 := HAB.out
        exact ⟨nn - b, mid, rfl, rfl, ⟨HS.out, by omega, by omega, by omega, by omega, Nat.le_refl _, fun p _ _ _ => by omega, fun p _ _ _ => by omega⟩⟩
      · have hgt : ¬ (mid : Int) < (m : Int) := by omega
        go_wp2
        go_meet
        have h1 := HNN.out; have h2 := HN.out; have h3 := HAB.out
        exact ⟨a, m, rfl, rfl, ⟨HS.out, Nat.le_refl _, by omega, Nat.le_refl _, by omega, by omega, fun p _ _ _ => by omega, fun p _ _ _ => by omega⟩⟩
  case rest =>
  obtain ⟨s0, r0, rfl, rfl, hP0⟩ := hcut
  have HP0 := Aside.mk hP0
  clear hP0
  apply_assumption
  go_upto_region 33 with fail
  clear e5
  go_loopw [20, 21, 23] (fun s20 s21 s23 wr => ∃ s r : Nat, s20 = .int .i64 (s : Int) ∧ s21 = .int .i64 (r : Int) ∧ Aside (PartAt rd w g off n c nb F a m b mid s r wr)) (fun s20 s21 _ _ => (intOf s21).toNat - (intOf s20).toNat)
  case atStart => exact ⟨s0, r0, rfl, rfl, HP0⟩
  case round =>
    obtain ⟨s, r, rfl, rfl, HI⟩ := hrel
    by_cases hlt : s < r
    · have hI := HI.out
      have hN := HN.out
      have hNN := HNN.out
      have hAB := HAB.out
      have hrm := hI.rm
      have hru := hI.ru
      have hsl := hI.sl
      have e2 : IntKind.i64.wrap ((s : Int) + (r : Int)) = ((s + r : Nat) : Int) := by rw [IntKind.wrap_i64]; omega
      have hsr : s + r ≤ 20000000000000 := by omega
      obtain ⟨h, hh⟩ : ∃ h, h = (s + r) / 2 := ⟨_, rfl⟩
      have eh : ((s : Int) + (r : Int)) / 2 = (h : Int) := by omega
      obtain ⟨ph, hph⟩ : ∃ ph, ph = pp - h := ⟨_, rfl⟩
      have e6 : IntKind.i64.wrap ((pp : Int) - (h : Int)) = (ph : Int) := by rw [IntKind.wrap_i64]; omega
      have hsh : s ≤ h := by omega
      have hhr : h < r := by omega
      have hpq : ph = mid + m - 1 - h := by omega
      have hpm : m ≤ ph := by omega
      have hpb : ph < b := by omega
      obtain ⟨c1, f1⟩ := hI.srt.at_ (show ph < n by omega)
      obtain ⟨c2, f2⟩ := hI.srt.at_ (show h < n by omega)
      have hcm := fun m' => hI.srt.cmp HC.out (show ph < n by omega) (show h < n by omega) m'
      rw [HRD.out, HRD.out] at hcm
      have q1 : (ph : Int) < (n : Int) := by omega
      have q2 : (h : Int) < (n : Int) := by omega
      have q3 : (0 : Int) ≤ (ph : Int) := by omega
      have q4 : (0 : Int) ≤ (h : Int) := by omega
      have q5 : h ≤ 10000000000000 := by omega
      by_cases hc : rd (F h) < rd (F ph)
      · as_aux_lemma =>
          have HQ : Aside (∀ q, PartAt rd w g off n c nb F a m b mid s h (wr.drewN q)) := ⟨fun q => ⟨hI.srt.drewN q, hI.lo, hsh, by omega, hI.sl, by omega, hI.dn, fun p h1 h2 h3 => by
            have k1 := srt_rd HM.out.left (show a ≤ h by have := hI.lo; omega) h1 h2
            have k2 := srt_rd HM.out.right (show m ≤ mid + m - 1 - p by omega) (show mid + m - 1 - p ≤ ph by omega) hpb
            omega⟩⟩
          have hneg := cmpN_neg.2 hc
          have HCM := Aside.mk hcm
          have HIH2 := Aside.mk (And.intro hsh hhr)
          generalize cmpN (rd (F h)) (rd (F ph)) = cv at *
          generalize ((F h : Nat) : Int) = x at *
          generalize ((F ph : Nat) : Int) = y at *
          clear hcm hI hN hNN hAB hrm hru hsl hc hh hph hpq hpm hpb hsh hhr
          go_upto_region 35 with fail
          go_quiet ((go_at_call 18; exact HCM.out _))
          go_wp2
          go_roundw
          case rel => exact ⟨s, h, rfl, rfl, ⟨HQ.out _⟩⟩
          case measure => simp [intOf]; have := HIH2.out; omega
      · as_aux_lemma =>
          have HQ : Aside (∀ q, PartAt rd w g off n c nb F a m b mid (h + 1) r (wr.drewN q)) := ⟨fun q => ⟨hI.srt.drewN q, by have := hI.lo; omega, by omega, by omega, by omega, by omega, fun p h1 h2 h3 => by
            have k1 := srt_rd HM.out.left h1 (show p ≤ h by omega) (by omega)
            have k2 := srt_rd HM.out.right hpm (show ph ≤ mid + m - 1 - p by omega) (by omega)
            omega, hI.up⟩⟩
          have hneg : ¬ cmpN (rd (F h)) (rd (F ph)) < 0 := fun e => hc (cmpN_neg.1 e)
          have HCM := Aside.mk hcm
          have HIH2 := Aside.mk (And.intro hsh hhr)
          generalize cmpN (rd (F h)) (rd (F ph)) = cv at *
          generalize ((F h : Nat) : Int) = x at *
          generalize ((F ph : Nat) : Int) = y at *
          clear hcm hI hN hNN hAB hrm hru hsl hc hh hph hpq hpm hpb hsh hhr
          go_upto_region 35 with fail
          go_quiet ((go_at_call 18; exact HCM.out _))
          go_wp2
          go_roundw
          case rel => exact ⟨h + 1, r, by go_num, rfl, ⟨HQ.out _⟩⟩
          case measure => simp [intOf]; have := HIH2.out; omega
    · obtain rfl : s = r := by have := HI.out.sr; omega
      have hI := HI.out
      have hN := HN.out
      have hNN := HNN.out
      have hparts := hI.parts HM.out hN.1
      obtain ⟨e, he⟩ : ∃ e, e = mid + m - s := ⟨_, rfl⟩
      rw [← he] at hparts
      have hturn := hparts.turned HM.out
      have e7 : IntKind.i64.wrap ((nn : Int) - (s : Int)) = (e : Int) := by have := hI.ru; have := HAB.out; rw [IntKind.wrap_i64]; omega
      have HTN := Aside.mk (And.intro hparts hturn)
      have HSR := Aside.mk hI.srt
      clear hI hN hNN hturn hparts he HI
      go_upto_region 39 with fail
      generalize hF1 : rotF F s m e = F1 at *
      have HF1 := Aside.mk hF1
      clear hF1 hlt
      go_cut [185] (fun s185 wx => s185 = .bool (decide (s < m) && decide (m < e)) ∧ wr = wx)
      case first =>
        as_aux_lemma =>
          by_cases h1 : s < m
          · have q1 : (s : Int) < (m : Int) := by omega
            go_wp2
            go_meet
            exact ⟨by simp [h1], rfl⟩
          · have q1 : ¬ (s : Int) < (m : Int) := by omega
            go_wp2
            go_meet
            exact ⟨by simp [h1], rfl⟩
      case rest =>
      obtain ⟨rfl, rfl⟩ := hcut
      apply_assumption
      go_cut [6] (fun s6 wx => s6 = undef ∧ SrtW w g off n c nb F1 wx)
      case first =>
        as_aux_lemma =>
          cases hT : (decide (s < m) && decide (m < e))
          · have hF : Aside (SrtW w g off n c nb F1 wr) := ⟨by
              have hp := HTN.out.1
              rw [← HF1.out, rotF_none F hp.sm hp.me (by
                by_cases h : s < m
                · have : decide (s < m) = true := by simpa using h
                  rw [this, Bool.true_and] at hT
                  have := of_decide_eq_false hT
                  have := hp.me
                  omega
                · have := hp.sm
                  omega)]
              exact HSR.out⟩
            clear hT
            go_wp2
            go_meet
            exact ⟨rfl, hF.out⟩
          · have hT2 := Bool.and_eq_true_iff.1 hT
            have h1 : s < m := of_decide_eq_true hT2.1
            have h2 : m < e := of_decide_eq_true hT2.2
            have hrot := rotate w wr g off n c nb F (cmpV bx) s m e HSR.out h1 h2 (by have := HTN.out.1.eb; have := HN.out; omega) HN.out.2.2.1 HN.out.2.2.2
            rw [HF1.out] at hrot
            have HRO := Aside.mk hrot
            clear hT hT2 h1 h2 hrot
            go_wp2_with (go_at_call 29; refine HRO.out.mono ?_; rintro e' w' ⟨rfl, HF⟩)
            go_meet
            exact ⟨rfl, HF⟩
      case rest =>
      obtain ⟨rfl, hS1⟩ := hcut
      have HS1 := Aside.mk hS1
      clear hS1
      apply_assumption
      have hH1 := half_in HTN.out.1.sas (show s ≤ mid by have := HTN.out.1.mid; omega) HTN.out.2.2.2.1 HTN.out.2.2.2.2.1 HTN.out.2.2.2.2.2.2.2.1
      have HH1 := Aside.mk hH1
      clear hH1 HS HP0 HSR
      go_upto_region 41 with fail
      go_cut [199] (fun s199 wx => s199 = .bool (decide (a < s) && decide (s < mid)) ∧ wc = wx)
      case first =>
        as_aux_lemma =>
          by_cases h1 : a < s
          · have q1 : (a : Int) < (s : Int) := by omega
            go_wp2
            go_meet
            exact ⟨by simp [h1], rfl⟩
          · have q1 : ¬ (a : Int) < (s : Int) := by omega
            go_wp2
            go_meet
            exact ⟨by simp [h1], rfl⟩
      case rest =>
      obtain ⟨rfl, rfl⟩ := hcut
      apply_assumption
      go_cut [6] (fun s6 wx => s6 = undef ∧ ∃ F2, SrtW w g off n c nb F2 wx ∧ MOut rd F1 a mid F2)
      case first =>
        as_aux_lemma =>
          cases hT : (decide (a < s) && decide (s < mid))
          · have hF := HH1.out.2 hT
            have HF := Aside.mk hF
            clear hT hF
            go_wp2
            go_meet
            exact ⟨rfl, _, HS1.out, HF.out⟩
          · have hme := HH1.out.1 hT
            have HRO := Aside.mk (HIH.out _ F1 a s mid (by have := HN.out; have := HAB.out; omega) HS1.out hme (by have := HN.out; have := HAB.out; omega))
            clear hT hme
            go_wp2_with (go_at_call 28; refine HRO.out.mono ?_; rintro e' w' ⟨rfl, G, HF, HG⟩)
            go_meet
            exact ⟨rfl, G, HF, HG⟩
      case rest =>
      obtain ⟨rfl, F2, hS2, hM2⟩ := hcut
      have hT := HTN.out
      have hH2 := half_in (F := F2) (show mid ≤ e by have := hT.1.mid; have := hT.1.sm; have := hT.1.me; omega) hT.1.eb (hT.2.2.2.2.2.1.of_out hM2.out (.inr (Nat.le_refl _))) (hT.2.2.2.2.2.2.1.of_out hM2.out (.inr (by have := hT.1.mid; have := hT.1.sm; have := hT.1.me; omega)))
        (fun i j h1 h2 h3 h4 => by
          rw [hM2.out i (by omega), hM2.out j (by omega)]
          exact hT.2.2.2.2.2.2.2.2.1 i j h1 h2 h3 h4)
      have HS2 := Aside.mk (And.intro hS2 hM2)
      have HH2 := Aside.mk hH2
      clear hS2 hM2 hT hH2 HH1 HS1
      apply_assumption
      go_upto_region 43 with fail
      go_cut [213] (fun s213 wx => s213 = .bool (decide (mid < e) && decide (e < b)) ∧ wc = wx)
      case first =>
        as_aux_lemma =>
          by_cases h1 : mid < e
          · have q1 : (mid : Int) < (e : Int) := by omega
            go_wp2
            go_meet
            exact ⟨by simp [h1], rfl⟩
          · have q1 : ¬ (mid : Int) < (e : Int) := by omega
            go_wp2
            go_meet
            exact ⟨by simp [h1], rfl⟩
      case rest =>
      obtain ⟨rfl, rfl⟩ := hcut
      apply_assumption
      have HFin : Aside (∀ F3, MOut rd F2 mid b F3 → MOut rd F a b F3) := ⟨fun F3 h3 => by
        have hT := HTN.out
        have h1 := HN.out
        have h2 := HAB.out
        exact halves (by omega) (by omega) hT.2.1 hT.2.2.1 hT.2.2.2.2.2.2.2.2.2 HS2.out.2 h3⟩
      cases hT : (decide (mid < e) && decide (e < b))
      · as_aux_lemma =>
          have HF := Aside.mk (HFin.out _ (HH2.out.2 hT))
          clear hT
          go_wp2
          go_end0
          exact ⟨rfl, _, HS2.out.1, HF.out⟩
      · as_aux_lemma =>
          have HRO := Aside.mk (HIH.out _ F2 mid e b (by have := HN.out; have := HAB.out; omega) HS2.out.1 (HH2.out.1 hT) HN.out.2.1)
          clear hT
          go_wp2_with (go_at_call 28; refine HRO.out.mono ?_; rintro e' w' ⟨rfl, G, HF, HG⟩)
          go_end0
          exact ⟨rfl, G, HF, HFin.out _ HG⟩
end Go.Proofs.Ytaganococolodaa
