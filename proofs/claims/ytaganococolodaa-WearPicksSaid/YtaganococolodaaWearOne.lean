/-
  A merge with one element on a side.
-/
import Derived.Test.YtaganococolodaaWearIns
namespace Go.Proofs.Ytaganococolodaa
open Go.RowKit

theorem mvUp_at (G : Nat → Nat) (a k : Nat) : mvUp G a k k = G a := by unfold mvUp; rw [if_pos rfl]
theorem mvUp_above (G : Nat → Nat) {a k p : Nat} (h : k < p) : mvUp G a k p = G p := by unfold mvUp; rw [if_neg (by omega), if_neg (by omega)]
theorem srt_rd {rd : Nat → Int} {F : Nat → Nat} {a b i j : Nat} (h : Srt rd F a b) (h1 : a ≤ i) (h2 : i ≤ j) (h3 : j < b) : rd (F j) ≤ rd (F i) := by
  rcases srt_le h h1 h2 h3 with e | e
  · rw [e]; exact Int.le_refl _
  · unfold Ahead at e; omega

/-- The search on the right side. -/
structure LeftAt (rd : Nat → Int) (w : World) (g off n c nb : Nat) (F : Nat → Nat) (a b i j : Nat) (W : World) : Prop where
  srt : SrtW w g off n c nb F W
  lo : a + 1 ≤ i
  ij : i ≤ j
  hi : j ≤ b
  dn : ∀ p, a < p → p < i → rd (F a) < rd (F p)
  up : ∀ p, j ≤ p → p < b → ¬ rd (F a) < rd (F p)
set_option maxRecDepth 100000 in
set_option maxHeartbeats 2000000 in
theorem merge_left (w W : World) (g off n c nb : Nat) (F : Nat → Nat) (bx cb : Nat) (A : Option Addr) (f : Nat → Blk) (a m b : Nat) (hC : Ctx w g bx A nb cb f) (hS : SrtW w g off n c nb F W) (hM : MIn (fun x => (f x).rd) F a m b) (h1 : m = a + 1) (hbn : b ≤ n) (hn : n ≤ 10000000000000) (hnc : n ≤ c) :
    Calls Try.prog 28 #[.slice (some ⟨g, off, none⟩) n c, .int .i64 (a : Nat), .int .i64 (m : Nat), .int .i64 (b : Nat), cmpV bx] W (MergedPost (fun x => (f x).rd) w g off n c nb F a b) := by
  generalize hrd : (fun x => (f x).rd) = rd at *
  have HRD : Aside (∀ x, (f x).rd = rd x) := ⟨fun x => by rw [← hrd]⟩
  have hmb := hM.mb
  have H0 : Aside (LeftAt rd w g off n c nb F a b m b W) := ⟨⟨hS, by omega, by omega, Nat.le_refl _, fun p _ _ => by omega, fun p _ _ => by omega⟩⟩
  have e1 : IntKind.i64.wrap ((m : Int) - (a : Int)) = 1 := by rw [IntKind.wrap_i64]; omega
  have HN := Aside.mk (And.intro h1 (And.intro hbn (And.intro hn hnc)))
  have HM := Aside.mk hM
  have HC := Aside.mk hC
  clear hrd hS hM h1 hbn hn hnc hC hmb
  go_enter Try.func28, Try.ntmps28
  go_wp2
  clear e1
  go_loopw [10, 11, 12] (fun s10 s11 s12 wr => ∃ i j : Nat, s10 = .int .i64 (i : Int) ∧ s11 = .int .i64 (j : Int) ∧ Aside (LeftAt rd w g off n c nb F a b i j wr)) (fun s10 s11 _ _ => (intOf s11).toNat - (intOf s10).toNat)
  case atStart => exact ⟨m, b, rfl, rfl, H0⟩
  case round =>
    obtain ⟨i, j, rfl, rfl, HI⟩ := hrel
    by_cases hlt : i < j
    · have hb12 : j ≤ 10000000000000 := by have := HI.out.hi; have := HN.out; omega
      have e2 : IntKind.i64.wrap ((i : Int) + (j : Int)) = ((i + j : Nat) : Int) := by rw [IntKind.wrap_i64]; omega
      go_upto_region 5 with fail
      obtain ⟨h, hh⟩ : ∃ h, h = (i + j) / 2 := ⟨_, rfl⟩
      have eh : ((i : Int) + (j : Int)) / 2 = (h : Int) := by omega
      rw [eh]
      have hih : i ≤ h := by omega
      have hhj : h < j := by omega
      clear eh e2 hh
      have hI := HI.out
      have hN := HN.out
      obtain ⟨c1, f1⟩ := hI.srt.at_ (show h < n by have := hI.hi; omega)
      obtain ⟨c2, f2⟩ := hI.srt.at_ (show a < n by have := hI.hi; have := hI.lo; omega)
      have hcm := fun m => hI.srt.cmp HC.out (show h < n by have := hI.hi; omega) (show a < n by have := hI.hi; have := hI.lo; omega) m
      rw [HRD.out, HRD.out] at hcm
      have q1 : (h : Int) < (n : Int) := by have := hI.hi; omega
      have q2 : (a : Int) < (n : Int) := by have := hI.hi; have := hI.lo; omega
      have q3 : (0 : Int) ≤ (h : Int) := by omega
      have q4 : (0 : Int) ≤ (a : Int) := by omega
      have q5 : h ≤ 10000000000000 := by omega
      by_cases hc : rd (F a) < rd (F h)
      · have HQ : Aside (∀ q, LeftAt rd w g off n c nb F a b (h + 1) j (wr.drewN q)) := ⟨fun q => ⟨hI.srt.drewN q, by have := hI.lo; omega, by omega, hI.hi, fun p h1 h2 => by
          by_cases hp : h ≤ p
          · obtain rfl : p = h := by omega
            exact hc
          · have := srt_rd HM.out.right (show m ≤ p by omega) (show p ≤ h by omega) (by have := hI.hi; omega)
            omega, hI.up⟩⟩
        have hneg := cmpN_neg.2 hc
        have HCM := Aside.mk hcm
        generalize cmpN (rd (F a)) (rd (F h)) = cv at *
        generalize ((F h : Nat) : Int) = x at *
        generalize ((F a : Nat) : Int) = y at *
        clear hcm hI hN hc hlt
        have HIH := Aside.mk (And.intro hih hhj)
        go_quiet ((go_at_call 18; exact HCM.out _))
        go_wp2
        go_roundw
        case rel => exact ⟨h + 1, j, by go_num, rfl, ⟨HQ.out _⟩⟩
        case measure => simp [intOf]; omega
      · have HQ : Aside (∀ q, LeftAt rd w g off n c nb F a b i h (wr.drewN q)) := ⟨fun q => ⟨hI.srt.drewN q, hI.lo, by omega, by have := hI.hi; omega, hI.dn, fun p h1 h2 => by
          have := srt_rd HM.out.right (show m ≤ h by have := hI.lo; omega) h1 h2
          omega⟩⟩
        have hneg : ¬ cmpN (rd (F a)) (rd (F h)) < 0 := fun e => hc (cmpN_neg.1 e)
        have HCM := Aside.mk hcm
        generalize cmpN (rd (F a)) (rd (F h)) = cv at *
        generalize ((F h : Nat) : Int) = x at *
        generalize ((F a : Nat) : Int) = y at *
        clear hcm hI hN hc hlt
        have HIH := Aside.mk (And.intro hih hhj)
        go_quiet ((go_at_call 18; exact HCM.out _))
        go_wp2
        go_roundw
        case rel => exact ⟨i, h, rfl, rfl, ⟨HQ.out _⟩⟩
        case measure => simp [intOf]; omega
    · have hI := HI.out
      have hN := HN.out
      obtain rfl : i = j := by have := hI.ij; omega
      have hai : a < i := by have := hI.lo; omega
      have hib : i ≤ b := hI.hi
      have H2 : Aside (SrtW w g off n c nb (mvUp F a a) wr) := ⟨by rw [mvUp_self]; exact hI.srt⟩
      have HFin : Aside (MOut rd F a b (mvUp F a (i - 1))) := ⟨by
        have hM := HM.out
        rw [hN.1] at hM
        have hb : i - 1 < b := by omega
        exact hM.one_left (by omega) hb (fun p h1 h2 => hI.dn p h1 (by omega)) (fun p h1 h2 => hI.up p (by omega) h2)⟩
      have hi12 : i ≤ 10000000000000 := by omega
      have hin : i ≤ n := by omega
      clear hI hN HI hib hlt
      go_wp2
      go_loopw [13] (fun s13 wr => ∃ k : Nat, s13 = .int .i64 (k : Int) ∧ a ≤ k ∧ k ≤ i - 1 ∧ Aside (SrtW w g off n c nb (mvUp F a k) wr)) (fun s13 _ => i - (intOf s13).toNat)
      case atStart => exact ⟨a, rfl, Nat.le_refl _, by omega, H2⟩
      case round =>
        obtain ⟨k, rfl, hak, hki, HK⟩ := hrel
        have e4 : IntKind.i64.wrap ((i : Int) - 1) = (i : Int) - 1 := by rw [IntKind.wrap_i64]; omega
        by_cases hlt : k < i - 1
        · have hgt : (k : Int) < (i : Int) - 1 := by omega
          obtain ⟨k1, hk1⟩ : ∃ k1, k1 = k + 1 := ⟨_, rfl⟩
          have hj := HK.out
          obtain ⟨c1, f1⟩ := hj.at_ (show k < n by omega)
          obtain ⟨c2, f2⟩ := hj.at_ (show k1 < n by omega)
          have hsw := fun q' => (hj.drewN q').swap (show k < n by omega) (show k1 < n by omega) (by omega)
          have e3 : IntKind.i64.wrap ((k : Int) + 1) = (k1 : Int) := by rw [IntKind.wrap_i64]; omega
          have q1 : (k : Int) < (n : Int) := by omega
          have q2 : (k1 : Int) < (n : Int) := by omega
          have q3 : (0 : Int) ≤ (k : Int) := by omega
          have q4 : (0 : Int) ≤ (k1 : Int) := by omega
          have q6 : k ≠ k1 := by omega
          have hE : swp (mvUp F a k) k k1 = mvUp F a k1 := by rw [hk1]; exact mvUp_swp F hak
          simp only [hE] at hsw
          have HSW := Aside.mk hsw
          have HKK := Aside.mk (And.intro hak (And.intro hlt hk1))
          generalize ((mvUp F a k k : Nat) : Int) = x at *
          generalize ((mvUp F a k k1 : Nat) : Int) = y at *
          clear hsw hj hE hak hki hlt hk1
          go_wp2
          go_region
          go_wp2
          go_roundw
          case rel => exact ⟨k1, rfl, by have := HKK.out; omega, by have := HKK.out; omega, ⟨HSW.out _⟩⟩
          case measure => simp [intOf]; have := HKK.out; omega
        · have hgt : ¬ (k : Int) < (i : Int) - 1 := by omega
          obtain rfl : k = i - 1 := by omega
          go_wp2
          go_end0
          exact ⟨rfl, _, HK.out, HFin.out⟩
/-- The search on the left side. -/
structure RightAt (rd : Nat → Int) (w : World) (g off n c nb : Nat) (F : Nat → Nat) (a m i j : Nat) (W : World) : Prop where
  srt : SrtW w g off n c nb F W
  lo : a ≤ i
  ij : i ≤ j
  hi : j ≤ m
  dn : ∀ p, a ≤ p → p < i → ¬ rd (F p) < rd (F m)
  up : ∀ p, j ≤ p → p < m → rd (F p) < rd (F m)
set_option maxRecDepth 100000 in
set_option maxHeartbeats 2000000 in
theorem merge_right (w W : World) (g off n c nb : Nat) (F : Nat → Nat) (bx cb : Nat) (A : Option Addr) (f : Nat → Blk) (a m b : Nat) (hC : Ctx w g bx A nb cb f) (hS : SrtW w g off n c nb F W) (hM : MIn (fun x => (f x).rd) F a m b) (h1 : b = m + 1) (h0 : m ≠ a + 1) (hbn : b ≤ n) (hn : n ≤ 10000000000000) (hnc : n ≤ c) :
    Calls Try.prog 28 #[.slice (some ⟨g, off, none⟩) n c, .int .i64 (a : Nat), .int .i64 (m : Nat), .int .i64 (b : Nat), cmpV bx] W (MergedPost (fun x => (f x).rd) w g off n c nb F a b) := by
  generalize hrd : (fun x => (f x).rd) = rd at *
  have HRD : Aside (∀ x, (f x).rd = rd x) := ⟨fun x => by rw [← hrd]⟩
  have ham := hM.am
  have H0 : Aside (RightAt rd w g off n c nb F a m a m W) := ⟨⟨hS, Nat.le_refl _, by omega, Nat.le_refl _, fun p _ _ => by omega, fun p _ _ => by omega⟩⟩
  have e1 : IntKind.i64.wrap ((b : Int) - (m : Int)) = 1 := by rw [IntKind.wrap_i64]; omega
  have e0 : IntKind.i64.wrap ((m : Int) - (a : Int)) = (m : Int) - (a : Int) := by rw [IntKind.wrap_i64]; omega
  have hne : ¬ (m : Int) - (a : Int) = 1 := by omega
  have HN := Aside.mk (And.intro h1 (And.intro hbn (And.intro hn hnc)))
  have HM := Aside.mk hM
  have HC := Aside.mk hC
  clear hrd hS hM h1 hbn hn hnc hC ham h0
  go_enter Try.func28, Try.ntmps28
  go_wp2
  clear e1
  go_loopw [14, 15, 16] (fun s14 s15 s16 wr => ∃ i j : Nat, s14 = .int .i64 (i : Int) ∧ s15 = .int .i64 (j : Int) ∧ Aside (RightAt rd w g off n c nb F a m i j wr)) (fun s14 s15 _ _ => (intOf s15).toNat - (intOf s14).toNat)
  case atStart => exact ⟨a, m, rfl, rfl, H0⟩
  case round =>
    obtain ⟨i, j, rfl, rfl, HI⟩ := hrel
    by_cases hlt : i < j
    · have hb12 : j ≤ 10000000000000 := by have := HI.out.hi; have := HN.out; omega
      have e2 : IntKind.i64.wrap ((i : Int) + (j : Int)) = ((i + j : Nat) : Int) := by rw [IntKind.wrap_i64]; omega
      go_upto_region 17 with fail
      obtain ⟨h, hh⟩ : ∃ h, h = (i + j) / 2 := ⟨_, rfl⟩
      have eh : ((i : Int) + (j : Int)) / 2 = (h : Int) := by omega
      rw [eh]
      have hih : i ≤ h := by omega
      have hhj : h < j := by omega
      clear eh e2 hh
      have hI := HI.out
      have hN := HN.out
      obtain ⟨c1, f1⟩ := hI.srt.at_ (show m < n by omega)
      obtain ⟨c2, f2⟩ := hI.srt.at_ (show h < n by have := hI.hi; omega)
      have hcm := fun m' => hI.srt.cmp HC.out (show m < n by omega) (show h < n by have := hI.hi; omega) m'
      rw [HRD.out, HRD.out] at hcm
      have q1 : (h : Int) < (n : Int) := by have := hI.hi; omega
      have q2 : (m : Int) < (n : Int) := by omega
      have q3 : (0 : Int) ≤ (h : Int) := by omega
      have q4 : (0 : Int) ≤ (m : Int) := by omega
      have q5 : h ≤ 10000000000000 := by omega
      by_cases hc : rd (F h) < rd (F m)
      · have HQ : Aside (∀ q, RightAt rd w g off n c nb F a m i h (wr.drewN q)) := ⟨fun q => ⟨hI.srt.drewN q, hI.lo, by omega, by have := hI.hi; omega, hI.dn, fun p h1 h2 => by
          have := srt_rd HM.out.left (show a ≤ h by have := hI.lo; omega) h1 h2
          omega⟩⟩
        have hneg := cmpN_neg.2 hc
        have HCM := Aside.mk hcm
        generalize cmpN (rd (F h)) (rd (F m)) = cv at *
        generalize ((F h : Nat) : Int) = x at *
        generalize ((F m : Nat) : Int) = y at *
        clear hcm hI hN hc hlt
        have HIH := Aside.mk (And.intro hih hhj)
        go_quiet ((go_at_call 18; exact HCM.out _))
        go_wp2
        go_roundw
        case rel => exact ⟨i, h, rfl, rfl, ⟨HQ.out _⟩⟩
        case measure => simp [intOf]; omega
      · have HQ : Aside (∀ q, RightAt rd w g off n c nb F a m (h + 1) j (wr.drewN q)) := ⟨fun q => ⟨hI.srt.drewN q, by have := hI.lo; omega, by omega, hI.hi, fun p h1 h2 => by
          by_cases hp : h ≤ p
          · obtain rfl : p = h := by omega
            exact hc
          · have := srt_rd HM.out.left h1 (show p ≤ h by omega) (by have := hI.hi; omega)
            omega, hI.up⟩⟩
        have hneg : ¬ cmpN (rd (F h)) (rd (F m)) < 0 := fun e => hc (cmpN_neg.1 e)
        have HCM := Aside.mk hcm
        generalize cmpN (rd (F h)) (rd (F m)) = cv at *
        generalize ((F h : Nat) : Int) = x at *
        generalize ((F m : Nat) : Int) = y at *
        clear hcm hI hN hc hlt
        have HIH := Aside.mk (And.intro hih hhj)
        go_quiet ((go_at_call 18; exact HCM.out _))
        go_wp2
        go_roundw
        case rel => exact ⟨h + 1, j, by go_num, rfl, ⟨HQ.out _⟩⟩
        case measure => simp [intOf]; omega
    · have hI := HI.out
      have hN := HN.out
      obtain rfl : i = j := by have := hI.ij; omega
      have hai : a ≤ i := hI.lo
      have him : i ≤ m := hI.hi
      have H2 : Aside (SrtW w g off n c nb (mv F m m) wr) := ⟨by rw [mv_self]; exact hI.srt⟩
      have HFin : Aside (MOut rd F a b (mv F m i)) := ⟨by
        have hM := HM.out
        rw [hN.1] at hM ⊢
        exact hM.one_right hai him hI.dn hI.up⟩
      have hi12 : m ≤ 10000000000000 := by omega
      have hin : m < n := by omega
      clear hI hN HI hlt
      go_wp2
      go_loopw [17] (fun s17 wr => ∃ k : Nat, s17 = .int .i64 (k : Int) ∧ i ≤ k ∧ k ≤ m ∧ Aside (SrtW w g off n c nb (mv F m k) wr)) (fun s17 _ => (intOf s17).toNat)
      case atStart => exact ⟨m, rfl, by omega, Nat.le_refl _, H2⟩
      case round =>
        obtain ⟨k, rfl, hik, hkm, HK⟩ := hrel
        by_cases hlt : i < k
        · have hgt : (i : Int) < (k : Int) := by omega
          obtain ⟨k1, hk1⟩ : ∃ k1, k = k1 + 1 := ⟨k - 1, by omega⟩
          have hj := HK.out
          obtain ⟨c1, f1⟩ := hj.at_ (show k < n by omega)
          obtain ⟨c2, f2⟩ := hj.at_ (show k1 < n by omega)
          have hsw := fun q' => (hj.drewN q').swap (show k < n by omega) (show k1 < n by omega) (by omega)
          have e3 : IntKind.i64.wrap ((k : Int) - 1) = (k1 : Int) := by rw [IntKind.wrap_i64]; omega
          have q1 : (k : Int) < (n : Int) := by omega
          have q2 : (k1 : Int) < (n : Int) := by omega
          have q3 : (0 : Int) ≤ (k : Int) := by omega
          have q4 : (0 : Int) ≤ (k1 : Int) := by omega
          have q6 : k ≠ k1 := by omega
          have hE : swp (mv F m k) k k1 = mv F m k1 := by rw [hk1]; exact mv_swp F (by omega)
          simp only [hE] at hsw
          have HSW := Aside.mk hsw
          have HKK := Aside.mk (And.intro hkm (And.intro hlt hk1))
          generalize ((mv F m k k : Nat) : Int) = x at *
          generalize ((mv F m k k1 : Nat) : Int) = y at *
          clear hsw hj hE hik hkm hlt hk1
          go_wp2
          go_region
          go_wp2
          go_roundw
          case rel => exact ⟨k1, rfl, by have := HKK.out; omega, by have := HKK.out; omega, ⟨HSW.out _⟩⟩
          case measure => simp [intOf]; have := HKK.out; omega
        · have hgt : ¬ (i : Int) < (k : Int) := by omega
          obtain rfl : k = i := by omega
          go_wp2
          go_end0
          exact ⟨rfl, _, HK.out, HFin.out⟩
end Go.Proofs.Ytaganococolodaa
