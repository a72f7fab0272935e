/-
  The stable sort.
-/
import Derived.Test.YtaganococolodaaWearSym
namespace Go.Proofs.Ytaganococolodaa
open Go.RowKit

theorem sym_merge (w : World) (g off n c nb : Nat) (bx cb : Nat) (A : Option Addr) (f : Nat → Blk) (hC : Ctx w g bx A nb cb f) (hn : n ≤ 10000000000000) (hnc : n ≤ c) : ∀ (N : Nat) (W : World) (F : Nat → Nat) (a m b : Nat), b - a ≤ N → SrtW w g off n c nb F W → MIn (fun x => (f x).rd) F a m b → b ≤ n →
    Calls Try.prog 28 #[.slice (some ⟨g, off, none⟩) n c, .int .i64 (a : Nat), .int .i64 (m : Nat), .int .i64 (b : Nat), cmpV bx] W (MergedPost (fun x => (f x).rd) w g off n c nb F a b) := by
  intro N
  induction N with
  | zero => intro W F a m b hN hS hM hb; exfalso; have := hM.am; have := hM.mb; omega
  | succ N ih =>
    intro W F a m b hN hS hM hb
    by_cases h1 : m = a + 1
    · exact merge_left w W g off n c nb F bx cb A f a m b hC hS hM h1 hb hn hnc
    · by_cases h2 : b = m + 1
      · exact merge_right w W g off n c nb F bx cb A f a m b hC hS hM h2 h1 hb hn hnc
      · exact merge_main w W g off n c nb F bx cb A f a m b hC hS hM h1 h2 hb hn hnc fun W' F' a' m' b' hlt hS' hM' hb' => ih W' F' a' m' b' (by omega) hS' hM' hb'

/-- Sorted by blocks. -/
def Chunks (rd : Nat → Int) (F : Nat → Nat) (n bs : Nat) (G : Nat → Nat) : Prop := ∀ s, bs ∣ s → s < n → Good rd F G s (min (s + bs) n)
/-- The first blocks sorted, the others as they were. -/
structure First (rd : Nat → Int) (F : Nat → Nat) (n a : Nat) (G : Nat → Nat) : Prop where
  div : 20 ∣ a
  le : a ≤ n
  done : ∀ s, 20 ∣ s → s < a → Good rd F G s (s + 20)
  rest : Out 0 a F G
variable {rd : Nat → Int} {F G H : Nat → Nat} {n a bs : Nat}
theorem dvd_next {k a s : Nat} (ha : k ∣ a) (hs : k ∣ s) (h : s < a) : s + k ≤ a := by
  obtain ⟨x, rfl⟩ := ha
  obtain ⟨y, rfl⟩ := hs
  have h1 : y < x := Nat.lt_of_mul_lt_mul_left h
  calc k * y + k = k * (y + 1) := by rw [Nat.mul_add, Nat.mul_one]
    _ ≤ k * x := Nat.mul_le_mul_left k h1
theorem First.start (hF : 0 ≤ n) : First rd F n 0 F := ⟨Nat.dvd_zero _, hF, fun s _ h => by omega, Out.refl _ _ _⟩
theorem First.next (h : First rd F n a G) (hb : a + 20 ≤ n) (hM : MOut rd G a (a + 20) H) : First rd F n (a + 20) H := by
  refine ⟨Nat.dvd_add h.div (Nat.dvd_refl _), hb, fun s h1 h2 => ?_, (h.rest.mono (Nat.le_refl _) (by omega)).trans (hM.out.mono (Nat.zero_le _) (Nat.le_refl _))⟩
  by_cases hs : s < a
  · have := dvd_next h.div h1 hs
    exact (h.done s h1 hs).of_out hM.out (.inl this)
  · obtain rfl : s = a := by
      rcases Nat.lt_or_ge a s with h' | h'
      · have := dvd_next h1 h.div h'; omega
      · omega
    exact ⟨hM.srt, Same.trans (Same.of_out h.rest (.inr (Nat.le_refl _))) hM.same⟩
theorem First.last (h : First rd F n a G) (hb : n < a + 20) (hM : MOut rd G a n H) : Chunks rd F n 20 H := by
  intro s h1 h2
  by_cases hs : s < a
  · have h3 := dvd_next h.div h1 hs
    rw [Nat.min_eq_left (by have := h.le; omega)]
    exact (h.done s h1 hs).of_out hM.out (.inl h3)
  · obtain rfl : s = a := by
      rcases Nat.lt_or_ge a s with h' | h'
      · have := dvd_next h1 h.div h'; omega
      · omega
    rw [Nat.min_eq_right (by omega)]
    exact ⟨hM.srt, Same.trans (Same.of_out h.rest (.inr (Nat.le_refl _))) hM.same⟩
/-- The first pairs of blocks merged. -/
structure Pairs (rd : Nat → Int) (F : Nat → Nat) (n bs a : Nat) (G : Nat → Nat) : Prop where
  div : 2 * bs ∣ a
  le : a ≤ n
  done : ∀ s, 2 * bs ∣ s → s < a → Good rd F G s (s + 2 * bs)
  rest : ∀ s, bs ∣ s → a ≤ s → s < n → Good rd F G s (min (s + bs) n)
theorem Pairs.start (h : Chunks rd F n bs G) : Pairs rd F n bs 0 G := ⟨Nat.dvd_zero _, Nat.zero_le _, fun s _ h => by omega, fun s h1 _ h2 => h s h1 h2⟩
theorem Pairs.dv (h : Pairs rd F n bs a G) : bs ∣ a := Nat.dvd_trans (Nat.dvd_mul_left bs 2) h.div
theorem Pairs.min1 (h : Pairs rd F n bs a G) (hF : ∀ i j, i < j → j < n → F i < F j) (h0 : 0 < bs) (hb : a + 2 * bs ≤ n) : MIn rd G a (a + bs) (a + 2 * bs) := by
  have g1 := h.rest a h.dv (Nat.le_refl _) (by omega)
  have g2 := h.rest (a + bs) (Nat.dvd_add h.dv (Nat.dvd_refl _)) (by omega) (by omega)
  rw [Nat.min_eq_left (by omega)] at g1 g2
  rw [show a + bs + bs = a + 2 * bs by omega] at g2
  exact Good.merge hF (by omega) (by omega) hb g1 g2
theorem Pairs.next (h : Pairs rd F n bs a G) (_h0 : 0 < bs) (hb : a + 2 * bs ≤ n) (hM : MOut rd G a (a + 2 * bs) H) : Pairs rd F n bs (a + 2 * bs) H := by
  have g1 := h.rest a h.dv (Nat.le_refl _) (by omega)
  have g2 := h.rest (a + bs) (Nat.dvd_add h.dv (Nat.dvd_refl _)) (by omega) (by omega)
  rw [Nat.min_eq_left (by omega)] at g1 g2
  rw [show a + bs + bs = a + 2 * bs by omega] at g2
  refine ⟨Nat.dvd_add h.div (Nat.dvd_refl _), hb, fun s h1 h2 => ?_, fun s h1 h2 h3 => (h.rest s h1 (by omega) h3).of_out hM.out (.inr h2)⟩
  by_cases hs : s < a
  · have := dvd_next h.div h1 hs
    exact (h.done s h1 hs).of_out hM.out (.inl this)
  · obtain rfl : s = a := by
      rcases Nat.lt_or_ge a s with h' | h'
      · have := dvd_next h1 h.div h'; omega
      · omega
    exact Good.merged (by omega) (by omega) g1 g2 hM
theorem Pairs.min2 (h : Pairs rd F n bs a G) (hF : ∀ i j, i < j → j < n → F i < F j) (_h0 : 0 < bs) (hm : a + bs < n) (hb : n < a + 2 * bs) : MIn rd G a (a + bs) n := by
  have g1 := h.rest a h.dv (Nat.le_refl _) (by omega)
  have g2 := h.rest (a + bs) (Nat.dvd_add h.dv (Nat.dvd_refl _)) (by omega) hm
  rw [Nat.min_eq_left (by omega)] at g1
  rw [Nat.min_eq_right (by omega)] at g2
  exact Good.merge hF (by omega) hm (Nat.le_refl _) g1 g2
theorem Pairs.last (h : Pairs rd F n bs a G) (hb : n < a + 2 * bs) (hM : a < n → Good rd F H a n) (ho : Out a n G H) : Chunks rd F n (2 * bs) H := by
  intro s h1 h2
  by_cases hs : s < a
  · have h3 := dvd_next h.div h1 hs
    rw [Nat.min_eq_left (by have := h.le; omega)]
    exact (h.done s h1 hs).of_out ho (.inl h3)
  · obtain rfl : s = a := by
      rcases Nat.lt_or_ge a s with h' | h'
      · have := dvd_next h1 h.div h'; omega
      · omega
    rw [Nat.min_eq_right (by omega)]
    exact hM h2
theorem Pairs.good (h : Pairs rd F n bs a G) (_h0 : 0 < bs) (hm : a + bs < n) (hb : n < a + 2 * bs) (hM : MOut rd G a n H) : Good rd F H a n := by
  have g1 := h.rest a h.dv (Nat.le_refl _) (by omega)
  have g2 := h.rest (a + bs) (Nat.dvd_add h.dv (Nat.dvd_refl _)) (by omega) hm
  rw [Nat.min_eq_left (by omega)] at g1
  rw [Nat.min_eq_right (by omega)] at g2
  exact Good.merged (by omega) (by omega) g1 g2 hM
theorem Pairs.alone (h : Pairs rd F n bs a G) (hm : n ≤ a + bs) (han : a < n) : Good rd F G a n := by
  have g1 := h.rest a h.dv (Nat.le_refl _) han
  rwa [Nat.min_eq_right hm] at g1
theorem Chunks.whole (h : Chunks rd F n bs G) (hb : n ≤ bs) : Srt rd G 0 n ∧ Same 0 n F G := by
  by_cases h0 : 0 < n
  · have g := h 0 (Nat.dvd_zero _) h0
    rw [Nat.zero_add, Nat.min_eq_right hb] at g
    exact ⟨g.srt, g.same⟩
  · exact ⟨fun i j _ _ _ => by omega, fun i _ _ => by omega, fun i _ _ => by omega⟩
def SortedPost (rd : Nat → Int) (w : World) (g off n c nb : Nat) (F : Nat → Nat) (e : Ending) (w' : World) : Prop := e = .returned (.tuple #[]) ∧ ∃ G, SrtW w g off n c nb G w' ∧ Srt rd G 0 n ∧ Same 0 n F G
set_option maxRecDepth 100000 in
set_option maxHeartbeats 2000000 in
theorem stable (w W : World) (g off n c nb : Nat) (F : Nat → Nat) (bx cb : Nat) (A : Option Addr) (f : Nat → Blk) (hC : Ctx w g bx A nb cb f) (hS : SrtW w g off n c nb F W) (hF : ∀ i j, i < j → j < n → F i < F j) (hn : n ≤ 10000000000000) (hnc : n ≤ c) :
    Calls Try.prog 24 #[.slice (some ⟨g, off, none⟩) n c, .int .i64 (n : Nat), cmpV bx] W (SortedPost (fun x => (f x).rd) w g off n c nb F) := by
  have HI : Aside (∀ (W : World) (G : Nat → Nat) (a b : Nat), SrtW w g off n c nb G W → (∀ p q, a ≤ p → p < q → q < b → G p < G q) → a ≤ b → b ≤ n → Calls Try.prog 27 #[.slice (some ⟨g, off, none⟩) n c, .int .i64 (a : Nat), .int .i64 (b : Nat), cmpV bx] W (MergedPost (fun x => (f x).rd) w g off n c nb G a b)) := ⟨fun W G a b h1 h2 h3 h4 => insertion w W g off n c nb G bx cb A f a b hC h1 h2 h3 h4 hn hnc⟩
  have HM : Aside (∀ (W : World) (G : Nat → Nat) (a m b : Nat), SrtW w g off n c nb G W → MIn (fun x => (f x).rd) G a m b → b ≤ n → Calls Try.prog 28 #[.slice (some ⟨g, off, none⟩) n c, .int .i64 (a : Nat), .int .i64 (m : Nat), .int .i64 (b : Nat), cmpV bx] W (MergedPost (fun x => (f x).rd) w g off n c nb G a b)) := ⟨fun W G a m b h1 h2 h3 => sym_merge w g off n c nb bx cb A f hC hn hnc (b - a) W G a m b (Nat.le_refl _) h1 h2 h3⟩
  generalize hrd : (fun x => (f x).rd) = rd at *
  have HF := Aside.mk hF
  have HS := Aside.mk hS
  have hfst := First.start (rd := rd) (F := F) (Nat.zero_le n)
  have H0 := Aside.mk hfst
  clear hrd hF hS hnc hC hfst
  go_enter Try.func24, Try.ntmps24
  go_wp2
  go_loopw [7, 8] (fun s7 s8 wr => ∃ (a : Nat) (G : Nat → Nat), s7 = .int .i64 (a : Int) ∧ s8 = .int .i64 ((a + 20 : Nat) : Int) ∧ a ≤ n ∧ Aside (SrtW w g off n c nb G wr ∧ First rd F n a G)) (fun s7 _ _ => n - (intOf s7).toNat)
  case atStart => exact ⟨0, F, rfl, rfl, Nat.zero_le _, ⟨HS.out, H0.out⟩⟩
  case round =>
    obtain ⟨a, G, rfl, rfl, han, HG⟩ := hrel
    by_cases hlt : a + 20 ≤ n
    · have hrise : ∀ p q, a ≤ p → p < q → q < a + 20 → G p < G q := fun p q h1 h2 h3 => by
        rw [HG.out.2.rest p (.inr h1), HG.out.2.rest q (.inr (by omega))]; exact HF.out p q h2 (by omega)
      have HRO := Aside.mk (HI.out _ G a (a + 20) HG.out.1 hrise (by omega) hlt)
      have HNX : Aside (∀ H, MOut rd G a (a + 20) H → First rd F n (a + 20) H) := ⟨fun H h => HG.out.2.next hlt h⟩
      clear hrise
      obtain ⟨b, hb⟩ : ∃ b, b = a + 20 := ⟨_, rfl⟩
      rw [← hb] at HRO HNX hlt ⊢
      have hle : (b : Int) ≤ (n : Int) := by omega
      have e1 : IntKind.i64.wrap ((b : Int) + 20) = ((b + 20 : Nat) : Int) := by rw [IntKind.wrap_i64]; omega
      have HBA := Aside.mk (And.intro hb hlt)
      clear hb
      go_wp2_with (go_at_call 27; refine HRO.out.mono ?_; rintro e' w' ⟨rfl, G', HF', HG'⟩)
      go_roundw
      case rel => exact ⟨b, G', rfl, by go_num, HBA.out.2, ⟨HF', HNX.out _ HG'⟩⟩
      case measure => simp [intOf]; have := HBA.out; omega
    · have hrise : ∀ p q, a ≤ p → p < q → q < n → G p < G q := fun p q h1 h2 h3 => by
        rw [HG.out.2.rest p (.inr h1), HG.out.2.rest q (.inr (by omega))]; exact HF.out p q h2 (by omega)
      have HRO := Aside.mk (HI.out _ G a n HG.out.1 hrise han (Nat.le_refl _))
      have HNX : Aside (∀ H, MOut rd G a n H → Chunks rd F n 20 H) := ⟨fun H h => HG.out.2.last (by omega) h⟩
      have hle : ¬ ((a + 20 : Nat) : Int) ≤ (n : Int) := by omega
      clear hrise
      go_upto_region 7 with (go_at_call 27; refine HRO.out.mono ?_; rintro e' w' ⟨rfl, G', HF', HG'⟩)
      have HCH := Aside.mk (And.intro HF' (HNX.out _ HG'))
      clear HF' HG' hle hlt
      go_loopw [6, 7, 8, 9] (fun s6 _ _ _ wr => ∃ (bs : Nat) (G : Nat → Nat), s6 = .int .i64 (bs : Int) ∧ 20 ≤ bs ∧ bs ≤ 20000000000000 ∧ Aside (SrtW w g off n c nb G wr ∧ Chunks rd F n bs G)) (fun s6 _ _ _ _ => n - (intOf s6).toNat)
      case atStart => exact ⟨20, G', rfl, Nat.le_refl _, by omega, HCH⟩
      case round =>
        clear HCH HG HRO HNX
        obtain ⟨bs, G, rfl, hb1, hb2, HG⟩ := hrel
        by_cases hbn : bs < n
        · obtain ⟨d, hd⟩ : ∃ d, d = 2 * bs := ⟨_, rfl⟩
          have e1 : IntKind.i64.wrap (2 * (bs : Int)) = (d : Int) := by rw [IntKind.wrap_i64]; omega
          have HP0 : Aside (SrtW w g off n c nb G wr ∧ Pairs rd F n bs 0 G) := ⟨HG.out.1, Pairs.start HG.out.2⟩
          have HD := Aside.mk (And.intro hd (And.intro hb1 hbn))
          clear hd
          go_upto_region 9 with fail
          go_loopw [7, 8] (fun s7 s8 wr => ∃ (a b : Nat) (G : Nat → Nat), s7 = .int .i64 (a : Int) ∧ s8 = .int .i64 (b : Int) ∧ Aside (b = a + d ∧ SrtW w g off n c nb G wr ∧ Pairs rd F n bs a G)) (fun s7 _ _ => n - (intOf s7).toNat)
          case atStart => exact ⟨0, d, G, rfl, rfl, ⟨(Nat.zero_add _).symm, HP0.out.1, HP0.out.2⟩⟩
          case round =>
            clear HG HP0
            obtain ⟨a, b, G, rfl, rfl, HG⟩ := hrel
            have han := HG.out.2.2.le
            have hba := HG.out.1
            have hd := HD.out
            obtain ⟨m, hm⟩ : ∃ m, m = a + bs := ⟨_, rfl⟩
            have e3 : IntKind.i64.wrap ((a : Int) + (bs : Int)) = (m : Int) := by rw [IntKind.wrap_i64]; omega
            by_cases hlt : b ≤ n
            · have hmin := HG.out.2.2.min1 HF.out (by omega) (by omega)
              rw [show a + 2 * bs = b by omega, ← hm] at hmin
              have HRO := Aside.mk (HM.out _ G a m b HG.out.2.1 hmin hlt)
              have HNX : Aside (∀ H, MOut rd G a b H → Pairs rd F n bs b H) := ⟨fun H h => by
                have := HG.out.2.2.next (by omega) (show a + 2 * bs ≤ n by omega) (H := H) (by rw [show a + 2 * bs = b by omega]; exact h)
                rwa [show a + 2 * bs = b by omega] at this⟩
              have e4 : IntKind.i64.wrap ((b : Int) + (d : Int)) = ((b + d : Nat) : Int) := by rw [IntKind.wrap_i64]; omega
              have HMS := Aside.mk (show n - b < n - a by omega)
              clear hm hmin hba hd han
              go_wp2_with (go_at_call 28; refine HRO.out.mono ?_; rintro e' w' ⟨rfl, G', HF', HG'⟩)
              go_roundw
              case rel => exact ⟨b, b + d, G', rfl, by go_num, ⟨rfl, HF', HNX.out _ HG'⟩⟩
              case measure => simp [intOf]; exact HMS.out
            · have hP := HG.out.2.2
              have e5 : IntKind.i64.wrap ((bs : Int) * 2) = (d : Int) := by rw [IntKind.wrap_i64]; omega
              by_cases hmn : m < n
              · have hmin := hP.min2 HF.out (by omega) (show a + bs < n by omega) (show n < a + 2 * bs by omega)
                rw [← hm] at hmin
                have HRO := Aside.mk (HM.out _ G a m n HG.out.2.1 hmin (Nat.le_refl _))
                have HNX : Aside (∀ H, MOut rd G a n H → Chunks rd F n d H) := ⟨fun H h => by
                  rw [hd.1]
                  exact hP.last (by omega) (fun _ => hP.good (by omega) (by omega) (by omega) h) h.out⟩
                have HMS := Aside.mk (show 20 ≤ d ∧ d ≤ 20000000000000 ∧ n - d < n - bs by omega)
                clear hm hmin hba hd han hP
                go_wp2_with (go_at_call 28; refine HRO.out.mono ?_; rintro e' w' ⟨rfl, G', HF', HG'⟩)
                go_roundw
                case rel => exact ⟨d, G', rfl, HMS.out.1, HMS.out.2.1, ⟨HF', HNX.out _ HG'⟩⟩
                case measure => simp [intOf]; exact HMS.out.2.2
              · have HNX : Aside (Chunks rd F n d G) := ⟨by
                  rw [hd.1]
                  exact hP.last (by omega) (fun h => hP.alone (by omega) h) (Out.refl _ _ _)⟩
                have HMS := Aside.mk (show 20 ≤ d ∧ d ≤ 20000000000000 ∧ n - d < n - bs by omega)
                clear hm hba hd han hP
                go_wp2
                go_roundw
                case rel => exact ⟨d, G, rfl, HMS.out.1, HMS.out.2.1, ⟨HG.out.2.1, HNX.out⟩⟩
                case measure => simp [intOf]; exact HMS.out.2.2
        · go_wp2
          go_end0
          exact ⟨rfl, G, HG.out.1, HG.out.2.whole (by omega)⟩
set_option maxRecDepth 100000 in
theorem stable_sort (w W : World) (g off n c nb : Nat) (F : Nat → Nat) (bx cb : Nat) (A : Option Addr) (f : Nat → Blk) (hC : Ctx w g bx A nb cb f) (hS : SrtW w g off n c nb F W) (hF : ∀ i j, i < j → j < n → F i < F j) (hn : n ≤ 10000000000000) (hnc : n ≤ c) :
    Calls Try.prog 17 #[.slice (some ⟨g, off, none⟩) n c, cmpV bx] W (SortedPost (fun x => (f x).rd) w g off n c nb F) := by
  have HRO := Aside.mk (stable w W g off n c nb F bx cb A f hC hS hF hn hnc)
  clear hF hS hC hn hnc
  go_enter Try.func17, Try.ntmps17
  go_wp2_with (go_at_call 24; refine HRO.out.mono ?_; rintro e' w' ⟨rfl, HG'⟩)
  go_end0
  exact ⟨rfl, HG'⟩
/-- No element at all. -/
theorem insertion_none (v cv : Value) (w : World) : Calls Try.prog 27 #[v, .int .i64 0, .int .i64 0, cv] w fun e w' => e = .returned (.tuple #[]) ∧ w' = w := by
  go_enter Try.func27, Try.ntmps27
  go_wp2
  go_loopw [8] (fun s8 wr => s8 = .int .i64 1 ∧ wr = w) (fun _ _ => 0)
  case atStart => exact ⟨rfl, rfl⟩
  case round =>
    obtain ⟨rfl, rfl⟩ := hrel
    go_wp2
    go_end0
    exact ⟨rfl, rfl⟩
theorem stable_sort_none (cv : Value) (w : World) : Calls Try.prog 17 #[.slice none 0 0, cv] w fun e w' => e = .returned (.tuple #[]) ∧ w' = w := by
  have HS : Aside (Calls Try.prog 24 #[.slice none 0 0, .int .i64 0, cv] w fun e w' => e = .returned (.tuple #[]) ∧ w' = w) := ⟨by
    go_enter Try.func24, Try.ntmps24
    go_wp2
    go_loopw [7, 8] (fun s7 s8 wr => s7 = .int .i64 0 ∧ s8 = .int .i64 20 ∧ wr = w) (fun _ _ _ => 0)
    case atStart => exact ⟨rfl, rfl, rfl⟩
    case round =>
      obtain ⟨rfl, rfl, rfl⟩ := hrel
      go_wp2_with (go_at_call 27; refine (insertion_none _ _ _).mono ?_; rintro e' w' ⟨rfl, rfl⟩)
      go_loopw [6] (fun s6 wr => s6 = .int .i64 20 ∧ wr = w') (fun _ _ => 0)
      case atStart => exact ⟨rfl, rfl⟩
      case round =>
        obtain ⟨rfl, rfl⟩ := hrel
        go_wp2
        go_end0
        exact ⟨rfl, rfl⟩⟩
  go_enter Try.func17, Try.ntmps17
  go_wp2_with (go_at_call 24; refine HS.out.mono ?_; rintro e' w' ⟨rfl, rfl⟩)
  go_end0
  exact ⟨rfl, rfl⟩
end Go.Proofs.Ytaganococolodaa
