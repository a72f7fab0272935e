/-
  Parts of a list exchanged and turned round.
-/
import Derived.Test.YtaganococolodaaWearCmp
namespace Go.Proofs.Ytaganococolodaa
open Go.RowKit

def SortPost (w : World) (g off n c nb : Nat) (G : Nat → Nat) (e : Ending) (w' : World) : Prop := e = .returned (.tuple #[]) ∧ SrtW w g off n c nb G w'
set_option maxRecDepth 100000 in
set_option maxHeartbeats 1000000 in
theorem swap_range (w W : World) (g off n c nb : Nat) (F : Nat → Nat) (cv : Value) (a b k : Nat) (hS : SrtW w g off n c nb F W) (hab : a + k ≤ b) (hbn : b + k ≤ n) (hn : n ≤ 10000000000000) (hnc : n ≤ c) :
    Calls Try.prog 30 #[.slice (some ⟨g, off, none⟩) n c, .int .i64 (a : Nat), .int .i64 (b : Nat), .int .i64 (k : Nat), cv] W (SortPost w g off n c nb (swapR F a b k)) := by
  have HS := Aside.mk hS
  have HN := Aside.mk (And.intro hab (And.intro hbn (And.intro hn hnc)))
  clear hS hab hbn hn hnc
  go_enter Try.func30, Try.ntmps30
  go_wp2
  go_loopw [10] (fun s10 wr => ∃ i : Nat, s10 = .int .i64 (i : Int) ∧ i ≤ k ∧ Aside (SrtW w g off n c nb (swapR F a b i) wr)) (fun s10 _ => k - (intOf s10).toNat)
  case atStart => exact ⟨0, rfl, Nat.zero_le _, HS⟩
  case round =>
    obtain ⟨i, rfl, hik, HI⟩ := hrel
    by_cases hlt : i < k
    · have hN := HN.out
      have h1 := HI.out.at_ (show a + i < n by omega)
      have h2 := HI.out.at_ (show b + i < n by omega)
      have HSW := Aside.mk (HI.out.swap (show a + i < n by omega) (show b + i < n by omega) (by omega))
      obtain ⟨c1, f1⟩ := h1
      obtain ⟨c2, f2⟩ := h2
      have e1 : IntKind.i64.wrap ((a : Int) + (i : Int)) = ((a + i : Nat) : Int) := by rw [IntKind.wrap_i64]; omega
      have e2 : IntKind.i64.wrap ((b : Int) + (i : Int)) = ((b + i : Nat) : Int) := by rw [IntKind.wrap_i64]; omega
      have q1 : ((a + i : Nat) : Int) < (n : Int) := by omega
      have q2 : ((b + i : Nat) : Int) < (n : Int) := by omega
      have q3 : (0 : Int) ≤ ((a + i : Nat) : Int) := by omega
      have q4 : (0 : Int) ≤ ((b + i : Nat) : Int) := by omega
      have q5 : i < 10000000000000 := by omega
      have q6 : a + i ≠ b + i := by omega
      have q7 : swapR F a b (i + 1) = swp (swapR F a b i) (a + i) (b + i) := rfl
      have HQ := Aside.mk q7
      clear q7
      generalize swapR F a b i = G at *
      obtain ⟨p, hp⟩ : ∃ p, p = a + i := ⟨_, rfl⟩
      obtain ⟨q, hq⟩ : ∃ q, q = b + i := ⟨_, rfl⟩
      rw [← hp] at c1 f1 e1 q1 q3 q6 HSW HQ
      rw [← hq] at c2 f2 e2 q2 q4 q6 HSW HQ
      obtain ⟨x, hx⟩ : ∃ x, x = ((G p : Nat) : Int) := ⟨_, rfl⟩
      obtain ⟨y, hy⟩ : ∃ y, y = ((G q : Nat) : Int) := ⟨_, rfl⟩
      rw [← hx] at c1 HSW
      rw [← hy] at c2 HSW
      clear hp hq hx hy hN hik
      go_wp2
      go_region
      go_wp2
      go_roundw
      case rel => exact ⟨i + 1, by go_num, by omega, ⟨by rw [HQ.out]; exact HSW.out.drew⟩⟩
      case measure => simp [intOf]; omega
    · obtain rfl : i = k := by omega
      go_wp2
      go_end0
      exact ⟨rfl, HI.out⟩
/-- How far the turn is. -/
structure RotAt (w : World) (g off n c nb m : Nat) (T : Nat → Nat) (i j : Nat) (W : World) : Prop where
  ex : ∃ G, SrtW w g off n c nb G W ∧ rotF G (m - i) m (m + j) = T
  i1 : 1 ≤ i
  j1 : 1 ≤ j
  im : i ≤ m
  mj : m + j ≤ n
set_option maxRecDepth 100000 in
set_option maxHeartbeats 1000000 in
theorem rotate (w W : World) (g off n c nb : Nat) (F : Nat → Nat) (cv : Value) (a m b : Nat) (hS : SrtW w g off n c nb F W) (ham : a < m) (hmb : m < b) (hbn : b ≤ n) (hn : n ≤ 10000000000000) (hnc : n ≤ c) :
    Calls Try.prog 29 #[.slice (some ⟨g, off, none⟩) n c, .int .i64 (a : Nat), .int .i64 (m : Nat), .int .i64 (b : Nat), cv] W (SortPost w g off n c nb (rotF F a m b)) := by
  have HN := Aside.mk (And.intro hn hnc)
  have H0 : Aside (RotAt w g off n c nb m (rotF F a m b) (m - a) (b - m) W) := ⟨⟨F, hS, by rw [show m - (m - a) = a by omega, show m + (b - m) = b by omega]⟩, by omega, by omega, by omega, by omega⟩
  have e1 : IntKind.i64.wrap ((m : Int) - (a : Int)) = ((m - a : Nat) : Int) := by rw [IntKind.wrap_i64]; omega
  have e2 : IntKind.i64.wrap ((b : Int) - (m : Int)) = ((b - m : Nat) : Int) := by rw [IntKind.wrap_i64]; omega
  generalize rotF F a m b = T at *
  generalize m - a = i0 at *
  generalize b - m = j0 at *
  clear hS hn hnc ham hmb hbn
  go_enter Try.func29, Try.ntmps29
  go_wp2
  clear e1 e2
  go_loopw [10, 11] (fun s10 s11 wr => ∃ i j : Nat, s10 = .int .i64 (i : Int) ∧ s11 = .int .i64 (j : Int) ∧ Aside (RotAt w g off n c nb m T i j wr)) (fun s10 s11 _ => (intOf s10).toNat + (intOf s11).toNat)
  case atStart => exact ⟨i0, j0, rfl, rfl, H0⟩
  case round =>
    obtain ⟨i, j, rfl, rfl, HI⟩ := hrel
    obtain ⟨⟨G, hG, hT⟩, i1, j1, im, mj⟩ := HI.out
    have hN := HN.out
    have e3 : IntKind.i64.wrap ((m : Int) - (i : Int)) = ((m - i : Nat) : Int) := by rw [IntKind.wrap_i64]; omega
    by_cases hij : i = j
    · subst hij
      have hsw := swap_range w wr g off n c nb G cv (m - i) m i hG (by omega) mj hN.1 hN.2
      rw [← rotF_even G im, hT] at hsw
      generalize m - i = mi at *
      clear hG hT i1 j1 im mj hN
      have HSW := Aside.mk hsw
      clear hsw
      go_wp2_with (go_at_call 30; refine HSW.out.mono ?_; rintro e w' ⟨rfl, HF⟩)
      go_end0
      exact ⟨rfl, HF⟩
    · have hne : ¬ (i : Int) = (j : Int) := by omega
      by_cases hlt : j < i
      · have hgt : (j : Int) < (i : Int) := by omega
        have hsw := swap_range w wr g off n c nb G cv (m - i) m j hG (by omega) mj hN.1 hN.2
        have hr := rotF_left G im hlt
        rw [hT] at hr
        have e4 : IntKind.i64.wrap ((i : Int) - (j : Int)) = ((i - j : Nat) : Int) := by rw [IntKind.wrap_i64]; omega
        have HM := Aside.mk (And.intro hlt (And.intro j1 (And.intro im mj)))
        generalize swapR G (m - i) m j = G' at *
        have HR := Aside.mk hr
        have HSW := Aside.mk hsw
        generalize m - i = mi at *
        clear hG hT i1 j1 im mj hN hr hsw
        go_wp2_with (go_at_call 30; refine HSW.out.mono ?_; rintro e w' ⟨rfl, HF⟩)
        go_roundw
        case rel => exact ⟨i - j, j, rfl, rfl, ⟨⟨G', HF, HR.out.symm⟩, by omega, HM.out.2.1, by have := HM.out; omega, HM.out.2.2.2⟩⟩
        case measure => simp [intOf]; have := HM.out; omega
      · have hgt : ¬ (j : Int) < (i : Int) := by omega
        have hlt2 : i < j := by omega
        have hsw := swap_range w wr g off n c nb G cv (m - i) (m + j - i) i hG (by omega) (by omega) hN.1 hN.2
        have hr := rotF_right G im hlt2
        rw [hT] at hr
        have e4 : IntKind.i64.wrap ((j : Int) - (i : Int)) = ((j - i : Nat) : Int) := by rw [IntKind.wrap_i64]; omega
        have e5 : IntKind.i64.wrap ((m : Int) + (j : Int)) = ((m + j : Nat) : Int) := by rw [IntKind.wrap_i64]; omega
        have e6 : IntKind.i64.wrap (((m + j : Nat) : Int) - (i : Int)) = ((m + j - i : Nat) : Int) := by rw [IntKind.wrap_i64]; omega
        generalize swapR G (m - i) (m + j - i) i = G' at *
        have HR : Aside (RotAt w g off n c nb m T i (j - i) wr → True) := ⟨fun _ => trivial⟩
        have HRA : Aside (∀ w', SrtW w g off n c nb G' w' → RotAt w g off n c nb m T i (j - i) w') := ⟨fun w' HF => ⟨⟨G', HF, hr.symm⟩, i1, by omega, im, by omega⟩⟩
        have HSW := Aside.mk hsw
        have hji : (i : Int).toNat + ((j - i : Nat) : Int).toNat < (i : Int).toNat + (j : Int).toNat := by omega
        have HJI := Aside.mk hji
        obtain ⟨mi, hmi⟩ : ∃ mi, mi = m - i := ⟨_, rfl⟩
        rw [← hmi] at e3 HSW
        obtain ⟨mji, hmji⟩ : ∃ x, x = m + j - i := ⟨_, rfl⟩
        rw [← hmji] at e6 HSW
        obtain ⟨mj', hmj'⟩ : ∃ x, x = m + j := ⟨_, rfl⟩
        rw [← hmj'] at e5 e6
        clear hmi hmji hmj' HR hji
        clear hG hT i1 j1 im mj hN hr hsw
        go_wp2_with (go_at_call 30; refine HSW.out.mono ?_; rintro e w' ⟨rfl, HF⟩)
        go_roundw
        case rel => exact ⟨i, j - i, rfl, rfl, ⟨HRA.out _ HF⟩⟩
        case measure => simp only [intOf]; exact HJI.out
end Go.Proofs.Ytaganococolodaa
