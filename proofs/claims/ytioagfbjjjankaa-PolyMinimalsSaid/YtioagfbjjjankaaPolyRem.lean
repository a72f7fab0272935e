/-
  What the program's remainder answers.
-/
import Derived.Test.YtioagfbjjjankaaPolyOps
namespace Go.Proofs.Ytioagfbjjjankaa
open Go.RowKit

def modR (A B : Nat) : Option Nat := if B = 0 then none else some (Poly.modP A B)
theorem modP_small {X Y : Nat} (h : X < 2 ^ Y.log2) (hY : Y ≠ 0) : Poly.modP X Y = X := by
  have := Poly.modD_eq (X := X) (Y := Y) (n := 0) (by rw [Nat.add_zero]; exact h) hY
  rw [← this]; rfl
theorem modP_step {X Y : Nat} (hX : X ≠ 0) (hY : Y ≠ 0) (h : Y.log2 ≤ X.log2) : X ^^^ Y * 2 ^ (X.log2 - Y.log2) < 2 ^ X.log2 ∧ Poly.modP (X ^^^ Y * 2 ^ (X.log2 - Y.log2)) Y = Poly.modP X Y := by
  have hb := Poly.log2_tb hX
  have e : Y.log2 + (X.log2 - Y.log2) = X.log2 := by omega
  have h1 : X < 2 ^ (Y.log2 + (X.log2 - Y.log2) + 1) := by rw [e]; exact Poly.lt_two_log2 X
  have h2 := Poly.red_lt hY h1 (by rw [e]; exact hb)
  refine ⟨by rwa [e] at h2, ?_⟩
  rw [← Poly.modD_eq h2 hY, ← Poly.modD_eq (X := X) (n := X.log2 - Y.log2 + 1) h1 hY]
  show _ = Poly.modD Y Y.log2 (X.log2 - Y.log2) (if X.testBit (Y.log2 + (X.log2 - Y.log2)) = true then _ else _)
  rw [e, if_pos hb]
theorem deg_lt {X m : Nat} (h : X < 2 ^ m) : deg X < (m : Int) := by
  unfold deg
  split
  · omega
  · rename_i h0
    have := Poly.log2_lt h0 h
    omega

set_option maxRecDepth 100000 in
set_option maxHeartbeats 3200000 in
theorem poly_mod (XA XB : Option Addr) (n c m d : Nat) (l k : List Int) (w : World) (hl : n = l.length) (hn : n ≤ 9223372036854775807) (hR : Rd w XA n (fun i => .int .i64 (l.getD i 0)))
    (hk : m = k.length) (hm : m ≤ 9223372036854775807) (hS : Rd w XB m (fun i => .int .i64 (k.getD i 0))) :
    Calls Try.prog 19 #[.slice XA n c, .slice XB m d] w (PairOf w (modR (Poly.bitsOf l) (Poly.bitsOf k))) := by
  have hL := Poly.lim_eq
  have hP := Poly.bitsOf_lt l
  have hQ := Poly.bitsOf_lt k
  have H1 := Aside.mk (row_of XA n c l w hl hn hR)
  have H3 : Aside (∀ W, Below w.heap.size w W → Calls Try.prog 26 #[.slice XB m d] W (RowOf W 257 (Poly.bitsOf k))) := ⟨fun W hW => row_of XB m d k W hk hm (hS.below (Nat.le_refl _) hW)⟩
  have HL := Aside.mk (And.intro hL (And.intro hP hQ))
  clear hL hP hQ hl hR hk hS
  generalize Poly.bitsOf l = P at *
  generalize Poly.bitsOf k = Q at *
  obtain ⟨R, hRr⟩ : ∃ R, R = modR P Q := ⟨_, rfl⟩
  rw [← hRr]
  have HR := Aside.mk hRr
  clear hRr
  go_enter Try.func19, Try.ntmps19
  go_upto_region 2 with (first | (obtain ⟨HI⟩ := H1; go_at_call 26; refine (HI).mono ?_; clear HI; rintro e w1 ⟨g, hg, rfl, hr, hb⟩; have H4 := Aside.mk (H3.out _ hb)) | (obtain ⟨HI⟩ := H4; go_at_call 26; refine (HI).mono ?_; clear HI; rintro e w2 ⟨g2, hg2, rfl, hr2, hb2⟩))
  have hrx := Row.below hr hb2
  have hbw := hb.trans (hb2.mono hb.size)
  have hgg : g ≠ g2 := by have := (Row.blk hr g rfl).2.1; omega
  have HW := Aside.mk (And.intro hrx (And.intro hr2 (And.intro hbw (And.intro hb.size (And.intro hg hg2)))))
  have D1 := Aside.mk (row_degree_lim _ g 0 257 257 P w2 hrx HL.out.2.1 (by have := HL.out.1; omega) (by omega))
  have D2 := Aside.mk (row_degree_lim _ g2 0 257 257 Q w2 hr2 HL.out.2.2 (by have := HL.out.1; omega) (by omega))
  clear hrx hr2 hr hb hb2 hbw H3
  by_cases hQ0 : Q = 0
  · rw [deg_neg hQ0] at D2
    have hres : R = none := by rw [HR.out]; unfold modR; rw [if_pos hQ0]
    have HE := Aside.mk hres
    clear hQ0 hres HR D1
    go_wp2_with (obtain ⟨HI⟩ := D2; go_at_call 27; refine (HI).mono ?_; clear HI; rintro e w3 ⟨rfl, rfl⟩)
    go_ret2
    exact ⟨_, by rw [HE.out]; rfl, by rw [HE.out]; exact Row.nil _ _ _ _, HW.out.2.2.1⟩
  · have hres : R = some (Poly.modP P Q) := by rw [HR.out]; unfold modR; rw [if_neg hQ0]
    have hdq := deg_pos hQ0
    have hlq := log2_lim hQ0 HL.out.2.2
    rw [hdq] at D2
    have HE := Aside.mk (And.intro hres hQ0)
    clear hdq hres hQ0 HR
    obtain ⟨tq, htq⟩ : ∃ tq, tq = Q.log2 / 64 := ⟨_, rfl⟩
    have hmq : (Q.log2 : Int) / 64 = (tq : Int) := by omega
    obtain ⟨mq, hmqe⟩ : ∃ mq, mq = Q.log2 / 64 + 1 := ⟨_, rfl⟩
    have hmq2 : IntKind.i64.wrap ((tq : Int) + 1) = (mq : Int) := by rw [IntKind.wrap_i64]; omega
    have htq2 : tq ≤ 256 := by omega
    have hcut := cut_words g2 0 257 257 mq (by omega)
    have hmq3 : mq ≤ 257 := by omega
    have HMQ := Aside.mk hmqe
    clear hmqe htq
    have hge : w.heap.size ≤ g := HW.out.2.2.2.2.1
    go_wp2_with (first | (obtain ⟨HI⟩ := D2; go_at_call 27; refine (HI).mono ?_; clear HI; rintro e w3 ⟨rfl, rfl⟩) | (obtain ⟨HI⟩ := D1; go_at_call 27; refine (HI).mono ?_; clear HI; rintro e w3 ⟨rfl, rfl⟩))
    go_loopw [9] (fun s9 wr => ∃ X : Nat, s9 = .int .i64 (deg X) ∧ RowP wr w.heap.size (.slice (some ⟨g, 0, none⟩) 257 257) 257 X ∧ w2.grownBy wr (some g) ∧ Aside (X < 2 ^ Poly.lim ∧ Poly.modP X Q = Poly.modP P Q)) (fun s9 _ => ((intOf s9) + 1).toNat)
    case atStart => exact ⟨P, rfl, HW.out.1, World.grownBy.refl _ _, ⟨HL.out.2.1, rfl⟩⟩
    case round =>
      obtain ⟨X, rfl, hr, hg9, HX⟩ := hrel
      have H9 := Aside.mk (And.intro hr hg9)
      clear hr hg9
      by_cases hlt : (Q.log2 : Int) ≤ deg X
      · have hX0 : X ≠ 0 := fun h => by rw [deg_neg h] at hlt; omega
        have hdx := deg_pos hX0
        rw [hdx] at hlt ⊢
        have hst := modP_step hX0 HE.out.2 (by omega)
        have hlx := log2_lim hX0 HX.out.1
        obtain ⟨e, he⟩ : ∃ e, e = X.log2 - Q.log2 := ⟨_, rfl⟩
        have he1 : IntKind.i64.wrap ((X.log2 : Int) - (Q.log2 : Int)) = (e : Int) := by rw [IntKind.wrap_i64]; omega
        have hrm := room_of (A := 2 ^ e) (B := Q) (e := e) (by rw [Nat.log2_two_pow]; omega) (by rw [Nat.log2_two_pow]; exact Nat.le_refl _)
        rw [← he] at hst
        have hX2 : X ^^^ Q * 2 ^ e < 2 ^ Poly.lim := Poly.xor_lt2 HX.out.1 hrm
        have hdl := deg_lt hst.1
        have hyr := RowP.low (Row.kept HW.out.2.1 H9.out.2 (.inr (by simp [Value.ownBlock]; omega))) hmq3
        have H10 := Aside.mk (And.intro hst (And.intro hyr (And.intro hrm (And.intro hX2 hdl))))
        clear hst hyr hrm hX2 hdl hdx hX0
        generalize X.log2 = lx at *
        have hel : e ≤ 16384 := by omega
        clear he
        go_wp2_with (first | (go_at_call 29; refine (row_add_lim w.heap.size g 0 257 257 _ _ g2 0 mq 257 Q e _ H9.out.1 H10.out.2.1 (by omega) (by rw [HMQ.out]; exact low_lt Q) H10.out.2.2.1 (by have := HL.out.1; omega) (by omega) (by omega) (by omega)).mono ?_; rintro ex w6 ⟨rfl, hr6, hg6⟩; have D6 := Aside.mk (row_degree_lim _ g 0 257 257 _ w6 hr6 H10.out.2.2.2.1 (by have := HL.out.1; omega) (by omega)); have H11 := Aside.mk (And.intro hr6 (World.grownBy.trans H9.out.2 hg6)); clear hr6 hg6) | (obtain ⟨HI⟩ := D6; go_at_call 27; refine (HI).mono ?_; clear HI; rintro ex w7 ⟨rfl, rfl⟩))
        go_roundw
        case rel => exact ⟨_, rfl, H11.out.1, H11.out.2, ⟨H10.out.2.2.2.1, by rw [H10.out.1.2]; exact HX.out.2⟩⟩
        case measure =>
          have := H10.out.2.2.2.2
          simp only [intOf]
          omega
      · have hfin : Poly.modP P Q = X := by
          rw [← HX.out.2]
          refine modP_small ?_ HE.out.2
          by_cases h0 : X = 0
          · rw [h0]; exact Nat.pow_pos (by omega)
          · rw [deg_pos h0] at hlt
            have := Poly.lt_two_log2 X
            exact Nat.lt_of_lt_of_le this (Nat.pow_le_pow_right (by omega) (by omega))
        have hb9 : Below w.heap.size w wr := HW.out.2.2.1.grown H9.out.2 HW.out.2.2.1.size (fun j hj => by injection hj with hj; omega)
        have HF := Aside.mk (And.intro hfin hb9)
        clear hfin hb9
        generalize hdx : deg X = dx at *
        clear hdx
        go_wp2_with (go_at_call 28; refine (row_poly_lim _ g 0 257 257 _ _ H9.out.1 HX.out.1 (by have := HL.out.1; omega) (by omega)).mono ?_; rintro ex w7 ⟨v7, rfl, hr7, hb7⟩)
        go_ret2
        exact ⟨_, by rw [HE.out.1]; rfl, by rw [HE.out.1, HF.out.1]; exact hr7.mono HF.out.2.size, HF.out.2.trans (hb7.mono HF.out.2.size)⟩
end Go.Proofs.Ytioagfbjjjankaa
