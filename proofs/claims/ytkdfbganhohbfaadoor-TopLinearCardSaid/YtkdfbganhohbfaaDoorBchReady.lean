/-
  The generator's bits are laid, once.
-/
import Derived.Test.YtkdfbganhohbfaaDoorBchMem
namespace Go.Proofs.YtkdfbganhohbfaaDoor
open Go.RowKit

def degN (t : Nat) : Nat := (genN t).log2
def lowN8 (t : Nat) : Nat := (degN t + 7) / 8
theorem degN_le : ∀ t, t < 9 → 1 ≤ t → 1 ≤ degN t ∧ degN t ≤ 13 * t := by decide +kernel
theorem make_bytes (m : Nat) (h : m ≤ 1000000) (W : World) :
    (Instr.makeSlice 24 (.int .i64 (m : Int)) (.int .i64 (m : Int))).run Tryd.prog W = .ok (.slice (some ⟨W.heap.size, 0, none⟩) m m) (W.alloc (.cells (madeCells #[.int .u8 0] m) 5)) :=
  run_make_row' 24 5 (.int .u8 0) 1 Tryd.underlying24 infoU8 rfl .i64 .i64 m (by omega) (by omega) W
/-- The other terms lie below the first one. -/
theorem gen_tail {t i : Nat} (ht : t ≤ 8) (hi : i + 1 < (listP (genN t)).length) : (listP (genN t)).getD (i + 1) 0 < degN t := by
  have h0 := (gen_lt t ht).2
  have hl := gen_lim ht
  have e : listP (genN t) = (genN t).log2 :: Poly.fall Poly.lim (genN t ^^^ 2 ^ (genN t).log2) := Poly.fall_top h0 hl
  rw [e] at hi ⊢
  simp only [List.length_cons] at hi
  have hm : (Poly.fall Poly.lim (genN t ^^^ 2 ^ (genN t).log2)).getD i 0 ∈ Poly.fall Poly.lim (genN t ^^^ 2 ^ (genN t).log2) := by
    rw [List.getD_eq_getElem?_getD, List.getElem?_eq_getElem (by omega)]
    exact List.getElem_mem _
  have h1 := (Poly.fall_mem.1 hm).2
  rw [List.getD_cons_succ]
  generalize (Poly.fall Poly.lim (genN t ^^^ 2 ^ (genN t).log2)).getD i 0 = x at *
  unfold degN
  rw [Nat.testBit_xor, Nat.testBit_two_pow] at h1
  rcases Nat.lt_trichotomy x (genN t).log2 with h2 | h2 | h2
  · exact h2
  · subst h2
    have h3 : (genN t).testBit (genN t).log2 = true := Poly.log2_tb h0
    rw [h3] at h1
    simp at h1
  · have h3 : (genN t).testBit x = false := Nat.testBit_lt_two_pow (Nat.lt_of_lt_of_le (Nat.lt_log2_self) (Nat.pow_le_pow_right (by omega) h2))
    rw [h3] at h1
    simp at h1
    omega

theorem gen_odd : ∀ t, t < 9 → 1 ≤ t → (genN t).testBit 0 = true := by decide +kernel
theorem gen_two {t : Nat} (ht : t ≤ 8) (h1 : 1 ≤ t) : 2 ≤ (listP (genN t)).length := by
  have h0 := (gen_lt t ht).2
  have hd := degN_le t (by omega) h1
  have e : listP (genN t) = (genN t).log2 :: Poly.fall Poly.lim (genN t ^^^ 2 ^ (genN t).log2) := Poly.fall_top h0 (gen_lim ht)
  have hm : 0 ∈ Poly.fall Poly.lim (genN t ^^^ 2 ^ (genN t).log2) := by
    refine Poly.fall_mem.2 ⟨by rw [Poly.lim_eq]; omega, ?_⟩
    rw [Nat.testBit_xor, Nat.testBit_two_pow, gen_odd t (by omega) h1]
    have : ¬ (genN t).log2 = 0 := by unfold degN at hd; omega
    simp [this]
  have := List.length_pos_of_mem hm
  rw [e, List.length_cons]
  omega
/-- A bit set. -/
def bitU (x : UInt8) (k : Nat) : UInt8 := UInt8.ofNat (x.toNat ||| 128 / 2 ^ k)
theorem or_bit (x : UInt8) {k : Nat} (_h : k < 8) : bits .or .u8 (x.toNat : Int) (128 / 2 ^ k) = ((bitU x k).toNat : Int) := by
  have hx := x.toNat_lt
  have h1 : 128 / 2 ^ k < 256 := Nat.lt_of_le_of_lt (Nat.div_le_self _ _) (by omega)
  have e : (128 / 2 ^ k : Int) = ((128 / 2 ^ k : Nat) : Int) := by push_cast; rfl
  rw [e, u8_or (by omega) h1]
  unfold bitU
  rw [UInt8.toNat_ofNat', Nat.mod_eq_of_lt]
  exact Nat.or_lt_two_pow (n := 8) (by omega) (by omega)
/-- While the bits are laid. -/
structure BchAt (w : World) (c bx t n : Nat) (A : Option Addr) (cap : Nat) (dg lo : Value) (wr : World) : Prop where
  code : ∃ q, CF wr c t n (.int .u32 0) (.int .i32 1) (.int .u32 0) dg lo q ∧ q ≤ 1600
  row : Row wr w.heap.size 3 1 (.slice A (listP (genN t)).length cap) (listP (genN t)).length (intsV (Poly.ints (listP (genN t))))
  box : wr.cell? ⟨bx, 0, none⟩ = some (.pointer (some ⟨c, 0, none⟩))
  gr : w.grownBy wr (some c)
  lt : bx < w.heap.size ∧ bx ≠ c ∧ c < w.heap.size
theorem BchAt.set11 {w W : World} {c bx t n cap : Nat} {A : Option Addr} {dg lo : Value} (h : BchAt w c bx t n A cap dg lo W) (v : Value) : BchAt w c bx t n A cap v lo (W.setCell ⟨c, 11, none⟩ v).drew := by
  obtain ⟨q, hc, hq⟩ := h.code
  have g1 := grownBy_setCell W c 11 v
  refine ⟨⟨q, (hc.set11 v).drew, hq⟩, (h.row.kept g1 (.inr (hc.off h.row (by decide)))).drew, ?_, grownBy_drew (World.grownBy.trans h.gr g1), h.lt⟩
  exact (cell_setCell_far W 11 0 v (Ne.symm h.lt.2.1)).trans h.box
/-- The bits that are laid. -/
structure LowAt (w : World) (c bx t n : Nat) (A : Option Addr) (cap g : Nat) (l : List UInt8) (wr : World) : Prop where
  b : BchAt w c bx t n A cap (.int .i64 (degN t : Int)) (.slice (some ⟨g, 0, none⟩) (lowN8 t) (lowN8 t)) wr
  low : Row wr w.heap.size 5 1 (.slice (some ⟨g, 0, none⟩) (lowN8 t) (lowN8 t)) (lowN8 t) (bytesV l)
  new : w.heap.size ≤ g
theorem LowAt.start {w W : World} {c bx t n cap : Nat} {A : Option Addr} {lo : Value} (h : BchAt w c bx t n A cap (.int .i64 (degN t : Int)) lo W) (hL : lowN8 t ≤ 1000000) :
    LowAt w c bx t n A cap W.heap.size (List.replicate (lowN8 t) 0) ((W.setCell ⟨c, 12, none⟩ (.slice (some ⟨W.heap.size, 0, none⟩) (lowN8 t) (lowN8 t))).alloc (.cells (madeCells #[.int .u8 0] (lowN8 t)) 5)).drew := by
  obtain ⟨q, hc, hq⟩ := h.code
  obtain ⟨v, hv⟩ : ∃ v, v = Value.slice (some ⟨W.heap.size, 0, none⟩) (lowN8 t) (lowN8 t) := ⟨_, rfl⟩
  rw [← hv]
  have g1 := grownBy_setCell W c 12 v
  have g2 := World.grownBy_alloc (W.setCell ⟨c, 12, none⟩ v) (.cells (madeCells #[.int .u8 0] (lowN8 t)) 5) (some c)
  have hb2 := (Below.refl (W.setCell ⟨c, 12, none⟩ v).heap.size (W.setCell ⟨c, 12, none⟩ v)).alloc (Nat.le_refl _) (.cells (madeCells #[.int .u8 0] (lowN8 t)) 5)
  have hz := Row.zeros (W.setCell ⟨c, 12, none⟩ v) w.heap.size 5 (.int .u8 0) (lowN8 t) (by rw [size_setCell']; exact h.gr.size) (by simp only [maxLen]; omega)
  rw [size_setCell'] at hz
  refine ⟨⟨⟨q, ?_, hq⟩, ((h.row.kept g1 (.inr (hc.off h.row (by decide)))).below hb2).drew, ?_, grownBy_drew (World.grownBy.trans (World.grownBy.trans h.gr g1) g2), h.lt⟩, ?_, h.gr.size⟩
  · rw [← hv]
    exact ((hc.set12 v).below hb2).drew
  · have e1 : (W.setCell ⟨c, 12, none⟩ v).cell? ⟨bx, 0, none⟩ = some (.pointer (some ⟨c, 0, none⟩)) := (cell_setCell_far W 12 0 v (Ne.symm h.lt.2.1)).trans h.box
    exact g2.cell e1 (by simp; exact h.lt.2.1)
  · have e2 : bytesV (List.replicate (lowN8 t) 0) = List.replicate (lowN8 t) (.int .u8 0) := by simp [bytesV]
    rw [e2]
    exact hz.drew
theorem LowAt.set {w W : World} {c bx t n cap g : Nat} {A : Option Addr} {l : List UInt8} (h : LowAt w c bx t n A cap g l W) (k : Nat) (hk : k < lowN8 t) (b : UInt8) :
    LowAt w c bx t n A cap g (l.set k b) (W.setCell ⟨g, k, none⟩ (.int .u8 (b.toNat : Int))).drew := by
  obtain ⟨q, hc, hq⟩ := h.b.code
  have hs := h.low.store rfl k (by omega) (.int .u8 (b.toNat : Int))
  rw [Nat.zero_add] at hs
  have hlt := h.b.lt
  have hnew := h.new
  refine ⟨⟨⟨q, (hc.bytes h.low hs.2).drew, hq⟩, (h.b.row.kept hs.2 (Row.other h.b.row h.low (by decide))).drew, ?_, grownBy_drew (World.grownBy.andThen h.b.gr hs.2 ?_), hlt⟩, ?_, hnew⟩
  · exact (cell_setCell_far W k 0 _ (by omega)).trans h.b.box
  · intro j hj; injection hj with hj; left; omega
  · have e : bytesV (l.set k b) = (bytesV l).set k (.int .u8 (b.toNat : Int)) := by simp [bytesV, List.map_set]
    rw [e]
    exact hs.1.drew
def FillPost (w : World) (c t n : Nat) (e : Ending) (w' : World) : Prop :=
  e = .returned (.tuple #[]) ∧ ∃ g l q, CF w' c t n (.int .u32 0) (.int .i32 1) (.int .u32 0) (.int .i64 (degN t : Int)) (.slice (some ⟨g, 0, none⟩) (lowN8 t) (lowN8 t)) q ∧ Row w' w.heap.size 5 1 (.slice (some ⟨g, 0, none⟩) (lowN8 t) (lowN8 t)) (lowN8 t) (bytesV l) ∧ w.grownBy w' (some c) ∧ q ≤ 1600

set_option maxRecDepth 100000 in
set_option maxHeartbeats 2000000 in
theorem bch_fill (c bx t n : Nat) (w : World) (ht1 : 1 ≤ t) (ht8 : t ≤ 8) (hF : CF w c t n (.int .u32 0) (.int .i32 1) (.int .u32 0) (.int .i64 0) (.slice none 0 0) 0)
    (hbx : w.cell? ⟨bx, 0, none⟩ = some (.pointer (some ⟨c, 0, none⟩))) (hne : bx ≠ c) (hlt : bx < w.heap.size) :
    Calls Tryd.prog 12 #[.pointer (some ⟨bx, 0, none⟩)] w (FillPost w c t n) := by
  have hcl := hF.lt
  have c0 := hF.c0
  have HG : Aside (Calls Tryd.prog 13 #[.pointer (some ⟨c, 5, none⟩), .int .i64 (t : Int)] w.drew fun e w1 => ∃ A cap, e = .returned (.tuple #[.slice A (listP (genN t)).length cap, .bool true]) ∧ Aside (BchAt w c bx t n A cap (.int .i64 0) (.slice none 0 0) w1)) := ⟨by
    letI := hst t n (.int .u32 0) (.int .i32 1) (.int .u32 0) (.int .i64 0) (.slice none 0 0)
    refine (poly_generator c 0 t w.drew (by omega) hF.drew ht8 ht1).mono ?_
    rintro e w1 ⟨v, q, rfl, hF1, _, hq, hg', hr⟩
    have hg := World.grownBy.trans (grownBy_drew (World.grownBy.refl w (some c))) hg'
    obtain ⟨A, cap, rfl, _⟩ := hr.slice
    exact ⟨A, cap, rfl, ⟨⟨q, hF1, by omega⟩, hr, hg.cell hbx (by simp; omega), hg, hlt, hne, hcl⟩⟩⟩
  have HT := Aside.mk (And.intro ht1 ht8)
  clear hF ht1 ht8
  go_enter Tryd.func12, Tryd.ntmps12
  go_upto_region 0 with fail
  go_cut [1, 2] (fun s1 s2 wx => ∃ A cap, s1 = .slice A (listP (genN t)).length cap ∧ s2 = .bool true ∧ Aside (BchAt w c bx t n A cap (.int .i64 0) (.slice none 0 0) wx))
  case first =>
    go_region_with ((go_at_call 13; refine HG.out.mono ?_; rintro e w1 ⟨A, cap, rfl, H1⟩))
    all_goals
      go_wp2
      go_meet
      exact ⟨A, cap, rfl, rfl, ⟨H1.out⟩⟩
  case rest =>
  obtain ⟨A, cap, rfl, rfl, H1⟩ := hcut
  obtain ⟨⟨q1, hc1, hq1⟩, hr1, hb1, hg1, hl1⟩ := H1.out
  obtain ⟨hpos, hhead⟩ := listP_head (gen_lt t HT.out.2).2 (gen_lim HT.out.2)
  obtain ⟨b0, o0, cap', e0, x1, x2, x3⟩ := hr1.form (by omega)
  injection e0 with e0 e1 e2
  subst e0; subst e2
  clear e1 x1 x2 x3
  obtain ⟨y0, _⟩ := hr1.at_ rfl 0 hpos
  obtain ⟨d, hd⟩ : ∃ d, d = degN t := ⟨_, rfl⟩
  replace y0 : wc.cell? ⟨b0, o0, none⟩ = some (.int .i64 (d : Int)) := by
    rw [Nat.add_zero] at y0
    rw [y0, hd]
    unfold degN
    rw [← hhead]
    simp [intsV, Poly.ints, List.getD_eq_getElem?_getD, hpos]
  have z11 := hc1.free 11
  have c11 := hc1.c11
  have hn0 : (0 : Int) < ((listP (genN t)).length : Int) := by omega
  obtain ⟨L, hL⟩ : ∃ L, L = lowN8 t := ⟨_, rfl⟩
  have hd2 := degN_le t (by have := HT.out; omega) HT.out.1
  have hLd : L = (d + 7) / 8 := by rw [hL, hd]; rfl
  have hd3 : 1 ≤ d ∧ d ≤ 104 := by have := HT.out; omega
  have HD := Aside.mk (And.intro hd (And.intro hL (And.intro hLd hd3)))
  clear hd hL hLd hd2 hhead hr1 hg1 hq1 hc1 hbx hne hlt hcl c0 HG hl1
  apply_assumption
  go_upto_region 1 with fail
  go_cut [1] (fun s1 wx => s1 = .slice (some ⟨b0, o0, none⟩) (listP (genN t)).length cap ∧ Aside (BchAt w c bx t n (some ⟨b0, o0, none⟩) cap (.int .i64 (d : Int)) (.slice none 0 0) wx))
  case first =>
    go_region
    all_goals
      go_wp2
      go_meet
      exact ⟨rfl, ⟨H1.out.set11 _⟩⟩
  case rest =>
  obtain ⟨rfl, H2⟩ := hcut
  clear H1 y0 hb1 z11 c11
  obtain ⟨⟨q1, hc1, hq1⟩, hr1, hb1, hg1, hl1⟩ := H2.out
  have z12 := hc1.free 12
  have c12 := hc1.c12
  have c11 := hc1.c11
  obtain ⟨d7, hd7⟩ : ∃ x, x = d + 7 := ⟨_, rfl⟩
  have w7 : IntKind.i64.wrap ((d : Int) + 7) = (d7 : Int) := by have := HD.out; rw [IntKind.wrap_i64]; omega
  have hq9 : (d7 : Int) / 8 = (L : Int) := by have := HD.out; omega
  have hq8 : (d7 : Int).tdiv 8 = (L : Int) := by rw [Int.tdiv_eq_ediv_of_nonneg (by omega)]; exact hq9
  have wL : IntKind.i64.wrap (L : Int) = (L : Int) := by have := HD.out; rw [IntKind.wrap_i64]; omega
  clear hd7
  have hmk := make_bytes L (by have := HD.out; omega)
  have hcl := hc1.lt
  have hbl : bx < wc.heap.size := by have := hg1.size; omega
  clear hq1 hr1 hg1 hl1 hc1
  apply_assumption
  go_upto_region 2 with fail
  go_cut [1] (fun s1 wx => s1 = .slice (some ⟨b0, o0, none⟩) (listP (genN t)).length cap ∧ ∃ g, Aside (LowAt w c bx t n (some ⟨b0, o0, none⟩) cap g (List.replicate L 0) wx))
  case first =>
    go_region
    all_goals
      go_wp2
      go_meet
      have h := LowAt.start (HD.out.1 ▸ H2.out) (by rw [← HD.out.2.1]; have := HD.out; omega)
      rw [← HD.out.2.1] at h
      exact ⟨rfl, _, ⟨h⟩⟩
  case rest =>
  obtain ⟨rfl, g, H3⟩ := hcut
  clear H2 hb1 z12 c12 c11 w7 hq9 hq8 wL hmk hcl hbl
  obtain ⟨m, hm⟩ : ∃ m, (listP (genN t)).length = m + 1 := ⟨(listP (genN t)).length - 1, by omega⟩
  have HM := Aside.mk hm
  rw [hm]
  have hm1 : 1 ≤ m := by have := gen_two HT.out.2 HT.out.1; omega
  obtain ⟨A', c', e5, x4, hcc, hcm, x5⟩ := H3.out.b.row.readInts
  injection e5 with e5 e6 e7
  subst e7
  have hcap : ¬ cap = 1 := by omega
  have hml := listP_le (genN t)
  have HM1 := Aside.mk (And.intro hm1 (show m ≤ 16384 by omega))
  clear hm hpos hn0 hd3 e5 e6 hcc hcm hm1 x4 x5 hml
  apply_assumption
  go_upto_region 4 with fail
  go_loopw [36] (fun s36 wr => ∃ i : Nat, s36 = .int .i64 (i : Int) ∧ i ≤ m ∧ ∃ l : List UInt8, l.length = L ∧ Aside (LowAt w c bx t n (some ⟨b0, o0, none⟩) cap g l wr)) (fun s36 _ => m - (intOf s36).toNat)
  case atStart => exact ⟨0, rfl, by omega, _, by simp, H3⟩
  case round =>
    obtain ⟨i, rfl, him, l, hll, HI⟩ := hrel
    have HLL := Aside.mk hll
    clear hll
    have hi1 : IntKind.i64.wrap ((i : Int) + 1) = ((i + 1 : Nat) : Int) := by have := HM1.out; rw [IntKind.wrap_i64]; omega
    by_cases hlt : i < m
    · obtain ⟨q, hc, hq⟩ := HI.out.b.code
      obtain ⟨y0, _⟩ := HI.out.b.row.at_ rfl (i + 1) (by have := HM.out; omega)
      obtain ⟨e, he⟩ : ∃ e, e = (listP (genN t)).getD (i + 1) 0 := ⟨_, rfl⟩
      have hed : e < d := by rw [he, HD.out.1]; exact gen_tail HT.out.2 (by have := HM.out; omega)
      replace y0 : wr.cell? ⟨b0, o0 + 1 + i, none⟩ = some (.int .i64 (e : Int)) := by
        have e1 : o0 + 1 + i = o0 + (i + 1) := by omega
        have hl : i + 1 < (listP (genN t)).length := by have := HM.out; omega
        rw [e1, y0, he]
        simp [intsV, Poly.ints, List.getD_eq_getElem?_getD, hl]
      have hbx := HI.out.b.box
      have c11 := hc.c11
      have c12 := hc.c12
      rw [← HD.out.1] at c11
      rw [← HD.out.2.1] at c12
      obtain ⟨d1, hd1⟩ : ∃ x, x = d - 1 := ⟨_, rfl⟩
      obtain ⟨k, hk⟩ : ∃ x, x = d1 - e := ⟨_, rfl⟩
      obtain ⟨kq, hkq⟩ : ∃ x, x = k / 8 := ⟨_, rfl⟩
      obtain ⟨kr, hkr⟩ : ∃ x, x = k % 8 := ⟨_, rfl⟩
      have hkL : kq < L := by have := HD.out; omega
      obtain ⟨y1, z1⟩ := HI.out.low.at_ rfl kq (by rw [← HD.out.2.1]; exact hkL)
      obtain ⟨x, hx⟩ : ∃ x, x = l.getD kq 0 := ⟨_, rfl⟩
      replace y1 : wr.cell? ⟨g, kq, none⟩ = some (.int .u8 (x.toNat : Int)) := by
        have := HLL.out
        rw [Nat.zero_add] at y1
        rw [y1, hx]
        simp [bytesV, List.getD_eq_getElem?_getD, show kq < l.length by omega]
      rw [Nat.zero_add] at z1
      have w1 : IntKind.i64.wrap ((d : Int) - 1) = (d1 : Int) := by have := HD.out; rw [IntKind.wrap_i64]; omega
      have w2 : IntKind.i64.wrap ((d1 : Int) - (e : Int)) = (k : Int) := by have := HD.out; rw [IntKind.wrap_i64]; omega
      have q1 : (k : Int).tdiv 8 = (kq : Int) := by rw [Int.tdiv_eq_ediv_of_nonneg (by omega)]; omega
      have q2 : (k : Int) / 8 = (kq : Int) := by omega
      have q3 : (k : Int).tmod 8 = (kr : Int) := by rw [Int.tmod_eq_emod_of_nonneg (by omega)]; omega
      have q4 : (k : Int) % 8 = (kr : Int) := by omega
      have q5 : IntKind.i64.wrap (kq : Int) = (kq : Int) := by have := HD.out; rw [IntKind.wrap_i64]; omega
      have q6 : IntKind.i64.wrap (kr : Int) = (kr : Int) := by rw [IntKind.wrap_i64]; omega
      have q7 : (kq : Int) < (L : Int) := by omega
      have q8 : (0 : Int) ≤ (kq : Int) := by omega
      have q9 : (0 : Int) ≤ (kr : Int) := by omega
      have hkr8 : kr < 8 := by omega
      have hlt2 : (i : Int) < (m : Int) := by omega
      have hi0 : (0 : Int) ≤ (i : Int) := by omega
      have HQ := Aside.mk (And.intro hkL (And.intro hkr8 hlt))
      clear hc hq he hed hd1 hk hkq hkr hx hlt hkL
      go_upto_region 7 with fail
      go_region
      all_goals
        go_wp2
        go_roundw
        case rel =>
          rw [or_bit x HQ.out.2.1]
          exact ⟨i + 1, rfl, HQ.out.2.2, _, by rw [List.length_set]; exact HLL.out, ⟨HI.out.set kq (by rw [← HD.out.2.1]; exact HQ.out.1) _⟩⟩
        case measure => have := HQ.out; simp [intOf]; omega
    · have hi2 : ¬ (i : Int) < (m : Int) := by omega
      clear hlt
      go_wp2
      go_end0
      obtain ⟨q, hc, hq⟩ := HI.out.b.code
      exact ⟨rfl, g, l, q, hc, HI.out.low, HI.out.b.gr, hq⟩
end Go.Proofs.YtkdfbganhohbfaaDoor
