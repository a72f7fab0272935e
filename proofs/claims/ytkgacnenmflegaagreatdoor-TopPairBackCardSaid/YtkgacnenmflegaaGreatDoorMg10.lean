/-
  The generator's bits are laid, once.
  A code is made ready once; the length of its parity.
  The division walked.
  A new code; the parity of a chunk, and its length.
  Which geometries are good; the bytes of a page and of its payload.
-/
import Derived.Test.YtkgacnenmflegaaGreatDoorMg9
namespace Go.Proofs.YtkgacnenmflegaaGreatDoor
open Go.RowKit

def degN (t : Nat) : Nat := (genN t).log2
def lowN8 (t : Nat) : Nat := (degN t + 7) / 8
theorem degN_le : ∀ t, t < 9 → 1 ≤ t → 1 ≤ degN t ∧ degN t ≤ 13 * t := by decide +kernel
theorem make_bytes (m : Nat) (h : m ≤ 1000000) (W : World) :
    (Instr.makeSlice 73 (.int .i64 (m : Int)) (.int .i64 (m : Int))).run Tryz.prog W = .ok (.slice (some ⟨W.heap.size, 0, none⟩) m m) (W.alloc (.cells (madeCells #[.int .u8 0] m) 5)) :=
  run_make_row' 73 5 (.int .u8 0) 1 Tryz.underlying73 infoU8 rfl .i64 .i64 m (by omega) (by omega) W
/-- The other terms lie below the first one. -/
theorem gen_tail {t i : Nat} (ht : t ≤ 8) (hi : i + 1 < (listP (genN t)).length) : (listP (genN t)).getD (i + 1) 0 < degN t := by
  have h0 := (gen_lt t ht).2
  have hl := gen_lim ht
  have e : listP (genN t) = (genN t).log2 :: Poly.fall Poly.lim (genN t ^^^ 2 ^ (genN t).log2) := Poly.fall_top h0 hl
  rw [e] at hi ⊢
  simp only [List.length_cons] at hi
  have hm : (Poly.fall Poly.lim (genN t ^^^ 2 ^ (genN t).log2)).getD i 0 ∈ Poly.fall Poly.lim (genN t ^^^ 2 ^ (genN t).log2) := by
    rw [List.getD_eq_getElem?_getD, List.getElem?_eq_getElem (by omega)]
    exact List.getElem_mem _
  have h1 := (Poly.fall_mem.1 hm).2
  rw [List.getD_cons_succ]
  generalize (Poly.fall Poly.lim (genN t ^^^ 2 ^ (genN t).log2)).getD i 0 = x at *
  unfold degN
  rw [Nat.testBit_xor, Nat.testBit_two_pow] at h1
  rcases Nat.lt_trichotomy x (genN t).log2 with h2 | h2 | h2
  · exact h2
  · subst h2
    have h3 : (genN t).testBit (genN t).log2 = true := Poly.log2_tb h0
    rw [h3] at h1
    simp at h1
  · have h3 : (genN t).testBit x = false := Nat.testBit_lt_two_pow (Nat.lt_of_lt_of_le (Nat.lt_log2_self) (Nat.pow_le_pow_right (by omega) h2))
    rw [h3] at h1
    simp at h1
    omega

theorem gen_odd : ∀ t, t < 9 → 1 ≤ t → (genN t).testBit 0 = true := by decide +kernel
theorem gen_two {t : Nat} (ht : t ≤ 8) (h1 : 1 ≤ t) : 2 ≤ (listP (genN t)).length := by
  have h0 := (gen_lt t ht).2
  have hd := degN_le t (by omega) h1
  have e : listP (genN t) = (genN t).log2 :: Poly.fall Poly.lim (genN t ^^^ 2 ^ (genN t).log2) := Poly.fall_top h0 (gen_lim ht)
  have hm : 0 ∈ Poly.fall Poly.lim (genN t ^^^ 2 ^ (genN t).log2) := by
    refine Poly.fall_mem.2 ⟨by rw [Poly.lim_eq]; omega, ?_⟩
    rw [Nat.testBit_xor, Nat.testBit_two_pow, gen_odd t (by omega) h1]
    have : ¬ (genN t).log2 = 0 := by unfold degN at hd; omega
    simp [this]
  have := List.length_pos_of_mem hm
  rw [e, List.length_cons]
  omega
/-- A bit set. -/
def bitU (x : UInt8) (k : Nat) : UInt8 := UInt8.ofNat (x.toNat ||| 128 / 2 ^ k)
theorem or_bit (x : UInt8) {k : Nat} (_h : k < 8) : bits .or .u8 (x.toNat : Int) (128 / 2 ^ k) = ((bitU x k).toNat : Int) := by
  have hx := x.toNat_lt
  have h1 : 128 / 2 ^ k < 256 := Nat.lt_of_le_of_lt (Nat.div_le_self _ _) (by omega)
  have e : (128 / 2 ^ k : Int) = ((128 / 2 ^ k : Nat) : Int) := by push_cast; rfl
  rw [e, u8_or (by omega) h1]
  unfold bitU
  rw [UInt8.toNat_ofNat', Nat.mod_eq_of_lt]
  exact Nat.or_lt_two_pow (n := 8) (by omega) (by omega)
/-- The bit of a term below the first one. -/
def setB (t : Nat) (l : List UInt8) (e : Nat) : List UInt8 := l.set ((degN t - 1 - e) / 8) (bitU (l.getD ((degN t - 1 - e) / 8) 0) ((degN t - 1 - e) % 8))
def lowGK (t i : Nat) : List UInt8 := (((listP (genN t)).drop 1).take i).foldl (setB t) (List.replicate (lowN8 t) 0)
/-- The generator without its first term, as the parity's bits. -/
def lowG (t : Nat) : List UInt8 := ((listP (genN t)).drop 1).foldl (setB t) (List.replicate (lowN8 t) 0)
theorem lowGK_succ {t i : Nat} (h : i + 1 < (listP (genN t)).length) : lowGK t (i + 1) = setB t (lowGK t i) ((listP (genN t)).getD (i + 1) 0) := by
  have hd : i < ((listP (genN t)).drop 1).length := by rw [List.length_drop]; omega
  unfold lowGK
  rw [List.take_succ_eq_append_getElem hd, List.foldl_append, List.getElem_drop]
  simp only [List.foldl_cons, List.foldl_nil]
  congr 1
  rw [List.getD_eq_getElem?_getD, List.getElem?_eq_getElem h]
  simp [Nat.add_comm]
theorem lowGK_all (t : Nat) {m : Nat} (h : (listP (genN t)).length = m + 1) : lowGK t m = lowG t := by
  unfold lowGK lowG
  rw [List.take_of_length_le (by rw [List.length_drop]; omega)]
theorem setB_len (t : Nat) (l : List UInt8) (e : Nat) : (setB t l e).length = l.length := by simp [setB]
theorem lowGK_len (t i : Nat) : (lowGK t i).length = lowN8 t := by
  have h : ∀ (r l : List Nat) (z : List UInt8), (r.foldl (setB t) z).length = z.length := by
    intro r _ z
    induction r generalizing z with
    | nil => rfl
    | cons x r ih => rw [List.foldl_cons, ih, setB_len]
  unfold lowGK
  rw [h _ [], List.length_replicate]
/-- While the bits are laid. -/
structure BchAt (w : World) (c bx t n : Nat) (A : Option Addr) (cap : Nat) (dg lo : Value) (wr : World) : Prop where
  code : ∃ q, CF wr c t n (.int .u32 0) (.int .i32 1) (.int .u32 0) dg lo q ∧ q ≤ 1600
  row : Row wr w.heap.size 3 1 (.slice A (listP (genN t)).length cap) (listP (genN t)).length (intsV (Poly.ints (listP (genN t))))
  box : wr.cell? ⟨bx, 0, none⟩ = some (.pointer (some ⟨c, 0, none⟩))
  gr : w.grownBy wr (some c)
  lt : bx < w.heap.size ∧ bx ≠ c ∧ c < w.heap.size
theorem BchAt.set11 {w W : World} {c bx t n cap : Nat} {A : Option Addr} {dg lo : Value} (h : BchAt w c bx t n A cap dg lo W) (v : Value) : BchAt w c bx t n A cap v lo (W.setCell ⟨c, 11, none⟩ v).drew := by
  obtain ⟨q, hc, hq⟩ := h.code
  have g1 := grownBy_setCell W c 11 v
  refine ⟨⟨q, (hc.set11 v).drew, hq⟩, (h.row.kept g1 (.inr (hc.off h.row (by decide)))).drew, ?_, grownBy_drew (World.grownBy.trans h.gr g1), h.lt⟩
  exact (cell_setCell_far W 11 0 v (Ne.symm h.lt.2.1)).trans h.box
/-- The bits that are laid. -/
structure LowAt (w : World) (c bx t n : Nat) (A : Option Addr) (cap g : Nat) (l : List UInt8) (wr : World) : Prop where
  b : BchAt w c bx t n A cap (.int .i64 (degN t : Int)) (.slice (some ⟨g, 0, none⟩) (lowN8 t) (lowN8 t)) wr
  low : Row wr w.heap.size 5 1 (.slice (some ⟨g, 0, none⟩) (lowN8 t) (lowN8 t)) (lowN8 t) (bytesV l)
  new : w.heap.size ≤ g
theorem LowAt.start {w W : World} {c bx t n cap : Nat} {A : Option Addr} {lo : Value} (h : BchAt w c bx t n A cap (.int .i64 (degN t : Int)) lo W) (hL : lowN8 t ≤ 1000000) :
    LowAt w c bx t n A cap W.heap.size (List.replicate (lowN8 t) 0) ((W.setCell ⟨c, 12, none⟩ (.slice (some ⟨W.heap.size, 0, none⟩) (lowN8 t) (lowN8 t))).alloc (.cells (madeCells #[.int .u8 0] (lowN8 t)) 5)).drew := by
  obtain ⟨q, hc, hq⟩ := h.code
  obtain ⟨v, hv⟩ : ∃ v, v = Value.slice (some ⟨W.heap.size, 0, none⟩) (lowN8 t) (lowN8 t) := ⟨_, rfl⟩
  rw [← hv]
  have g1 := grownBy_setCell W c 12 v
  have g2 := World.grownBy_alloc (W.setCell ⟨c, 12, none⟩ v) (.cells (madeCells #[.int .u8 0] (lowN8 t)) 5) (some c)
  have hb2 := (Below.refl (W.setCell ⟨c, 12, none⟩ v).heap.size (W.setCell ⟨c, 12, none⟩ v)).alloc (Nat.le_refl _) (.cells (madeCells #[.int .u8 0] (lowN8 t)) 5)
  have hz := Row.zeros (W.setCell ⟨c, 12, none⟩ v) w.heap.size 5 (.int .u8 0) (lowN8 t) (by rw [size_setCell']; exact h.gr.size) (by simp only [maxLen]; omega)
  rw [size_setCell'] at hz
  refine ⟨⟨⟨q, ?_, hq⟩, ((h.row.kept g1 (.inr (hc.off h.row (by decide)))).below hb2).drew, ?_, grownBy_drew (World.grownBy.trans (World.grownBy.trans h.gr g1) g2), h.lt⟩, ?_, h.gr.size⟩
  · rw [← hv]
    exact ((hc.set12 v).below hb2).drew
  · have e1 : (W.setCell ⟨c, 12, none⟩ v).cell? ⟨bx, 0, none⟩ = some (.pointer (some ⟨c, 0, none⟩)) := (cell_setCell_far W 12 0 v (Ne.symm h.lt.2.1)).trans h.box
    exact g2.cell e1 (by simp; exact h.lt.2.1)
  · have e2 : bytesV (List.replicate (lowN8 t) 0) = List.replicate (lowN8 t) (.int .u8 0) := by simp [bytesV]
    rw [e2]
    exact hz.drew
theorem LowAt.set {w W : World} {c bx t n cap g : Nat} {A : Option Addr} {l : List UInt8} (h : LowAt w c bx t n A cap g l W) (k : Nat) (hk : k < lowN8 t) (b : UInt8) :
    LowAt w c bx t n A cap g (l.set k b) (W.setCell ⟨g, k, none⟩ (.int .u8 (b.toNat : Int))).drew := by
  obtain ⟨q, hc, hq⟩ := h.b.code
  have hs := h.low.store rfl k (by omega) (.int .u8 (b.toNat : Int))
  rw [Nat.zero_add] at hs
  have hlt := h.b.lt
  have hnew := h.new
  refine ⟨⟨⟨q, (hc.bytes h.low hs.2).drew, hq⟩, (h.b.row.kept hs.2 (Row.other h.b.row h.low (by decide))).drew, ?_, grownBy_drew (World.grownBy.andThen h.b.gr hs.2 ?_), hlt⟩, ?_, hnew⟩
  · exact (cell_setCell_far W k 0 _ (by omega)).trans h.b.box
  · intro j hj; injection hj with hj; left; omega
  · have e : bytesV (l.set k b) = (bytesV l).set k (.int .u8 (b.toNat : Int)) := by simp [bytesV, List.map_set]
    rw [e]
    exact hs.1.drew
def FillPost (w : World) (c t n : Nat) (e : Ending) (w' : World) : Prop :=
  e = .returned (.tuple #[]) ∧ ∃ g q, CF w' c t n (.int .u32 0) (.int .i32 1) (.int .u32 0) (.int .i64 (degN t : Int)) (.slice (some ⟨g, 0, none⟩) (lowN8 t) (lowN8 t)) q ∧ Row w' w.heap.size 5 1 (.slice (some ⟨g, 0, none⟩) (lowN8 t) (lowN8 t)) (lowN8 t) (bytesV (lowG t)) ∧ w.grownBy w' (some c) ∧ q ≤ 1600

set_option maxRecDepth 100000 in
set_option maxHeartbeats 2000000 in
theorem bch_fill (c bx t n : Nat) (w : World) (ht1 : 1 ≤ t) (ht8 : t ≤ 8) (hF : CF w c t n (.int .u32 0) (.int .i32 1) (.int .u32 0) (.int .i64 0) (.slice none 0 0) 0)
    (hbx : w.cell? ⟨bx, 0, none⟩ = some (.pointer (some ⟨c, 0, none⟩))) (hne : bx ≠ c) (hlt : bx < w.heap.size) :
    Calls Tryz.prog 144 #[.pointer (some ⟨bx, 0, none⟩)] w (FillPost w c t n) := by
  have hcl := hF.lt
  have c0 := hF.c0
  have HG : Aside (Calls Tryz.prog 145 #[.pointer (some ⟨c, 5, none⟩), .int .i64 (t : Int)] w.drew fun e w1 => ∃ A cap, e = .returned (.tuple #[.slice A (listP (genN t)).length cap, .bool true]) ∧ Aside (BchAt w c bx t n A cap (.int .i64 0) (.slice none 0 0) w1)) := ⟨by
    letI := hst t n (.int .u32 0) (.int .i32 1) (.int .u32 0) (.int .i64 0) (.slice none 0 0)
    refine (poly_generator c 0 t w.drew (by omega) hF.drew ht8 ht1).mono ?_
    rintro e w1 ⟨v, q, rfl, hF1, _, hq, hg', hr⟩
    have hg := World.grownBy.trans (grownBy_drew (World.grownBy.refl w (some c))) hg'
    obtain ⟨A, cap, rfl, _⟩ := hr.slice
    exact ⟨A, cap, rfl, ⟨⟨q, hF1, by omega⟩, hr, hg.cell hbx (by simp; omega), hg, hlt, hne, hcl⟩⟩⟩
  have HT := Aside.mk (And.intro ht1 ht8)
  clear hF ht1 ht8
  go_enter Tryz.func144, Tryz.ntmps144
  go_upto_region 0 with fail
  go_cut [1, 2] (fun s1 s2 wx => ∃ A cap, s1 = .slice A (listP (genN t)).length cap ∧ s2 = .bool true ∧ Aside (BchAt w c bx t n A cap (.int .i64 0) (.slice none 0 0) wx))
  case first =>
    go_region_with ((go_at_call 145; refine HG.out.mono ?_; rintro e w1 ⟨A, cap, rfl, H1⟩))
    all_goals
      go_wp2
      go_meet
      exact ⟨A, cap, rfl, rfl, ⟨H1.out⟩⟩
  case rest =>
  obtain ⟨A, cap, rfl, rfl, H1⟩ := hcut
  obtain ⟨⟨q1, hc1, hq1⟩, hr1, hb1, hg1, hl1⟩ := H1.out
  obtain ⟨hpos, hhead⟩ := listP_head (gen_lt t HT.out.2).2 (gen_lim HT.out.2)
  obtain ⟨b0, o0, cap', e0, x1, x2, x3⟩ := hr1.form (by omega)
  injection e0 with e0 e1 e2
  subst e0; subst e2
  clear e1 x1 x2 x3
  obtain ⟨y0, _⟩ := hr1.at_ rfl 0 hpos
  obtain ⟨d, hd⟩ : ∃ d, d = degN t := ⟨_, rfl⟩
  replace y0 : wc.cell? ⟨b0, o0, none⟩ = some (.int .i64 (d : Int)) := by
    rw [Nat.add_zero] at y0
    rw [y0, hd]
    unfold degN
    rw [← hhead]
    simp [intsV, Poly.ints, List.getD_eq_getElem?_getD, hpos]
  have z11 := hc1.free 11
  have c11 := hc1.c11
  have hn0 : (0 : Int) < ((listP (genN t)).length : Int) := by omega
  obtain ⟨L, hL⟩ : ∃ L, L = lowN8 t := ⟨_, rfl⟩
  have hd2 := degN_le t (by have := HT.out; omega) HT.out.1
  have hLd : L = (d + 7) / 8 := by rw [hL, hd]; rfl
  have hd3 : 1 ≤ d ∧ d ≤ 104 := by have := HT.out; omega
  have HD := Aside.mk (And.intro hd (And.intro hL (And.intro hLd hd3)))
  clear hd hL hLd hd2 hhead hr1 hg1 hq1 hc1 hbx hne hlt hcl c0 HG hl1
  apply_assumption
  go_upto_region 1 with fail
  go_cut [1] (fun s1 wx => s1 = .slice (some ⟨b0, o0, none⟩) (listP (genN t)).length cap ∧ Aside (BchAt w c bx t n (some ⟨b0, o0, none⟩) cap (.int .i64 (d : Int)) (.slice none 0 0) wx))
  case first =>
    go_region
    all_goals
      go_wp2
      go_meet
      exact ⟨rfl, ⟨H1.out.set11 _⟩⟩
  case rest =>
  obtain ⟨rfl, H2⟩ := hcut
  clear H1 y0 hb1 z11 c11
  obtain ⟨⟨q1, hc1, hq1⟩, hr1, hb1, hg1, hl1⟩ := H2.out
  have z12 := hc1.free 12
  have c12 := hc1.c12
  have c11 := hc1.c11
  obtain ⟨d7, hd7⟩ : ∃ x, x = d + 7 := ⟨_, rfl⟩
  have w7 : IntKind.i64.wrap ((d : Int) + 7) = (d7 : Int) := by have := HD.out; rw [IntKind.wrap_i64]; omega
  have hq9 : (d7 : Int) / 8 = (L : Int) := by have := HD.out; omega
  have hq8 : (d7 : Int).tdiv 8 = (L : Int) := by rw [Int.tdiv_eq_ediv_of_nonneg (by omega)]; exact hq9
  have wL : IntKind.i64.wrap (L : Int) = (L : Int) := by have := HD.out; rw [IntKind.wrap_i64]; omega
  clear hd7
  have hmk := make_bytes L (by have := HD.out; omega)
  have hcl := hc1.lt
  have hbl : bx < wc.heap.size := by have := hg1.size; omega
  clear hq1 hr1 hg1 hl1 hc1
  apply_assumption
  go_upto_region 2 with fail
  go_cut [1] (fun s1 wx => s1 = .slice (some ⟨b0, o0, none⟩) (listP (genN t)).length cap ∧ ∃ g, Aside (LowAt w c bx t n (some ⟨b0, o0, none⟩) cap g (List.replicate L 0) wx))
  case first =>
    go_region
    all_goals
      go_wp2
      go_meet
      have h := LowAt.start (HD.out.1 ▸ H2.out) (by rw [← HD.out.2.1]; have := HD.out; omega)
      rw [← HD.out.2.1] at h
      exact ⟨rfl, _, ⟨h⟩⟩
  case rest =>
  obtain ⟨rfl, g, H3⟩ := hcut
  clear H2 hb1 z12 c12 c11 w7 hq9 hq8 wL hmk hcl hbl
  obtain ⟨m, hm⟩ : ∃ m, (listP (genN t)).length = m + 1 := ⟨(listP (genN t)).length - 1, by omega⟩
  have HM := Aside.mk hm
  rw [hm]
  have hm1 : 1 ≤ m := by have := gen_two HT.out.2 HT.out.1; omega
  obtain ⟨A', c', e5, x4, hcc, hcm, x5⟩ := H3.out.b.row.readInts
  injection e5 with e5 e6 e7
  subst e7
  have hcap : ¬ cap = 1 := by omega
  have hml := listP_le (genN t)
  have HM1 := Aside.mk (And.intro hm1 (show m ≤ 16384 by omega))
  clear hm hpos hn0 hd3 e5 e6 hcc hcm hm1 x4 x5 hml
  apply_assumption
  go_upto_region 4 with fail
  go_loopw [36] (fun s36 wr => ∃ i : Nat, s36 = .int .i64 (i : Int) ∧ i ≤ m ∧ Aside (LowAt w c bx t n (some ⟨b0, o0, none⟩) cap g (lowGK t i) wr)) (fun s36 _ => m - (intOf s36).toNat)
  case atStart => exact ⟨0, rfl, by omega, by rw [HD.out.2.1] at H3; exact H3⟩
  case round =>
    obtain ⟨i, rfl, him, HI⟩ := hrel
    obtain ⟨l, hlk⟩ : ∃ l, l = lowGK t i := ⟨_, rfl⟩
    rw [← hlk] at HI
    have hll : l.length = L := by rw [hlk, lowGK_len, HD.out.2.1]
    have HLK := Aside.mk hlk
    clear hlk
    have HLL := Aside.mk hll
    clear hll
    have hi1 : IntKind.i64.wrap ((i : Int) + 1) = ((i + 1 : Nat) : Int) := by have := HM1.out; rw [IntKind.wrap_i64]; omega
    by_cases hlt : i < m
    · obtain ⟨q, hc, hq⟩ := HI.out.b.code
      obtain ⟨y0, _⟩ := HI.out.b.row.at_ rfl (i + 1) (by have := HM.out; omega)
      obtain ⟨e, he⟩ : ∃ e, e = (listP (genN t)).getD (i + 1) 0 := ⟨_, rfl⟩
      have hed : e < d := by rw [he, HD.out.1]; exact gen_tail HT.out.2 (by have := HM.out; omega)
      replace y0 : wr.cell? ⟨b0, o0 + 1 + i, none⟩ = some (.int .i64 (e : Int)) := by
        have e1 : o0 + 1 + i = o0 + (i + 1) := by omega
        have hl : i + 1 < (listP (genN t)).length := by have := HM.out; omega
        rw [e1, y0, he]
        simp [intsV, Poly.ints, List.getD_eq_getElem?_getD, hl]
      have hbx := HI.out.b.box
      have c11 := hc.c11
      have c12 := hc.c12
      rw [← HD.out.1] at c11
      rw [← HD.out.2.1] at c12
      obtain ⟨d1, hd1⟩ : ∃ x, x = d - 1 := ⟨_, rfl⟩
      obtain ⟨k, hk⟩ : ∃ x, x = d1 - e := ⟨_, rfl⟩
      obtain ⟨kq, hkq⟩ : ∃ x, x = k / 8 := ⟨_, rfl⟩
      obtain ⟨kr, hkr⟩ : ∃ x, x = k % 8 := ⟨_, rfl⟩
      have hkL : kq < L := by have := HD.out; omega
      obtain ⟨y1, z1⟩ := HI.out.low.at_ rfl kq (by rw [← HD.out.2.1]; exact hkL)
      obtain ⟨x, hx⟩ : ∃ x, x = l.getD kq 0 := ⟨_, rfl⟩
      replace y1 : wr.cell? ⟨g, kq, none⟩ = some (.int .u8 (x.toNat : Int)) := by
        have := HLL.out
        rw [Nat.zero_add] at y1
        rw [y1, hx]
        simp [bytesV, List.getD_eq_getElem?_getD, show kq < l.length by omega]
      rw [Nat.zero_add] at z1
      have w1 : IntKind.i64.wrap ((d : Int) - 1) = (d1 : Int) := by have := HD.out; rw [IntKind.wrap_i64]; omega
      have w2 : IntKind.i64.wrap ((d1 : Int) - (e : Int)) = (k : Int) := by have := HD.out; rw [IntKind.wrap_i64]; omega
      have q1 : (k : Int).tdiv 8 = (kq : Int) := by rw [Int.tdiv_eq_ediv_of_nonneg (by omega)]; omega
      have q2 : (k : Int) / 8 = (kq : Int) := by omega
      have q3 : (k : Int).tmod 8 = (kr : Int) := by rw [Int.tmod_eq_emod_of_nonneg (by omega)]; omega
      have q4 : (k : Int) % 8 = (kr : Int) := by omega
      have q5 : IntKind.i64.wrap (kq : Int) = (kq : Int) := by have := HD.out; rw [IntKind.wrap_i64]; omega
      have q6 : IntKind.i64.wrap (kr : Int) = (kr : Int) := by rw [IntKind.wrap_i64]; omega
      have q7 : (kq : Int) < (L : Int) := by omega
      have q8 : (0 : Int) ≤ (kq : Int) := by omega
      have q9 : (0 : Int) ≤ (kr : Int) := by omega
      have hkr8 : kr < 8 := by omega
      have hlt2 : (i : Int) < (m : Int) := by omega
      have hi0 : (0 : Int) ≤ (i : Int) := by omega
      have hnew : l.set kq (bitU x kr) = lowGK t (i + 1) := by
        rw [lowGK_succ (by have := HM.out; omega), ← HLK.out]
        unfold setB
        rw [← HD.out.1, ← he, hx, hkq, hkr, hk, hd1]
      have HQ := Aside.mk (And.intro hkL (And.intro hkr8 (And.intro hlt hnew)))
      clear hnew hc hq he hed hd1 hk hkq hkr hx hlt hkL
      go_upto_region 7 with fail
      go_region
      all_goals
        go_wp2
        go_roundw
        case rel =>
          rw [or_bit x HQ.out.2.1]
          exact ⟨i + 1, rfl, HQ.out.2.2.1, ⟨HQ.out.2.2.2 ▸ HI.out.set kq (by rw [← HD.out.2.1]; exact HQ.out.1) _⟩⟩
        case measure => have := HQ.out; simp [intOf]; omega
    · have hi2 : ¬ (i : Int) < (m : Int) := by omega
      clear hlt
      go_wp2
      go_end0
      obtain ⟨q, hc, hq⟩ := HI.out.b.code
      have hlow := HI.out.low
      rw [HLK.out, show i = m by omega, lowGK_all t HM.out] at hlow
      exact ⟨rfl, g, q, hc, hlow, HI.out.b.gr, hq⟩
end Go.Proofs.YtkgacnenmflegaaGreatDoor
namespace Go.Proofs.YtkgacnenmflegaaGreatDoor
open Go.RowKit

/-- A code that is ready: its generator's bits. -/
structure BReady (w : World) (c t n g : Nat) (l : List UInt8) (q : Nat) : Prop where
  code : CF w c t n (.int .u32 1) (.int .i32 0) (.int .u32 0) (.int .i64 (degN t : Int)) (.slice (some ⟨g, 0, none⟩) (lowN8 t) (lowN8 t)) q
  low : Row w 0 5 1 (.slice (some ⟨g, 0, none⟩) (lowN8 t) (lowN8 t)) (lowN8 t) (bytesV l)
/-- A code that is new. -/
def BNew (w : World) (c t n : Nat) : Prop := CF w c t n (.int .u32 0) (.int .i32 0) (.int .u32 0) (.int .i64 0) (.slice none 0 0) 0
theorem BReady.below {w w' : World} {c t n g q : Nat} {l : List UInt8} (h : BReady w c t n g l q) (hb : Below w.heap.size w w') : BReady w' c t n g l q := ⟨h.code.below hb, h.low.below hb⟩
def ReadyPost (w : World) (c t n : Nat) (e : Ending) (w' : World) : Prop := e = .returned (.tuple #[]) ∧ (∃ g q, BReady w' c t n g (lowG t) q) ∧ w.grownBy w' (some c)
set_option maxRecDepth 100000 in
set_option maxHeartbeats 1600000 in
theorem bch_slow (c bx t n : Nat) (w : World) (ht1 : 1 ≤ t) (ht8 : t ≤ 8) (hF : BNew w c t n) (hbx : w.cell? ⟨bx, 0, none⟩ = some (.pointer (some ⟨c, 0, none⟩))) (hne : bx ≠ c) (hlt : bx < w.heap.size) :
    Calls Tryz.prog 172 #[.pointer (some ⟨c, 2, none⟩), .func (.func 144) #[] #[.pointer (some ⟨bx, 0, none⟩)]] w (ReadyPost w c t n) := by
  have h1 := CF.set3 hF (.int .i32 1)
  have c0 : (w.setCell ⟨c, 3, none⟩ (.int .i32 1)).cell? ⟨c, 2, none⟩ = some (.int .u32 0) := h1.c2
  have l0 : w.cell? ⟨c, 3, none⟩ = some (.int .i32 0) := CF.c3 hF
  have z0 : w.frozen? ⟨c, 3, none⟩ = false := CF.free hF 3
  have hb1 : (w.setCell ⟨c, 3, none⟩ (.int .i32 1)).cell? ⟨bx, 0, none⟩ = some (.pointer (some ⟨c, 0, none⟩)) := by rw [cell_setCell_far _ _ _ _ (Ne.symm hne)]; exact hbx
  have hg1 := grownBy_setCell w c 3 (.int .i32 1)
  have hs1 := size_setCell' w ⟨c, 3, none⟩ (.int .i32 1)
  have HA := Aside.mk (And.intro h1 (And.intro c0 (And.intro hb1 (And.intro hg1 (And.intro hs1 (And.intro l0 z0))))))
  have HT := Aside.mk (And.intro ht1 ht8)
  clear h1 c0 hb1 hg1 hs1 l0 z0 ht1 ht8
  go_enter_defers Tryz.func172, Tryz.ntmps172
  go_wp2_with (first | (go_at_call 200; refine (Once.lock_free ⟨c, 3, none⟩ _ HA.out.2.2.2.2.2.1 HA.out.2.2.2.2.2.2).mono ?_; rintro e w1 ⟨rfl, rfl⟩) | (go_at_call 171; refine (Once.bool_load ⟨c, 2, none⟩ 0 false _ HA.out.2.1 rfl).mono ?_; rintro e w1 ⟨rfl, rfl⟩) | (go_at_call 144; refine (bch_fill c bx t n _ HT.out.1 HT.out.2 HA.out.1 HA.out.2.2.1 hne (by rw [HA.out.2.2.2.2.1]; exact hlt)).mono ?_; rintro e w2 ⟨rfl, g, q, hT, hrow, hgr, hq⟩))
  refine leaves_cons (f := 202) (args := #[.pointer (some ⟨c, 2, none⟩), .bool true]) (by simp) (by simp [go_sem]) ?_
  refine (Once.store_deferred ⟨c, 2, none⟩ (.int .u32 0) .returning _ hT.c2 (hT.free 2)).mono ?_
  rintro e u' w3 ⟨rfl, rfl, rfl⟩
  have hF3 := CF.set2 hT.drew (.int .u32 1)
  refine leaves_cons (f := 201) (args := #[.pointer (some ⟨c, 3, none⟩)]) (by simp [settle]) (by simp [go_sem]) ?_
  refine (Once.unlock_deferred ⟨c, 3, none⟩ _ _ hF3.c3 (hF3.free 3)).mono ?_
  rintro e u' w4 ⟨rfl, rfl, rfl⟩
  have hF4 := CF.set3 hF3 (.int .i32 0)
  have g1 := grownBy_setCell w2.drew c 2 (.int .u32 1)
  have g2 := grownBy_setCell (w2.drew.setCell ⟨c, 2, none⟩ (.int .u32 1)) c 3 (.int .i32 0)
  have hoff := hT.off hrow (by decide)
  have hP : ReadyPost w c t n (.returned (.tuple #[])) ((w2.drew.setCell ⟨c, 2, none⟩ (.int .u32 1)).setCell ⟨c, 3, none⟩ (.int .i32 0)) := by
    refine ⟨rfl, ⟨g, q, hF4, (((hrow.mono (Nat.zero_le _)).drew.kept g1 (.inr hoff)).kept g2 (.inr hoff))⟩, ?_⟩
    exact World.grownBy.trans (World.grownBy.trans (World.grownBy.trans HA.out.2.2.2.1 hgr) (grownBy_drew (World.grownBy.refl _ _))) (World.grownBy.trans g1 g2)
  simp [Leaves, settle, results, Tryz.results172]
  exact hP
/-- Not yet done. -/
theorem bch_first (c bx t n : Nat) (w : World) (ht1 : 1 ≤ t) (ht8 : t ≤ 8) (hF : BNew w c t n) (hbx : w.cell? ⟨bx, 0, none⟩ = some (.pointer (some ⟨c, 0, none⟩))) (hne : bx ≠ c) (hlt : bx < w.heap.size) :
    Calls Tryz.prog 143 #[.pointer (some ⟨c, 2, none⟩), .func (.func 144) #[] #[.pointer (some ⟨bx, 0, none⟩)]] w (ReadyPost w c t n) := by
  have c0 : w.cell? ⟨c, 2, none⟩ = some (.int .u32 0) := CF.c2 hF
  have HT := Aside.mk (And.intro ht1 ht8)
  clear ht1 ht8
  go_enter Tryz.func143, Tryz.ntmps143
  go_wp2_with (first | (go_at_call 171; refine (Once.bool_load ⟨c, 2, none⟩ 0 false _ c0 rfl).mono ?_; rintro e w1 ⟨rfl, rfl⟩) | (go_at_call 172; refine (bch_slow c bx t n _ HT.out.1 HT.out.2 hF hbx hne hlt).mono ?_; rintro e w2 ⟨rfl, hM, hg⟩))
  go_end0
  exact ⟨rfl, hM, hg⟩
/-- Done already. -/
theorem bch_again (c : Nat) (fv : Value) (w : World) (hc : w.cell? ⟨c, 2, none⟩ = some (.int .u32 1)) :
    Calls Tryz.prog 143 #[.pointer (some ⟨c, 2, none⟩), fv] w fun e w' => e = .returned (.tuple #[]) ∧ w' = w := by
  go_enter Tryz.func143, Tryz.ntmps143
  go_wp2_with (go_at_call 171; refine (Once.bool_load ⟨c, 2, none⟩ 1 true _ hc rfl).mono ?_; rintro e w1 ⟨rfl, rfl⟩)
  go_end0
  exact ⟨rfl, rfl⟩
set_option maxHeartbeats 800000 in
/-- Ready, the first time. -/
theorem bch_ready (c t n : Nat) (w : World) (ht1 : 1 ≤ t) (ht8 : t ≤ 8) (hF : BNew w c t n) :
    Calls Tryz.prog 101 #[.pointer (some ⟨c, 0, none⟩)] w (ReadyPost w c t n) := by
  have hmf : ∀ (fn : Fn) (first cap : Array Value) (w : World), (Instr.makeFunc fn first cap).run Tryz.prog w = .ok (.func fn first cap) w := fun _ _ _ _ => rfl
  have hfl := CF.lt hF
  have g0 := World.grownBy_alloc w (.cells #[.pointer (some ⟨c, 0, none⟩)] 129) (some c)
  have b0 : (w.alloc (.cells #[.pointer (some ⟨c, 0, none⟩)] 129)).cell? ⟨w.heap.size, 0, none⟩ = some (.pointer (some ⟨c, 0, none⟩)) := by simp
  have hF1 : BNew (w.alloc (.cells #[.pointer (some ⟨c, 0, none⟩)] 129)) c t n := CF.below hF ((Below.refl w.heap.size w).alloc (Nat.le_refl _) (.cells #[.pointer (some ⟨c, 0, none⟩)] 129))
  have HA := Aside.mk (And.intro g0 (And.intro b0 hF1))
  have HT := Aside.mk (And.intro ht1 ht8)
  clear g0 b0 hF1 hF ht1 ht8
  go_enter Tryz.func101, Tryz.ntmps101
  go_wp2_with (go_at_call 143; refine (bch_first c w.heap.size t n _ HT.out.1 HT.out.2 HA.out.2.2 HA.out.2.1 (by omega) (by simp)).mono ?_; rintro e w2 ⟨rfl, hM, hg⟩)
  go_end0
  exact ⟨rfl, hM, World.grownBy.trans HA.out.1 hg⟩
/-- Ready already. -/
theorem bch_ready_at (c t n g q : Nat) (l : List UInt8) (w : World) (hF : BReady w c t n g l q) :
    Calls Tryz.prog 101 #[.pointer (some ⟨c, 0, none⟩)] w fun e w' => e = .returned (.tuple #[]) ∧ Below w.heap.size w w' := by
  have hmf : ∀ (fn : Fn) (first cap : Array Value) (w : World), (Instr.makeFunc fn first cap).run Tryz.prog w = .ok (.func fn first cap) w := fun _ _ _ _ => rfl
  have hb := (Below.refl w.heap.size w).alloc (Nat.le_refl _) (.cells #[.pointer (some ⟨c, 0, none⟩)] 129)
  have c0 := (hF.below hb).code.c2
  have HC := Aside.mk c0
  clear c0 hF
  go_enter Tryz.func101, Tryz.ntmps101
  go_wp2_with (go_at_call 143; refine (bch_again c _ _ HC.out).mono ?_; rintro e w2 ⟨rfl, rfl⟩)
  go_end0
  exact ⟨rfl, hb⟩
end Go.Proofs.YtkgacnenmflegaaGreatDoor
namespace Go.Proofs.YtkgacnenmflegaaGreatDoor
open Go.RowKit

/-- The remainder so far; what was there stays. -/
structure DivAt (w : World) (c t n g q : Nat) (l : List UInt8) (h : Nat) (r : List UInt8) (wr : World) : Prop where
  len : r.length = lowN8 t
  row : Row wr w.heap.size 5 1 (.slice (some ⟨h, 0, none⟩) (lowN8 t) (lowN8 t)) (lowN8 t) (bytesV r)
  new : w.heap.size ≤ h
  bel : Below w.heap.size w wr
theorem DivAt.code {w wr : World} {c t n g q h : Nat} {l r : List UInt8} (d : DivAt w c t n g q l h r wr) (hb : BReady w c t n g l q) : BReady wr c t n g l q := hb.below d.bel
theorem BReady.len {w : World} {c t n g q : Nat} {l : List UInt8} (h : BReady w c t n g l q) : l.length = lowN8 t := by
  have := h.low.1
  rw [bytesV_length] at this
  omega
theorem DivAt.start {w : World} {c t n g q : Nat} {l : List UInt8} (hL : lowN8 t ≤ 1000000) : DivAt w c t n g q l w.heap.size (List.replicate (lowN8 t) 0) (w.alloc (.cells (madeCells #[.int .u8 0] (lowN8 t)) 5)) := by
  refine ⟨by simp, ?_, Nat.le_refl _, (Below.refl _ _).alloc (Nat.le_refl _) _⟩
  have e2 : bytesV (List.replicate (lowN8 t) 0) = List.replicate (lowN8 t) (.int .u8 0) := by simp [bytesV]
  rw [e2]
  exact Row.zeros w w.heap.size 5 (.int .u8 0) (lowN8 t) (Nat.le_refl _) (by simp only [maxLen]; omega)
theorem DivAt.set {w wr : World} {c t n g q h : Nat} {l r : List UInt8} (d : DivAt w c t n g q l h r wr) (k : Nat) (hk : k < lowN8 t) (b : UInt8) :
    DivAt w c t n g q l h (r.set k b) (wr.setCell ⟨h, k, none⟩ (.int .u8 (b.toNat : Int))).drew := by
  have hs := d.row.store rfl k (by omega) (.int .u8 (b.toNat : Int))
  rw [Nat.zero_add] at hs
  refine ⟨by rw [List.length_set]; exact d.len, ?_, d.new, (d.bel.setCell d.new _).drew⟩
  have e : bytesV (r.set k b) = (bytesV r).set k (.int .u8 (b.toNat : Int)) := by simp only [bytesV, List.map_set]
  rw [e]
  exact hs.1.drew
theorem DivAt.left {w wr w' : World} {c t n g q h : Nat} {l r : List UInt8} {e : Ending} (d : DivAt w c t n g q l h r wr) (hp : LeftPost wr.drew w.heap.size h (lowN8 t) (lowN8 t) r e w') :
    e = .returned (.int .u8 ((leftL r).2.toNat : Int)) ∧ DivAt w c t n g q l h (leftL r).1 w' := by
  obtain ⟨he, hr, hg⟩ := hp
  exact ⟨he, ⟨by rw [leftL_len, d.len], hr, d.new, d.bel.drew.trans ((Below.refl w.heap.size wr.drew).grown hg d.bel.size (fun r hr => by injection hr with hr; have := d.new; omega))⟩⟩
def DivPost (w : World) (t : Nat) (l : List UInt8) (s : ByteArray) (e : Ending) (w' : World) : Prop :=
  ∃ h, e = .returned (.slice (some ⟨h, 0, none⟩) (lowN8 t) (lowN8 t)) ∧ Row w' w.heap.size 5 1 (.slice (some ⟨h, 0, none⟩) (lowN8 t) (lowN8 t)) (lowN8 t) (bytesV (divD l (List.replicate (lowN8 t) 0) s.data.toList)) ∧ Below w.heap.size w w'
theorem and_bit_all : ∀ n : Nat, n < 256 → ∀ j : Nat, j < 8 → bits .and .u8 ((n : Int) / 2 ^ j) 1 = ((bitAt (UInt8.ofNat n) j).toNat : Int) := by decide +kernel
theorem and_bit (x : UInt8) {j : Nat} (hj : j < 8) : bits .and .u8 ((x.toNat : Int) / 2 ^ j) 1 = ((bitAt x j).toNat : Int) := by
  have := and_bit_all x.toNat x.toNat_lt j hj
  rwa [UInt8.ofNat_toNat] at this
/-- The first k places changed. -/
def xorTo (r l : List UInt8) (k : Nat) : List UInt8 := xorL (r.take k) (l.take k) ++ r.drop k
theorem xorTo_all {r l : List UInt8} (h : r.length = l.length) : xorTo r l r.length = xorL r l := by
  unfold xorTo
  rw [List.take_length, h, List.take_length, ← h, List.drop_length, List.append_nil]
theorem xorTo_len {r l : List UInt8} (h : r.length = l.length) {k : Nat} (hk : k ≤ r.length) : (xorTo r l k).length = r.length := by
  unfold xorTo
  rw [List.length_append, xorL_len (by rw [List.length_take, List.length_take, h]), List.length_take, List.length_drop]
  omega
theorem xorTo_at {r l : List UInt8} (h : r.length = l.length) {k : Nat} (hk : k < r.length) : (xorTo r l k).getD k 0 = r.getD k 0 := by
  have h1 : (xorL (r.take k) (l.take k)).length = k := by rw [xorL_len (by rw [List.length_take, List.length_take, h]), List.length_take]; omega
  unfold xorTo
  rw [List.getD_eq_getElem?_getD, List.getElem?_append_right (by omega), h1, Nat.sub_self, List.getElem?_drop, Nat.add_zero, List.getD_eq_getElem?_getD]
theorem xorTo_set {r l : List UInt8} (h : r.length = l.length) {k : Nat} (hk : k < r.length) : (xorTo r l k).set k (r.getD k 0 ^^^ l.getD k 0) = xorTo r l (k + 1) := by
  have hl : k < l.length := by omega
  have h1 : (xorL (r.take k) (l.take k)).length = k := by rw [xorL_len (by rw [List.length_take, List.length_take, h]), List.length_take]; omega
  have e1 : r.take (k + 1) = r.take k ++ [r.getD k 0] := by rw [List.take_add_one, List.getElem?_eq_getElem hk, List.getD_eq_getElem?_getD, List.getElem?_eq_getElem hk]; rfl
  have e2 : l.take (k + 1) = l.take k ++ [l.getD k 0] := by rw [List.take_add_one, List.getElem?_eq_getElem hl, List.getD_eq_getElem?_getD, List.getElem?_eq_getElem hl]; rfl
  unfold xorTo
  rw [List.set_append_right _ _ (by omega), h1, Nat.sub_self, List.drop_eq_getElem_cons hk, e1, e2]
  have e3 : xorL (r.take k ++ [r.getD k 0]) (l.take k ++ [l.getD k 0]) = xorL (r.take k) (l.take k) ++ [r.getD k 0 ^^^ l.getD k 0] := by
    unfold xorL
    rw [List.zipWith_append (by rw [List.length_take, List.length_take, h])]
    rfl
  rw [e3, List.append_assoc]
  rfl
theorem u8_xorN {a b : Nat} (ha : a < 256) (hb : b < 256) : bits .xor .u8 (a : Int) (b : Int) = ((a ^^^ b : Nat) : Int) := by
  have hx : a ^^^ b < 2 ^ 8 := Nat.xor_lt_two_pow (by omega) (by omega)
  show IntKind.u8.wrap ((BitVec.ofInt 8 (a : Int) ^^^ BitVec.ofInt 8 (b : Int)).toNat : Int) = _
  rw [BitVec.toNat_xor, BitVec.toNat_ofInt, BitVec.toNat_ofInt]
  have e1 : ((a : Int) % ((2 ^ 8 : Nat) : Int)).toNat = a := by omega
  have e2 : ((b : Int) % ((2 ^ 8 : Nat) : Int)).toNat = b := by omega
  rw [e1, e2, IntKind.wrap_u8]
  omega
theorem divD_snoc (low : List UInt8) (t : List UInt8) (x : UInt8) : ∀ r, divD low r (t ++ [x]) = byteD low x (divD low r t) := by
  induction t with
  | nil => intro r; rfl
  | cons y t ih => intro r; exact ih _
theorem take_snoc_byte (s : ByteArray) {k : Nat} (h : k < s.size) : s.data.toList.take (k + 1) = s.data.toList.take k ++ [s[k]] := by
  rw [List.take_add_one, List.getElem?_eq_getElem (by rw [data_len]; exact h)]
  rfl
set_option maxRecDepth 100000 in
set_option maxHeartbeats 2000000 in
theorem bch_divide (c t n g q : Nat) (l : List UInt8) (s : ByteArray) (w : World) (ht8 : t ≤ 8) (ht1 : 1 ≤ t) (hR : BReady w c t n g l q) (hs : s.size ≤ 1000000) :
    Calls Tryz.prog 106 #[.pointer (some ⟨c, 0, none⟩), .string s] w (DivPost w t l s) := by
  have hd2 := degN_le t (by omega) ht1
  obtain ⟨L, hL⟩ : ∃ L, L = lowN8 t := ⟨_, rfl⟩
  have hL1 : L ≤ 1000 := by rw [hL]; unfold lowN8; omega
  have c12 := hR.code.c12
  rw [← hL] at c12
  have hmk := make_bytes L (by omega)
  have hcl := hR.code.lt
  have H0 := Aside.mk (DivAt.start (w := w) (c := c) (t := t) (n := n) (g := g) (q := q) (l := l) (by omega))
  rw [← hL] at H0
  have HR := Aside.mk (And.intro hR (And.intro hL (And.intro hL1 hs)))
  have HP : Aside (∀ e w', (∃ h, e = .returned (.slice (some ⟨h, 0, none⟩) L L) ∧ DivAt w c t n g q l h (divD l (List.replicate L 0) s.data.toList) w') → DivPost w t l s e w') := ⟨by
    rintro e w' ⟨h, rfl, hd⟩
    rw [hL] at hd ⊢
    exact ⟨h, rfl, hd.row, hd.bel⟩⟩
  clear hR hL hL1 hs hd2 ht8 ht1
  go_enter Tryz.func106, Tryz.ntmps106
  go_upto_region 3 with fail
  obtain ⟨h, hh⟩ : ∃ h, h = w.heap.size := ⟨_, rfl⟩
  rw [← hh] at H0 ⊢
  generalize w.alloc (.cells (madeCells #[.int .u8 0] L) 5) = w1 at *
  clear hh hmk c12 hcl
  go_loopw [17] (fun s17 wr => ∃ i : Nat, s17 = .int .i64 (i : Int) ∧ i ≤ s.size ∧ Aside (DivAt w c t n g q l h (divD l (List.replicate L 0) (s.data.toList.take i)) wr)) (fun s17 _ => s.size - (intOf s17).toNat)
  case atStart => exact ⟨0, rfl, Nat.zero_le _, H0⟩
  case round =>
    obtain ⟨i, rfl, hi, HI⟩ := hrel
    have hi1 : IntKind.i64.wrap ((i : Int) + 1) = ((i + 1 : Nat) : Int) := by have := HR.out; rw [IntKind.wrap_i64]; omega
    by_cases hlt : i < s.size
    · obtain ⟨r0, hr0⟩ : ∃ r0, r0 = divD l (List.replicate L 0) (s.data.toList.take i) := ⟨_, rfl⟩
      rw [← hr0] at HI
      have h2 : (i : Int) < (s.size : Int) := by omega
      have hi0 : (0 : Int) ≤ (i : Int) := by omega
      obtain ⟨x, hx⟩ : ∃ x, x = s[i] := ⟨_, rfl⟩
      have HX := Aside.mk (And.intro hr0 (And.intro hlt hx))
      clear hr0 hx
      go_wp2
      go_loopw [7] (fun s7 w5 => ∃ k : Nat, s7 = .int .i64 ((k : Int) - 1) ∧ k ≤ 8 ∧ ∃ r, Aside (DivAt w c t n g q l h r w5 ∧ bitsD l x r k = byteD l x r0)) (fun s7 _ => (intOf s7 + 1).toNat)
      case atStart => exact ⟨8, rfl, by omega, r0, ⟨HI.out, by unfold byteD; rfl⟩⟩
      case round =>
        obtain ⟨k, rfl, hk, r, HK⟩ := hrel
        by_cases h0 : k = 0
        · subst h0
          have h3 : ¬ (0 : Int) ≤ ((0 : Nat) : Int) - 1 := by omega
          go_wp2
          go_roundw
          case rel =>
            obtain ⟨hr0, hlt, hx⟩ := HX.out
            refine ⟨i + 1, rfl, hlt, ⟨?_⟩⟩
            have e2 : divD l (List.replicate L 0) (s.data.toList.take (i + 1)) = r := by
              rw [take_snoc_byte s hlt, divD_snoc, ← hr0, ← hx, ← HK.out.2]
              rfl
            rw [e2]
            exact HK.out.1
          case measure => have := HX.out; simp [intOf]; omega
        · obtain ⟨j, rfl⟩ : ∃ j, k = j + 1 := ⟨k - 1, by omega⟩
          have e1 : (((j + 1 : Nat) : Int) - 1) = (j : Int) := by omega
          rw [e1]
          have h3 : (0 : Int) ≤ (j : Int) := by omega
          obtain ⟨on, hon⟩ : ∃ z, z = (leftL r).2.toNat := ⟨_, rfl⟩
          obtain ⟨bn, hbn⟩ : ∃ z, z = (bitAt x j).toNat := ⟨_, rfl⟩
          obtain ⟨xn, hxn⟩ : ∃ z, z = x.toNat := ⟨_, rfl⟩
          have hxi : (s[i].toNat : Int) = (xn : Int) := by rw [hxn, HX.out.2.2]
          have hj8 : j < 8 := by omega
          have hsh : bits .and .u8 ((xn : Int) / 2 ^ j) 1 = (bn : Int) := by rw [hxn, hbn]; exact and_bit x hj8
          have HLF : Aside (Calls Tryz.prog 150 #[.slice (some ⟨h, 0, none⟩) L L] wr.drew fun e w' => e = .returned (.int .u8 (on : Int)) ∧ Aside (DivAt w c t n g q l h (leftL r).1 w')) := ⟨by
            obtain ⟨_, hL, hL1, _⟩ := HR.out
            subst hL
            refine (bch_left w.heap.size h (lowN8 t) (lowN8 t) r wr.drew (by omega) HK.out.1.len HK.out.1.row.drew).mono ?_
            intro e w' hp
            obtain ⟨he, hd⟩ := HK.out.1.left hp
            exact ⟨by rw [hon]; exact he, ⟨hd⟩⟩⟩
          have HS := Aside.mk (And.intro hon (And.intro hbn hj8))
          clear e1 h0 hon hbn hxn
          go_upto_region 8 with fail
          go_cut [32] (fun s32 wx => s32 = .bool (!((on : Int) == (bn : Int))) ∧ Aside (DivAt w c t n g q l h (leftL r).1 wx))
          case first =>
            go_region_with ((go_at_call 150; refine HLF.out.mono ?_; rintro e w2 ⟨rfl, H2⟩))
            all_goals
              go_wp2
              go_meet
              exact ⟨rfl, H2⟩
          case rest =>
          obtain ⟨rfl, H2⟩ := hcut
          by_cases hob : on = bn
          · have hq : ((on : Int) == (bn : Int)) = true := by simp [hob]
            rw [hq]
            have HOB := Aside.mk hob
            clear hob hq hsh hxi
            apply_assumption
            go_wp2
            go_roundw
            case rel =>
              refine ⟨j, rfl, by omega, (leftL r).1, ⟨H2.out, ?_⟩⟩
              have e5 : (leftL r).2 = bitAt x j := UInt8.toNat_inj.1 (by rw [← HS.out.1, ← HS.out.2.1]; exact HOB.out)
              rw [← HK.out.2, bitsD]
              unfold stepB
              rw [if_pos e5]
            case measure => simp [intOf]
          · have hq : ((on : Int) == (bn : Int)) = false := by simp; omega
            rw [hq]
            have HOB := Aside.mk hob
            clear hob hq hsh hxi
            apply_assumption
            go_wp2
            obtain ⟨r1, hr1⟩ : ∃ r1, r1 = (leftL r).1 := ⟨_, rfl⟩
            rw [← hr1] at H2
            have HR1 := Aside.mk hr1
            clear hr1
            go_loopw [35] (fun s35 w6 => ∃ k : Nat, s35 = .int .i64 (k : Int) ∧ k ≤ L ∧ Aside (DivAt w c t n g q l h (xorTo r1 l k) w6)) (fun s35 _ => L - (intOf s35).toNat)
            case atStart => exact ⟨0, rfl, Nat.zero_le _, ⟨by unfold xorTo; simpa [xorL] using H2.out⟩⟩
            case round =>
              obtain ⟨k, rfl, hkL, HM⟩ := hrel
              have hk1 : IntKind.i64.wrap ((k : Int) + 1) = ((k + 1 : Nat) : Int) := by have := HR.out; rw [IntKind.wrap_i64]; omega
              have hll : r1.length = L ∧ l.length = L := by rw [HR.out.2.1]; exact ⟨H2.out.len, HR.out.1.len⟩
              have HLL := Aside.mk hll
              clear hll
              by_cases hkl : k < L
              · have h6 : (k : Int) < (L : Int) := by omega
                have h7 : (0 : Int) ≤ (k : Int) := by omega
                have hcode := HM.out.code HR.out.1
                have c12 := hcode.code.c12
                rw [← HR.out.2.1] at c12
                obtain ⟨y0, z0⟩ := HM.out.row.at_ rfl k (by rw [← HR.out.2.1]; exact hkl)
                obtain ⟨y1, _⟩ := hcode.low.at_ rfl k (by rw [← HR.out.2.1]; exact hkl)
                obtain ⟨an, han⟩ : ∃ z, z = (r1.getD k 0).toNat := ⟨_, rfl⟩
                obtain ⟨ln, hln⟩ : ∃ z, z = (l.getD k 0).toNat := ⟨_, rfl⟩
                rw [Nat.zero_add] at y0 z0 y1
                replace y0 : wr.cell? ⟨h, k, none⟩ = some (.int .u8 (an : Int)) := by
                  rw [y0, bytesV_at (by rw [xorTo_len (by rw [HLL.out.1, HLL.out.2]) (by rw [HLL.out.1]; omega), HLL.out.1]; exact hkl), xorTo_at (by rw [HLL.out.1, HLL.out.2]) (by rw [HLL.out.1]; exact hkl), han]
                replace y1 : wr.cell? ⟨g, k, none⟩ = some (.int .u8 (ln : Int)) := by
                  rw [y1, bytesV_at (by rw [HLL.out.2]; exact hkl), hln]
                obtain ⟨zn, hzn⟩ : ∃ z, z = (r1.getD k 0 ^^^ l.getD k 0).toNat := ⟨_, rfl⟩
                have hx8 : bits .xor .u8 (an : Int) (ln : Int) = (zn : Int) := by rw [han, hln, u8_xorN (UInt8.toNat_lt _) (UInt8.toNat_lt _), hzn, UInt8.toNat_xor]
                have HZ := Aside.mk (And.intro hzn hkl)
                clear hcode han hln hzn hkl
                go_upto_region 12 with fail
                go_region
                all_goals
                  go_wp2
                  go_roundw
                  case rel =>
                    have h8 := HM.out.set k (by rw [← HR.out.2.1]; exact HZ.out.2) (r1.getD k 0 ^^^ l.getD k 0)
                    rw [xorTo_set (by rw [HLL.out.1, HLL.out.2]) (by rw [HLL.out.1]; exact HZ.out.2), ← HZ.out.1] at h8
                    exact ⟨k + 1, rfl, HZ.out.2, ⟨h8⟩⟩
                  case measure => have := HZ.out; simp [intOf]; omega
              · have h6 : ¬ (k : Int) < (L : Int) := by omega
                obtain rfl : k = L := by omega
                clear hkl hk1
                go_wp2
                go_roundw
                case rel =>
                  refine ⟨j, rfl, by omega, xorL r1 l, ⟨?_, ?_⟩⟩
                  · have := HM.out
                    rw [← HLL.out.1, xorTo_all (by rw [HLL.out.1, HLL.out.2])] at this
                    exact this
                  · have e5 : ¬ (leftL r).2 = bitAt x j := fun e => HOB.out (by rw [HS.out.1, HS.out.2.1, e])
                    rw [← HK.out.2, bitsD, HR1.out]
                    unfold stepB
                    rw [if_neg e5]
                case measure => simp [intOf]
    · have h2 : ¬ (i : Int) < (s.size : Int) := by omega
      clear hlt
      go_wp2
      go_ret
      refine HP.out _ _ ⟨h, rfl, ?_⟩
      have hI := HI.out
      rw [List.take_of_length_le (by rw [data_len]; omega)] at hI
      exact hI
end Go.Proofs.YtkgacnenmflegaaGreatDoor
namespace Go.Proofs.YtkgacnenmflegaaGreatDoor
open Go.RowKit

/-- The parity of a chunk. -/
def encD (t : Nat) (l : List UInt8) (s : ByteArray) : ByteArray := ⟨(divD l (List.replicate (lowN8 t) 0) s.data.toList).toArray⟩
def EncPost (w : World) (c t n : Nat) (s : ByteArray) (e : Ending) (w' : World) : Prop :=
  ∃ g q, e = .returned (.tuple #[.string (encD t (lowG t) s), .int .i64 0]) ∧ BReady w' c t n g (lowG t) q ∧ w.grownBy w' (some c)
def EncPostAt (w : World) (t : Nat) (l : List UInt8) (s : ByteArray) (e : Ending) (w' : World) : Prop :=
  e = .returned (.tuple #[.string (encD t l s), .int .i64 0]) ∧ Below w.heap.size w w'
set_option maxRecDepth 100000 in
set_option maxHeartbeats 1000000 in
theorem bch_encode_at (c t n g q : Nat) (l : List UInt8) (s : ByteArray) (w : World) (ht8 : t ≤ 8) (ht1 : 1 ≤ t) (hR : BReady w c t n g l q) (hs : s.size = n) (hn : n ≤ 256) :
    Calls Tryz.prog 60 #[.pointer (some ⟨c, 0, none⟩), .string s] w (EncPostAt w t l s) := by
  have c1 := hR.code.c1
  have hsn : (s.size : Int) = (n : Int) := by omega
  have HRD := Aside.mk (bch_ready_at c t n g q l w hR)
  have HDV : Aside (∀ w1, Below w.heap.size w w1 → Calls Tryz.prog 106 #[.pointer (some ⟨c, 0, none⟩), .string s] w1 fun e w2 => ∃ h, e = .returned (.slice (some ⟨h, 0, none⟩) (lowN8 t) (lowN8 t)) ∧ (convert 73 9 (.slice (some ⟨h, 0, none⟩) (lowN8 t) (lowN8 t))).run Tryz.prog w2 = .ok (.string (encD t l s)) w2 ∧ Aside (Below w.heap.size w w2)) := ⟨fun w1 hb => by
    refine (bch_divide c t n g q l s w1 ht8 ht1 (hR.below hb) (by omega)).mono ?_
    rintro e w2 ⟨h, rfl, hr, hb2⟩
    exact ⟨h, rfl, hr.toString (P := Tryz.prog) Tryz.underlying73 Tryz.underlying5 Tryz.underlying9, ⟨hb.trans (hb2.mono hb.size)⟩⟩⟩
  clear hR hs hn ht8 ht1
  go_enter Tryz.func60, Tryz.ntmps60
  go_wp2_with (first | (go_at_call 101; refine HRD.out.mono ?_; rintro e w1 ⟨rfl, hb1⟩; have HB1 := Aside.mk hb1; clear hb1) | (go_at_call 106; refine (HDV.out _ HB1.out).mono ?_; rintro e w2 ⟨h, rfl, hcv, HB2⟩))
  go_ret2
  exact ⟨rfl, HB2.out⟩
set_option maxRecDepth 100000 in
theorem bch_parity_at (c t n g q : Nat) (l : List UInt8) (w : World) (hR : BReady w c t n g l q) :
    Calls Tryz.prog 58 #[.pointer (some ⟨c, 0, none⟩)] w fun e w' => e = .returned (.int .i64 (lowN8 t : Int)) ∧ Below w.heap.size w w' := by
  have HRD : Aside (Calls Tryz.prog 101 #[.pointer (some ⟨c, 0, none⟩)] w fun e w1 => e = .returned (.tuple #[]) ∧ w1.cell? ⟨c, 12, none⟩ = some (.slice (some ⟨g, 0, none⟩) (lowN8 t) (lowN8 t)) ∧ Aside (Below w.heap.size w w1)) := ⟨by
    refine (bch_ready_at c t n g q l w hR).mono ?_
    rintro e w1 ⟨rfl, hb⟩
    exact ⟨rfl, (hR.below hb).code.c12, ⟨hb⟩⟩⟩
  clear hR
  go_enter Tryz.func58, Tryz.ntmps58
  go_wp2_with (go_at_call 101; refine HRD.out.mono ?_; rintro e w1 ⟨rfl, c12, HB⟩)
  go_ret
  exact ⟨rfl, HB.out⟩
set_option maxRecDepth 100000 in
set_option maxHeartbeats 1000000 in
theorem bch_encode (c t n : Nat) (s : ByteArray) (w : World) (ht8 : t ≤ 8) (ht1 : 1 ≤ t) (hF : BNew w c t n) (hs : s.size = n) (hn : n ≤ 256) :
    Calls Tryz.prog 60 #[.pointer (some ⟨c, 0, none⟩), .string s] w (EncPost w c t n s) := by
  have c1 := CF.c1 hF
  have hsn : (s.size : Int) = (n : Int) := by omega
  have HRD : Aside (Calls Tryz.prog 101 #[.pointer (some ⟨c, 0, none⟩)] w fun e w1 => e = .returned (.tuple #[]) ∧ Aside (Calls Tryz.prog 106 #[.pointer (some ⟨c, 0, none⟩), .string s] w1 fun e w2 => ∃ h, e = .returned (.slice (some ⟨h, 0, none⟩) (lowN8 t) (lowN8 t)) ∧ (convert 73 9 (.slice (some ⟨h, 0, none⟩) (lowN8 t) (lowN8 t))).run Tryz.prog w2 = .ok (.string (encD t (lowG t) s)) w2 ∧ Aside (EncPost w c t n s (.returned (.tuple #[.string (encD t (lowG t) s), .int .i64 0])) w2))) := ⟨by
    refine (bch_ready c t n w ht1 ht8 hF).mono ?_
    rintro e w1 ⟨rfl, ⟨g, q, hR⟩, hg⟩
    refine ⟨rfl, ⟨?_⟩⟩
    refine (bch_divide c t n g q (lowG t) s w1 ht8 ht1 hR (by omega)).mono ?_
    rintro e w2 ⟨h, rfl, hr, hb2⟩
    exact ⟨h, rfl, hr.toString (P := Tryz.prog) Tryz.underlying73 Tryz.underlying5 Tryz.underlying9, ⟨g, q, rfl, hR.below hb2, World.grownBy.trans hg (grownBy_of_below hb2 (some c))⟩⟩⟩
  clear hF hs hn ht8 ht1
  go_enter Tryz.func60, Tryz.ntmps60
  go_wp2_with (first | (go_at_call 101; refine HRD.out.mono ?_; rintro e w1 ⟨rfl, HDV⟩) | (go_at_call 106; refine HDV.out.mono ?_; rintro e w2 ⟨h, rfl, hcv, HB2⟩))
  go_ret2
  exact HB2.out
set_option maxRecDepth 100000 in
theorem bch_new (t n : Nat) (w : World) (ht8 : t ≤ 8) (ht1 : 1 ≤ t) (hn1 : 1 ≤ n) (hn : n ≤ 256) :
    Calls Tryz.prog 100 #[.int .i64 (t : Int), .int .i64 (n : Int)] w fun e w' => e = .returned (.tuple #[.pointer (some ⟨w.heap.size, 0, none⟩), .int .i64 0]) ∧ Aside (BNew w' w.heap.size t n ∧ Below w.heap.size w w') := by
  have h1 : ¬ (t : Int) < 1 := by omega
  have h2 : ¬ (8 : Int) < (t : Int) := by omega
  have h3 : ¬ (n : Int) < 1 := by omega
  have h4 : ¬ (256 : Int) < (n : Int) := by omega
  have HN := Aside.mk (And.intro (CF.new w t n) ((Below.refl w.heap.size w).alloc (Nat.le_refl _) (.cells #[.int .i64 (t : Int), .int .i64 (n : Int), .int .u32 0, .int .i32 0, .int .u32 0, .int .u32 0, .int .i32 0, .int .u32 0, .slice none 0 0, .slice none 0 0, .int .i64 0, .int .i64 0, .slice none 0 0] 231)))
  clear ht8 ht1 hn1 hn
  go_enter Tryz.func100, Tryz.ntmps100
  go_wp2
  go_ret2
  exact ⟨rfl, HN⟩
end Go.Proofs.YtkgacnenmflegaaGreatDoor
namespace Go.Proofs.YtkgacnenmflegaaGreatDoor
open Go.RowKit

def goodP (b p c ch t : Int) : Prop := 1 ≤ b ∧ b ≤ 64 ∧ 4 ≤ p ∧ p ≤ 64 ∧ p % 4 = 0 ∧ 1 ≤ c ∧ c ≤ 4 ∧ 16 ≤ ch ∧ ch ≤ 256 ∧ 1 ≤ t ∧ t ≤ 8
instance (b p c ch t : Int) : Decidable (goodP b p c ch t) := by unfold goodP; infer_instance
abbrev geoV (b p c ch t : Int) : Value := .agg #[.int .i64 b, .int .i64 p, .int .i64 c, .int .i64 ch, .int .i64 t]
theorem good_yes {b p c ch t : Int} (h : goodP b p c ch t) : decide (goodP b p c ch t) = true := by simpa using h
theorem good_no {b p c ch t : Int} (h : ¬ goodP b p c ch t) : decide (goodP b p c ch t) = false := by simpa using h
set_option maxRecDepth 20000 in
set_option maxHeartbeats 4000000 in
theorem page_good (b p c ch t : Int) (w : World) :
    Calls Tryz.prog 99 #[geoV b p c ch t] w fun e w' => e = .returned (.bool (decide (goodP b p c ch t))) ∧ Below w.heap.size w w' := by
  have hb := (Below.refl w.heap.size w).alloc (Nat.le_refl _) (.cells #[.int .i64 b, .int .i64 p, .int .i64 c, .int .i64 ch, .int .i64 t] 29)
  have HB := Aside.mk hb
  clear hb
  go_enter Tryz.func99, Tryz.ntmps99
  by_cases hg : goodP b p c ch t
  · rw [good_yes hg]
    obtain ⟨h0, h1, h2, h3, h4, h5, h6, h7, h8, h9, h10⟩ := hg
    have hm : p.tmod 4 = 0 := by rw [Int.tmod_eq_emod_of_nonneg (by omega)]; exact h4
    go_wp2
    go_ret
    exact ⟨rfl, HB.out⟩
  · rw [good_no hg]
    have HG := Aside.mk hg
    clear hg
    by_cases h0 : 1 ≤ b
    · by_cases h1 : b ≤ 64
      · by_cases h2 : 4 ≤ p
        · by_cases h3 : p ≤ 64
          · by_cases h4 : p % 4 = 0
            · have hm : p.tmod 4 = 0 := by rw [Int.tmod_eq_emod_of_nonneg (by omega)]; exact h4
              by_cases h5 : 1 ≤ c
              · by_cases h6 : c ≤ 4
                · by_cases h7 : 16 ≤ ch
                  · by_cases h8 : ch ≤ 256
                    · by_cases h9 : 1 ≤ t
                      · by_cases h10 : t ≤ 8
                        · exact absurd ⟨h0, h1, h2, h3, h4, h5, h6, h7, h8, h9, h10⟩ HG.out
                        · go_wp2
                          go_ret
                          exact ⟨rfl, HB.out⟩
                      · go_wp2
                        go_ret
                        exact ⟨rfl, HB.out⟩
                    · go_wp2
                      go_ret
                      exact ⟨rfl, HB.out⟩
                  · go_wp2
                    go_ret
                    exact ⟨rfl, HB.out⟩
                · go_wp2
                  go_ret
                  exact ⟨rfl, HB.out⟩
              · go_wp2
                go_ret
                exact ⟨rfl, HB.out⟩
            · have hm : ¬ p.tmod 4 = 0 := by rw [Int.tmod_eq_emod_of_nonneg (by omega)]; exact h4
              go_wp2
              go_ret
              exact ⟨rfl, HB.out⟩
          · go_wp2
            go_ret
            exact ⟨rfl, HB.out⟩
        · go_wp2
          go_ret
          exact ⟨rfl, HB.out⟩
      · go_wp2
        go_ret
        exact ⟨rfl, HB.out⟩
    · go_wp2
      go_ret
      exact ⟨rfl, HB.out⟩
set_option maxRecDepth 100000 in
/-- The parity's length of a new code. -/
theorem bch_parity (c t n : Nat) (w : World) (ht8 : t ≤ 8) (ht1 : 1 ≤ t) (hF : BNew w c t n) :
    Calls Tryz.prog 58 #[.pointer (some ⟨c, 0, none⟩)] w fun e w' => e = .returned (.int .i64 (lowN8 t : Int)) ∧ (∃ g q, BReady w' c t n g (lowG t) q) ∧ w.grownBy w' (some c) := by
  have HRD : Aside (Calls Tryz.prog 101 #[.pointer (some ⟨c, 0, none⟩)] w fun e w1 => e = .returned (.tuple #[]) ∧ ∃ g q, w1.cell? ⟨c, 12, none⟩ = some (.slice (some ⟨g, 0, none⟩) (lowN8 t) (lowN8 t)) ∧ Aside (BReady w1 c t n g (lowG t) q ∧ w.grownBy w1 (some c))) := ⟨by
    refine (bch_ready c t n w ht1 ht8 hF).mono ?_
    rintro e w1 ⟨rfl, ⟨g, q, hR⟩, hg⟩
    exact ⟨rfl, g, q, hR.code.c12, ⟨hR, hg⟩⟩⟩
  clear hF ht8 ht1
  go_enter Tryz.func58, Tryz.ntmps58
  go_wp2_with (go_at_call 101; refine HRD.out.mono ?_; rintro e w1 ⟨rfl, g, q, c12, HB⟩)
  go_ret
  exact ⟨rfl, ⟨g, q, HB.out.1⟩, HB.out.2⟩
/-- The code of a good geometry. -/
theorem code_of (b p c ch t : Int) (w : World) (hg : goodP b p c ch t) :
    Calls Tryz.prog 57 #[geoV b p c ch t] w fun e w' => ∃ k, e = .returned (.pointer (some ⟨k, 0, none⟩)) ∧ Aside (w.heap.size ≤ k ∧ BNew w' k t.toNat ch.toNat ∧ Below w.heap.size w w') := by
  have hb := (Below.refl w.heap.size w).alloc (Nat.le_refl _) (.cells #[.int .i64 b, .int .i64 p, .int .i64 c, .int .i64 ch, .int .i64 t] 29)
  have HB := Aside.mk hb
  have HG := Aside.mk hg
  have HGC := Aside.mk (page_good b p c ch t)
  rw [good_yes hg] at HGC
  obtain ⟨tn, htn⟩ : ∃ tn : Nat, (tn : Int) = t := ⟨t.toNat, by have := hg.2.2.2.2.2.2.2.2.2; omega⟩
  obtain ⟨cn, hcn⟩ : ∃ cn : Nat, (cn : Int) = ch := ⟨ch.toNat, by have := hg.2.2.2.2.2.2.2.1; omega⟩
  have HTC : Aside (tn = t.toNat ∧ cn = ch.toNat ∧ 1 ≤ tn ∧ tn ≤ 8 ∧ 1 ≤ cn ∧ cn ≤ 256) := ⟨by have h1 := hg.2.2.2.2.2.2.2; omega⟩
  clear hb hg
  go_enter Tryz.func57, Tryz.ntmps57
  go_upto_region 3 with (go_at_call 99; refine (HGC.out _).mono ?_; rintro e w1 ⟨rfl, hb1⟩)
  have hs : w.heap.size < (w.alloc (.cells #[.int .i64 b, .int .i64 p, .int .i64 c, .int .i64 ch, .int .i64 t] 29)).heap.size := by simp
  have hce : ∀ k, w1.cell? ⟨w.heap.size, k, none⟩ = (w.alloc (.cells #[.int .i64 b, .int .i64 p, .int .i64 c, .int .i64 ch, .int .i64 t] 29)).cell? ⟨w.heap.size, k, none⟩ := fun k => hb1.cell (p := ⟨w.heap.size, k, none⟩) hs
  have c3 := (hce 3).trans (cell_of_row _ w.heap.size 3 _ _ _ (heap_alloc_new w _))
  have c4 := (hce 4).trans (cell_of_row _ w.heap.size 4 _ _ _ (heap_alloc_new w _))
  have HB1 : Aside (Below w.heap.size w w1 ∧ w.heap.size ≤ w1.heap.size) := ⟨HB.out.trans (hb1.mono HB.out.size), (HB.out.trans (hb1.mono HB.out.size)).size⟩
  simp only [List.getElem?_cons_zero, List.getElem?_cons_succ, List.getElem?_toArray] at c3 c4
  rw [← htn] at c4
  rw [← hcn] at c3
  clear hce hs hb1 htn hcn
  go_wp2_with (go_at_call 100; refine (bch_new tn cn w1 HTC.out.2.2.2.1 HTC.out.2.2.1 HTC.out.2.2.2.2.1 HTC.out.2.2.2.2.2).mono ?_; rintro e w2 ⟨rfl, HN⟩)
  go_ret
  refine ⟨_, rfl, ⟨HB1.out.2, ?_, HB1.out.1.trans (HN.out.2.mono HB1.out.2)⟩⟩
  rw [← HTC.out.1, ← HTC.out.2.1]
  exact HN.out.1
theorem code_of_not (b p c ch t : Int) (w : World) (hg : ¬ goodP b p c ch t) :
    Calls Tryz.prog 57 #[geoV b p c ch t] w fun e w' => e = .returned (.pointer none) ∧ Below w.heap.size w w' := by
  have hb := (Below.refl w.heap.size w).alloc (Nat.le_refl _) (.cells #[.int .i64 b, .int .i64 p, .int .i64 c, .int .i64 ch, .int .i64 t] 29)
  have HB := Aside.mk hb
  have HGC := Aside.mk (page_good b p c ch t)
  rw [good_no hg] at HGC
  clear hb hg
  go_enter Tryz.func57, Tryz.ntmps57
  go_wp2_with (go_at_call 99; refine (HGC.out _).mono ?_; rintro e w1 ⟨rfl, hb1⟩)
  go_ret
  exact ⟨rfl, HB.out.trans (hb1.mono HB.out.size)⟩
end Go.Proofs.YtkgacnenmflegaaGreatDoor
