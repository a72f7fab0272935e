/-
  How many pages texts take is how many a packer gives.
-/
import Derived.Test.YtbkkdglmcoglfaaPackRef
import Derived.Test.YtbkkdglmcoglfaaPackFull
import Derived.Deep.RegionWith
namespace Go.Proofs.Ytbkkdglmcoglfaa
open Go.RowKit

/-- How many pages so many lengths take, and how much room is left in the last one. -/
def pgs (z : Int) (f : Nat → Int) : Nat → Int × Int
  | 0 => (0, 0)
  | k + 1 => if (pgs z f k).2 < f k then ((pgs z f k).1 + 1, z - f k) else ((pgs z f k).1, (pgs z f k).2 - f k)
theorem pgs_more {z : Int} {f : Nat → Int} {k : Nat} (h : (pgs z f k).2 < f k) : pgs z f (k + 1) = ((pgs z f k).1 + 1, z - f k) := by rw [pgs, if_pos h]
theorem pgs_fits {z : Int} {f : Nat → Int} {k : Nat} (h : ¬ (pgs z f k).2 < f k) : pgs z f (k + 1) = ((pgs z f k).1, (pgs z f k).2 - f k) := by rw [pgs, if_neg h]
abbrev GoodTo (z : Int) (f : Nat → Int) (k : Nat) : Prop := ∀ i, i < k → 1 ≤ f i ∧ f i ≤ z
theorem pgs_bounds {z : Int} {f : Nat → Int} : ∀ k, GoodTo z f k → 0 ≤ z → 0 ≤ (pgs z f k).1 ∧ (pgs z f k).1 ≤ k ∧ 0 ≤ (pgs z f k).2 ∧ (pgs z f k).2 ≤ z
  | 0, _, hz => by simp only [pgs]; omega
  | k + 1, h, hz => by
    have ih := pgs_bounds k (fun i hi => h i (by omega)) hz
    have hk := h k (by omega)
    by_cases hc : (pgs z f k).2 < f k
    · rw [pgs_more hc]; simp only []; omega
    · rw [pgs_fits hc]; simp only []; omega
/-- What the packer holds and has given. -/
def PRel (z : Int) (f : Nat → Int) (k : Nat) (hs gv : Int) : Prop := (hs = 0 ∧ gv = 0 ∧ pgs z f k = (0, 0)) ∨ (1 ≤ hs ∧ hs ≤ z ∧ pgs z f k = (gv + 1, z - hs))
theorem PRel.start (z : Int) (f : Nat → Int) : PRel z f 0 0 0 := .inl ⟨rfl, rfl, rfl⟩
theorem PRel.fits {z : Int} {f : Nat → Int} {k : Nat} {hs gv : Int} (h : PRel z f k hs gv) (h1 : 1 ≤ f k) (hf : hs + f k ≤ z) : PRel z f (k + 1) (hs + f k) gv := by
  rcases h with ⟨rfl, rfl, h⟩ | ⟨h2, h3, h⟩
  · refine .inr ⟨by omega, hf, ?_⟩
    rw [pgs_more (by rw [h]; show (0 : Int) < f k; omega), h]
    simp
  · refine .inr ⟨by omega, hf, ?_⟩
    rw [pgs_fits (by rw [h]; show ¬ z - hs < f k; omega), h]
    simp only [Prod.mk.injEq, true_and]
    omega
theorem PRel.full {z : Int} {f : Nat → Int} {k : Nat} {hs gv : Int} (h : PRel z f k hs gv) (h1 : 1 ≤ f k) (h2 : f k ≤ z) (hf : z < hs + f k) : PRel z f (k + 1) (f k) (gv + 1) := by
  rcases h with ⟨rfl, rfl, h⟩ | ⟨h3, h4, h⟩
  · omega
  · refine .inr ⟨h1, h2, ?_⟩
    rw [pgs_more (by rw [h]; show z - hs < f k; omega), h]
theorem PRel.last0 {z : Int} {f : Nat → Int} {k : Nat} {hs gv : Int} (h : PRel z f k hs gv) (h0 : hs = 0) : (pgs z f k).1 = gv := by
  rcases h with ⟨_, rfl, h⟩ | ⟨h3, h4, h⟩
  · rw [h]
  · omega
theorem PRel.last1 {z : Int} {f : Nat → Int} {k : Nat} {hs gv : Int} (h : PRel z f k hs gv) (h0 : 1 ≤ hs) : (pgs z f k).1 = gv + 1 := by
  rcases h with ⟨_, rfl, h⟩ | ⟨h3, h4, h⟩
  · omega
  · rw [h]

/-- What Pages answers. -/
def PagesAns (z : Int) (f : Nat → Int) (len : Nat) (p : Int) (b : Bool) : Prop := b = true ∧ p = (pgs z f len).1 ∧ GoodTo z f len ∨ b = false ∧ p = 0 ∧ ¬ GoodTo z f len
def PagesEnd (z : Int) (f : Nat → Int) (len : Nat) (e : Ending) : Prop := ∃ p b, PagesAns z f len p b ∧ e = .returned (.tuple #[.int .i64 p, .bool b])

set_option maxHeartbeats 2000000 in
theorem pack_pages (n : Int) (A : Option Addr) (len cap : Nat) (f : Nat → Int) (w : World) (hlen : len ≤ 17592186043904) (hR : Rd w A len (fun i => .int .i64 (f i))) (hcap : len ≤ cap) (hcm : cap ≤ 9223372036854775807) :
    Calls Try.prog 14 #[.int .i64 n, .slice A len cap] w fun e w' => PagesEnd (min (max n 1) 2048) f len e ∧ Below w.heap.size w w' := by
  have HR := Aside.mk hR
  clear hR
  go_enter Try.func14, Try.ntmps14
  go_upto_region 2 with (go_at_call 7; refine (pack_new _ _).mono ?_; rintro e w2 ⟨rfl, p0, hb2⟩; have c0 := p0.c0)
  obtain ⟨z, hz⟩ : ∃ z, z = min (max n 1) 2048 := ⟨_, rfl⟩
  have hz1 : 1 ≤ z := by omega
  have hz2 : z ≤ 2048 := by omega
  simp only [← hz]
  have HZ := Aside.mk hz
  clear hz c0 p0
  go_wp2_with fail
  go_loopw [6, 7, 17] (fun s6 s7 s17 wr => ∃ k : Nat, k ≤ len ∧ GoodTo z f k ∧ s6 = .int .i64 (pgs z f k).1 ∧ s7 = .int .i64 (pgs z f k).2 ∧ s17 = .int .i64 k ∧ w2 = wr) (fun _ _ s17 _ => len - (intOf s17).toNat)
  case atStart => exact ⟨0, by omega, fun i hi => by omega, rfl, rfl, rfl, rfl⟩
  case round =>
    obtain ⟨k, hkl, hg, rfl, rfl, rfl, rfl⟩ := hrel
    have hbd := pgs_bounds k hg (by omega)
    have HG := Aside.mk hg
    clear hg
    by_cases hlt : k < len
    · obtain ⟨b, off, rfl, hbl, hcell⟩ := HR.out k hlt
      have hcell : w.cell? ⟨b, off + k, none⟩ = some (.int .i64 (f k)) := hcell
      have hcr : w2.cell? ⟨b, off + k, none⟩ = some (.int .i64 (f k)) := (hb2.cell (p := ⟨b, off + k, none⟩) hbl).trans hcell
      clear hcell
      have hk1 : IntKind.i64.wrap ((k : Int) + 1) = (k : Int) + 1 := by rw [IntKind.wrap_i64]; omega
      have hmore := fun hc => pgs_more (z := z) (f := f) (k := k) hc
      have hfits := fun hc => pgs_fits (z := z) (f := f) (k := k) hc
      have HM := Aside.mk hmore
      have HF := Aside.mk hfits
      clear hmore hfits
      generalize hpq : (pgs z f k).1 = pq at *
      generalize hlq : (pgs z f k).2 = lq at *
      generalize hfk : f k = fk at *
      have HK := Aside.mk hfk
      clear hfk hpq hlq
      by_cases hgk : 1 ≤ fk ∧ fk ≤ z
      · have hg' : GoodTo z f (k + 1) := fun i hi => by
          by_cases h : i = k
          · rw [h, HK.out]; exact hgk
          · exact HG.out i (by omega)
        have HG' := Aside.mk hg'
        clear hg'
        have ha1 : ¬ fk < 1 := by omega
        have ha2 : ¬ z < fk := by omega
        by_cases hlf : lq < fk
        · have hw1 : IntKind.i64.wrap (pq + 1) = pq + 1 := by rw [IntKind.wrap_i64]; omega
          have hw2 : IntKind.i64.wrap (z - fk) = z - fk := by rw [IntKind.wrap_i64]; omega
          go_wp2_with fail
          go_roundw
          case rel => exact ⟨k + 1, by omega, HG'.out, by rw [HM.out hlf], by rw [HM.out hlf], by go_num, trivial⟩
          case measure => simp [intOf]; omega
        · have hw2 : IntKind.i64.wrap (lq - fk) = lq - fk := by rw [IntKind.wrap_i64]; omega
          go_wp2_with fail
          go_roundw
          case rel => exact ⟨k + 1, by omega, HG'.out, by rw [HF.out hlf], by rw [HF.out hlf], by go_num, trivial⟩
          case measure => simp [intOf]; omega
      · have hno : ¬ GoodTo z f len := fun h => hgk (by rw [← HK.out]; exact h k hlt)
        have HN := Aside.mk hno
        clear hno
        have hcas : fk < 1 ∨ (¬ fk < 1 ∧ z < fk) := by omega
        clear hgk
        rcases hcas with hc | ⟨hc, hd⟩
        all_goals
          go_wp2_with fail
          go_ret2
          exact ⟨⟨0, false, .inr ⟨rfl, rfl, HZ.out ▸ HN.out⟩, rfl⟩, hb2⟩
    · obtain rfl : k = len := by omega
      go_wp2_with fail
      go_ret2
      exact ⟨⟨_, true, .inl ⟨rfl, by rw [← HZ.out], HZ.out ▸ HG.out⟩, rfl⟩, hb2⟩

theorem Src.of_rd {w : World} {A : Option Addr} {len cap : Nat} {f : Nat → Value} (h : Rd w A len f) : Src w 1 (.slice A len cap) len ((List.range len).map f) := by
  refine ⟨by simp, ?_⟩
  rcases A with _ | a
  · by_cases h0 : len = 0
    · exact .inl ⟨⟨cap, rfl⟩, h0⟩
    · obtain ⟨b, off, hA, _⟩ := h 0 (by omega)
      cases hA
  · refine .inr ⟨a, cap, rfl, fun j u hu => ?_⟩
    by_cases hj : j < len
    · obtain ⟨b, off, hA, _, hc⟩ := h j hj
      injection hA with hA
      subst hA
      rw [add_plain, hc]
      simpa [hj] using hu
    · rw [List.getElem?_eq_none (by simp; omega)] at hu
      cases hu
theorem Rd.congr {w : World} {A : Option Addr} {len : Nat} {f g : Nat → Value} (h : Rd w A len f) (e : ∀ i, i < len → f i = g i) : Rd w A len g := by
  intro k hk
  obtain ⟨b, off, h1, h2, h3⟩ := h k hk
  exact ⟨b, off, h1, h2, by rw [h3, e k hk]⟩
theorem infoInt : (Try.prog.info? 3).map (fun i => (i.zero, i.size, i.bytes)) = some (some (.int .i64 0), 1, 8) := by kernel_rfl
theorem infoU8 : (Try.prog.info? 5).map (fun i => (i.zero, i.size, i.bytes)) = some (some (.int .u8 0), 1, 1) := by kernel_rfl
theorem zeros_ne {m : Nat} (h : 1 ≤ m) : (⟨(List.replicate m (0 : UInt8)).toArray⟩ : ByteArray).toList.isEmpty = false := by
  rw [ByteArray.toList_eq]
  simp
  omega
theorem zeros_size (m : Nat) : (⟨(List.replicate m (0 : UInt8)).toArray⟩ : ByteArray).size = m := by
  show (List.replicate m (0 : UInt8)).toArray.size = m
  simp
theorem make_bytes (m : Nat) (h : m ≤ 2048) (W : World) :
    (Instr.makeSlice 44 (.int .i64 (m : Int)) (.int .i64 (m : Int))).run Try.prog W = .ok (.slice (some ⟨W.heap.size, 0, none⟩) m m) (W.alloc (.cells (madeCells #[.int .u8 0] m) 5)) :=
  run_make_row' 44 5 (.int .u8 0) 1 Try.underlying44 infoU8 rfl .i64 .i64 m (by omega) (by omega) W
theorem conv_bytes (m : Nat) (h : m ≤ 2048) (W : World) :
    (convert 44 9 (.slice (some ⟨W.heap.size, 0, none⟩) m m)).run Try.prog (W.alloc (.cells (madeCells #[.int .u8 0] m) 5)) = .ok (.string ⟨(List.replicate m (0 : UInt8)).toArray⟩) (W.alloc (.cells (madeCells #[.int .u8 0] m) 5)) := by
  have hr := Row.zeros W W.heap.size 5 (.int .u8 0) m (Nat.le_refl _) (by simp only [maxLen]; omega)
  rw [bytesV_zeros] at hr
  exact hr.toString Try.underlying44 Try.underlying5 Try.underlying9

theorem Row.reads {w : World} {base : Nat} {e : TypeId} {v : Value} {n : Nat} {f : Nat → Value} (h : Row w base e 1 v (0 + n) ([] ++ (List.range n).map f)) : ∃ A c, v = .slice A n c ∧ n ≤ c ∧ c ≤ maxLen ∧ Rd w A n f := by
  rw [Nat.zero_add, List.nil_append] at h
  have h2 : ∃ A c, v = .slice A n c ∧ n ≤ c ∧ c ≤ maxLen := by
    rcases h.2 with ⟨rfl, rfl⟩ | ⟨g, off, cap, cur, fr, rfl, hb, hg, hc, hm, _⟩
    · exact ⟨none, 0, rfl, Nat.le_refl _, Nat.zero_le _⟩
    · exact ⟨_, cap, rfl, hc, hm⟩
  obtain ⟨A, c, rfl, h3, h4⟩ := h2
  refine ⟨A, c, rfl, h3, h4, (Rd.of_row h).congr fun i hi => ?_⟩
  simp [List.getD_eq_getElem?_getD, hi]

set_option maxRecDepth 20000 in
set_option maxHeartbeats 4000000 in
theorem packPages_walk (n : Int) (A : Option Addr) (len cap : Nat) (x : List Int) (w : World) (_hn : (Lit.int .i64 n).wf = true)
    (hx : x.length = len ∧ len ≤ cap ∧ cap ≤ maxLen ∧ len * 8 ≤ 140737488351232 ∧ (∀ k ∈ x, (Lit.int .i64 k).wf = true) ∧ Rd w A len (fun i => .int .i64 (x.getD i 0))) :
    Calls Try.prog 5 #[.int .i64 n, .slice A len cap] w fun e w' => e = .returned (.bool true) ∧ Below w.heap.size w w' := by
  obtain ⟨hl, hlc, hcm, hlb, hsz, hR⟩ := hx
  have hlen : len ≤ 17592186043904 := by omega
  generalize hf : (fun i => x.getD i 0) = f at *
  have hR : Rd w A len (fun i => .int .i64 (f i)) := by subst hf; exact hR
  have HR := Aside.mk hR
  clear hR hsz hlb hl hf
  have hcm : cap ≤ 9223372036854775807 := hcm
  go_enter Try.func5, Try.ntmps5
  go_upto_region 3 with (go_at_call 6; refine (pack_speaks _).mono ?_; rintro e w1 ⟨rfl, hb1⟩)
  have hbs := hb1.size
  go_upto_region 4 with (first | (at_builtin; refine wpList_append_row (w0 := w) w.heap.size rfl _ _ 41 3 1 8 (.int .i64 0) rfl Try.underlying41 infoInt rfl (by decide) _ 0 [] _ len _ rfl rfl (Row.lit w1 w.heap.size 3 1 #[] 0 hbs (by decide) rfl) (Src.of_rd (Rd.below HR.out (Nat.le_refl _) (hb1.alloc hbs _))) (by simp [Value.oneCell']) (hb1.alloc hbs _) (by simp; omega) (by omega) (by simp only [maxLen]; omega) ?_; intro v1 w2 hr1 hb2 hg1 hat1; clear hg1 hat1; obtain ⟨A1, c1, rfl, hc1, hcm1, hR1⟩ := hr1.reads; clear hr1; have HR1 := Aside.mk hR1; clear hR1; have hcm2 : c1 ≤ 9223372036854775807 := hcm1) | (go_at_call 14; refine (pack_pages n A1 len c1 f _ hlen HR1.out hc1 hcm2).mono ?_; rintro e w3 ⟨⟨p, b, hp, rfl⟩, hb3'⟩; have hb3 := hb2.trans (hb3'.mono hb2.size); clear hb3' hb2))
  have HP := Aside.mk hp
  clear hp HR1
  go_wp2_with (go_at_call 7; refine (pack_new _ _).mono ?_; rintro e w4 ⟨rfl, p0, hb4'⟩; have hb4 := hb3.trans (hb4'.mono hb3.size); clear hb4')
  obtain ⟨z, hz⟩ : ∃ z, z = min (max n 1) 2048 := ⟨_, rfl⟩
  have hz1 : 1 ≤ z := by omega
  have hz2 : z ≤ 2048 := by omega
  rw [← hz] at p0
  have hp := HP.out
  rw [← hz] at hp
  have HP := Aside.mk hp
  have HZ := Aside.mk hz
  clear hp hz
  have hle0 : w.heap.size ≤ w3.heap.size := hb3.size
  clear hb1 hb3 hbs
  generalize w3.heap.size = g at *
  go_loopw [8, 9] (fun s8 s9 wr => ∃ (k : Nat) (h : ByteArray) (gv : Int), s8 = .bool true ∧ s9 = .int .i64 k ∧ Pk wr g z gv h ∧ Aside (PRel z f k h.size gv) ∧ Aside (GoodTo z f k) ∧ (h.size : Int) ≤ z ∧ 0 ≤ gv ∧ gv ≤ k ∧ k ≤ len ∧ Below w.heap.size w wr) (fun _ s9 _ => len - (intOf s9).toNat)
  case atStart => exact ⟨0, ⟨#[]⟩, 0, rfl, rfl, p0, ⟨PRel.start z f⟩, ⟨fun i hi => by omega⟩, by show ((0 : Nat) : Int) ≤ z; omega, by omega, by omega, by omega, hb4⟩
  case round =>
    obtain ⟨k, h, gv, rfl, rfl, pk, hrel, hgood, hh, hg0, hgk, hkl, hb⟩ := hrel
    clear p0 hb4
    by_cases hlt : k < len
    · obtain ⟨b1, off, rfl, hbl, hcell⟩ := HR.out k hlt
      have hcell : w.cell? ⟨b1, off + k, none⟩ = some (.int .i64 (f k)) := hcell
      have hcr : wr.cell? ⟨b1, off + k, none⟩ = some (.int .i64 (f k)) := (hb.cell (p := ⟨b1, off + k, none⟩) hbl).trans hcell
      have hcr2 := (hb.drew.cell (p := ⟨b1, off + k, none⟩) hbl).trans hcell
      clear hcell
      have hk1 : IntKind.i64.wrap ((k : Int) + 1) = (k : Int) + 1 := by rw [IntKind.wrap_i64]; omega
      generalize hfk : f k = fk at *
      have HK := Aside.mk hfk
      clear hfk
      go_upto_region 9 with fail
      go_cut [47] (fun s47 wx => s47 = .bool (decide (fk < 1 ∨ z < fk)) ∧ Pk wx g z gv h ∧ Below w.heap.size w wx)
      case first =>
        have hb' := hb.drew
        have pk' := pk.drew
        have HB := Aside.mk (And.intro hb (And.intro hb' (And.intro pk pk')))
        clear hb hb' pk pk'
        have hcas : fk < 1 ∨ (¬ fk < 1 ∧ z < fk) ∨ (1 ≤ fk ∧ fk ≤ z) := by omega
        rcases hcas with hc | hc | hc
        · have hd : decide (fk < 1 ∨ z < fk) = true := by simp [hc]
          go_region
          all_goals (go_wp2; go_meet; exact ⟨by rw [hd], by first | exact HB.out.2.2.1 | exact HB.out.2.2.2, by first | exact HB.out.1 | exact HB.out.2.1⟩)
        · have hd : decide (fk < 1 ∨ z < fk) = true := by simp [hc.2]
          have hmz : min (max n 1) 2048 < fk := by rw [← HZ.out]; exact hc.2
          have hc1 := hc.1
          clear hc
          go_region_with ((go_at_call 10; refine (ref_size n _).mono ?_; rintro e w5 ⟨rfl, rfl⟩))
          all_goals (go_wp2; go_meet; exact ⟨by rw [hd], by first | exact HB.out.2.2.1 | exact HB.out.2.2.2, by first | exact HB.out.1 | exact HB.out.2.1⟩)
        · have hd : decide (fk < 1 ∨ z < fk) = false := by simp; omega
          have hmz : decide (min (max n 1) 2048 < fk) = false := by rw [← HZ.out]; simp; omega
          have hc1 : ¬ fk < 1 := by omega
          clear hc
          go_region_with ((go_at_call 10; refine (ref_size n _).mono ?_; rintro e w5 ⟨rfl, rfl⟩))
          all_goals (go_wp2; go_meet; exact ⟨by rw [hd], by first | exact HB.out.2.2.1 | exact HB.out.2.2.2, by first | exact HB.out.1 | exact HB.out.2.1⟩)
      case rest =>
        obtain ⟨rfl, pk2, hb2⟩ := hcut
        clear pk hb hcr hcr2
        have hcl := hlt
        by_cases hgk : 1 ≤ fk ∧ fk ≤ z
        · have hd : decide (fk < 1 ∨ z < fk) = false := by simp; omega
          rw [hd]
          clear hd
          obtain ⟨m, rfl⟩ := Int.eq_ofNat_of_zero_le (show 0 ≤ fk by omega)
          have hm : m ≤ 2048 := by omega
          have hmk := make_bytes m hm
          have hcv := conv_bytes m hm
          have hcr : wc.cell? ⟨b1, off + k, none⟩ = some (.int .i64 (m : Int)) := by rw [← HK.out]; exact (hb2.cell (p := ⟨b1, off + k, none⟩) hbl).trans hcell
          clear hcell
          have hgood' : GoodTo z f (k + 1) := fun i hi => by
            by_cases h : i = k
            · rw [h, HK.out]; exact hgk
            · exact hgood.out i (by omega)
          have HG := Aside.mk hgood'
          clear hgood'
          have hs := zeros_size m
          have HS := Aside.mk hs
          have hem := zeros_ne (m := m) (by omega)
          clear hs
          generalize hbz : (⟨(List.replicate m (0 : UInt8)).toArray⟩ : ByteArray) = bz at *
          clear hbz
          have hsz := HS.out
          have hfk := HK.out
          have hPR := hrel.out
          have hw2 : IntKind.i64.wrap ((h.size : Int) + (bz.size : Int)) = (h.size : Int) + (bz.size : Int) := by rw [IntKind.wrap_i64]; omega
          by_cases hsum : (h.size : Int) + (bz.size : Int) ≤ z
          · have hP2 : Aside (PRel z f (k + 1) (h ++ bz).size gv) := ⟨by have := hPR.fits (by omega) (by omega); rw [hfk, ← hsz] at this; rw [ByteArray.size_append]; exact_mod_cast this⟩
            clear hPR hfk
            go_wp2_with (go_at_call 8; refine (pack_add_fits g z gv h bz _ (pk2.kept (World.grownBy_alloc _ _ _)) hem hsum hz2).mono ?_; rintro e w6 ⟨rfl, p6, hg6⟩; have hb6 := below_of_grown (hb2.alloc hb2.size _) hle0 (pk2.kept (World.grownBy_alloc _ _ _)).lt hg6; clear hg6)
            go_roundw
            case rel => exact ⟨k + 1, h ++ bz, gv, rfl, by go_num, p6, hP2, HG, by rw [ByteArray.size_append]; omega, by omega, by omega, by omega, hb6⟩
            case measure => simp [intOf]; omega
          · have hP2 : Aside (PRel z f (k + 1) bz.size (gv + 1)) := ⟨by have := hPR.full (by omega) (by omega) (by omega); rw [hfk, ← hsz] at this; exact this⟩
            clear hPR hfk
            go_wp2_with (go_at_call 8; refine (pack_add_full g z gv h bz _ (pk2.kept (World.grownBy_alloc _ _ _)) hem (by omega) hz2 (by omega) hg0 (by omega) (by omega)).mono ?_; rintro e w6 ⟨rfl, p6, hg6⟩; have hb6 := below_of_grown (hb2.alloc hb2.size _) hle0 (pk2.kept (World.grownBy_alloc _ _ _)).lt hg6; clear hg6)
            go_roundw
            case rel => exact ⟨k + 1, bz, gv + 1, rfl, by go_num, p6, hP2, HG, by omega, by omega, by omega, by omega, hb6⟩
            case measure => simp [intOf]; omega
        · have hd : decide (fk < 1 ∨ z < fk) = true := by simp; omega
          rw [hd]
          obtain ⟨rfl, rfl⟩ : b = false ∧ p = 0 := by
            rcases HP.out with ⟨_, _, h⟩ | ⟨h1, h2, _⟩
            · exact absurd (by have := h k hlt; rwa [HK.out] at this) hgk
            · exact ⟨h1, h2⟩
          clear hd
          go_wp2_with fail
          go_ret
          exact ⟨rfl, hb2⟩
    · obtain rfl : k = len := by omega
      obtain ⟨rfl, hpp⟩ : b = true ∧ p = (pgs z f k).1 := by
        rcases HP.out with ⟨h1, h2, _⟩ | ⟨_, _, h⟩
        · exact ⟨h1, h2⟩
        · exact absurd hgood.out h
      have hPR := hrel.out
      cases hem : h.toList.isEmpty
      · have hs1 : 1 ≤ (h.size : Int) := by
          have h5 : h.data.toList.length ≠ 0 := by
            rw [← ByteArray.toList_eq]
            intro h0
            rw [List.isEmpty_eq_false_iff] at hem
            exact hem (List.eq_nil_of_length_eq_zero h0)
          rw [data_len] at h5
          omega
        obtain rfl : p = gv + 1 := by rw [hpp]; exact hPR.last1 hs1
        clear hpp hPR
        go_wp2_with (first | (go_at_call 9; refine (pack_flush g z gv h _ pk hem hg0 (by omega)).mono ?_; rintro e w5 ⟨rfl, p5, hg5⟩; have hb5 := below_of_grown hb hle0 pk.lt hg5; clear hg5 pk) | (go_at_call 13; refine (pack_held g z _ _ _ p5).mono ?_; rintro e w6 ⟨rfl, hb6⟩; have hb7 := hb5.trans (hb6.mono hb5.size)))
        go_ret
        exact ⟨rfl, hb7⟩
      · have hs0 : (h.size : Int) = 0 := by rw [bempty hem]; rfl
        obtain rfl : p = gv := by rw [hpp]; exact hPR.last0 hs0
        clear hpp hPR hs0
        go_wp2_with (first | (go_at_call 9; refine (pack_flush_none g z p h _ pk hem).mono ?_; rintro e w5 ⟨rfl, rfl⟩) | (go_at_call 13; refine (pack_held g z _ _ _ pk).mono ?_; rintro e w6 ⟨rfl, hb6⟩; have hb7 := hb.trans (hb6.mono hb.size)))
        go_ret
        exact ⟨rfl, hb7⟩
end Go.Proofs.Ytbkkdglmcoglfaa
