/-
  TopPairBack: the walk.
-/
import Derived.Test.YtkgacnenmflegaaGreatDoorMg18
namespace Go.Proofs.YtkgacnenmflegaaGreatDoor
open Go.RowKit

theorem zeros_drew (m : Nat) (hm : m ≤ 10000) (W : World) : (convert 73 9 (.slice (some ⟨W.heap.size, 0, none⟩) m m)).run Tryz.prog (W.alloc (.cells (madeCells #[.int .u8 0] m) 5)).drew = .ok (.string (fillB 0 m)) (W.alloc (.cells (madeCells #[.int .u8 0] m) 5)).drew := by
  have hr := (Row.zeros W W.heap.size 5 (.int .u8 0) m (Nat.le_refl _) (by simp only [maxLen]; omega)).drew
  rw [bytesV_zeros] at hr
  exact hr.toString (P := Tryz.prog) Tryz.underlying73 Tryz.underlying5 Tryz.underlying9
theorem Sees.par {W : World} {g7 g14 b16 g1 o1 c1 g2 o2 c2 : Nat} {F : Nat → ByteArray} (h : Sees W g7 g14 b16 g1 o1 c1 g2 o2 c2 F) {k : Nat} (hk : k < 2) : W.cell? ⟨g2, o2 + k, none⟩ = some (.int .i64 ((parB k : Nat) : Int)) := by
  rcases (show k = 0 ∨ k = 1 by omega) with rfl | rfl
  · exact h.par0
  · exact h.par1
theorem nib_lt {w : World} (h : Nib w) : 0 < w.heap.size := by
  have h0 := h.out 0 (by omega)
  rcases Nat.lt_or_ge 0 w.heap.size with h1 | h1
  · exact h1
  · exfalso
    simp only [World.cell?] at h0
    rw [Array.getElem?_eq_none h1] at h0
    simp at h0
theorem parB_lt (k : Nat) : parB k < 8 := by
  unfold parB
  split <;> decide
theorem dn_fresh {k : Nat} (hk : k < 2) (q : Nat) (h1 : parB k ≤ q) (h2 : q < 8) : dnB k q = false := by
  rcases (show k = 0 ∨ k = 1 by omega) with rfl | rfl
  · have h1 : 5 ≤ q := h1
    simp [dnB]; omega
  · have h1 : 7 ≤ q := h1
    simp [dnB]; omega
theorem dn_next {k : Nat} (hk : k < 2) (q : Nat) : dnB (k + 1) q = (dnB k q || decide (q = parB k)) := by
  rcases (show k = 0 ∨ k = 1 by omega) with rfl | rfl
  · have : parB 0 = 5 := rfl
    rw [this]
    simp [dnB]
  · have : parB 1 = 7 := rfl
    rw [this]
    simp [dnB]
theorem parB_pay {k n : Nat} (x : List ByteArray) : payF n x (parB k) = fullB n x (parB k) := by
  unfold payF
  rw [if_neg]
  unfold parB
  split <;> omega
set_option maxRecDepth 20000 in
set_option maxHeartbeats 40000000 in
theorem topPairBack_walk (n : Int) (A : Option Addr) (len cap : Nat) (x : List ByteArray) (lost : Int) (w : World) (_hn : (Lit.int .i64 n).wf = true)
    (hx : x.length = len ∧ len ≤ cap ∧ cap ≤ maxLen ∧ len * 16 ≤ 140737488351232 ∧ (∀ s ∈ x, s.size ≤ 140737488351232) ∧ Rd w A len (fun i => .string (x.getD i ByteArray.empty))) (_hq : (Lit.int .i64 lost).wf = true) (hnib : Nib w) :
    Calls Tryz.prog 5 #[.int .i64 n, .slice A len cap, .int .i64 lost] w fun e w' => e = .returned (.bool true) ∧ Below w.heap.size w w' := by
  obtain ⟨hl, hlc, hcm, hlb, hsz, hR⟩ := hx
  have hcm : cap ≤ 9223372036854775807 := hcm
  have HX := Aside.mk (And.intro hl (And.intro hsz hR))
  have HN := Aside.mk hnib
  clear hl hsz hR hnib
  go_enter Tryz.func5, Tryz.ntmps5
  go_upto_region 1 with fail
  go_upto_region 2 with (go_at_call 18; refine (top_small _ _).mono ?_; rintro e w1 ⟨n, t, rfl, h24, h32, ht1, ht3, hb1⟩)
  obtain ⟨g7, hg7⟩ : ∃ g7, g7 = w1.heap.size := ⟨_, rfl⟩
  have hb2 := hb1.alloc hb1.size (.cells #[.int .i64 2, .int .i64 8, .int .i64 1, .int .i64 (n : Int), .int .i64 (t : Int)] 29)
  have hgeo : (w1.alloc (.cells #[.int .i64 2, .int .i64 8, .int .i64 1, .int .i64 (n : Int), .int .i64 (t : Int)] 29)).heap[w1.heap.size]? = some (geoC n t) := heap_alloc_new w1 _
  rw [← hg7] at hgeo ⊢
  have hs7 : w.heap.size ≤ g7 := by rw [hg7]; exact hb1.size
  clear hg7 hb1
  generalize w1.alloc (.cells #[.int .i64 2, .int .i64 8, .int .i64 1, .int .i64 (n : Int), .int .i64 (t : Int)] 29) = w2 at *
  have hl7 : g7 < w2.heap.size := (Array.getElem?_eq_some_iff.1 hgeo).1
  have HGP : Aside (goodP 2 8 1 (n : Int) (t : Int)) := ⟨by unfold goodP; omega⟩
  have H2 := Aside.mk (And.intro hb2 (And.intro hgeo (And.intro hs7 hl7)))
  have HCH : Aside (∀ W, Calls Tryz.prog 19 #[.agg #[.int .i64 2, .int .i64 8, .int .i64 1, .int .i64 (n : Int), .int .i64 (t : Int)]] W (ChipPost W 2 8 n t)) := ⟨fun W => page_chip 2 8 n t W HGP.out⟩
  have HPN : Aside (∀ W c, Calls Tryz.prog 20 #[.pointer (some ⟨c, 0, none⟩), .agg #[.int .i64 2, .int .i64 8, .int .i64 1, .int .i64 (n : Int), .int .i64 (t : Int)]] W (PagerPost W c 2 8 n t)) := ⟨fun W c => page_new c 2 8 n t W HGP.out⟩
  have hpay : payI 1 (n : Int) = ((n - 7 : Nat) : Int) := by unfold payI; omega
  have HPR : Aside (∀ W, Calls Tryz.prog 21 #[.agg #[.int .i64 2, .int .i64 8, .int .i64 1, .int .i64 (n : Int), .int .i64 (t : Int)]] W fun e w' => ∃ raw, e = .returned (.tuple #[.int .i64 raw, .int .i64 ((n - 7 : Nat) : Int)]) ∧ Below W.heap.size W w') := ⟨fun W => (page_raw 2 8 1 n t W HGP.out).mono fun e w' ⟨he, hb⟩ => ⟨rawI 1 (n : Int) (t : Int), by rw [he, hpay], hb⟩⟩
  have HPO : Aside (∀ W, Calls Tryz.prog 28 #[.int .i64 8, .bool false] W fun e w' => PlanEnd 8 false W.heap.size e w' ∧ Below W.heap.size W w') := ⟨fun W => parity_of 8 false W (by omega) (by omega) (by omega)⟩
  have d0 := cell_of_row w2 g7 0 _ _ _ hgeo
  have d1 := cell_of_row w2 g7 1 _ _ _ hgeo
  have d2 := cell_of_row w2 g7 2 _ _ _ hgeo
  have d3 := cell_of_row w2 g7 3 _ _ _ hgeo
  have d4 := cell_of_row w2 g7 4 _ _ _ hgeo
  simp only [List.getElem?_cons_zero, List.getElem?_cons_succ, List.getElem?_toArray] at d0 d1 d2 d3 d4
  have HS7 := Aside.mk hs7
  clear hb2 hgeo hs7 hl7 hpay
  go_upto_region 3 with (go_at_call 19; refine (HCH.out w2).mono ?_; rintro e w3 ⟨c, bb, bo, capc, pb, lo, rfl, hlo, hch, hb3⟩)
  clear d0 d1 d2 d3 d4
  have hgeo := below_blk H2.out.2.1 hb3
  have d0 := cell_of_row w3 g7 0 _ _ _ hgeo
  have d1 := cell_of_row w3 g7 1 _ _ _ hgeo
  have d2 := cell_of_row w3 g7 2 _ _ _ hgeo
  have d3 := cell_of_row w3 g7 3 _ _ _ hgeo
  have d4 := cell_of_row w3 g7 4 _ _ _ hgeo
  simp only [List.getElem?_cons_zero, List.getElem?_cons_succ, List.getElem?_toArray] at d0 d1 d2 d3 d4
  have H3 := Aside.mk (And.intro (H2.out.1.trans (hb3.mono H2.out.1.size)) (And.intro hgeo (And.intro hch (And.intro (show g7 < lo by have := H2.out.2.2.2; omega) (show w.heap.size ≤ lo by have := H2.out.2.2.1; have := H2.out.2.2.2; omega)))))
  clear hgeo hch hb3 hlo
  go_upto_region 4 with (go_at_call 20; refine (HPN.out w3 c).mono ?_; rintro e w4 ⟨p, k, rfl, hp, hk, hpg, hkn, hb4⟩)
  clear d0 d1 d2 d3 d4
  have hgeo := below_blk H3.out.2.1 hb4
  have d0 := cell_of_row w4 g7 0 _ _ _ hgeo
  have d1 := cell_of_row w4 g7 1 _ _ _ hgeo
  have d2 := cell_of_row w4 g7 2 _ _ _ hgeo
  have d3 := cell_of_row w4 g7 3 _ _ _ hgeo
  have d4 := cell_of_row w4 g7 4 _ _ _ hgeo
  simp only [List.getElem?_cons_zero, List.getElem?_cons_succ, List.getElem?_toArray] at d0 d1 d2 d3 d4
  obtain ⟨L, hL⟩ : ∃ L : PLoc, L = ⟨c, bb, bo, capc, pb, p, k, t, n, lo, w4.heap.size⟩ := ⟨_, rfl⟩
  have hlt3 := H3.out.2.2.1.rc
  have hlo3 : lo ≤ w3.heap.size := by have := hlt3.1; have := hlt3.2; omega
  have hkl : k < w4.heap.size := by
    obtain ⟨cs, fr, h⟩ := CAny.blk (.inl hkn)
    exact (Array.getElem?_eq_some_iff.1 h).1
  have hpl : p < w4.heap.size := (Array.getElem?_eq_some_iff.1 hpg).1
  have hpgr : PgrAt w4 L (chip0 2 8 (n + lowN8 t)) := by
    subst hL
    exact ⟨(H3.out.2.2.1.below hb4).wide hb4.size, hpg, .inl hkn, ⟨by show lo ≤ p; omega, hpl⟩, ⟨by show lo ≤ k; omega, hkl⟩, ht1, by show t ≤ 8; omega, by show 16 ≤ n; omega, by show n ≤ 256; omega, rfl⟩
  have HL : Aside (L.hi = w4.heap.size ∧ L.n = n ∧ L.t = t ∧ L.lo = lo ∧ L.lo ≤ L.hi ∧ L.c = c ∧ L.p = p) := ⟨by subst hL; exact ⟨rfl, rfl, rfl, rfl, by show lo ≤ w4.heap.size; have := hb4.size; omega, rfl, rfl⟩⟩
  have hcL : c = L.c := by subst hL; rfl
  have hpL : p = L.p := by subst hL; rfl
  have H4 := Aside.mk (And.intro (H3.out.1.trans (hb4.mono H3.out.1.size)) (And.intro hgeo (And.intro hpgr (And.intro H3.out.2.2.2.1 H3.out.2.2.2.2))))
  clear hgeo hpgr hb4 hp hk hpg hkn hL hlt3 hlo3 hkl hpl H3 H2 HCH HPN
  subst hcL hpL
  go_upto_region 5 with (go_at_call 21; refine (HPR.out w4).mono ?_; rintro e w5 ⟨raw, rfl, hb5⟩)
  clear d0 d1 d2 d3 d4
  have hgeo := below_blk H4.out.2.1 hb5
  have d0 := cell_of_row w5 g7 0 _ _ _ hgeo
  have d1 := cell_of_row w5 g7 1 _ _ _ hgeo
  have d2 := cell_of_row w5 g7 2 _ _ _ hgeo
  have d3 := cell_of_row w5 g7 3 _ _ _ hgeo
  have d4 := cell_of_row w5 g7 4 _ _ _ hgeo
  simp only [List.getElem?_cons_zero, List.getElem?_cons_succ, List.getElem?_toArray] at d0 d1 d2 d3 d4
  have H5 := Aside.mk (And.intro (H4.out.1.trans (hb5.mono H4.out.1.size)) (And.intro hgeo (And.intro (H4.out.2.2.1.below hb5) hb5.size)))
  clear hb5 hgeo
  have HDL : Aside (dataL false (8 - 3) = [0, 1, 2, 3, 4] ∧ parL false 8 = [5, 7]) := ⟨by decide⟩
  go_upto_region 6 with (go_at_call 28; refine (HPO.out w5).mono ?_; rintro e w6 ⟨⟨v1, v2, r1, r2, rfl⟩, hb6⟩; rw [HDL.out.1] at r1; rw [HDL.out.2] at r2; have r1 : Row w6 w5.heap.size 3 1 v1 5 (intsV [0, 1, 2, 3, 4]) := r1; have r2 : Row w6 w5.heap.size 3 1 v2 2 (intsV [5, 7]) := r2; obtain ⟨g1, o1, c1, rfl, hg1, hg1', hc1, hm1⟩ := r1.form (by omega); obtain ⟨g2, o2, c2, rfl, hg2, hg2', hc2, hm2⟩ := r2.form (by omega); have H6 := Aside.mk (And.intro hb6 (And.intro r1 r2)); clear r1 r2 hb6)
  clear d0 d1 d2 d3 d4
  have hbo : Below w6.heap.size w6 (w6.alloc (.cells #[.slice (some ⟨g1, o1, none⟩) 5 c1, .slice (some ⟨g2, o2, none⟩) 2 c2] 78)) := (Below.refl _ _).alloc (Nat.le_refl _) _
  have hs5 := H5.out.2.2.2
  obtain ⟨hb6, r1, r2⟩ := H6.out
  have hgeo := below_blk (below_blk H5.out.2.1 hb6) hbo
  have d1 := cell_of_row _ g7 1 _ _ _ hgeo
  simp only [List.getElem?_cons_zero, List.getElem?_cons_succ, List.getElem?_toArray] at d1
  have hbl := (H5.out.1.trans (hb6.mono H5.out.1.size)).trans (hbo.mono (Nat.le_trans H5.out.1.size hb6.size))
  have hpg := (H5.out.2.2.1.below hb6).below hbo
  have hr1 := r1.alloc (.cells #[.slice (some ⟨g1, o1, none⟩) 5 c1, .slice (some ⟨g2, o2, none⟩) 2 c2] 78)
  have hr2 := r2.alloc (.cells #[.slice (some ⟨g1, o1, none⟩) 5 c1, .slice (some ⟨g2, o2, none⟩) 2 c2] 78)
  have hpn := heap_alloc_new w6 (.cells #[.slice (some ⟨g1, o1, none⟩) 5 c1, .slice (some ⟨g2, o2, none⟩) 2 c2] 78)
  have hz : (w6.alloc (.cells #[.slice (some ⟨g1, o1, none⟩) 5 c1, .slice (some ⟨g2, o2, none⟩) 2 c2] 78)).heap.size = w6.heap.size + 1 := by simp
  have H7 := Aside.mk (And.intro hbl (And.intro hgeo (And.intro hpg (And.intro hr1 (And.intro hr2 (And.intro hpn (And.intro hs5 (And.intro hb6.size hz))))))))
  obtain ⟨g14, hg14⟩ : ∃ g14, g14 = w6.heap.size := ⟨_, rfl⟩
  rw [← hg14] at H7 hg1' hg2' ⊢
  clear hgeo hb6 r1 r2 hbo hg14 H5 H6 hs5 hbl hpg hr1 hr2 hpn hz
  generalize w6.alloc (.cells #[.slice (some ⟨g1, o1, none⟩) 5 c1, .slice (some ⟨g2, o2, none⟩) 2 c2] 78) = w7 at *
  have hmk : (Instr.makeSlice 49 (.int .i64 8) (.int .i64 8)).run Tryz.prog w7 = .ok (.slice (some ⟨w7.heap.size, 0, none⟩) 8 8) (w7.alloc (.cells (madeCells #[.string ByteArray.empty] 8) 9)) := run_make_row' 49 9 (.string ByteArray.empty) 16 Tryz.underlying49 infoStr rfl .i64 .i64 8 (by omega) (by omega) w7
  go_upto_region 9 with fail
  have hbo : Below w7.heap.size w7 (w7.alloc (.cells (madeCells #[.string ByteArray.empty] 8) 9)) := (Below.refl _ _).alloc (Nat.le_refl _) _
  have hpn := heap_alloc_new w7 (.cells (madeCells #[.string ByteArray.empty] 8) 9)
  have hz : (w7.alloc (.cells (madeCells #[.string ByteArray.empty] 8) 9)).heap.size = w7.heap.size + 1 := by simp
  obtain ⟨b16, hb16⟩ : ∃ b16, b16 = w7.heap.size := ⟨_, rfl⟩
  obtain ⟨b, hb⟩ : ∃ b : BLoc, b = ⟨n, t, g7, g14, b16, .slice (some ⟨g1, o1, none⟩) 5 c1, .slice (some ⟨g2, o2, none⟩) 2 c2, w7.heap.size + 1⟩ := ⟨_, rfl⟩
  have hcl : (fullL fun j => if j < 0 then fillB 0 (n - 7) else ⟨#[]⟩).toArray = madeCells #[.string ByteArray.empty] 8 := by
    apply Array.ext'
    rw [madeCells_list]
    rfl
  have HPB : Aside (PB w (w7.alloc (.cells (madeCells #[.string ByteArray.empty] 8) 9)) L (chip0 2 8 (n + lowN8 t)) b (fun j => if j < 0 then fillB 0 (n - 7) else ⟨#[]⟩)) := ⟨by
    obtain ⟨e1, e2, e3, e4, e5, _, _⟩ := HL.out
    obtain ⟨k1, k2, k3, k4, k5, k6, k7, k8, k9⟩ := H7.out
    obtain ⟨_, _, _, k10, k11⟩ := H4.out
    have hi5 : L.hi ≤ g14 := by omega
    refine ⟨k1.trans (hbo.mono k1.size), by subst hb; exact below_blk k2 hbo, by subst hb; exact below_blk k6 hbo, by subst hb; exact (k4.mono (by omega)).below hbo, by subst hb; exact (k5.mono (by omega)).below hbo, by subst hb; rw [← hb16] at hpn; rw [hcl]; exact hpn, k3.below hbo, by omega, by subst hb; exact ⟨HS7.out, by show g7 < L.lo; omega⟩, by subst hb; exact ⟨hi5, by show g14 < w7.heap.size + 1; omega⟩, by subst hb; exact ⟨by show L.hi ≤ b16; omega, by show b16 < w7.heap.size + 1; omega⟩, by subst hb; intro q hq; simp [Value.ownBlock] at hq; show q < w7.heap.size + 1; omega, by subst hb; intro q hq; simp [Value.ownBlock] at hq; show q < w7.heap.size + 1; omega, by subst hb; show w7.heap.size + 1 ≤ _; rw [hz]; exact Nat.le_refl _, by subst hb; exact ⟨e2, e3, h24, h32, e5⟩⟩⟩
  have HS0 : Aside (∃ S, Wr S n t (payF n x) (fun _ => false) (fun _ => false) 0 0 ∧ PB w (w7.alloc (.cells (madeCells #[.string ByteArray.empty] 8) 9)) L S b (fun j => if j < 0 then fillB 0 (n - 7) else ⟨#[]⟩)) := ⟨_, Wr.zero _, HPB.out⟩
  have Hbf : Aside (BIs b g7 g14 b16 g1 o1 c1 g2 o2 c2 n t) := ⟨by subst hb; exact ⟨rfl, rfl, rfl, rfl, rfl, rfl, rfl⟩⟩
  rw [← hb16]
  clear HPB hcl hbo hpn hz hb hb16 d1 hmk H7 H4 HDL HPO HPR hg1 hg1' hg2 hg2' HS7
  generalize w7.alloc (.cells (madeCells #[.string ByteArray.empty] 8) 9) = w8 at *
  obtain ⟨S, HS⟩ : ∃ S, Aside (Wr S n t (payF n x) (fun _ => false) (fun _ => false) 0 0 ∧ PB w w8 L S b (fun j => if j < 0 then fillB 0 (n - 7) else ⟨#[]⟩)) := ⟨_, ⟨HS0.out.choose_spec⟩⟩
  clear HS0
  obtain ⟨m, hm⟩ : ∃ m, m = n - 7 := ⟨_, rfl⟩
  rw [← hm]
  have HM : Aside (m = n - 7 ∧ 24 ≤ n ∧ n ≤ 32) := ⟨hm, h24, h32⟩
  have hm1 : m ≤ 25 := by omega
  clear hm h24 h32
  have hzt := zeros_text m (by omega)
  have hmb := make_bytesP m (by omega)
  go_wp2_with fail
  go_loopw [17] (fun s17 wr => ∃ (k : Nat) (F : Nat → ByteArray), k ≤ 8 ∧ s17 = .int .i64 (k : Int) ∧ Aside (PB w wr L S b F)) (fun s17 _ => 8 - (intOf s17).toNat)
  case atStart => exact ⟨0, _, by omega, rfl, ⟨HS.out.2⟩⟩
  case round =>
    obtain ⟨k, F, hk, rfl, HP⟩ := hrel
    have q0 := (HP.out.sees Hbf.out).geo
    by_cases hlt : k < 8
    · have hk1 : IntKind.i64.wrap ((k : Int) + 1) = (k : Int) + 1 := by rw [IntKind.wrap_i64]; omega
      have HA := Aside.mk ((HP.out.alloc (.cells (madeCells #[.int .u8 0] m) 5)))
      have q1 := (HA.out.sees Hbf.out).full k hlt
      have q2 := (HA.out.sees Hbf.out).free k
      go_wp2
      have HQ := Aside.mk ((HA.out.put k (fillB 0 m)))
      rw [Hbf.out.2.2.1] at HQ
      exact ⟨⟨k + 1, _, by omega, by go_num, HQ⟩, by simp [intOf]; omega⟩
    · have hlt2 : ¬ (k : Int) < 8 := by omega
      clear hk hlt hmb
      go_upto_region 14 with fail
      go_loopw [18] (fun s18 wr => ∃ (k : Nat) (F : Nat → ByteArray) (S : ChS), k ≤ 5 ∧ s18 = .int .i64 (k : Int) ∧ Aside ((∀ j, j < k → F j = fullB n x j) ∧ Wr S n t (payF n x) (fun j => decide (j < k)) (fun _ => false) k 0 ∧ PB w wr L S b F)) (fun s18 _ => 5 - (intOf s18).toNat)
      case atStart => exact ⟨0, F, S, by omega, rfl, ⟨fun j hj => absurd hj (by omega), HS.out.1, HP.out⟩⟩
      case round =>
        clear HS HP q0
        obtain ⟨k, F, S, hk, rfl, HP⟩ := hrel
        have q0 := (HP.out.2.2.sees Hbf.out).pl0
        by_cases hlt : k < 5
        · have hk1 : IntKind.i64.wrap ((k : Int) + 1) = (k : Int) + 1 := by rw [IntKind.wrap_i64]; omega
          -- SLOW
          as_aux_lemma =>
            go_upto_if 92 with fail
            go_cut [19] (fun s19 wx => s19 = .string (payB x m k) ∧ Aside (PB w wx L S b F))
            case first =>
              by_cases hkl : k < len
              · obtain ⟨bx, ox, rfl, hcell⟩ := HX.out.2.2.cells hkl
                have y1 := hcell w.heap.size wr.drew (Nat.le_refl _) HP.out.2.2.drew.bel
                obtain ⟨s, hs⟩ : ∃ s, s = x.getD k ByteArray.empty := ⟨_, rfl⟩
                rw [← hs] at y1
                obtain ⟨q, hq⟩ : ∃ q, q = min s.size m := ⟨_, rfl⟩
                have hmin : min (s.size : Int) (m : Int) = (q : Int) := by omega
                have hsl := slice_to s q (by omega)
                have hpb : payB x m k = s.extract 0 q := by unfold payB; rw [if_pos (by rw [HX.out.1]; exact hkl), ← hs, hq]
                have HPB := Aside.mk hpb
                clear hpb hq hs hcell
                go_wp2_with fail
                go_region
                rw [← HPB.out]
                go_wp2
                go_meet
                exact ⟨rfl, ⟨HP.out.2.2.drew⟩⟩
              · have hpb : payB x m k = ⟨#[]⟩ := by unfold payB; rw [if_neg (by rw [HX.out.1]; exact hkl)]
                have HPB := Aside.mk hpb
                clear hpb
                go_wp2
                go_meet
                exact ⟨by rw [HPB.out], ⟨HP.out.2.2⟩⟩
            case rest =>
              obtain ⟨rfl, HW⟩ := hcut
              have hps := payB_size x m k
              have HF := Aside.mk (show fullB n x k = payB x m k ++ fillB 0 (m - (payB x m k).size) by rw [fullB_data n x hlt, ← HM.out.1]; unfold padP; rw [show n - 7 - (payB x m k).size = m - (payB x m k).size by rw [HM.out.1]])
              have HPF := Aside.mk (show payF n x k = payB x m k by unfold payF; rw [if_pos hlt, ← HM.out.1])
              generalize payB x m k = s at *
              obtain ⟨z, hz⟩ : ∃ z, z = m - s.size := ⟨_, rfl⟩
              rw [← hz] at HF
              have hsub : (m : Int) - (s.size : Int) = (z : Int) := by omega
              have hw1 : IntKind.i64.wrap ((m : Int) - (s.size : Int)) = (z : Int) := by rw [IntKind.wrap_i64]; omega
              have hmz := make_bytesP z (by omega)
              have hcz := zeros_text z (by omega) wc
              have hcd := zeros_drew z (by omega) wc
              have HV := HW.out.sees Hbf.out
              have v0 := HV.pl0
              have v1 := HV.dat k hlt
              have HA := Aside.mk ((HW.out.alloc (.cells (madeCells #[.int .u8 0] z) 5)).drew)
              have HB := (HA.out.sees Hbf.out)
              have u0 := HB.pl0
              have u1 := HB.dat k hlt
              have u2 := HB.full k (by omega)
              have u3 := HB.free k
              clear HB
              clear hz HV
              have hcat : ¬ 9223372036854775807 < s.size + (fillB 0 z).size := by rw [fillB_size]; omega
              have HC0 := (HW.out.alloc (.cells (madeCells #[.int .u8 0] z) 5)).put k (s ++ fillB 0 z)
              rw [Hbf.out.2.2.1] at HC0
              have HC := Aside.mk HC0.drew
              have HCS := HC.out.sees Hbf.out
              have n0 := HCS.pl0
              have n1 := HCS.dat k hlt
              clear HC0 HCS
              have HSB := Aside.mk (show b.n = n ∧ b.t = t from ⟨Hbf.out.2.2.2.2.2.1, Hbf.out.2.2.2.2.2.2⟩)
              have hput := back_put HC.out HN.out HSB.out HP.out.2.1 (by omega) k (by omega) (fun q h1 _ => decide_eq_false (by omega)) (payF_size (by have := HM.out; omega) x k) (d' := fun q => decide (q < k + 1)) (fun q => by rw [Bool.eq_iff_iff]; simp; omega)
              rw [HPF.out] at hput
              have HPUT := Aside.mk hput
              clear hput HC
              go_wp2_with fail
              go_region
              clear u0 u1 u2 u3 v0 v1 HA hmz hcz hcd hcat
              generalize ((wc.alloc (.cells (madeCells #[.int .u8 0] z) 5)).setCell ⟨b16, k, none⟩ (.string (s ++ fillB 0 z))).drew = wd at *
              go_wp2_with (go_at_call 22; refine HPUT.out.mono ?_; rintro e w' ⟨rfl, S', HD⟩)
              exact ⟨⟨k + 1, _, S', by omega, by go_num, ⟨fun j hj => by
                by_cases e : j = k
                · show (if j = k then _ else _) = _
                  rw [if_pos e, ← HF.out, e]
                · show (if j = k then _ else _) = _
                  rw [if_neg e]
                  exact HP.out.1 j (by omega), HD.out.1, HD.out.2⟩⟩, by simp [intOf]; omega⟩
        · obtain rfl : k = 5 := by omega
          clear hlt
          have HQ : Aside ((∀ j, dnB 0 j = true → F j = fullB n x j) ∧ Wr S n t (payF n x) (dnB 0) (fun _ => false) 5 0 ∧ PB w wr L S b F) := ⟨fun j hj => HP.out.1 j (by simpa [dnB] using hj), by
            have := HP.out.2.1
            have e : dnB 0 = fun j => decide (j < 5) := by funext j; simp [dnB]
            rwa [e], HP.out.2.2⟩
          clear HP
          have HMB : Aside (∀ (W : World) (S : ChS) (F : Nat → ByteArray) (k : Nat), k < 2 → PB w W L S b F → Calls Tryz.prog 29 #[.agg #[.slice (some ⟨g1, o1, none⟩) 5 c1, .slice (some ⟨g2, o2, none⟩) 2 c2], .int .i64 (k : Int)] W (MembPost W k)) := ⟨fun W S F k hk h => by
            have hr := h.r1
            rw [Hbf.out.2.2.2.1] at hr
            exact back_members hk hr ⟨_, _, _, rfl⟩⟩
          go_wp2_with fail
          go_loopw [20] (fun s20 wr => ∃ (k : Nat) (F : Nat → ByteArray) (S : ChS), k ≤ 2 ∧ s20 = .int .i64 (k : Int) ∧ Aside ((∀ j, dnB k j = true → F j = fullB n x j) ∧ Wr S n t (payF n x) (dnB k) (fun _ => false) (5 + k) 0 ∧ PB w wr L S b F)) (fun s20 _ => 2 - (intOf s20).toNat)
          case atStart => exact ⟨0, F, S, by omega, rfl, HQ⟩
          case round =>
            clear HQ q0
            obtain ⟨k, F, S, hk, rfl, HP⟩ := hrel
            have q0 := (HP.out.2.2.sees Hbf.out).pl0
            have q1 := (HP.out.2.2.sees Hbf.out).pl1
            by_cases hlt : k < 2
            · have hk1 : IntKind.i64.wrap ((k : Int) + 1) = (k : Int) + 1 := by rw [IntKind.wrap_i64]; omega
              -- SLOW
              as_aux_lemma =>
                go_upto_region 26 with (go_at_call 29; refine (HMB.out wr S F k hlt HP.out.2.2).mono ?_; rintro e wa ⟨gm, om, cm, rfl, hcm1, hcm2, HG⟩)
                have hN := grpL_len k
                obtain ⟨N, hNe⟩ : ∃ N, N = (grpL k).length := ⟨_, rfl⟩
                rw [← hNe] at hN hcm1 HG ⊢
                have HNE := Aside.mk hNe
                clear hNe q0 q1
                have HPa := Aside.mk (HP.out.2.2.below HG.out.2)
                go_wp2_with fail
                go_loopw [22, 23] (fun s22 s23 wq => ∃ i : Nat, i ≤ N ∧ s23 = .int .i64 (i : Int) ∧ Row wq wa.heap.size 9 1 s22 i (strsV (((grpL k).take i).map (fullB n x))) ∧ Below wa.heap.size wa wq) (fun _ s23 _ => N - (intOf s23).toNat)
                case atStart => exact ⟨0, by omega, rfl, Row.nil _ _ _ _, Below.refl _ _⟩
                case round =>
                  obtain ⟨i, hi, rfl, hr, hb⟩ := hrel
                  have HPq := Aside.mk (HPa.out.below hb)
                  by_cases hil : i < N
                  · have hi1 : IntKind.i64.wrap ((i : Int) + 1) = (i : Int) + 1 := by rw [IntKind.wrap_i64]; omega
                    have hil2 : i < (grpL k).length := by rw [← HNE.out]; exact hil
                    have hj5 := memb_lt hil2
                    have e1 : wr.cell? ⟨gm, om + i, none⟩ = some (.int .i64 (((grpL k).getD i 0 : Nat) : Int)) := cells_at (HG.out.1.below hb) i _ (memb_at hil2)
                    have HT := Aside.mk (grp_take hil2 (fullB n x))
                    obtain ⟨j, hj⟩ : ∃ j, j = (grpL k).getD i 0 := ⟨_, rfl⟩
                    rw [← hj] at hj5 e1 HT
                    have e2 := (HPq.out.sees Hbf.out).full j (by omega)
                    rw [HP.out.1 j (by simp [dnB, hj5])] at e2
                    generalize fullB n x j = s at *
                    have hbase := hb.size
                    clear hj hil2
                    go_wp2_with (at_builtin; refine wpList_append_one (w0 := wa) wa.heap.size rfl _ _ 49 9 1 16 (.string ByteArray.empty) rfl Tryz.underlying49 infoStr rfl (by decide) u22 i _ #[.string s] rfl rfl rfl hr (by simp [Value.oneCell']) hb hbase (by omega) (by simp only [maxLen]; omega) ?_; intro v1 w4 hr5 hb5 hg1 hat1)
                    go_roundw
                    case rel => exact ⟨i + 1, by omega, by go_num, by rw [HT.out]; exact hr5, hb5⟩
                    case measure => simp [intOf]; omega
                  · obtain rfl : i = N := by omega
                    have HRL : Aside (((grpL k).take i).map (fullB n x) = (grpL k).map (fullB n x)) := ⟨by rw [HNE.out, List.take_length]⟩
                    rw [HRL.out] at hr
                    obtain ⟨A5, c5, rfl, hn5, hc5, hm5, hR5⟩ := hr.readStrs
                    have HX5 : Aside (∀ W, Below wr.heap.size wr W → Calls Tryz.prog 30 #[.int .i64 (m : Int), .slice A5 i c5] W fun e w' => e = .returned (.string (fullB n x (parB k))) ∧ Below W.heap.size W w') := ⟨fun W hW => by
                      have := parity_xor_nat m A5 i c5 _ W (by omega) (by omega) hc5 hm5 (hR5.below (Nat.le_refl _) hW)
                      have hp := full_par (n := n) x k hlt
                      rw [← HNE.out, ← HM.out.1] at hp
                      rwa [hp] at this⟩
                    have q0 := (HPq.out.drew.sees Hbf.out).pl1
                    have q1 := (HPq.out.drew.sees Hbf.out).par hlt
                    have hpl := parB_lt k
                    obtain ⟨p, hp⟩ : ∃ p, p = parB k := ⟨_, rfl⟩
                    rw [← hp] at q1 hpl HX5
                    have HPP := Aside.mk hp
                    have hpl2 : (p : Int) < 8 := by omega
                    clear hr hil hp hn5
                    go_upto_region 31 with fail
                    go_cut [23] (fun _ wx => Aside (PB w wx L S b (fun q => if q = p then fullB n x p else F q)))
                    case first =>
                      -- SLOW
                      as_aux_lemma =>
                        refine wp_region_r4 10 [(10, .pointer (some ⟨L.p, 0, none⟩)), (13, .int .i64 m), (14, .pointer (some ⟨g14, 0, none⟩)), (16, .slice (some ⟨b16, 0, none⟩) 8 8), (20, .int .i64 k), (22, .slice A5 i c5)] (by kernel_rfl) (by kernel_rfl) (rel_small (by kernel_rfl)) (chgV (fun _ => False) (fun _ => True) [(152, .val (.slice (some ⟨b16, 0, none⟩) 8 8)), (153, .val (.pointer (some ⟨g14, 1, none⟩))), (154, .val (.slice (some ⟨g2, o2, none⟩) 2 c2)), (155, .val (.int .i64 k)), (156, .val (.pointer (some ⟨g2, o2 + k, none⟩))), (157, .val (.int .i64 p)), (158, .val (.int .i64 m)), (159, .val (.slice A5 i c5)), (160, .val (.string (fullB n x p))), (161, .val (.pointer (some ⟨b16, p, none⟩)))]) (Chg (fun _ => False) (fun _ => True)) (chg_drew _ _ _ (id)) Chg.refl (fun _ _ _ => Chg.trans) (chgV_stable _ _ _) ⟨rfl, rfl, rfl, rfl, rfl, rfl, trivial⟩ (by kernel_rfl) ⟨?_, ?_, ?_, ?_, ?_, ?_, ?_, ?_, ?_, ?_, trivial⟩ ?_
                        · -- 152 := move t16
                          intro T D W hW hold hd K Q hK
                          refine .inl ⟨wanted_free rfl _, ?_⟩
                          dsimp only [bare]
                          have ze16 : T.getD 16 undef = .slice (some ⟨b16, 0, none⟩) 8 8 := hold.2.2.2.1
                          have HK : ∀ v W', Chg (fun _ => False) (fun _ => True) W W' → chgV (fun _ => False) (fun _ => True) _ 152 v W' → K { tmps := T.setIfInBounds 152 v, defers := D } W' := hK
                          change wpList _ #[_] _ [_] { tmps := T, defers := D } W
                          clear hK hd hold
                          have HK := Aside.mk HK
                          go_wp2
                          exact HK.out _ _ (Chg.refl _) rfl
                        · -- 153 := fieldAddr 78 t14 1
                          intro T D W hW hold hd K Q hK
                          refine .inl ⟨wanted_free rfl _, ?_⟩
                          dsimp only [bare]
                          have ze14 : T.getD 14 undef = .pointer (some ⟨g14, 0, none⟩) := hold.2.2.1
                          have HK : ∀ v W', Chg (fun _ => False) (fun _ => True) W W' → chgV (fun _ => False) (fun _ => True) _ 153 v W' → K { tmps := T.setIfInBounds 153 v, defers := D } W' := hK
                          change wpList _ #[_] _ [_] { tmps := T, defers := D } W
                          clear hK hd hold
                          have HK := Aside.mk HK
                          go_wp2
                          exact HK.out _ _ (Chg.refl _) rfl
                        · -- 154 := load 36 t153
                          intro T D W hW hold hd K Q hK
                          refine .inl ⟨wanted_free rfl _, ?_⟩
                          dsimp only [bare]
                          have ze153 : T.getD 153 undef = .pointer (some ⟨g14, 1, none⟩) := hd 153 rfl rfl
                          have HK : ∀ v W', Chg (fun _ => False) (fun _ => True) W W' → chgV (fun _ => False) (fun _ => True) _ 154 v W' → K { tmps := T.setIfInBounds 154 v, defers := D } W' := hK
                          change wpList _ #[_] _ [_] { tmps := T, defers := D } W
                          clear hK hd hold
                          have HK := Aside.mk HK
                          have hcell := ((HPq.out.below (Chg.none hW)).sees Hbf.out).pl1
                          go_wp2
                          exact HK.out _ _ (Chg.refl _) rfl
                        · -- 155 := move t20
                          intro T D W hW hold hd K Q hK
                          refine .inl ⟨wanted_free rfl _, ?_⟩
                          dsimp only [bare]
                          have ze20 : T.getD 20 undef = .int .i64 k := hold.2.2.2.2.1
                          have HK : ∀ v W', Chg (fun _ => False) (fun _ => True) W W' → chgV (fun _ => False) (fun _ => True) _ 155 v W' → K { tmps := T.setIfInBounds 155 v, defers := D } W' := hK
                          change wpList _ #[_] _ [_] { tmps := T, defers := D } W
                          clear hK hd hold
                          have HK := Aside.mk HK
                          go_wp2
                          exact HK.out _ _ (Chg.refl _) rfl
                        · -- 156 := indexAddr 36 t154 t155
                          intro T D W hW hold hd K Q hK
                          refine .inl ⟨wanted_free rfl _, ?_⟩
                          dsimp only [bare]
                          have ze154 : T.getD 154 undef = .slice (some ⟨g2, o2, none⟩) 2 c2 := hd 154 rfl rfl
                          have ze155 : T.getD 155 undef = .int .i64 k := hd 155 rfl rfl
                          have HK : ∀ v W', Chg (fun _ => False) (fun _ => True) W W' → chgV (fun _ => False) (fun _ => True) _ 156 v W' → K { tmps := T.setIfInBounds 156 v, defers := D } W' := hK
                          change wpList _ #[_] _ [_] { tmps := T, defers := D } W
                          clear hK hd hold
                          have HK := Aside.mk HK
                          have p1 : (0 : Int) ≤ (k : Int) := (by omega); have p2 : (k : Int) < 2 := (by omega)
                          go_wp2
                          exact HK.out _ _ (Chg.refl _) rfl
                        · -- 157 := load 3 t156
                          intro T D W hW hold hd K Q hK
                          refine .inl ⟨wanted_free rfl _, ?_⟩
                          dsimp only [bare]
                          have ze156 : T.getD 156 undef = .pointer (some ⟨g2, o2 + k, none⟩) := hd 156 rfl rfl
                          have HK : ∀ v W', Chg (fun _ => False) (fun _ => True) W W' → chgV (fun _ => False) (fun _ => True) _ 157 v W' → K { tmps := T.setIfInBounds 157 v, defers := D } W' := hK
                          change wpList _ #[_] _ [_] { tmps := T, defers := D } W
                          clear hK hd hold
                          have HK := Aside.mk HK
                          have hcell := ((HPq.out.below (Chg.none hW)).sees Hbf.out).par hlt; rw [← HPP.out] at hcell
                          go_wp2
                          exact HK.out _ _ (Chg.refl _) rfl
                        · -- 158 := move t13
                          intro T D W hW hold hd K Q hK
                          refine .inl ⟨wanted_free rfl _, ?_⟩
                          dsimp only [bare]
                          have ze13 : T.getD 13 undef = .int .i64 m := hold.2.1
                          have HK : ∀ v W', Chg (fun _ => False) (fun _ => True) W W' → chgV (fun _ => False) (fun _ => True) _ 158 v W' → K { tmps := T.setIfInBounds 158 v, defers := D } W' := hK
                          change wpList _ #[_] _ [_] { tmps := T, defers := D } W
                          clear hK hd hold
                          have HK := Aside.mk HK
                          go_wp2
                          exact HK.out _ _ (Chg.refl _) rfl
                        · -- 159 := move t22
                          intro T D W hW hold hd K Q hK
                          refine .inl ⟨wanted_free rfl _, ?_⟩
                          dsimp only [bare]
                          have ze22 : T.getD 22 undef = .slice A5 i c5 := hold.2.2.2.2.2.1
                          have HK : ∀ v W', Chg (fun _ => False) (fun _ => True) W W' → chgV (fun _ => False) (fun _ => True) _ 159 v W' → K { tmps := T.setIfInBounds 159 v, defers := D } W' := hK
                          change wpList _ #[_] _ [_] { tmps := T, defers := D } W
                          clear hK hd hold
                          have HK := Aside.mk HK
                          go_wp2
                          exact HK.out _ _ (Chg.refl _) rfl
                        · -- 160 := CALL f30 chert/parity.Xor [t158, t159] : [3, 49]
                          intro T D W hW hold hd K Q hK
                          refine .inl ⟨wanted_free rfl _, ?_⟩
                          dsimp only [bare]
                          have ze158 : T.getD 158 undef = .int .i64 m := hd 158 rfl rfl
                          have ze159 : T.getD 159 undef = .slice A5 i c5 := hd 159 rfl rfl
                          have HK : ∀ v W', Chg (fun _ => False) (fun _ => True) W W' → chgV (fun _ => False) (fun _ => True) _ 160 v W' → K { tmps := T.setIfInBounds 160 v, defers := D } W' := hK
                          change wpList _ #[_] _ [_] { tmps := T, defers := D } W
                          clear hK hd hold
                          have HK := Aside.mk HK
                          go_wp2_with (go_at_call 30; refine (HX5.out W (Chg.none hW)).mono ?_; rintro e w5 ⟨rfl, hb5⟩)
                          exact HK.out _ _ (Chg.of_below hb5 (fun _ => trivial)) rfl
                        · -- 161 := indexAddr 49 t152 t157
                          intro T D W hW hold hd K Q hK
                          refine .inl ⟨wanted_free rfl _, ?_⟩
                          dsimp only [bare]
                          have ze152 : T.getD 152 undef = .slice (some ⟨b16, 0, none⟩) 8 8 := hd 152 rfl rfl
                          have ze157 : T.getD 157 undef = .int .i64 p := hd 157 rfl rfl
                          have HK : ∀ v W', Chg (fun _ => False) (fun _ => True) W W' → chgV (fun _ => False) (fun _ => True) _ 161 v W' → K { tmps := T.setIfInBounds 161 v, defers := D } W' := hK
                          change wpList _ #[_] _ [_] { tmps := T, defers := D } W
                          clear hK hd hold
                          have HK := Aside.mk HK
                          have p1 : (0 : Int) ≤ (p : Int) := (by omega); have p2 : (p : Int) < 8 := hpl2
                          go_wp2
                          exact HK.out _ _ (Chg.refl _) rfl
                        · intro f W hW hd aAct hAct
                          have ze152 : f 152 = .slice (some ⟨b16, 0, none⟩) 8 8 := hd 152 rfl
                          have ze153 : f 153 = .pointer (some ⟨g14, 1, none⟩) := hd 153 rfl
                          have ze154 : f 154 = .slice (some ⟨g2, o2, none⟩) 2 c2 := hd 154 rfl
                          have ze155 : f 155 = .int .i64 k := hd 155 rfl
                          have ze156 : f 156 = .pointer (some ⟨g2, o2 + k, none⟩) := hd 156 rfl
                          have ze157 : f 157 = .int .i64 p := hd 157 rfl
                          have ze158 : f 158 = .int .i64 m := hd 158 rfl
                          have ze159 : f 159 = .slice A5 i c5 := hd 159 rfl
                          have ze160 : f 160 = .string (fullB n x p) := hd 160 rfl
                          have ze161 : f 161 = .pointer (some ⟨b16, p, none⟩) := hd 161 rfl
                          simp only [List.take_succ_cons, List.take_zero, putAll, List.foldl_cons, List.foldl_nil, Option.getD_some] at hAct
                          simp only [ze152, ze153, ze154, ze155, ze156, ze157, ze158, ze159, ze160, ze161] at hAct
                          subst hAct
                          simp only [List.drop_succ_cons, List.drop_zero, Act.put, List.setIfInBounds_toArray, List.set_cons_zero, List.set_cons_succ]
                          clear hd ze152 ze153 ze154 ze155 ze156 ze157 ze158 ze159 ze160 ze161
                          have H6 := Aside.mk (HPq.out.below (Chg.none hW))
                          have u2 := (H6.out.sees Hbf.out).full p hpl
                          have u3 := (H6.out.sees Hbf.out).free p
                          have HC0 := H6.out.put p (fullB n x p)
                          rw [Hbf.out.2.2.1] at HC0
                          have HC := Aside.mk HC0
                          clear hW HC0
                          go_wp2
                          go_meet
                          exact HC
                    case rest =>
                      have HPUT : Aside (∀ V, PB w V L S b (fun q => if q = p then fullB n x p else F q) → Calls Tryz.prog 22 #[.pointer (some ⟨L.p, 0, none⟩), .int .i64 0, .int .i64 (p : Int), .string (fullB n x p)] V (PutPost w L b (fun q => if q = p then fullB n x p else F q) (payF n x) (dnB (k + 1)) (fun _ => false) (5 + k + 1) 0 n t (.int .i64 0))) := ⟨fun V hV => by
                        have hput := back_put hV HN.out (show b.n = n ∧ b.t = t from ⟨Hbf.out.2.2.2.2.2.1, Hbf.out.2.2.2.2.2.2⟩) HP.out.2.1 (by omega) p hpl (fun q h1 h2 => dn_fresh hlt q (by rw [← HPP.out]; exact h1) h2) (payF_size (by have := HM.out; omega) x p) (d' := dnB (k + 1)) (fun q => by rw [HPP.out]; exact dn_next hlt q)
                        have hpy : payF n x p = fullB n x p := by rw [HPP.out]; exact parB_pay x
                        rwa [hpy] at hput⟩
                      have HC := hcut
                      clear hcut q0 q1
                      have HS2 := HC.out.drew.sees Hbf.out
                      have n0 := HS2.pl1
                      have n1 := HS2.par hlt
                      rw [← HPP.out] at n1
                      have n2 := HS2.full p hpl
                      replace n2 : wc.drew.cell? ⟨b16, p, none⟩ = some (.string (fullB n x p)) := by rw [n2, if_pos rfl]
                      clear HS2
                      have HFE : Aside (∀ j, dnB (k + 1) j = true → (if j = p then fullB n x p else F j) = fullB n x j) := ⟨fun j hj => by
                        by_cases e : j = p
                        · rw [if_pos e, e]
                        · rw [if_neg e]
                          refine HP.out.1 j ?_
                          rw [dn_next hlt, ← HPP.out] at hj
                          simpa [e] using hj⟩
                      apply_assumption
                      go_upto_region 32 with fail
                      go_cut [177] (fun s177 wx => s177 = .bool false ∧ ∃ S', Aside (Wr S' n t (payF n x) (dnB (k + 1)) (fun _ => false) (5 + k + 1) 0 ∧ PB w wx L S' b (fun q => if q = p then fullB n x p else F q)))
                      case first =>
                        -- SLOW
                        as_aux_lemma =>
                          refine wp_region_r4 14 [(10, .pointer (some ⟨L.p, 0, none⟩)), (13, .int .i64 m), (14, .pointer (some ⟨g14, 0, none⟩)), (16, .slice (some ⟨b16, 0, none⟩) 8 8), (20, .int .i64 k), (22, .slice A5 i c5)] (by kernel_rfl) (by kernel_rfl) (rel_small (by kernel_rfl)) (chgV (fun _ => False) (fun _ => True) [(162, .val (.pointer (some ⟨L.p, 0, none⟩))), (163, .val (.pointer (some ⟨g14, 1, none⟩))), (164, .val (.slice (some ⟨g2, o2, none⟩) 2 c2)), (165, .val (.int .i64 k)), (166, .val (.pointer (some ⟨g2, o2 + k, none⟩))), (167, .val (.int .i64 p)), (168, .val (.slice (some ⟨b16, 0, none⟩) 8 8)), (169, .val (.pointer (some ⟨g14, 1, none⟩))), (170, .val (.slice (some ⟨g2, o2, none⟩) 2 c2)), (171, .val (.int .i64 k)), (172, .val (.pointer (some ⟨g2, o2 + k, none⟩))), (173, .val (.int .i64 p)), (174, .val (.pointer (some ⟨b16, p, none⟩))), (175, .val (.string (fullB n x p)))]) (Chg (fun _ => False) (fun _ => True)) (chg_drew _ _ _ (id)) Chg.refl (fun _ _ _ => Chg.trans) (chgV_stable _ _ _) ⟨rfl, rfl, rfl, rfl, rfl, rfl, trivial⟩ (by kernel_rfl) ⟨?_, ?_, ?_, ?_, ?_, ?_, ?_, ?_, ?_, ?_, ?_, ?_, ?_, ?_, trivial⟩ ?_
                          · -- 162 := move t10
                            intro T D W hW hold hd K Q hK
                            refine .inl ⟨wanted_free rfl _, ?_⟩
                            dsimp only [bare]
                            have ze10 : T.getD 10 undef = .pointer (some ⟨L.p, 0, none⟩) := hold.1
                            have HK : ∀ v W', Chg (fun _ => False) (fun _ => True) W W' → chgV (fun _ => False) (fun _ => True) _ 162 v W' → K { tmps := T.setIfInBounds 162 v, defers := D } W' := hK
                            change wpList _ #[_] _ [_] { tmps := T, defers := D } W
                            clear hK hd hold
                            have HK := Aside.mk HK
                            go_wp2
                            exact HK.out _ _ (Chg.refl _) rfl
                          · -- 163 := fieldAddr 78 t14 1
                            intro T D W hW hold hd K Q hK
                            refine .inl ⟨wanted_free rfl _, ?_⟩
                            dsimp only [bare]
                            have ze14 : T.getD 14 undef = .pointer (some ⟨g14, 0, none⟩) := hold.2.2.1
                            have HK : ∀ v W', Chg (fun _ => False) (fun _ => True) W W' → chgV (fun _ => False) (fun _ => True) _ 163 v W' → K { tmps := T.setIfInBounds 163 v, defers := D } W' := hK
                            change wpList _ #[_] _ [_] { tmps := T, defers := D } W
                            clear hK hd hold
                            have HK := Aside.mk HK
                            go_wp2
                            exact HK.out _ _ (Chg.refl _) rfl
                          · -- 164 := load 36 t163
                            intro T D W hW hold hd K Q hK
                            refine .inl ⟨wanted_free rfl _, ?_⟩
                            dsimp only [bare]
                            have ze163 : T.getD 163 undef = .pointer (some ⟨g14, 1, none⟩) := hd 163 rfl rfl
                            have HK : ∀ v W', Chg (fun _ => False) (fun _ => True) W W' → chgV (fun _ => False) (fun _ => True) _ 164 v W' → K { tmps := T.setIfInBounds 164 v, defers := D } W' := hK
                            change wpList _ #[_] _ [_] { tmps := T, defers := D } W
                            clear hK hd hold
                            have HK := Aside.mk HK
                            have hcell := ((HC.out.below (Chg.none hW)).sees Hbf.out).pl1
                            go_wp2
                            exact HK.out _ _ (Chg.refl _) rfl
                          · -- 165 := move t20
                            intro T D W hW hold hd K Q hK
                            refine .inl ⟨wanted_free rfl _, ?_⟩
                            dsimp only [bare]
                            have ze20 : T.getD 20 undef = .int .i64 k := hold.2.2.2.2.1
                            have HK : ∀ v W', Chg (fun _ => False) (fun _ => True) W W' → chgV (fun _ => False) (fun _ => True) _ 165 v W' → K { tmps := T.setIfInBounds 165 v, defers := D } W' := hK
                            change wpList _ #[_] _ [_] { tmps := T, defers := D } W
                            clear hK hd hold
                            have HK := Aside.mk HK
                            go_wp2
                            exact HK.out _ _ (Chg.refl _) rfl
                          · -- 166 := indexAddr 36 t164 t165
                            intro T D W hW hold hd K Q hK
                            refine .inl ⟨wanted_free rfl _, ?_⟩
                            dsimp only [bare]
                            have ze164 : T.getD 164 undef = .slice (some ⟨g2, o2, none⟩) 2 c2 := hd 164 rfl rfl
                            have ze165 : T.getD 165 undef = .int .i64 k := hd 165 rfl rfl
                            have HK : ∀ v W', Chg (fun _ => False) (fun _ => True) W W' → chgV (fun _ => False) (fun _ => True) _ 166 v W' → K { tmps := T.setIfInBounds 166 v, defers := D } W' := hK
                            change wpList _ #[_] _ [_] { tmps := T, defers := D } W
                            clear hK hd hold
                            have HK := Aside.mk HK
                            have p1 : (0 : Int) ≤ (k : Int) := (by omega); have p2 : (k : Int) < 2 := (by omega)
                            go_wp2
                            exact HK.out _ _ (Chg.refl _) rfl
                          · -- 167 := load 3 t166
                            intro T D W hW hold hd K Q hK
                            refine .inl ⟨wanted_free rfl _, ?_⟩
                            dsimp only [bare]
                            have ze166 : T.getD 166 undef = .pointer (some ⟨g2, o2 + k, none⟩) := hd 166 rfl rfl
                            have HK : ∀ v W', Chg (fun _ => False) (fun _ => True) W W' → chgV (fun _ => False) (fun _ => True) _ 167 v W' → K { tmps := T.setIfInBounds 167 v, defers := D } W' := hK
                            change wpList _ #[_] _ [_] { tmps := T, defers := D } W
                            clear hK hd hold
                            have HK := Aside.mk HK
                            have hcell := ((HC.out.below (Chg.none hW)).sees Hbf.out).par hlt; rw [← HPP.out] at hcell
                            go_wp2
                            exact HK.out _ _ (Chg.refl _) rfl
                          · -- 168 := move t16
                            intro T D W hW hold hd K Q hK
                            refine .inl ⟨wanted_free rfl _, ?_⟩
                            dsimp only [bare]
                            have ze16 : T.getD 16 undef = .slice (some ⟨b16, 0, none⟩) 8 8 := hold.2.2.2.1
                            have HK : ∀ v W', Chg (fun _ => False) (fun _ => True) W W' → chgV (fun _ => False) (fun _ => True) _ 168 v W' → K { tmps := T.setIfInBounds 168 v, defers := D } W' := hK
                            change wpList _ #[_] _ [_] { tmps := T, defers := D } W
                            clear hK hd hold
                            have HK := Aside.mk HK
                            go_wp2
                            exact HK.out _ _ (Chg.refl _) rfl
                          · -- 169 := fieldAddr 78 t14 1
                            intro T D W hW hold hd K Q hK
                            refine .inl ⟨wanted_free rfl _, ?_⟩
                            dsimp only [bare]
                            have ze14 : T.getD 14 undef = .pointer (some ⟨g14, 0, none⟩) := hold.2.2.1
                            have HK : ∀ v W', Chg (fun _ => False) (fun _ => True) W W' → chgV (fun _ => False) (fun _ => True) _ 169 v W' → K { tmps := T.setIfInBounds 169 v, defers := D } W' := hK
                            change wpList _ #[_] _ [_] { tmps := T, defers := D } W
                            clear hK hd hold
                            have HK := Aside.mk HK
                            go_wp2
                            exact HK.out _ _ (Chg.refl _) rfl
                          · -- 170 := load 36 t169
                            intro T D W hW hold hd K Q hK
                            refine .inl ⟨wanted_free rfl _, ?_⟩
                            dsimp only [bare]
                            have ze169 : T.getD 169 undef = .pointer (some ⟨g14, 1, none⟩) := hd 169 rfl rfl
                            have HK : ∀ v W', Chg (fun _ => False) (fun _ => True) W W' → chgV (fun _ => False) (fun _ => True) _ 170 v W' → K { tmps := T.setIfInBounds 170 v, defers := D } W' := hK
                            change wpList _ #[_] _ [_] { tmps := T, defers := D } W
                            clear hK hd hold
                            have HK := Aside.mk HK
                            have hcell := ((HC.out.below (Chg.none hW)).sees Hbf.out).pl1
                            go_wp2
                            exact HK.out _ _ (Chg.refl _) rfl
                          · -- 171 := move t20
                            intro T D W hW hold hd K Q hK
                            refine .inl ⟨wanted_free rfl _, ?_⟩
                            dsimp only [bare]
                            have ze20 : T.getD 20 undef = .int .i64 k := hold.2.2.2.2.1
                            have HK : ∀ v W', Chg (fun _ => False) (fun _ => True) W W' → chgV (fun _ => False) (fun _ => True) _ 171 v W' → K { tmps := T.setIfInBounds 171 v, defers := D } W' := hK
                            change wpList _ #[_] _ [_] { tmps := T, defers := D } W
                            clear hK hd hold
                            have HK := Aside.mk HK
                            go_wp2
                            exact HK.out _ _ (Chg.refl _) rfl
                          · -- 172 := indexAddr 36 t170 t171
                            intro T D W hW hold hd K Q hK
                            refine .inl ⟨wanted_free rfl _, ?_⟩
                            dsimp only [bare]
                            have ze170 : T.getD 170 undef = .slice (some ⟨g2, o2, none⟩) 2 c2 := hd 170 rfl rfl
                            have ze171 : T.getD 171 undef = .int .i64 k := hd 171 rfl rfl
                            have HK : ∀ v W', Chg (fun _ => False) (fun _ => True) W W' → chgV (fun _ => False) (fun _ => True) _ 172 v W' → K { tmps := T.setIfInBounds 172 v, defers := D } W' := hK
                            change wpList _ #[_] _ [_] { tmps := T, defers := D } W
                            clear hK hd hold
                            have HK := Aside.mk HK
                            have p1 : (0 : Int) ≤ (k : Int) := (by omega); have p2 : (k : Int) < 2 := (by omega)
                            go_wp2
                            exact HK.out _ _ (Chg.refl _) rfl
                          · -- 173 := load 3 t172
                            intro T D W hW hold hd K Q hK
                            refine .inl ⟨wanted_free rfl _, ?_⟩
                            dsimp only [bare]
                            have ze172 : T.getD 172 undef = .pointer (some ⟨g2, o2 + k, none⟩) := hd 172 rfl rfl
                            have HK : ∀ v W', Chg (fun _ => False) (fun _ => True) W W' → chgV (fun _ => False) (fun _ => True) _ 173 v W' → K { tmps := T.setIfInBounds 173 v, defers := D } W' := hK
                            change wpList _ #[_] _ [_] { tmps := T, defers := D } W
                            clear hK hd hold
                            have HK := Aside.mk HK
                            have hcell := ((HC.out.below (Chg.none hW)).sees Hbf.out).par hlt; rw [← HPP.out] at hcell
                            go_wp2
                            exact HK.out _ _ (Chg.refl _) rfl
                          · -- 174 := indexAddr 49 t168 t173
                            intro T D W hW hold hd K Q hK
                            refine .inl ⟨wanted_free rfl _, ?_⟩
                            dsimp only [bare]
                            have ze168 : T.getD 168 undef = .slice (some ⟨b16, 0, none⟩) 8 8 := hd 168 rfl rfl
                            have ze173 : T.getD 173 undef = .int .i64 p := hd 173 rfl rfl
                            have HK : ∀ v W', Chg (fun _ => False) (fun _ => True) W W' → chgV (fun _ => False) (fun _ => True) _ 174 v W' → K { tmps := T.setIfInBounds 174 v, defers := D } W' := hK
                            change wpList _ #[_] _ [_] { tmps := T, defers := D } W
                            clear hK hd hold
                            have HK := Aside.mk HK
                            have p1 : (0 : Int) ≤ (p : Int) := (by omega); have p2 : (p : Int) < 8 := hpl2
                            go_wp2
                            exact HK.out _ _ (Chg.refl _) rfl
                          · -- 175 := load 9 t174
                            intro T D W hW hold hd K Q hK
                            refine .inl ⟨wanted_free rfl _, ?_⟩
                            dsimp only [bare]
                            have ze174 : T.getD 174 undef = .pointer (some ⟨b16, p, none⟩) := hd 174 rfl rfl
                            have HK : ∀ v W', Chg (fun _ => False) (fun _ => True) W W' → chgV (fun _ => False) (fun _ => True) _ 175 v W' → K { tmps := T.setIfInBounds 175 v, defers := D } W' := hK
                            change wpList _ #[_] _ [_] { tmps := T, defers := D } W
                            clear hK hd hold
                            have HK := Aside.mk HK
                            have hcell := ((HC.out.below (Chg.none hW)).sees Hbf.out).full p hpl; rw [if_pos rfl] at hcell
                            go_wp2
                            exact HK.out _ _ (Chg.refl _) rfl
                          · intro f W hW hd aAct hAct
                            have ze162 : f 162 = .pointer (some ⟨L.p, 0, none⟩) := hd 162 rfl
                            have ze163 : f 163 = .pointer (some ⟨g14, 1, none⟩) := hd 163 rfl
                            have ze164 : f 164 = .slice (some ⟨g2, o2, none⟩) 2 c2 := hd 164 rfl
                            have ze165 : f 165 = .int .i64 k := hd 165 rfl
                            have ze166 : f 166 = .pointer (some ⟨g2, o2 + k, none⟩) := hd 166 rfl
                            have ze167 : f 167 = .int .i64 p := hd 167 rfl
                            have ze168 : f 168 = .slice (some ⟨b16, 0, none⟩) 8 8 := hd 168 rfl
                            have ze169 : f 169 = .pointer (some ⟨g14, 1, none⟩) := hd 169 rfl
                            have ze170 : f 170 = .slice (some ⟨g2, o2, none⟩) 2 c2 := hd 170 rfl
                            have ze171 : f 171 = .int .i64 k := hd 171 rfl
                            have ze172 : f 172 = .pointer (some ⟨g2, o2 + k, none⟩) := hd 172 rfl
                            have ze173 : f 173 = .int .i64 p := hd 173 rfl
                            have ze174 : f 174 = .pointer (some ⟨b16, p, none⟩) := hd 174 rfl
                            have ze175 : f 175 = .string (fullB n x p) := hd 175 rfl
                            simp only [List.take_succ_cons, List.take_zero, putAll, List.foldl_cons, List.foldl_nil, Option.getD_some] at hAct
                            simp only [ze162, ze163, ze164, ze165, ze166, ze167, ze168, ze169, ze170, ze171, ze172, ze173, ze174, ze175] at hAct
                            subst hAct
                            simp only [List.drop_succ_cons, List.drop_zero, Act.put, List.setIfInBounds_toArray, List.set_cons_zero, List.set_cons_succ]
                            clear hd ze162 ze163 ze164 ze165 ze166 ze167 ze168 ze169 ze170 ze171 ze172 ze173 ze174 ze175
                            have HV := Aside.mk (HC.out.below (Chg.none hW))
                            clear hW
                            go_wp2_with (go_at_call 22; refine (HPUT.out W HV.out).mono ?_; rintro e w7 ⟨rfl, S', HD⟩)
                            go_meet
                            exact ⟨rfl, S', HD⟩
                      case rest =>
                        obtain ⟨rfl, S', HD⟩ := hcut
                        clear n0 n1 n2
                        apply_assumption
                        go_wp2_with fail
                        go_roundw
                        case rel =>
                          repeat apply Exists.intro
                          refine ⟨?_, rfl⟩
                          exact ⟨k + 1, _, S', by omega, by go_num, ⟨HFE.out, HD.out⟩⟩
                        case measure => simp [intOf]; omega
            · obtain rfl : k = 2 := by omega
              clear hlt hk q0 q1
              have hls0 : ∃ ls : Nat, ls < 8 ∧ (ls : Int) = (lost.tmod 8 + 8).tmod 8 := by
                have h1 := Int.tmod_lt_of_pos lost (show (0 : Int) < 8 by omega)
                have h2 := Int.lt_tmod_of_pos lost (show (0 : Int) < 8 by omega)
                refine ⟨((lost.tmod 8 + 8) % 8).toNat, by omega, ?_⟩
                rw [Int.tmod_eq_emod_of_nonneg (a := lost.tmod 8 + 8) (by omega)]
                omega
              obtain ⟨ls, hls, hlse⟩ := hls0
              have HLS0 : Aside (∃ l1 l2 : Int, lost.tmod 8 = l1 ∧ IntKind.i64.wrap l1 = l1 ∧ IntKind.i64.wrap (l1 + 8) = l2 ∧ l2.tmod 8 = (ls : Int) ∧ IntKind.i64.wrap (ls : Int) = (ls : Int)) := ⟨by
                have h1 := Int.tmod_lt_of_pos lost (show (0 : Int) < 8 by omega)
                have h2 := Int.lt_tmod_of_pos lost (show (0 : Int) < 8 by omega)
                exact ⟨_, _, rfl, by rw [IntKind.wrap_i64]; omega, by rw [IntKind.wrap_i64]; omega, hlse.symm, by rw [IntKind.wrap_i64]; omega⟩⟩
              obtain ⟨l1, l2, HLS1⟩ := HLS0.out
              have HLS := Aside.mk HLS1
              clear HLS0 HLS1 hlse
              have q0 := (HP.out.2.2.drew.sees Hbf.out).geo
              obtain ⟨y1, y2, y3, y4, y5⟩ := HLS.out
              go_upto_region 34 with fail
              go_cut [2] (fun s2 wx => s2 = .int .i64 (ls : Int) ∧ Aside (PB w wx L S b F))
              case first =>
                go_region
                all_goals (go_wp2; go_meet; exact ⟨rfl, ⟨HP.out.2.2.drew⟩⟩)
              case rest =>
                obtain ⟨rfl, HP2⟩ := hcut
                clear q0 y1 y2 y3 y4 y5 HLS
                have hHF := HP.out.1
                have HFF := Aside.mk hHF
                have hW0 := HP.out.2.1
                have HW0 := Aside.mk hW0
                clear hHF hW0 HP
                have HPR : Aside (∀ W, Calls Tryz.prog 27 #[.int .i64 (ls : Int)] W fun e w' => e = .returned (.tuple #[.int .i64 (pairN ls : Int), .bool (upB ls)]) ∧ W = w') := ⟨fun W => by rw [← pair_nat hls]; exact nand_pair (ls : Int) W (by omega)⟩
                have HBT : Aside (b.n = n ∧ b.t = t) := ⟨Hbf.out.2.2.2.2.2.1, Hbf.out.2.2.2.2.2.2⟩
                have HS1 : Aside (∀ V, PB w V L S b F → Calls Tryz.prog 31 #[.pointer (some ⟨L.c, 0, none⟩), .int .i64 0, .int .i64 (ls : Int)] V (PutPost w L b F (payF n x) (dnB 2) (fun q => decide (q = ls)) 7 0 n t (.int .i64 0))) := ⟨fun V hV => back_spoil hV HW0.out ls hls (fun q => by simp)⟩
                have HS2 : Aside (∀ V S', Wr S' n t (payF n x) (dnB 2) (fun q => decide (q = ls)) 7 0 → PB w V L S' b F → Calls Tryz.prog 31 #[.pointer (some ⟨L.c, 0, none⟩), .int .i64 0, .int .i64 (pairN ls : Int)] V (PutPost w L b F (payF n x) (dnB 2) (lostD ls (pairN ls)) 7 0 n t (.int .i64 0))) := ⟨fun V S' hS' hV => back_spoil hV hS' (pairN ls) (pair_lt ls hls) (fun q => rfl)⟩
                have HGF : Aside (∀ k, k < 2 → ∀ i, i < (grpA k).length → lostD ls (pairN ls) ((grpA k).getD i 0) = true → goneZ (lostD ls (pairN ls)) ((grpA k).take i) = -1) := ⟨fun k hk i hi hD => gone_first ls hls k hk i (by have := grpL_len k; rw [grpA_len] at hi; omega) hi hD⟩
                have HGL : Aside (∀ k, k < 2 → goneZ (lostD ls (pairN ls)) (grpA k) = -1 ∨ ∃ j ∈ grpA k, goneZ (lostD ls (pairN ls)) (grpA k) = (j : Int) ∧ ∀ q ∈ grpA k, lostD ls (pairN ls) q = decide (q = j)) := ⟨fun k hk => gone_last ls hls k hk⟩
                generalize pairN ls = pr at *
                obtain ⟨D, hD⟩ : ∃ D, D = lostD ls pr := ⟨_, rfl⟩
                rw [← hD] at HS2 HGF HGL
                clear hD
                apply_assumption
                go_upto_region 36 with (go_at_call 27; refine (HPR.out _).mono ?_; rintro e w' ⟨rfl, rfl⟩)
                go_upto_region 37 with (obtain ⟨HX1⟩ := HS1; go_at_call 31; refine (HX1 _ HP2.out).mono ?_; rintro e w1 ⟨rfl, S1, HQ1⟩)
                have HX2 := HS2.out _ _ HQ1.out.1 HQ1.out.2
                have HS3 := Aside.mk HX2
                clear HX2 HS2
                go_upto_region 38 with (obtain ⟨HX1⟩ := HS3; go_at_call 31; refine HX1.mono ?_; rintro e w2 ⟨rfl, S2, HQ2⟩)
                clear HQ1 HP2 HW0 HPR
                go_wp2_with fail
                go_loopw [26] (fun s26 wr => ∃ (k r : Nat) (S : ChS), k ≤ 2 ∧ s26 = .int .i64 (k : Int) ∧ Aside (r ≤ 4 * k ∧ Wr S n t (payF n x) (dnB 2) D 7 r ∧ PB w wr L S b F)) (fun s26 _ => 2 - (intOf s26).toNat)
                case atStart => exact ⟨0, 0, S2, by omega, rfl, ⟨by omega, HQ2.out.1, HQ2.out.2⟩⟩
                case round =>
                  clear HQ2
                  obtain ⟨k, r, S3, hk, rfl, HQ⟩ := hrel
                  by_cases hlt : k < 2
                  · have hk1 : IntKind.i64.wrap ((k : Int) + 1) = (k : Int) + 1 := by rw [IntKind.wrap_i64]; omega
                    have hN := grpL_len k
                    obtain ⟨N, hNe⟩ : ∃ N, N = (grpA k).length := ⟨_, rfl⟩
                    have hNl : N = (grpL k).length + 1 := by rw [hNe, grpA_len]
                    have HNE := Aside.mk hNe
                    have hpl := parB_lt k
                    obtain ⟨p, hp⟩ : ∃ p, p = parB k := ⟨_, rfl⟩
                    rw [← hp] at hpl
                    have HPP := Aside.mk hp
                    obtain ⟨base, hbase⟩ : ∃ base, base = wr.heap.size := ⟨_, rfl⟩
                    have HBS := Aside.mk hbase
                    obtain ⟨NL, hNL⟩ : ∃ NL, NL = (grpL k).length := ⟨_, rfl⟩
                    rw [← hNL] at hNl hN
                    have HNL := Aside.mk (And.intro hNL hNl)
                    have hN4 : N ≤ 4 := by omega
                    have HLH : Aside (L.hi ≤ base ∧ b.top ≤ base) := ⟨by have h1 := HQ.out.2.2.topS; have h2 := HQ.out.2.2.i16; omega⟩
                    have HNI : Aside (0 < L.lo) := ⟨by have h1 := HQ.out.2.2.lo0; have h2 := nib_lt HN.out; omega⟩
                    clear hNe hp hbase hNL hNl
                    go_upto_region 41 with fail
                    go_cut [27] (fun s27 wx => ∃ g o c, s27 = .slice (some ⟨g, o, none⟩) N c ∧ N ≤ c ∧ c ≤ 9223372036854775807 ∧ Aside (Row wx base 3 1 (.slice (some ⟨g, o, none⟩) N c) N (intsV ((grpA k).map fun (j : Nat) => (j : Int))) ∧ PB w wx L S3 b F))
                    case first =>
                      -- SLOW
                      as_aux_lemma =>
                        refine wp_region_r4 9 [(14, .pointer (some ⟨g14, 0, none⟩)), (26, .int .i64 k)] (by kernel_rfl) (by kernel_rfl) (rel_small (by kernel_rfl)) (chgV (fun _ => False) (fun _ => True) [(203, .val (.agg #[.slice (some ⟨g1, o1, none⟩) 5 c1, .slice (some ⟨g2, o2, none⟩) 2 c2])), (204, .val (.int .i64 k)), (205, .that (MembT base k)), (206, .val (.pointer (some ⟨g14, 1, none⟩))), (207, .val (.slice (some ⟨g2, o2, none⟩) 2 c2)), (208, .val (.int .i64 k)), (209, .val (.pointer (some ⟨g2, o2 + k, none⟩))), (210, .val (.int .i64 p)), (211, .row #[.int .i64 p] 3 1)]) (Chg (fun _ => False) (fun _ => True)) (chg_drew _ _ _ (id)) Chg.refl (fun _ _ _ => Chg.trans) (chgV_stable _ _ _) ⟨rfl, rfl, trivial⟩ (by kernel_rfl) ⟨?_, ?_, ?_, ?_, ?_, ?_, ?_, ?_, ?_, trivial⟩ ?_
                        · -- 203 := load 78 t14
                          intro T D W hW hold hd K Q hK
                          refine .inl ⟨wanted_free rfl _, ?_⟩
                          dsimp only [bare]
                          have ze14 : T.getD 14 undef = .pointer (some ⟨g14, 0, none⟩) := hold.1
                          have HK : ∀ v W', Chg (fun _ => False) (fun _ => True) W W' → chgV (fun _ => False) (fun _ => True) _ 203 v W' → K { tmps := T.setIfInBounds 203 v, defers := D } W' := hK
                          change wpList _ #[_] _ [_] { tmps := T, defers := D } W
                          clear hK hd hold
                          have HK := Aside.mk HK
                          have hS := ((HQ.out.2.2.below (Chg.none hW)).sees Hbf.out); have z0 := hS.pl0; have z1 := hS.pl1; clear hS
                          go_wp2
                          exact HK.out _ _ (Chg.refl _) rfl
                        · -- 204 := move t26
                          intro T D W hW hold hd K Q hK
                          refine .inl ⟨wanted_free rfl _, ?_⟩
                          dsimp only [bare]
                          have ze26 : T.getD 26 undef = .int .i64 k := hold.2.1
                          have HK : ∀ v W', Chg (fun _ => False) (fun _ => True) W W' → chgV (fun _ => False) (fun _ => True) _ 204 v W' → K { tmps := T.setIfInBounds 204 v, defers := D } W' := hK
                          change wpList _ #[_] _ [_] { tmps := T, defers := D } W
                          clear hK hd hold
                          have HK := Aside.mk HK
                          go_wp2
                          exact HK.out _ _ (Chg.refl _) rfl
                        · -- 205 := CALL f29 (chert/parity.Plan).Members [t203, t204] : [78, 3]
                          intro T D W hW hold hd K Q hK
                          refine .inl ⟨wanted_free rfl _, ?_⟩
                          dsimp only [bare]
                          have ze203 : T.getD 203 undef = .agg #[.slice (some ⟨g1, o1, none⟩) 5 c1, .slice (some ⟨g2, o2, none⟩) 2 c2] := hd 203 rfl rfl
                          have ze204 : T.getD 204 undef = .int .i64 k := hd 204 rfl rfl
                          have HK : ∀ v W', Chg (fun _ => False) (fun _ => True) W W' → chgV (fun _ => False) (fun _ => True) _ 205 v W' → K { tmps := T.setIfInBounds 205 v, defers := D } W' := hK
                          change wpList _ #[_] _ [_] { tmps := T, defers := D } W
                          clear hK hd hold
                          have HK := Aside.mk HK
                          go_wp2_with (go_at_call 29; refine (HMB.out W S3 F k hlt (HQ.out.2.2.below (Chg.none hW))).mono ?_; rintro e w5 ⟨g5, o5, c5, rfl, hc5a, hc5b, HG5⟩)
                          exact HK.out _ _ (Chg.of_below HG5.out.2 (fun _ => trivial)) ⟨w5, ⟨g5, o5, c5, rfl, ⟨HG5.out.1.mono (by rw [HBS.out]; exact hW.size)⟩⟩, Chg.refl _⟩
                        · -- 206 := fieldAddr 78 t14 1
                          intro T D W hW hold hd K Q hK
                          refine .inl ⟨wanted_free rfl _, ?_⟩
                          dsimp only [bare]
                          have ze14 : T.getD 14 undef = .pointer (some ⟨g14, 0, none⟩) := hold.1
                          have HK : ∀ v W', Chg (fun _ => False) (fun _ => True) W W' → chgV (fun _ => False) (fun _ => True) _ 206 v W' → K { tmps := T.setIfInBounds 206 v, defers := D } W' := hK
                          change wpList _ #[_] _ [_] { tmps := T, defers := D } W
                          clear hK hd hold
                          have HK := Aside.mk HK
                          go_wp2
                          exact HK.out _ _ (Chg.refl _) rfl
                        · -- 207 := load 36 t206
                          intro T D W hW hold hd K Q hK
                          refine .inl ⟨wanted_free rfl _, ?_⟩
                          dsimp only [bare]
                          have ze206 : T.getD 206 undef = .pointer (some ⟨g14, 1, none⟩) := hd 206 rfl rfl
                          have HK : ∀ v W', Chg (fun _ => False) (fun _ => True) W W' → chgV (fun _ => False) (fun _ => True) _ 207 v W' → K { tmps := T.setIfInBounds 207 v, defers := D } W' := hK
                          change wpList _ #[_] _ [_] { tmps := T, defers := D } W
                          clear hK hd hold
                          have HK := Aside.mk HK
                          have hcell := ((HQ.out.2.2.below (Chg.none hW)).sees Hbf.out).pl1
                          go_wp2
                          exact HK.out _ _ (Chg.refl _) rfl
                        · -- 208 := move t26
                          intro T D W hW hold hd K Q hK
                          refine .inl ⟨wanted_free rfl _, ?_⟩
                          dsimp only [bare]
                          have ze26 : T.getD 26 undef = .int .i64 k := hold.2.1
                          have HK : ∀ v W', Chg (fun _ => False) (fun _ => True) W W' → chgV (fun _ => False) (fun _ => True) _ 208 v W' → K { tmps := T.setIfInBounds 208 v, defers := D } W' := hK
                          change wpList _ #[_] _ [_] { tmps := T, defers := D } W
                          clear hK hd hold
                          have HK := Aside.mk HK
                          go_wp2
                          exact HK.out _ _ (Chg.refl _) rfl
                        · -- 209 := indexAddr 36 t207 t208
                          intro T D W hW hold hd K Q hK
                          refine .inl ⟨wanted_free rfl _, ?_⟩
                          dsimp only [bare]
                          have ze207 : T.getD 207 undef = .slice (some ⟨g2, o2, none⟩) 2 c2 := hd 207 rfl rfl
                          have ze208 : T.getD 208 undef = .int .i64 k := hd 208 rfl rfl
                          have HK : ∀ v W', Chg (fun _ => False) (fun _ => True) W W' → chgV (fun _ => False) (fun _ => True) _ 209 v W' → K { tmps := T.setIfInBounds 209 v, defers := D } W' := hK
                          change wpList _ #[_] _ [_] { tmps := T, defers := D } W
                          clear hK hd hold
                          have HK := Aside.mk HK
                          have p1 : (0 : Int) ≤ (k : Int) := (by omega); have p2 : (k : Int) < 2 := (by omega)
                          go_wp2
                          exact HK.out _ _ (Chg.refl _) rfl
                        · -- 210 := load 3 t209
                          intro T D W hW hold hd K Q hK
                          refine .inl ⟨wanted_free rfl _, ?_⟩
                          dsimp only [bare]
                          have ze209 : T.getD 209 undef = .pointer (some ⟨g2, o2 + k, none⟩) := hd 209 rfl rfl
                          have HK : ∀ v W', Chg (fun _ => False) (fun _ => True) W W' → chgV (fun _ => False) (fun _ => True) _ 210 v W' → K { tmps := T.setIfInBounds 210 v, defers := D } W' := hK
                          change wpList _ #[_] _ [_] { tmps := T, defers := D } W
                          clear hK hd hold
                          have HK := Aside.mk HK
                          have hcell := ((HQ.out.2.2.below (Chg.none hW)).sees Hbf.out).par hlt; rw [← HPP.out] at hcell
                          go_wp2
                          exact HK.out _ _ (Chg.refl _) rfl
                        · -- 211 := buildSlice 36 1 [(0, t210)]
                          intro T D W hW hold hd K Q hK
                          refine .inl ⟨wanted_free rfl _, ?_⟩
                          dsimp only [bare]
                          have ze210 : T.getD 210 undef = .int .i64 p := hd 210 rfl rfl
                          have HK : ∀ v W', Chg (fun _ => False) (fun _ => True) W W' → chgV (fun _ => False) (fun _ => True) _ 211 v W' → K { tmps := T.setIfInBounds 211 v, defers := D } W' := hK
                          change wpList _ #[_] _ [_] { tmps := T, defers := D } W
                          clear hK hd hold
                          have zx210 := getD_some ze210 (by simp [undef])
                          have HK := Aside.mk HK
                          go_wp2
                          exact HK.out _ _ (Chg.of_below ((Below.refl _ _).alloc (Nat.le_refl _) _) (fun _ => trivial)) ⟨W.heap.size, rfl, (fun h => h), heap_alloc_new W _⟩
                        · intro f W hW hd aAct hAct
                          have ze203 : f 203 = .agg #[.slice (some ⟨g1, o1, none⟩) 5 c1, .slice (some ⟨g2, o2, none⟩) 2 c2] := hd 203 rfl
                          have ze204 : f 204 = .int .i64 k := hd 204 rfl
                          obtain ⟨W205, p205, b205⟩ : ∃ W0, (MembT base k) (f 205) W0 ∧ Chg (fun _ => False) (fun _ => True) W0 W := hd 205 rfl
                          have ze206 : f 206 = .pointer (some ⟨g14, 1, none⟩) := hd 206 rfl
                          have ze207 : f 207 = .slice (some ⟨g2, o2, none⟩) 2 c2 := hd 207 rfl
                          have ze208 : f 208 = .int .i64 k := hd 208 rfl
                          have ze209 : f 209 = .pointer (some ⟨g2, o2 + k, none⟩) := hd 209 rfl
                          have ze210 : f 210 = .int .i64 p := hd 210 rfl
                          obtain ⟨b211, ze211, x211, r211⟩ : ∃ bb, f 211 = .slice (some ⟨bb, 0, none⟩) 1 1 ∧ ¬ (fun _ => False) bb ∧ W.heap[bb]? = some (.cells #[.int .i64 p] 3 (0, 0)) := hd 211 rfl
                          simp only [List.take_succ_cons, List.take_zero, putAll, List.foldl_cons, List.foldl_nil, Option.getD_some] at hAct
                          simp only [ze203, ze204, ze206, ze207, ze208, ze209, ze210, ze211] at hAct
                          subst hAct
                          simp only [List.drop_succ_cons, List.drop_zero, Act.put, List.setIfInBounds_toArray, List.set_cons_zero, List.set_cons_succ]
                          clear hd ze203 ze204 ze206 ze207 ze208 ze209 ze210 ze211
                          obtain ⟨gA, oA, cA, e205, HA⟩ := p205
                          rw [e205]
                          have hr205 := HA.out.below (Chg.none b205)
                          have hsrc := src_one r211
                          have HB5 := Aside.mk (And.intro (HQ.out.2.2.below (Chg.none hW)) hW.size)
                          have hrow : Row W base 3 1 (.slice (some ⟨gA, oA, none⟩) NL cA) NL (intsV (membI k)) := by rw [HNL.out.1]; exact hr205
                          rw [← HNL.out.1]
                          refine wpList_append_row (w0 := W) base rfl _ _ 36 3 1 8 (.int .i64 0) rfl Tryz.underlying36 infoInt rfl (by decide) (.slice (some ⟨gA, oA, none⟩) NL cA) NL _ (.slice (some ⟨b211, 0, none⟩) 1 1) 1 _ rfl rfl hrow hsrc (by simp [Value.oneCell']) (Below.refl _ _) (by rw [HBS.out]; exact HB5.out.2) (by omega) (by simp only [maxLen]; omega) ?_
                          intro v1 w1 hr1 hb1 hg1 hat1
                          have HP1 : Aside (PB w w1 L S3 b F) := ⟨HQ.out.2.2.below ((Chg.none hW).trans (by rw [← HBS.out]; exact hb1))⟩
                          have hNN : NL + 1 = N := by have := HNL.out.2; omega
                          rw [hNN] at hr1
                          have hri : intsV (membI k) ++ [Value.int .i64 (p : Int)] = intsV ((grpA k).map fun (j : Nat) => (j : Int)) := by
                            rw [← grpA_ints, ← HPP.out]
                            simp [intsV]
                          rw [hri] at hr1
                          obtain ⟨gB, oB, cB, rfl, _, _, hcB, hmB⟩ := hr1.form (by omega)
                          have HR1 := Aside.mk hr1
                          clear hr1 hb1 hg1 hat1 hW hrow hr205 hsrc HB5 hNN hri
                          go_wp2
                          go_meet
                          have hmB2 : cB ≤ 9223372036854775807 := hmB
                          refine ⟨gB, oB, cB, rfl, hcB, hmB2, ⟨?_, ?_⟩⟩
                          · exact HR1.out
                          · exact HP1.out
                    case rest =>
                      obtain ⟨gm, om, cm, rfl, hcm1, hcm2, HM2⟩ := hcut
                      have HWB : Aside (base ≤ wc.heap.size) := ⟨by have h1 := (HM2.out.1.blk gm rfl); omega⟩
                      apply_assumption
                      go_wp2_with fail
                      go_loopw [28, 29, 30] (fun s28 s29 s30 wq => ∃ (i : Nat) (S : ChS), i ≤ N ∧ s30 = .int .i64 (i : Int) ∧ s28 = .int .i64 (goneZ D ((grpA k).take i)) ∧ Aside (Row wq wc.heap.size 9 1 s29 (restP k D i).length (strsV ((restP k D i).map (fullB n x))) ∧ Row wq base 3 1 (.slice (some ⟨gm, om, none⟩) N cm) N (intsV ((grpA k).map fun (j : Nat) => (j : Int))) ∧ Wr S n t (payF n x) (dnB 2) D 7 (r + i) ∧ PB w wq L S b F ∧ wc.heap.size ≤ wq.heap.size)) (fun _ _ s30 _ => N - (intOf s30).toNat)
                      case atStart => exact ⟨0, S3, by omega, rfl, rfl, ⟨Row.nil _ _ _ _, HM2.out.1, HQ.out.2.1, HM2.out.2, Nat.le_refl _⟩⟩
                      case round =>
                        obtain ⟨i, S4, hi, rfl, rfl, HR⟩ := hrel
                        by_cases hil : i < N
                        · have hi1 : IntKind.i64.wrap ((i : Int) + 1) = ((i + 1 : Nat) : Int) := by rw [IntKind.wrap_i64]; omega
                          have hil2 : i < (grpA k).length := by rw [← HNE.out]; exact hil
                          obtain ⟨hdn, hj8⟩ := grpA_done k hlt i hil2
                          have e1 : wr.cell? ⟨gm, om + i, none⟩ = some (.int .i64 (((grpA k).getD i 0 : Nat) : Int)) := cells_at HR.out.2.1 i _ (grpA_at hil2)
                          have HT := Aside.mk (restP_more (k := k) D hil2)
                          have HZ : Aside (goneZ D ((grpA k).take (i + 1)) = if D ((grpA k).getD i 0) = true then (((grpA k).getD i 0 : Nat) : Int) else goneZ D ((grpA k).take i)) := ⟨by rw [take_more hil2, goneZ_snoc]⟩
                          have HGf := Aside.mk (HGF.out k hlt i hil2)
                          obtain ⟨j, hj⟩ : ∃ j, j = (grpA k).getD i 0 := ⟨_, rfl⟩
                          rw [← hj] at hdn hj8 e1 HT HZ HGf
                          have HRD := Aside.mk (back_read2 HR.out.2.2.2.1 HN.out HNI.out HBT.out HR.out.2.2.1 (by have := HQ.out.1; omega) j hj8 hdn (payF_size (by have := HM.out; omega) x j))
                          have hk4 : (0 : Int) ≤ (i : Int) := by omega
                          have hk5 : (i : Int) < (N : Int) := by omega
                          have hrl := restP_len k D i
                          have HJ := Aside.mk hj
                          have HIL2 := Aside.mk hil2
                          clear hj hdn hil2
                          have HIL := Aside.mk hil
                          unfold readV at HRD
                          rw [payF_pad (by have := HM.out; omega)] at HRD
                          obtain ⟨s, hs⟩ : ∃ s, s = fullB n x j := ⟨_, rfl⟩
                          rw [← hs] at HRD
                          have HSJ := Aside.mk hs
                          clear hs
                          have HWC := Aside.mk (Nat.le_of_eq (show wc.heap.size = wc.heap.size from rfl))
                          have HNX : Aside (∀ q, base ≤ q → ¬ InR L.lo L.hi q) := ⟨fun q hq hx => by have h1 := HLH.out.1; have h2 := hx.2; omega⟩
                          cases hDj : D j
                          · rw [hDj] at HRD HT HZ
                            simp only [Bool.false_eq_true, if_false] at HRD HT HZ
                            go_upto_region 48 with (go_at_call 26; refine HRD.out.mono ?_; rintro e w5 ⟨rfl, S5, H5⟩)
                            have hnew := heap_alloc_new w5 (.cells #[.int .i64 1, .string s, .int .i64 0] 70)
                            have f0 := cell_of_row _ _ 0 _ _ _ hnew
                            have f1 := cell_of_row _ _ 1 _ _ _ hnew
                            simp only [List.getElem?_cons_zero, List.getElem?_cons_succ, List.getElem?_toArray] at f0 f1
                            have HW6 : Aside (Row (w5.alloc (.cells #[.int .i64 1, .string s, .int .i64 0] 70)) wc.heap.size 9 1 u29 (restP k D i).length (strsV ((restP k D i).map (fullB n x))) ∧ Row (w5.alloc (.cells #[.int .i64 1, .string s, .int .i64 0] 70)) base 3 1 (.slice (some ⟨gm, om, none⟩) N cm) N (intsV ((grpA k).map fun (j : Nat) => (j : Int))) ∧ PB w (w5.alloc (.cells #[.int .i64 1, .string s, .int .i64 0] 70)) L S5 b F ∧ wc.heap.size ≤ (w5.alloc (.cells #[.int .i64 1, .string s, .int .i64 0] 70)).heap.size) := ⟨(H5.out.2.2.row HR.out.1 (fun q hq => HNX.out q (Nat.le_trans HWB.out (HR.out.1.blk q hq).1))).alloc _, (H5.out.2.2.row HR.out.2.1 (fun q hq => HNX.out q (HR.out.2.1.blk q hq).1)).alloc _, H5.out.2.1.alloc _, by have h1 := H5.out.2.2.size; have h2 := HR.out.2.2.2.2; simp; omega⟩
                            obtain ⟨b31, hb31⟩ : ∃ b31, b31 = w5.heap.size := ⟨_, rfl⟩
                            rw [← hb31] at f0 f1 ⊢
                            clear hnew hb31
                            generalize w5.alloc (.cells #[.int .i64 1, .string s, .int .i64 0] 70) = w6 at *
                            have hl6 := HW6.out.2.2.2
                            go_upto_region 51 with fail
                            go_wp2_with (at_builtin; refine wpList_append_one (w0 := w6) wc.heap.size rfl _ _ 49 9 1 16 (.string ByteArray.empty) rfl Tryz.underlying49 infoStr rfl (by decide) u29 (restP k D i).length _ #[.string s] rfl rfl rfl HW6.out.1 (by simp [Value.oneCell']) (Below.refl _ _) hl6 (by omega) (by simp only [maxLen]; omega) ?_; intro v1 w7 hr5 hb5 hg1 hat1; clear hat1)
                            have HREL : Aside (Row w7 wc.heap.size 9 1 v1 (restP k D (i + 1)).length (strsV ((restP k D (i + 1)).map (fullB n x))) ∧ Row w7 base 3 1 (.slice (some ⟨gm, om, none⟩) N cm) N (intsV ((grpA k).map fun (j : Nat) => (j : Int))) ∧ Wr S5 n t (payF n x) (dnB 2) D 7 (r + (i + 1)) ∧ PB w w7 L S5 b F ∧ wc.heap.size ≤ w7.heap.size) := ⟨by
                              rw [HT.out, List.length_append, List.map_append]
                              have e : strsV ((restP k D i).map (fullB n x) ++ [j].map (fullB n x)) = strsV ((restP k D i).map (fullB n x)) ++ (#[.string s] : Array Value).toList := by rw [HSJ.out]; simp [strsV]
                              rw [e]
                              exact ⟨hr5, HW6.out.2.1.kept hg1 (Row.other HW6.out.2.1 HW6.out.1 (by decide)), H5.out.1, HW6.out.2.2.1.app2 HW6.out.1 (Nat.le_trans HLH.out.2 HWB.out) hg1, Nat.le_trans hl6 hg1.size⟩⟩
                            go_roundw
                            case rel => exact ⟨i + 1, S5, by have := HIL.out; omega, rfl, by rw [HZ.out], HREL⟩
                            case measure => have := HIL.out; simp [intOf]; omega
                          · rw [hDj] at HRD HT HZ
                            simp only [if_true] at HRD HT HZ
                            rw [HGf.out hDj]
                            go_upto_region 48 with (go_at_call 26; refine HRD.out.mono ?_; rintro e w5 ⟨rfl, S5, H5⟩)
                            have hnew := heap_alloc_new w5 (.cells #[.int .i64 2, .string ⟨#[]⟩, .int .i64 0] 70)
                            have f0 := cell_of_row _ _ 0 _ _ _ hnew
                            simp only [List.getElem?_cons_zero, List.getElem?_toArray] at f0
                            have HREL : Aside (Row (w5.alloc (.cells #[.int .i64 2, .string ⟨#[]⟩, .int .i64 0] 70)) wc.heap.size 9 1 u29 (restP k D (i + 1)).length (strsV ((restP k D (i + 1)).map (fullB n x))) ∧ Row (w5.alloc (.cells #[.int .i64 2, .string ⟨#[]⟩, .int .i64 0] 70)) base 3 1 (.slice (some ⟨gm, om, none⟩) N cm) N (intsV ((grpA k).map fun (j : Nat) => (j : Int))) ∧ Wr S5 n t (payF n x) (dnB 2) D 7 (r + (i + 1)) ∧ PB w (w5.alloc (.cells #[.int .i64 2, .string ⟨#[]⟩, .int .i64 0] 70)) L S5 b F ∧ wc.heap.size ≤ (w5.alloc (.cells #[.int .i64 2, .string ⟨#[]⟩, .int .i64 0] 70)).heap.size) := ⟨by
                              rw [HT.out, List.append_nil]
                              exact ⟨(H5.out.2.2.row HR.out.1 (fun q hq => HNX.out q (Nat.le_trans HWB.out (HR.out.1.blk q hq).1))).alloc _, (H5.out.2.2.row HR.out.2.1 (fun q hq => HNX.out q (HR.out.2.1.blk q hq).1)).alloc _, H5.out.1, H5.out.2.1.alloc _, by have h1 := H5.out.2.2.size; have h2 := HR.out.2.2.2.2; simp; omega⟩⟩
                            have e2 : (w5.alloc (.cells #[.int .i64 2, .string ⟨#[]⟩, .int .i64 0] 70)).cell? ⟨gm, om + i, none⟩ = some (.int .i64 (j : Int)) := by rw [HJ.out]; exact cells_at HREL.out.2.1 i _ (grpA_at HIL2.out)
                            obtain ⟨b31, hb31⟩ : ∃ b31, b31 = w5.heap.size := ⟨_, rfl⟩
                            rw [← hb31] at f0 ⊢
                            clear hnew hb31
                            generalize w5.alloc (.cells #[.int .i64 2, .string ⟨#[]⟩, .int .i64 0] 70) = w6 at *
                            go_wp2_with fail
                            go_roundw
                            case rel => exact ⟨i + 1, S5, by have := HIL.out; omega, rfl, by rw [HZ.out], HREL⟩
                            case measure => have := HIL.out; simp [intOf]; omega
                        · obtain rfl : i = N := by omega
                          have hta : (grpA k).take i = grpA k := by rw [HNE.out, List.take_length]
                          have hre : restP k D i = restL k D := by rw [HNE.out]; exact restP_all k D
                          rw [hta]
                          have HHR := HR.out
                          rw [hre] at HHR
                          have hri : (restL k D).length ≤ 4 := by rw [← hre]; exact Nat.le_trans (restP_len k D i) hN4
                          have HHS := Aside.mk HHR
                          clear HHR HR hta hre
                          go_upto_region 55 with fail
                          go_cut [28, 29, 260] (fun _ _ s260 wx => s260 = .bool false ∧ Aside (PB w wx L S4 b F))
                          case first =>
                            -- SLOW
                            as_aux_lemma =>
                              rcases HGL.out k hlt with hz | ⟨j, hj, hz, hDj⟩
                              · rw [hz]
                                refine wp_region_r4 12 [(13, .int .i64 m), (16, .slice (some ⟨b16, 0, none⟩) 8 8), (28, .int .i64 (-1))] (by kernel_rfl) (by kernel_rfl) (rel_small (by kernel_rfl)) (chgV (fun _ => False) (fun _ => True) [(249, .val (.int .i64 (-1))), (250, .val (.bool false)), (251, .val (.bool false)), (252, .val (undef)), (253, .val (undef)), (254, .val (undef)), (255, .val (undef)), (256, .val (undef)), (257, .val (undef)), (258, .val (undef)), (259, .val (undef)), (260, .val (.bool false))]) (Chg (fun _ => False) (fun _ => True)) (chg_drew _ _ _ (id)) Chg.refl (fun _ _ _ => Chg.trans) (chgV_stable _ _ _) ⟨rfl, rfl, rfl, trivial⟩ (by kernel_rfl) ⟨?_, ?_, ?_, ?_, ?_, ?_, ?_, ?_, ?_, ?_, ?_, ?_, trivial⟩ ?_
                                · -- 249 := move t28
                                  intro T D W hW hold hd K Q hK
                                  refine .inl ⟨wanted_free rfl _, ?_⟩
                                  dsimp only [bare]
                                  have ze28 : T.getD 28 undef = .int .i64 (-1) := hold.2.2.1
                                  have HK : ∀ v W', Chg (fun _ => False) (fun _ => True) W W' → chgV (fun _ => False) (fun _ => True) _ 249 v W' → K { tmps := T.setIfInBounds 249 v, defers := D } W' := hK
                                  change wpList _ #[_] _ [_] { tmps := T, defers := D } W
                                  clear hK hd hold
                                  have HK := Aside.mk HK
                                  go_wp2
                                  exact HK.out _ _ (Chg.refl _) rfl
                                · -- 250 := binOp geq 3 t249 <i64 0> 3
                                  intro T D W hW hold hd K Q hK
                                  refine .inl ⟨wanted_free rfl _, ?_⟩
                                  dsimp only [bare]
                                  have ze249 : T.getD 249 undef = .int .i64 (-1) := hd 249 rfl rfl
                                  have HK : ∀ v W', Chg (fun _ => False) (fun _ => True) W W' → chgV (fun _ => False) (fun _ => True) _ 250 v W' → K { tmps := T.setIfInBounds 250 v, defers := D } W' := hK
                                  change wpList _ #[_] _ [_] { tmps := T, defers := D } W
                                  clear hK hd hold
                                  have HK := Aside.mk HK
                                  go_wp2
                                  exact HK.out _ _ (Chg.refl _) rfl
                                · -- 251 := move t250
                                  intro T D W hW hold hd K Q hK
                                  refine .inl ⟨wanted_free rfl _, ?_⟩
                                  dsimp only [bare]
                                  have ze250 : T.getD 250 undef = .bool false := hd 250 rfl rfl
                                  have HK : ∀ v W', Chg (fun _ => False) (fun _ => True) W W' → chgV (fun _ => False) (fun _ => True) _ 251 v W' → K { tmps := T.setIfInBounds 251 v, defers := D } W' := hK
                                  change wpList _ #[_] _ [_] { tmps := T, defers := D } W
                                  clear hK hd hold
                                  have HK := Aside.mk HK
                                  go_wp2
                                  exact HK.out _ _ (Chg.refl _) rfl
                                · -- 252 := move t13
                                  intro T D W hW hold hd K Q hK
                                  have zg : T.getD 251 undef = .bool false := hd 251 rfl rfl
                                  exact .inr ⟨unwanted_of4 (g := 2) (t := 251) (b := true) (by kernel_rfl) (by kernel_rfl) zg (by decide), rfl⟩
                                · -- 253 := move t29
                                  intro T D W hW hold hd K Q hK
                                  have zg : T.getD 251 undef = .bool false := hd 251 rfl rfl
                                  exact .inr ⟨unwanted_of4 (g := 2) (t := 251) (b := true) (by kernel_rfl) (by kernel_rfl) zg (by decide), rfl⟩
                                · -- 254 := CALL f30 chert/parity.Xor [t252, t253] : [3, 49]
                                  intro T D W hW hold hd K Q hK
                                  have zg : T.getD 251 undef = .bool false := hd 251 rfl rfl
                                  exact .inr ⟨unwanted_of4 (g := 2) (t := 251) (b := true) (by kernel_rfl) (by kernel_rfl) zg (by decide), rfl⟩
                                · -- 255 := move t16
                                  intro T D W hW hold hd K Q hK
                                  have zg : T.getD 251 undef = .bool false := hd 251 rfl rfl
                                  exact .inr ⟨unwanted_of4 (g := 2) (t := 251) (b := true) (by kernel_rfl) (by kernel_rfl) zg (by decide), rfl⟩
                                · -- 256 := move t28
                                  intro T D W hW hold hd K Q hK
                                  have zg : T.getD 251 undef = .bool false := hd 251 rfl rfl
                                  exact .inr ⟨unwanted_of4 (g := 2) (t := 251) (b := true) (by kernel_rfl) (by kernel_rfl) zg (by decide), rfl⟩
                                · -- 257 := indexAddr 49 t255 t256
                                  intro T D W hW hold hd K Q hK
                                  have zg : T.getD 251 undef = .bool false := hd 251 rfl rfl
                                  exact .inr ⟨unwanted_of4 (g := 2) (t := 251) (b := true) (by kernel_rfl) (by kernel_rfl) zg (by decide), rfl⟩
                                · -- 258 := load 9 t257
                                  intro T D W hW hold hd K Q hK
                                  have zg : T.getD 251 undef = .bool false := hd 251 rfl rfl
                                  exact .inr ⟨unwanted_of4 (g := 2) (t := 251) (b := true) (by kernel_rfl) (by kernel_rfl) zg (by decide), rfl⟩
                                · -- 259 := binOp neq 9 t254 t258 9
                                  intro T D W hW hold hd K Q hK
                                  have zg : T.getD 251 undef = .bool false := hd 251 rfl rfl
                                  exact .inr ⟨unwanted_of4 (g := 2) (t := 251) (b := true) (by kernel_rfl) (by kernel_rfl) zg (by decide), rfl⟩
                                · -- 260 := pick t251 t259 <bool(false)>
                                  intro T D W hW hold hd K Q hK
                                  refine .inl ⟨wanted_free rfl _, ?_⟩
                                  dsimp only [bare]
                                  have ze251 : T.getD 251 undef = .bool false := hd 251 rfl rfl
                                  have ze259 : T.getD 259 undef = undef := hd 259 rfl rfl
                                  have HK : ∀ v W', Chg (fun _ => False) (fun _ => True) W W' → chgV (fun _ => False) (fun _ => True) _ 260 v W' → K { tmps := T.setIfInBounds 260 v, defers := D } W' := hK
                                  change wpList _ #[_] _ [_] { tmps := T, defers := D } W
                                  clear hK hd hold
                                  have HK := Aside.mk HK
                                  go_wp2
                                  exact HK.out _ _ (Chg.refl _) rfl
                                · intro f W hW hd aAct hAct
                                  have ze249 : f 249 = .int .i64 (-1) := hd 249 rfl
                                  have ze250 : f 250 = .bool false := hd 250 rfl
                                  have ze251 : f 251 = .bool false := hd 251 rfl
                                  have ze252 : f 252 = undef := hd 252 rfl
                                  have ze253 : f 253 = undef := hd 253 rfl
                                  have ze254 : f 254 = undef := hd 254 rfl
                                  have ze255 : f 255 = undef := hd 255 rfl
                                  have ze256 : f 256 = undef := hd 256 rfl
                                  have ze257 : f 257 = undef := hd 257 rfl
                                  have ze258 : f 258 = undef := hd 258 rfl
                                  have ze259 : f 259 = undef := hd 259 rfl
                                  have ze260 : f 260 = .bool false := hd 260 rfl
                                  simp only [List.take_succ_cons, List.take_zero, putAll, List.foldl_cons, List.foldl_nil, Option.getD_some] at hAct
                                  simp only [ze249, ze250, ze251, ze252, ze253, ze254, ze255, ze256, ze257, ze258, ze259, ze260] at hAct
                                  subst hAct
                                  simp only [List.drop_succ_cons, List.drop_nil, Act.put, List.setIfInBounds_toArray, List.set_cons_zero, List.set_cons_succ]
                                  clear hd ze249 ze250 ze251 ze252 ze253 ze254 ze255 ze256 ze257 ze258 ze259 ze260
                                  have HV := Aside.mk (HHS.out.2.2.2.1.below (Chg.none hW))
                                  clear hW
                                  go_wp2
                                  go_meet
                                  exact ⟨rfl, HV⟩
                              · rw [hz]
                                obtain ⟨hj8, hjd⟩ := grpA_mem hlt hj
                                have hfj := HFF.out j hjd
                                have hx := rest_xor (n := n) (by have := HM.out; omega) x hlt hj hDj
                                have HXX := Aside.mk hx
                                have hr := HHS.out.1
                                obtain ⟨A5, c5, rfl, hn5, hc5, hm5, hR5⟩ := hr.readStrs
                                obtain ⟨lr, hlr⟩ : ∃ lr, lr = (restL k D).length := ⟨_, rfl⟩
                                obtain ⟨s, hs⟩ : ∃ s, s = fullB n x j := ⟨_, rfl⟩
                                have HX5 : Aside (∀ W, Below wr.heap.size wr W → Calls Tryz.prog 30 #[.int .i64 (m : Int), .slice A5 lr c5] W fun e W' => e = .returned (.string s) ∧ Below W.heap.size W W') := ⟨fun W hW => by
                                  have := parity_xor_nat m A5 (restL k D).length c5 _ W (by omega) (by omega) hc5 hm5 (hR5.below (Nat.le_refl _) hW)
                                  have hp := HXX.out
                                  rw [← HM.out.1] at hp
                                  rw [hlr, hs]
                                  rwa [hp] at this⟩
                                rw [← hlr]
                                rw [← hs] at hfj
                                have HFJ := Aside.mk hfj
                                have hj0 : (0 : Int) ≤ (j : Int) := by omega
                                have hj1 : (j : Int) < 8 := by omega
                                clear hz hj hDj hx hr hn5 hfj hjd hlr hs HXX
                                refine wp_region_r4 12 [(13, .int .i64 m), (16, .slice (some ⟨b16, 0, none⟩) 8 8), (28, .int .i64 j), (29, .slice A5 lr c5)] (by kernel_rfl) (by kernel_rfl) (rel_small (by kernel_rfl)) (chgV (fun _ => False) (fun _ => True) [(249, .val (.int .i64 j)), (250, .val (.bool true)), (251, .val (.bool true)), (252, .val (.int .i64 m)), (253, .val (.slice A5 lr c5)), (254, .val (.string s)), (255, .val (.slice (some ⟨b16, 0, none⟩) 8 8)), (256, .val (.int .i64 j)), (257, .val (.pointer (some ⟨b16, j, none⟩))), (258, .val (.string s)), (259, .val (.bool false)), (260, .val (.bool false))]) (Chg (fun _ => False) (fun _ => True)) (chg_drew _ _ _ (id)) Chg.refl (fun _ _ _ => Chg.trans) (chgV_stable _ _ _) ⟨rfl, rfl, rfl, rfl, trivial⟩ (by kernel_rfl) ⟨?_, ?_, ?_, ?_, ?_, ?_, ?_, ?_, ?_, ?_, ?_, ?_, trivial⟩ ?_
                                · -- 249 := move t28
                                  intro T D W hW hold hd K Q hK
                                  refine .inl ⟨wanted_free rfl _, ?_⟩
                                  dsimp only [bare]
                                  have ze28 : T.getD 28 undef = .int .i64 j := hold.2.2.1
                                  have HK : ∀ v W', Chg (fun _ => False) (fun _ => True) W W' → chgV (fun _ => False) (fun _ => True) _ 249 v W' → K { tmps := T.setIfInBounds 249 v, defers := D } W' := hK
                                  change wpList _ #[_] _ [_] { tmps := T, defers := D } W
                                  clear hK hd hold
                                  have HK := Aside.mk HK
                                  go_wp2
                                  exact HK.out _ _ (Chg.refl _) rfl
                                · -- 250 := binOp geq 3 t249 <i64 0> 3
                                  intro T D W hW hold hd K Q hK
                                  refine .inl ⟨wanted_free rfl _, ?_⟩
                                  dsimp only [bare]
                                  have ze249 : T.getD 249 undef = .int .i64 j := hd 249 rfl rfl
                                  have HK : ∀ v W', Chg (fun _ => False) (fun _ => True) W W' → chgV (fun _ => False) (fun _ => True) _ 250 v W' → K { tmps := T.setIfInBounds 250 v, defers := D } W' := hK
                                  change wpList _ #[_] _ [_] { tmps := T, defers := D } W
                                  clear hK hd hold
                                  have HK := Aside.mk HK
                                  go_wp2
                                  exact HK.out _ _ (Chg.refl _) rfl
                                · -- 251 := move t250
                                  intro T D W hW hold hd K Q hK
                                  refine .inl ⟨wanted_free rfl _, ?_⟩
                                  dsimp only [bare]
                                  have ze250 : T.getD 250 undef = .bool true := hd 250 rfl rfl
                                  have HK : ∀ v W', Chg (fun _ => False) (fun _ => True) W W' → chgV (fun _ => False) (fun _ => True) _ 251 v W' → K { tmps := T.setIfInBounds 251 v, defers := D } W' := hK
                                  change wpList _ #[_] _ [_] { tmps := T, defers := D } W
                                  clear hK hd hold
                                  have HK := Aside.mk HK
                                  go_wp2
                                  exact HK.out _ _ (Chg.refl _) rfl
                                · -- 252 := move t13
                                  intro T D W hW hold hd K Q hK
                                  have zg : T.getD 251 undef = .bool true := hd 251 rfl rfl
                                  refine .inl ⟨wanted_of4 (g := 2) (t := 251) (by kernel_rfl) (by kernel_rfl) zg, ?_⟩
                                  clear zg
                                  dsimp only [bare]
                                  have ze13 : T.getD 13 undef = .int .i64 m := hold.1
                                  have HK : ∀ v W', Chg (fun _ => False) (fun _ => True) W W' → chgV (fun _ => False) (fun _ => True) _ 252 v W' → K { tmps := T.setIfInBounds 252 v, defers := D } W' := hK
                                  change wpList _ #[_] _ [_] { tmps := T, defers := D } W
                                  clear hK hd hold
                                  have HK := Aside.mk HK
                                  go_wp2
                                  exact HK.out _ _ (Chg.refl _) rfl
                                · -- 253 := move t29
                                  intro T D W hW hold hd K Q hK
                                  have zg : T.getD 251 undef = .bool true := hd 251 rfl rfl
                                  refine .inl ⟨wanted_of4 (g := 2) (t := 251) (by kernel_rfl) (by kernel_rfl) zg, ?_⟩
                                  clear zg
                                  dsimp only [bare]
                                  have ze29 : T.getD 29 undef = .slice A5 lr c5 := hold.2.2.2.1
                                  have HK : ∀ v W', Chg (fun _ => False) (fun _ => True) W W' → chgV (fun _ => False) (fun _ => True) _ 253 v W' → K { tmps := T.setIfInBounds 253 v, defers := D } W' := hK
                                  change wpList _ #[_] _ [_] { tmps := T, defers := D } W
                                  clear hK hd hold
                                  have HK := Aside.mk HK
                                  go_wp2
                                  exact HK.out _ _ (Chg.refl _) rfl
                                · -- 254 := CALL f30 chert/parity.Xor [t252, t253] : [3, 49]
                                  intro T D W hW hold hd K Q hK
                                  have zg : T.getD 251 undef = .bool true := hd 251 rfl rfl
                                  refine .inl ⟨wanted_of4 (g := 2) (t := 251) (by kernel_rfl) (by kernel_rfl) zg, ?_⟩
                                  clear zg
                                  dsimp only [bare]
                                  have ze252 : T.getD 252 undef = .int .i64 m := hd 252 rfl rfl
                                  have ze253 : T.getD 253 undef = .slice A5 lr c5 := hd 253 rfl rfl
                                  have HK : ∀ v W', Chg (fun _ => False) (fun _ => True) W W' → chgV (fun _ => False) (fun _ => True) _ 254 v W' → K { tmps := T.setIfInBounds 254 v, defers := D } W' := hK
                                  change wpList _ #[_] _ [_] { tmps := T, defers := D } W
                                  clear hK hd hold
                                  have HK := Aside.mk HK
                                  go_wp2_with (go_at_call 30; refine (HX5.out W (Chg.none hW)).mono ?_; rintro e w5 ⟨rfl, hb5⟩)
                                  exact HK.out _ _ (Chg.of_below hb5 (fun _ => trivial)) rfl
                                · -- 255 := move t16
                                  intro T D W hW hold hd K Q hK
                                  have zg : T.getD 251 undef = .bool true := hd 251 rfl rfl
                                  refine .inl ⟨wanted_of4 (g := 2) (t := 251) (by kernel_rfl) (by kernel_rfl) zg, ?_⟩
                                  clear zg
                                  dsimp only [bare]
                                  have ze16 : T.getD 16 undef = .slice (some ⟨b16, 0, none⟩) 8 8 := hold.2.1
                                  have HK : ∀ v W', Chg (fun _ => False) (fun _ => True) W W' → chgV (fun _ => False) (fun _ => True) _ 255 v W' → K { tmps := T.setIfInBounds 255 v, defers := D } W' := hK
                                  change wpList _ #[_] _ [_] { tmps := T, defers := D } W
                                  clear hK hd hold
                                  have HK := Aside.mk HK
                                  go_wp2
                                  exact HK.out _ _ (Chg.refl _) rfl
                                · -- 256 := move t28
                                  intro T D W hW hold hd K Q hK
                                  have zg : T.getD 251 undef = .bool true := hd 251 rfl rfl
                                  refine .inl ⟨wanted_of4 (g := 2) (t := 251) (by kernel_rfl) (by kernel_rfl) zg, ?_⟩
                                  clear zg
                                  dsimp only [bare]
                                  have ze28 : T.getD 28 undef = .int .i64 j := hold.2.2.1
                                  have HK : ∀ v W', Chg (fun _ => False) (fun _ => True) W W' → chgV (fun _ => False) (fun _ => True) _ 256 v W' → K { tmps := T.setIfInBounds 256 v, defers := D } W' := hK
                                  change wpList _ #[_] _ [_] { tmps := T, defers := D } W
                                  clear hK hd hold
                                  have HK := Aside.mk HK
                                  go_wp2
                                  exact HK.out _ _ (Chg.refl _) rfl
                                · -- 257 := indexAddr 49 t255 t256
                                  intro T D W hW hold hd K Q hK
                                  have zg : T.getD 251 undef = .bool true := hd 251 rfl rfl
                                  refine .inl ⟨wanted_of4 (g := 2) (t := 251) (by kernel_rfl) (by kernel_rfl) zg, ?_⟩
                                  clear zg
                                  dsimp only [bare]
                                  have ze255 : T.getD 255 undef = .slice (some ⟨b16, 0, none⟩) 8 8 := hd 255 rfl rfl
                                  have ze256 : T.getD 256 undef = .int .i64 j := hd 256 rfl rfl
                                  have HK : ∀ v W', Chg (fun _ => False) (fun _ => True) W W' → chgV (fun _ => False) (fun _ => True) _ 257 v W' → K { tmps := T.setIfInBounds 257 v, defers := D } W' := hK
                                  change wpList _ #[_] _ [_] { tmps := T, defers := D } W
                                  clear hK hd hold
                                  have HK := Aside.mk HK
                                  have p1 : (0 : Int) ≤ (j : Int) := hj0; have p2 : (j : Int) < 8 := hj1
                                  go_wp2
                                  exact HK.out _ _ (Chg.refl _) rfl
                                · -- 258 := load 9 t257
                                  intro T D W hW hold hd K Q hK
                                  have zg : T.getD 251 undef = .bool true := hd 251 rfl rfl
                                  refine .inl ⟨wanted_of4 (g := 2) (t := 251) (by kernel_rfl) (by kernel_rfl) zg, ?_⟩
                                  clear zg
                                  dsimp only [bare]
                                  have ze257 : T.getD 257 undef = .pointer (some ⟨b16, j, none⟩) := hd 257 rfl rfl
                                  have HK : ∀ v W', Chg (fun _ => False) (fun _ => True) W W' → chgV (fun _ => False) (fun _ => True) _ 258 v W' → K { tmps := T.setIfInBounds 258 v, defers := D } W' := hK
                                  change wpList _ #[_] _ [_] { tmps := T, defers := D } W
                                  clear hK hd hold
                                  have HK := Aside.mk HK
                                  have hcell := ((HHS.out.2.2.2.1.below (Chg.none hW)).sees Hbf.out).full j hj8; rw [HFJ.out] at hcell
                                  go_wp2
                                  exact HK.out _ _ (Chg.refl _) rfl
                                · -- 259 := binOp neq 9 t254 t258 9
                                  intro T D W hW hold hd K Q hK
                                  have zg : T.getD 251 undef = .bool true := hd 251 rfl rfl
                                  refine .inl ⟨wanted_of4 (g := 2) (t := 251) (by kernel_rfl) (by kernel_rfl) zg, ?_⟩
                                  clear zg
                                  dsimp only [bare]
                                  have ze254 : T.getD 254 undef = .string s := hd 254 rfl rfl
                                  have ze258 : T.getD 258 undef = .string s := hd 258 rfl rfl
                                  have HK : ∀ v W', Chg (fun _ => False) (fun _ => True) W W' → chgV (fun _ => False) (fun _ => True) _ 259 v W' → K { tmps := T.setIfInBounds 259 v, defers := D } W' := hK
                                  change wpList _ #[_] _ [_] { tmps := T, defers := D } W
                                  clear hK hd hold
                                  have HK := Aside.mk HK
                                  go_wp2
                                  exact HK.out _ _ (Chg.refl _) rfl
                                · -- 260 := pick t251 t259 <bool(false)>
                                  intro T D W hW hold hd K Q hK
                                  refine .inl ⟨wanted_free rfl _, ?_⟩
                                  dsimp only [bare]
                                  have ze251 : T.getD 251 undef = .bool true := hd 251 rfl rfl
                                  have ze259 : T.getD 259 undef = .bool false := hd 259 rfl rfl
                                  have HK : ∀ v W', Chg (fun _ => False) (fun _ => True) W W' → chgV (fun _ => False) (fun _ => True) _ 260 v W' → K { tmps := T.setIfInBounds 260 v, defers := D } W' := hK
                                  change wpList _ #[_] _ [_] { tmps := T, defers := D } W
                                  clear hK hd hold
                                  have HK := Aside.mk HK
                                  go_wp2
                                  exact HK.out _ _ (Chg.refl _) rfl
                                · intro f W hW hd aAct hAct
                                  have ze249 : f 249 = .int .i64 j := hd 249 rfl
                                  have ze250 : f 250 = .bool true := hd 250 rfl
                                  have ze251 : f 251 = .bool true := hd 251 rfl
                                  have ze252 : f 252 = .int .i64 m := hd 252 rfl
                                  have ze253 : f 253 = .slice A5 lr c5 := hd 253 rfl
                                  have ze254 : f 254 = .string s := hd 254 rfl
                                  have ze255 : f 255 = .slice (some ⟨b16, 0, none⟩) 8 8 := hd 255 rfl
                                  have ze256 : f 256 = .int .i64 j := hd 256 rfl
                                  have ze257 : f 257 = .pointer (some ⟨b16, j, none⟩) := hd 257 rfl
                                  have ze258 : f 258 = .string s := hd 258 rfl
                                  have ze259 : f 259 = .bool false := hd 259 rfl
                                  have ze260 : f 260 = .bool false := hd 260 rfl
                                  simp only [List.take_succ_cons, List.take_zero, putAll, List.foldl_cons, List.foldl_nil, Option.getD_some] at hAct
                                  simp only [ze249, ze250, ze251, ze252, ze253, ze254, ze255, ze256, ze257, ze258, ze259, ze260] at hAct
                                  subst hAct
                                  simp only [List.drop_succ_cons, List.drop_nil, Act.put, List.setIfInBounds_toArray, List.set_cons_zero, List.set_cons_succ]
                                  clear hd ze249 ze250 ze251 ze252 ze253 ze254 ze255 ze256 ze257 ze258 ze259 ze260
                                  have HV := Aside.mk (HHS.out.2.2.2.1.below (Chg.none hW))
                                  clear hW
                                  go_wp2
                                  go_meet
                                  exact ⟨rfl, HV⟩
                          case rest =>
                            obtain ⟨rfl, HPZ⟩ := hcut
                            apply_assumption
                            go_wp2_with fail
                            go_roundw
                            case rel =>
                              exact ⟨k + 1, r + i, S4, by omega, by go_num, ⟨by have := HQ.out.1; omega, HHS.out.2.2.1, HPZ.out⟩⟩
                            case measure => simp [intOf]; omega
                  · obtain rfl : k = 2 := by omega
                    have HB : Aside (Below w.heap.size w wr) := ⟨HQ.out.2.2.bel⟩
                    go_wp2_with fail
                    go_ret
                    exact ⟨rfl, HB.out⟩
end Go.Proofs.YtkgacnenmflegaaGreatDoor
