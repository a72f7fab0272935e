/-
  Nodes that are so few fit.
  The law's own plan.
-/
import Derived.Test.YtffdpmejilmnnaaMg13
namespace Go.Proofs.Ytffdpmejilmnnaa
open Go.RowKit

theorem upI_mono {a b r : Int} (hr : 1 ≤ r) (h : a ≤ b) : upI a r ≤ upI b r := Int.ediv_le_ediv (by omega) (by omega)
theorem pages_le (z : Int) (A : Option Addr) (len cap : Nat) (f : Nat → Int) (w : World) (hlen : len ≤ 4096) (h1 : 1 ≤ z) (h2 : z ≤ 2048) (hg : GoodTo z f len) (hR : Rd w A len (fun i => .int .i64 (f i))) (hcap : len ≤ cap) (hcm : cap ≤ 9223372036854775807) :
    Calls Try.prog 27 #[.int .i64 z, .slice A len cap] w fun e w' => (∃ p : Int, e = .returned (.tuple #[.int .i64 p, .bool true]) ∧ 0 ≤ p ∧ p ≤ len) ∧ Below w.heap.size w w' := by
  refine (pack_pages z A len cap f w (by omega) hR hcap hcm).mono ?_
  rintro e w' ⟨⟨p, b, h, rfl⟩, hb⟩
  have hz : min (max z 1) 2048 = z := by omega
  rw [hz] at h
  rcases h with ⟨rfl, rfl, _⟩ | ⟨_, _, h⟩
  · have := pgs_bounds len hg (by omega)
    exact ⟨⟨_, rfl, by omega, by omega⟩, hb⟩
  · exact absurd hg h
set_option maxRecDepth 20000 in
set_option maxHeartbeats 4000000 in
theorem space_need (x : PlanT) (A B : Option Addr) (N c d : Nat) (l m : List Int) (w : World) (hl : N = l.length) (hN : N ≤ 4096) (hc : N ≤ c) (hcm : c ≤ 9223372036854775807) (hd : N ≤ d) (hdm : d ≤ 9223372036854775807) (hr1 : 1 ≤ x.ro) (hr2 : x.ro ≤ 64) (hb1 : 249 ≤ x.by_) (hb2 : x.by_ ≤ 2048)
    (hg : Good64 l) (hm : GoodTo x.by_ (fun i => m.getD i 0) N) (hR : Rd w A N (fun i => .int .i64 (l.getD i 0))) (hS : Rd w B N (fun i => .int .i64 (m.getD i 0))) :
    Calls Try.prog 18 #[x.v, .slice A N c, .slice B N d] w fun e w' => (∃ a b : Int, e = .returned (.tuple #[.int .i64 a, .int .i64 b, .bool true]) ∧ 0 ≤ a ∧ a ≤ upI N x.ro ∧ 0 ≤ b ∧ b ≤ upI N x.ro) ∧ Below w.heap.size w w' := by
  have HCN : Aside (∀ W, Below w.heap.size w W → Calls Try.prog 25 #[.slice A N c, needV] W fun e w' => e = .returned (.bool false) ∧ Below W.heap.size W w') := ⟨fun W hW => contains_need A N c (fun i => l.getD i 0) W (by omega) hc hcm (hR.below (Nat.le_refl _) hW) (fun i hi => hg.at_ (by omega))⟩
  have HPG : Aside (∀ W, Below w.heap.size w W → Calls Try.prog 27 #[.int .i64 x.by_, .slice B N d] W fun e w' => (∃ p : Int, e = .returned (.tuple #[.int .i64 p, .bool true]) ∧ 0 ≤ p ∧ p ≤ N) ∧ Below W.heap.size W w') := ⟨fun W hW => pages_le x.by_ B N d (fun i => m.getD i 0) W hN (by omega) hb2 hm (hS.below (Nat.le_refl _) hW) hd hdm⟩
  have HIX : Aside (∀ W, Below w.heap.size w W → Calls Try.prog 28 #[x.v, .slice A N c] W fun e w' => (∃ q : Int, e = .returned (.int .i64 q) ∧ 0 ≤ q ∧ q ≤ N) ∧ Below W.heap.size W w') := ⟨fun W hW => space_index x A N c l W hl hN hc hcm hb1 hb2 hg (hR.below (Nat.le_refl _) hW)⟩
  have HBK : Aside (∀ k W, 0 ≤ k → k ≤ 1000000 → Calls Try.prog 16 #[x.v, .int .i64 k] W fun e w' => e = .returned (.int .i64 (upI k x.ro)) ∧ Below W.heap.size W w') := ⟨fun k W h0 h1 => space_blocks x k W h0 h1 hr1 (by omega)⟩
  have hb := (Below.refl w.heap.size w).alloc (Nat.le_refl _) (.cells #[.int .i64 x.jo, .int .i64 x.ha, .int .i64 x.ro, .int .i64 x.by_, .int .i64 x.si] 25)
  have hk := heap_alloc_new w (.cells #[.int .i64 x.jo, .int .i64 x.ha, .int .i64 x.ro, .int .i64 x.by_, .int .i64 x.si] 25)
  unfold PlanT.v at *
  generalize x.jo = jo at *
  generalize x.ha = ha at *
  generalize x.ro = ro at *
  generalize x.by_ = pa at *
  generalize x.si = si at *
  have H0 := Aside.mk (And.intro hb hk)
  have c2 := cell_of_row _ _ 2 _ _ _ hk
  simp only [List.getElem?_cons_zero, List.getElem?_cons_succ, List.getElem?_toArray] at c2
  have HRO := Aside.mk (And.intro hr1 hr2)
  have hno : ¬ ro < 1 := by omega
  clear hb hk hR hS hg hm hl hb1 hb2 hr1 hr2
  go_enter Try.func18, Try.ntmps18
  go_upto_region 1 with fail
  generalize w.alloc (.cells #[.int .i64 jo, .int .i64 ha, .int .i64 ro, .int .i64 pa, .int .i64 si] 25) = w1 at *
  go_upto_region 3 with (go_at_call 25; refine (HCN.out _ H0.out.1).mono ?_; rintro e w2 ⟨rfl, hb2⟩; have hbx := H0.out.1.trans (hb2.mono H0.out.1.size); have hkx := below_blk H0.out.2 hb2; have c3 := cell_of_row w2 _ 3 _ _ _ hkx; simp only [List.getElem?_cons_zero, List.getElem?_cons_succ, List.getElem?_toArray] at c3; have H2 := Aside.mk (And.intro hbx hkx); clear hbx hkx hb2)
  clear c2 H0
  go_upto_region 6 with (go_at_call 27; refine (HPG.out _ H2.out.1).mono ?_; rintro e w3 ⟨⟨p, rfl, hp1, hp2⟩, hb3⟩; have hbx := H2.out.1.trans (hb3.mono H2.out.1.size); have hkx := below_blk H2.out.2 hb3; have H3 := Aside.mk (And.intro hbx hkx); have a0 := cell_of_row w3 _ 0 _ _ _ hkx; have a1 := cell_of_row w3 _ 1 _ _ _ hkx; have a2 := cell_of_row w3 _ 2 _ _ _ hkx; have a3 := cell_of_row w3 _ 3 _ _ _ hkx; have a4 := cell_of_row w3 _ 4 _ _ _ hkx; simp only [List.getElem?_cons_zero, List.getElem?_cons_succ, List.getElem?_toArray] at a0 a1 a2 a3 a4; clear hbx hkx hb3)
  clear c3 H2
  go_upto_region 7 with (go_at_call 28; refine (HIX.out _ H3.out.1).mono ?_; rintro e wr ⟨⟨q, rfl, hq1, hq2⟩, hb4⟩; have hbx := H3.out.1.trans (hb4.mono H3.out.1.size); have hkx := below_blk H3.out.2 hb4; have HB := Aside.mk hbx; have HBX := Aside.mk hkx; clear hbx hkx hb4)
  clear a0 a1 a2 a3 a4 H3
  have hq3 : ¬ 65536 < q := by omega
  have HBL : Aside ((∀ W, Calls Try.prog 16 #[.agg #[.int .i64 jo, .int .i64 ha, .int .i64 ro, .int .i64 pa, .int .i64 si], .int .i64 p] W fun e w' => e = .returned (.int .i64 (upI p ro)) ∧ Below W.heap.size W w') ∧ (∀ W, Calls Try.prog 16 #[.agg #[.int .i64 jo, .int .i64 ha, .int .i64 ro, .int .i64 pa, .int .i64 si], .int .i64 q] W fun e w' => e = .returned (.int .i64 (upI q ro)) ∧ Below W.heap.size W w')) := ⟨fun W => HBK.out _ W (by omega) (by omega), fun W => HBK.out _ W (by omega) (by omega)⟩
  have HU : Aside ((0 ≤ upI p ro ∧ upI p ro ≤ upI N ro) ∧ (0 ≤ upI q ro ∧ upI q ro ≤ upI N ro)) := ⟨⟨upI_nonneg hp1 HRO.out.1, upI_mono HRO.out.1 hp2⟩, ⟨upI_nonneg hq1 HRO.out.1, upI_mono HRO.out.1 hq2⟩⟩
  obtain ⟨u1, hx1⟩ : ∃ u1, u1 = upI p ro := ⟨_, rfl⟩
  obtain ⟨u2, hx2⟩ : ∃ u2, u2 = upI q ro := ⟨_, rfl⟩
  rw [← hx1, ← hx2] at HBL HU
  clear hx1 hx2
  go_upto_region 9 with fail
  refine wp_region_r 6 (by kernel_rfl) (by kernel_rfl) (rel_small (by kernel_rfl)) (chgV (fun _ => False) (fun _ => True) [(40, .val (.agg #[.int .i64 jo, .int .i64 ha, .int .i64 ro, .int .i64 pa, .int .i64 si])), (41, .val (.int .i64 p)), (42, .val (.int .i64 u1)), (43, .val (.agg #[.int .i64 jo, .int .i64 ha, .int .i64 ro, .int .i64 pa, .int .i64 si])), (44, .val (.int .i64 q)), (45, .val (.int .i64 u2))]) (Chg (fun _ => False) (fun _ => True)) (chg_drew _ _ _ (id)) Chg.refl (fun _ _ _ => Chg.trans) (chgV_stable _ _ _) ⟨?_, ?_, ?_, ?_, ?_, ?_, trivial⟩ ?_
  · -- 40 := load 25 t3
    intro f W hW hold hd K hK
    refine .inl ⟨wanted_free rfl _, ?_⟩
    dsimp only [bare]
    have ze3 : f 3 = .pointer (some ⟨w.heap.size, 0, none⟩) := hold 3 rfl
    have HK : ∀ v W', Chg (fun _ => False) (fun _ => True) W W' → chgV (fun _ => False) (fun _ => True) _ 40 v W' → K { tmps := #[f 0, f 1, f 2, f 3, f 4, f 5, f 6, f 7, f 8, f 9, f 10, f 11, f 12, f 13, f 14, f 15, f 16, f 17, f 18, f 19, f 20, f 21, f 22, f 23, f 24, f 25, f 26, f 27, f 28, f 29, f 30, f 31, f 32, f 33, f 34, f 35, f 36, f 37, f 38, f 39, v, f 41, f 42, f 43, f 44, f 45], defers := [] } W' := hK
    change wpList _ #[_] _ [_] { tmps := #[f 0, f 1, f 2, f 3, f 4, f 5, f 6, f 7, f 8, f 9, f 10, f 11, f 12, f 13, f 14, f 15, f 16, f 17, f 18, f 19, f 20, f 21, f 22, f 23, f 24, f 25, f 26, f 27, f 28, f 29, f 30, f 31, f 32, f 33, f 34, f 35, f 36, f 37, f 38, f 39, f 40, f 41, f 42, f 43, f 44, f 45], defers := [] } W
    clear hK hd hold
    simp only [ze3] at HK ⊢
    clear ze3
    have HK := Aside.mk HK
    have hh := hW.blk HBX.out id; have q0 := cell_of_row W w.heap.size 0 _ _ _ hh; have q1 := cell_of_row W w.heap.size 1 _ _ _ hh; have q2 := cell_of_row W w.heap.size 2 _ _ _ hh; have q3 := cell_of_row W w.heap.size 3 _ _ _ hh; have q4 := cell_of_row W w.heap.size 4 _ _ _ hh; clear hh
    go_wp2
    exact HK.out _ _ (Chg.refl _) rfl
  · -- 41 := move t9
    intro f W hW hold hd K hK
    refine .inl ⟨wanted_free rfl _, ?_⟩
    dsimp only [bare]
    have ze9 : f 9 = .int .i64 p := hold 9 rfl
    have HK : ∀ v W', Chg (fun _ => False) (fun _ => True) W W' → chgV (fun _ => False) (fun _ => True) _ 41 v W' → K { tmps := #[f 0, f 1, f 2, f 3, f 4, f 5, f 6, f 7, f 8, f 9, f 10, f 11, f 12, f 13, f 14, f 15, f 16, f 17, f 18, f 19, f 20, f 21, f 22, f 23, f 24, f 25, f 26, f 27, f 28, f 29, f 30, f 31, f 32, f 33, f 34, f 35, f 36, f 37, f 38, f 39, f 40, v, f 42, f 43, f 44, f 45], defers := [] } W' := hK
    change wpList _ #[_] _ [_] { tmps := #[f 0, f 1, f 2, f 3, f 4, f 5, f 6, f 7, f 8, f 9, f 10, f 11, f 12, f 13, f 14, f 15, f 16, f 17, f 18, f 19, f 20, f 21, f 22, f 23, f 24, f 25, f 26, f 27, f 28, f 29, f 30, f 31, f 32, f 33, f 34, f 35, f 36, f 37, f 38, f 39, f 40, f 41, f 42, f 43, f 44, f 45], defers := [] } W
    clear hK hd hold
    simp only [ze9] at HK ⊢
    clear ze9
    have HK := Aside.mk HK
    go_wp2
    exact HK.out _ _ (Chg.refl _) rfl
  · -- 42 := CALL f16 (chert/space.Plan).blocks [t40, t41] : [25, 3]
    intro f W hW hold hd K hK
    refine .inl ⟨wanted_free rfl _, ?_⟩
    dsimp only [bare]
    have ze40 : f 40 = .agg #[.int .i64 jo, .int .i64 ha, .int .i64 ro, .int .i64 pa, .int .i64 si] := hd 40 rfl rfl
    have ze41 : f 41 = .int .i64 p := hd 41 rfl rfl
    have HK : ∀ v W', Chg (fun _ => False) (fun _ => True) W W' → chgV (fun _ => False) (fun _ => True) _ 42 v W' → K { tmps := #[f 0, f 1, f 2, f 3, f 4, f 5, f 6, f 7, f 8, f 9, f 10, f 11, f 12, f 13, f 14, f 15, f 16, f 17, f 18, f 19, f 20, f 21, f 22, f 23, f 24, f 25, f 26, f 27, f 28, f 29, f 30, f 31, f 32, f 33, f 34, f 35, f 36, f 37, f 38, f 39, f 40, f 41, v, f 43, f 44, f 45], defers := [] } W' := hK
    change wpList _ #[_] _ [_] { tmps := #[f 0, f 1, f 2, f 3, f 4, f 5, f 6, f 7, f 8, f 9, f 10, f 11, f 12, f 13, f 14, f 15, f 16, f 17, f 18, f 19, f 20, f 21, f 22, f 23, f 24, f 25, f 26, f 27, f 28, f 29, f 30, f 31, f 32, f 33, f 34, f 35, f 36, f 37, f 38, f 39, f 40, f 41, f 42, f 43, f 44, f 45], defers := [] } W
    clear hK hd hold
    simp only [ze40, ze41] at HK ⊢
    clear ze40 ze41
    have HK := Aside.mk HK
    go_wp2_with (go_at_call 16; refine (HBL.out.1 W).mono ?_; rintro e w3 ⟨rfl, hb3⟩)
    exact HK.out _ _ (Chg.of_below hb3 id) rfl
  · -- 43 := load 25 t3
    intro f W hW hold hd K hK
    refine .inl ⟨wanted_free rfl _, ?_⟩
    dsimp only [bare]
    have ze3 : f 3 = .pointer (some ⟨w.heap.size, 0, none⟩) := hold 3 rfl
    have HK : ∀ v W', Chg (fun _ => False) (fun _ => True) W W' → chgV (fun _ => False) (fun _ => True) _ 43 v W' → K { tmps := #[f 0, f 1, f 2, f 3, f 4, f 5, f 6, f 7, f 8, f 9, f 10, f 11, f 12, f 13, f 14, f 15, f 16, f 17, f 18, f 19, f 20, f 21, f 22, f 23, f 24, f 25, f 26, f 27, f 28, f 29, f 30, f 31, f 32, f 33, f 34, f 35, f 36, f 37, f 38, f 39, f 40, f 41, f 42, v, f 44, f 45], defers := [] } W' := hK
    change wpList _ #[_] _ [_] { tmps := #[f 0, f 1, f 2, f 3, f 4, f 5, f 6, f 7, f 8, f 9, f 10, f 11, f 12, f 13, f 14, f 15, f 16, f 17, f 18, f 19, f 20, f 21, f 22, f 23, f 24, f 25, f 26, f 27, f 28, f 29, f 30, f 31, f 32, f 33, f 34, f 35, f 36, f 37, f 38, f 39, f 40, f 41, f 42, f 43, f 44, f 45], defers := [] } W
    clear hK hd hold
    simp only [ze3] at HK ⊢
    clear ze3
    have HK := Aside.mk HK
    have hh := hW.blk HBX.out id; have q0 := cell_of_row W w.heap.size 0 _ _ _ hh; have q1 := cell_of_row W w.heap.size 1 _ _ _ hh; have q2 := cell_of_row W w.heap.size 2 _ _ _ hh; have q3 := cell_of_row W w.heap.size 3 _ _ _ hh; have q4 := cell_of_row W w.heap.size 4 _ _ _ hh; clear hh
    go_wp2
    exact HK.out _ _ (Chg.refl _) rfl
  · -- 44 := move t11
    intro f W hW hold hd K hK
    refine .inl ⟨wanted_free rfl _, ?_⟩
    dsimp only [bare]
    have ze11 : f 11 = .int .i64 q := hold 11 rfl
    have HK : ∀ v W', Chg (fun _ => False) (fun _ => True) W W' → chgV (fun _ => False) (fun _ => True) _ 44 v W' → K { tmps := #[f 0, f 1, f 2, f 3, f 4, f 5, f 6, f 7, f 8, f 9, f 10, f 11, f 12, f 13, f 14, f 15, f 16, f 17, f 18, f 19, f 20, f 21, f 22, f 23, f 24, f 25, f 26, f 27, f 28, f 29, f 30, f 31, f 32, f 33, f 34, f 35, f 36, f 37, f 38, f 39, f 40, f 41, f 42, f 43, v, f 45], defers := [] } W' := hK
    change wpList _ #[_] _ [_] { tmps := #[f 0, f 1, f 2, f 3, f 4, f 5, f 6, f 7, f 8, f 9, f 10, f 11, f 12, f 13, f 14, f 15, f 16, f 17, f 18, f 19, f 20, f 21, f 22, f 23, f 24, f 25, f 26, f 27, f 28, f 29, f 30, f 31, f 32, f 33, f 34, f 35, f 36, f 37, f 38, f 39, f 40, f 41, f 42, f 43, f 44, f 45], defers := [] } W
    clear hK hd hold
    simp only [ze11] at HK ⊢
    clear ze11
    have HK := Aside.mk HK
    go_wp2
    exact HK.out _ _ (Chg.refl _) rfl
  · -- 45 := CALL f16 (chert/space.Plan).blocks [t43, t44] : [25, 3]
    intro f W hW hold hd K hK
    refine .inl ⟨wanted_free rfl _, ?_⟩
    dsimp only [bare]
    have ze43 : f 43 = .agg #[.int .i64 jo, .int .i64 ha, .int .i64 ro, .int .i64 pa, .int .i64 si] := hd 43 rfl rfl
    have ze44 : f 44 = .int .i64 q := hd 44 rfl rfl
    have HK : ∀ v W', Chg (fun _ => False) (fun _ => True) W W' → chgV (fun _ => False) (fun _ => True) _ 45 v W' → K { tmps := #[f 0, f 1, f 2, f 3, f 4, f 5, f 6, f 7, f 8, f 9, f 10, f 11, f 12, f 13, f 14, f 15, f 16, f 17, f 18, f 19, f 20, f 21, f 22, f 23, f 24, f 25, f 26, f 27, f 28, f 29, f 30, f 31, f 32, f 33, f 34, f 35, f 36, f 37, f 38, f 39, f 40, f 41, f 42, f 43, f 44, v], defers := [] } W' := hK
    change wpList _ #[_] _ [_] { tmps := #[f 0, f 1, f 2, f 3, f 4, f 5, f 6, f 7, f 8, f 9, f 10, f 11, f 12, f 13, f 14, f 15, f 16, f 17, f 18, f 19, f 20, f 21, f 22, f 23, f 24, f 25, f 26, f 27, f 28, f 29, f 30, f 31, f 32, f 33, f 34, f 35, f 36, f 37, f 38, f 39, f 40, f 41, f 42, f 43, f 44, f 45], defers := [] } W
    clear hK hd hold
    simp only [ze43, ze44] at HK ⊢
    clear ze43 ze44
    have HK := Aside.mk HK
    go_wp2_with (go_at_call 16; refine (HBL.out.2 W).mono ?_; rintro e w3 ⟨rfl, hb3⟩)
    exact HK.out _ _ (Chg.of_below hb3 id) rfl
  · intro f W hW hold hd aAct hAct
    replace hAct := hAct.trans (rel_puts hold)
    have ze40 : f 40 = .agg #[.int .i64 jo, .int .i64 ha, .int .i64 ro, .int .i64 pa, .int .i64 si] := hd 40 rfl
    have ze41 : f 41 = .int .i64 p := hd 41 rfl
    have ze42 : f 42 = .int .i64 u1 := hd 42 rfl
    have ze43 : f 43 = .agg #[.int .i64 jo, .int .i64 ha, .int .i64 ro, .int .i64 pa, .int .i64 si] := hd 43 rfl
    have ze44 : f 44 = .int .i64 q := hd 44 rfl
    have ze45 : f 45 = .int .i64 u2 := hd 45 rfl
    simp only [List.take_succ_cons, List.take_zero, putAll, List.foldl_cons, List.foldl_nil, Option.getD_some] at hAct
    simp only [ze40, ze41, ze42, ze43, ze44, ze45] at hAct
    subst hAct
    simp only [List.drop_succ_cons, List.drop_zero, Act.put, List.setIfInBounds_toArray, List.set_cons_zero, List.set_cons_succ]
    clear hold hd ze40 ze41 ze42 ze43 ze44 ze45
    have hbf : Below w.heap.size w W := ⟨hW.os.trans HB.out.os, hW.tape.trans HB.out.tape, hW.output.trans HB.out.output, Nat.le_trans HB.out.size hW.size, fun q hq => (hW.block q (Nat.lt_of_lt_of_le hq HB.out.size) id).trans (HB.out.block q hq)⟩
    have HW2 := Aside.mk hbf
    clear hbf hW
    go_wp2
    go_ret3
    exact ⟨⟨u1, u2, rfl, HU.out.1.1, HU.out.1.2, HU.out.2.1, HU.out.2.2⟩, HW2.out⟩
set_option maxRecDepth 20000 in
set_option maxHeartbeats 4000000 in
theorem space_fits (x : PlanT) (A B : Option Addr) (N c d : Nat) (l m : List Int) (w : World) (hl : N = l.length) (hN : N ≤ 4096) (hc : N ≤ c) (hcm : c ≤ 9223372036854775807) (hd : N ≤ d) (hdm : d ≤ 9223372036854775807) (hr1 : 1 ≤ x.ro) (hr2 : x.ro ≤ 64) (hb1 : 249 ≤ x.by_) (hb2 : x.by_ ≤ 2048)
    (hg : Good64 l) (hm : GoodTo x.by_ (fun i => m.getD i 0) N) (hR : Rd w A N (fun i => .int .i64 (l.getD i 0))) (hS : Rd w B N (fun i => .int .i64 (m.getD i 0))) (hf : upI N x.ro + upI (2 * N) x.ro ≤ x.ha) :
    Calls Try.prog 11 #[x.v, .slice A N c, .slice B N d] w fun e w' => e = .returned (.bool true) ∧ Below w.heap.size w w' := by
  have hmo := upI_mono hr1 (show (N : Int) ≤ 2 * N by omega)
  have hle := upI_le (show (0 : Int) ≤ N by omega) hr1
  have HND : Aside (∀ W, Below w.heap.size w W → Calls Try.prog 18 #[x.v, .slice A N c, .slice B N d] W fun e w' => (∃ a b : Int, e = .returned (.tuple #[.int .i64 a, .int .i64 b, .bool true]) ∧ 0 ≤ a ∧ a ≤ upI N x.ro ∧ 0 ≤ b ∧ b ≤ upI N x.ro) ∧ Below W.heap.size W w') := ⟨fun W hW => space_need x A B N c d l m W hl hN hc hcm hd hdm hr1 hr2 hb1 hb2 hg hm (hR.below (Nat.le_refl _) hW) (hS.below (Nat.le_refl _) hW)⟩
  have hb := (Below.refl w.heap.size w).alloc (Nat.le_refl _) (.cells #[.int .i64 x.jo, .int .i64 x.ha, .int .i64 x.ro, .int .i64 x.by_, .int .i64 x.si] 25)
  have hk := heap_alloc_new w (.cells #[.int .i64 x.jo, .int .i64 x.ha, .int .i64 x.ro, .int .i64 x.by_, .int .i64 x.si] 25)
  unfold PlanT.v at *
  generalize upI N x.ro = u at *
  generalize upI (2 * N) x.ro = v at *
  generalize x.jo = jo at *
  generalize x.ha = ha at *
  generalize x.ro = ro at *
  generalize x.by_ = pa at *
  generalize x.si = si at *
  have H0 := Aside.mk (And.intro hb hk)
  have a0 := cell_of_row _ _ 0 _ _ _ hk
  have a1 := cell_of_row _ _ 1 _ _ _ hk
  have a2 := cell_of_row _ _ 2 _ _ _ hk
  have a3 := cell_of_row _ _ 3 _ _ _ hk
  have a4 := cell_of_row _ _ 4 _ _ _ hk
  simp only [List.getElem?_cons_zero, List.getElem?_cons_succ, List.getElem?_toArray] at a0 a1 a2 a3 a4
  clear hb hk hR hS hg hm hl hb1 hb2 hr1 hr2
  go_enter Try.func11, Try.ntmps11
  go_upto_region 1 with fail
  generalize w.alloc (.cells #[.int .i64 jo, .int .i64 ha, .int .i64 ro, .int .i64 pa, .int .i64 si] 25) = w1 at *
  go_upto_region 2 with (go_at_call 18; refine (HND.out _ H0.out.1).mono ?_; rintro e w2 ⟨⟨a, b, rfl, h1, h2, h3, h4⟩, hb2⟩; have hbx := H0.out.1.trans (hb2.mono H0.out.1.size); have hkx := below_blk H0.out.2 hb2; have b1 := cell_of_row w2 _ 1 _ _ _ hkx; simp only [List.getElem?_cons_zero, List.getElem?_cons_succ, List.getElem?_toArray] at b1; have H2 := Aside.mk hbx; clear hbx hkx hb2)
  clear a0 a1 a2 a3 a4 H0
  have e1 : IntKind.i64.wrap (a + b) = a + b := by rw [IntKind.wrap_i64]; omega
  have e2 : a + b ≤ ha := by omega
  go_wp2
  go_ret
  exact ⟨rfl, H2.out⟩
end Go.Proofs.Ytffdpmejilmnnaa
namespace Go.Proofs.Ytffdpmejilmnnaa
open Go.RowKit

theorem put5_else {W : World} {g k : Nat} (x : PlanT) (h : k ≠ g) : (put5 W g x).heap[k]? = W.heap[k]? := by
  unfold put5
  rw [Below.heap_setCell _ _ _ _ h, Below.heap_setCell _ _ _ _ h, Below.heap_setCell _ _ _ _ h, Below.heap_setCell _ _ _ _ h, Below.heap_setCell _ _ _ _ h]
theorem three_new (w : World) (o1 o2 o3 : Obj) : (((w.alloc o1).alloc o2).alloc o3).heap[w.heap.size]? = some o1 ∧ (((w.alloc o1).alloc o2).alloc o3).heap[w.heap.size + 1]? = some o2 ∧ (((w.alloc o1).alloc o2).alloc o3).heap[w.heap.size + 1 + 1]? = some o3 ∧ (((w.alloc o1).alloc o2).alloc o3).heap.size = w.heap.size + 3 ∧ Below w.heap.size w (((w.alloc o1).alloc o2).alloc o3) := by
  have h1 := heap_alloc_new w o1
  have h2 := heap_alloc_new (w.alloc o1) o2
  have h3 := heap_alloc_new ((w.alloc o1).alloc o2) o3
  have b2 := (Below.refl (w.alloc o1).heap.size (w.alloc o1)).alloc (Nat.le_refl _) o2
  have b3 := (Below.refl ((w.alloc o1).alloc o2).heap.size ((w.alloc o1).alloc o2)).alloc (Nat.le_refl _) o3
  have b1 := (Below.refl w.heap.size w).alloc (Nat.le_refl _) o1
  have s1 : (w.alloc o1).heap.size = w.heap.size + 1 := by simp
  have s2 : ((w.alloc o1).alloc o2).heap.size = w.heap.size + 1 + 1 := by simp
  rw [s1] at h2
  rw [s2] at h3
  exact ⟨(b3.block _ (by omega)).trans ((b2.block _ (by omega)).trans h1), (b3.block _ (by omega)).trans h2, h3, by simp, b1.trans ((b2.trans (b3.mono (by omega))).mono (by omega))⟩
set_option maxRecDepth 20000 in
set_option maxHeartbeats 4000000 in
theorem plan_any (a b c d e : Int) (w : World) :
    Calls Try.prog 10 #[.agg #[.int .i64 a, .int .i64 b, .int .i64 c, .int .i64 d, .int .i64 e]] w fun e' w' => e' = .returned (.tuple #[(planG a b c d e).v, (planG a b c d e).v]) ∧ Below w.heap.size w w' := by
  have HO := Aside.mk (fun W => of_any a b c d e W)
  generalize planG a b c d e = x at *
  generalize decide (ofP a b c d e) = ok at *
  unfold PlanT.v at HO
  have h3 := three_new w (.cells #[.int .i64 a, .int .i64 b, .int .i64 c, .int .i64 d, .int .i64 e] 22) (.cells #[.int .i64 0, .int .i64 0, .int .i64 0, .int .i64 0, .int .i64 0] 25) (.cells #[.int .i64 0, .int .i64 0, .int .i64 0, .int .i64 0, .int .i64 0] 30)
  go_enter Try.func10, Try.ntmps10
  go_upto_region 1 with fail
  generalize ((w.alloc (.cells #[.int .i64 a, .int .i64 b, .int .i64 c, .int .i64 d, .int .i64 e] 22)).alloc (.cells #[.int .i64 0, .int .i64 0, .int .i64 0, .int .i64 0, .int .i64 0] 25)).alloc (.cells #[.int .i64 0, .int .i64 0, .int .i64 0, .int .i64 0, .int .i64 0] 30) = w1 at *
  obtain ⟨k0, k1, k2, ks, kb⟩ := h3
  obtain ⟨a0, a1, a2, a3, a4⟩ := row5 (x := ⟨a, b, c, d, e⟩) k0
  have H1 := Aside.mk (And.intro k1 (And.intro k2 (And.intro ks kb)))
  clear k0 k1 k2 ks kb
  go_upto_region 2 with (go_at_call 6; refine (HO.out _).mono ?_; rintro e' w2 ⟨rfl, hb2⟩)
  clear a0 a1 a2 a3 a4
  have hs2 := hb2.size
  have hb3 := hb2.alloc hb2.size (.cells #[.int .i64 x.jo, .int .i64 x.ha, .int .i64 x.ro, .int .i64 x.by_, .int .i64 x.si] 25)
  have hn3 := heap_alloc_new w2 (.cells #[.int .i64 x.jo, .int .i64 x.ha, .int .i64 x.ro, .int .i64 x.by_, .int .i64 x.si] 25)
  generalize w2.alloc (.cells #[.int .i64 x.jo, .int .i64 x.ha, .int .i64 x.ro, .int .i64 x.by_, .int .i64 x.si] 25) = w3 at *
  generalize w2.heap.size = q3 at *
  obtain ⟨b0, b1, b2, b3, b4⟩ := row5 (x := x) hn3
  have h1 := below_blk H1.out.1 hb3
  have h2 := below_blk H1.out.2.1 hb3
  have hz := H1.out.2.2.1
  obtain ⟨d0, d1, d2, d3, d4⟩ := row5 (x := PlanT.none) h1
  obtain ⟨e0, e1, e2, e3, e4⟩ := row5 (x := PlanT.none) h2
  have f0 := free5 (x := PlanT.none) h1 0
  have f1 := free5 (x := PlanT.none) h1 1
  have f2 := free5 (x := PlanT.none) h1 2
  have f3 := free5 (x := PlanT.none) h1 3
  have f4 := free5 (x := PlanT.none) h1 4
  have g0 := free5 (x := PlanT.none) h2 0
  have g1 := free5 (x := PlanT.none) h2 1
  have g2 := free5 (x := PlanT.none) h2 2
  have g3 := free5 (x := PlanT.none) h2 3
  have g4 := free5 (x := PlanT.none) h2 4
  have HF := Aside.mk (And.intro h1 (And.intro h2 (H1.out.2.2.2.trans (hb3.mono (by omega)))))
  have hq : q3 ≠ w.heap.size + 1 ∧ q3 ≠ w.heap.size + 1 + 1 := by omega
  clear h1 h2 hb2 hb3 hn3 hs2 H1
  go_region
  go_wp2
  obtain ⟨h1, h2, hbw⟩ := HF.out
  change bodyPost _ _ _ _ _ ((put5 (put5 w3 (w.heap.size + 1) x) (w.heap.size + 1 + 1) x).drew)
  have r2 := put5_row (x := x) (W := put5 w3 (w.heap.size + 1) x) (g := w.heap.size + 1 + 1) (y := PlanT.none) ((put5_else x (by omega)).trans h2)
  have r1 := (put5_else (W := put5 w3 (w.heap.size + 1) x) (g := w.heap.size + 1 + 1) (k := w.heap.size + 1) x (by omega)).trans (put5_row (x := x) (y := PlanT.none) h1)
  have hbf := (put5_below x (put5_below x hbw (Nat.le_succ _)) (show w.heap.size ≤ w.heap.size + 1 + 1 by omega)).drew
  generalize put5 (put5 w3 (w.heap.size + 1) x) (w.heap.size + 1 + 1) x = Wf at *
  obtain ⟨y0, y1, y2, y3, y4⟩ := row5 r1
  obtain ⟨z0, z1, z2, z3, z4⟩ := row5 r2
  exact bodyPost_ret (v := .tuple #[x.v, x.v]) (by simp [results, Try.results10, go_sem, y0, y1, y2, y3, y4, z0, z1, z2, z3, z4, PlanT.v]) rfl ⟨rfl, hbf⟩
end Go.Proofs.Ytffdpmejilmnnaa
