/-
  The plan of every geometry, and how much surely fits.
  What nodes need: the keys' lengths are looked at, the pages are counted.
  How many pages an index over keys takes: no more than there are keys.
-/
import Derived.Test.YtffdpmejilmnnaaMg12
namespace Go.Proofs.Ytffdpmejilmnnaa
open Go.RowKit

theorem plan_bounds {b p c ch t : Int} (h : ofP b p c ch t) : 1 ≤ (planOf b p c ch).ro ∧ (planOf b p c ch).ro ≤ 64 ∧ (planOf b p c ch).ha ≤ 64 := by
  obtain ⟨hg, h1, h2, h3⟩ := h
  have hdl := dLen_at p.toNat (by have := hg.2.2.2.1; omega) (by omega) (by have := hg.2.2.2.2.1; omega)
  have hb := hg.2.1
  have hp := hg.2.2.2.1
  simp only [planOf, dLen]
  omega
def CapR (x : PlanT) (n : Nat) : Prop := (x.ro < 1 ∧ n = 0) ∨ (1 ≤ x.ro ∧ IsCap x.ha x.ro n)
theorem CapR.unique {x : PlanT} {n m : Nat} (h : CapR x n) (h' : CapR x m) : n = m := by
  rcases h with ⟨h1, h2⟩ | ⟨h1, h2⟩ <;> rcases h' with ⟨h3, h4⟩ | ⟨h3, h4⟩
  · omega
  · omega
  · omega
  · exact h2.unique h4
def CapV (x : PlanT) (v : Value) (_ : World) : Prop := ∃ n : Nat, v = .int .i64 (n : Int) ∧ CapR x n
/-- A plan as Of answers it. -/
def OkPlan (x : PlanT) : Prop := x.ro < 1 ∨ (1 ≤ x.ro ∧ x.ro ≤ 64 ∧ x.ha ≤ 64)
theorem space_cap_any (x : PlanT) (w : World) (h : OkPlan x) :
    Calls Try.prog 8 #[x.v] w fun e w' => ∃ n : Nat, e = .returned (.int .i64 (n : Int)) ∧ CapR x n ∧ Below w.heap.size w w' := by
  rcases h with h | ⟨h1, h2, h3⟩
  · have hb := (Below.refl w.heap.size w).alloc (Nat.le_refl _) (.cells #[.int .i64 x.jo, .int .i64 x.ha, .int .i64 x.ro, .int .i64 x.by_, .int .i64 x.si] 25)
    have HB := Aside.mk hb
    have HX := Aside.mk h
    unfold PlanT.v
    generalize hro : x.ro = ro at *
    have HRO := Aside.mk hro
    clear hb hro
    go_enter Try.func8, Try.ntmps8
    go_wp2
    go_ret
    exact ⟨0, rfl, .inl ⟨by rw [HRO.out]; exact HX.out, rfl⟩, HB.out⟩
  · refine (space_cap x w h1 h2 h3).mono ?_
    rintro e w' ⟨n, rfl, hn, hb⟩
    exact ⟨n, rfl, .inr ⟨h1, hn⟩, hb⟩
theorem ref_cap_any (x : PlanT) (w : World) (h : OkPlan x) :
    Calls Try.prog 9 #[x.v] w fun e w' => ∃ n : Nat, e = .returned (.int .i64 (n : Int)) ∧ CapR x n ∧ Below w.heap.size w w' := by
  rcases h with h | ⟨h1, h2, h3⟩
  · have hb := (Below.refl w.heap.size w).alloc (Nat.le_refl _) (.cells #[.int .i64 x.jo, .int .i64 x.ha, .int .i64 x.ro, .int .i64 x.by_, .int .i64 x.si] 30)
    have HB := Aside.mk hb
    have HX := Aside.mk h
    unfold PlanT.v
    generalize hro : x.ro = ro at *
    have HRO := Aside.mk hro
    clear hb hro
    go_enter Try.func9, Try.ntmps9
    go_wp2
    go_ret
    exact ⟨0, rfl, .inl ⟨by rw [HRO.out]; exact HX.out, rfl⟩, HB.out⟩
  · refine (ref_cap x w h1 h2 h3).mono ?_
    rintro e w' ⟨n, rfl, hn, hb⟩
    exact ⟨n, rfl, .inr ⟨h1, hn⟩, hb⟩
theorem planG_ok (b p c ch t : Int) : OkPlan (planG b p c ch t) := by
  unfold planG
  by_cases h : ofP b p c ch t
  · rw [if_pos h]; exact .inr (plan_bounds h)
  · rw [if_neg h]; left; show (0 : Int) < 1; omega
theorem of_any (b p c ch t : Int) (w : World) :
    Calls Try.prog 6 #[geoV b p c ch t] w fun e w' => e = .returned (.tuple #[(planG b p c ch t).v, .bool (decide (ofP b p c ch t))]) ∧ Below w.heap.size w w' := by
  unfold planG
  by_cases h : ofP b p c ch t
  · rw [if_pos h, show decide (ofP b p c ch t) = true by simpa using h]
    exact space_of b p c ch t w h
  · rw [if_neg h, show decide (ofP b p c ch t) = false by simpa using h]
    exact space_of_not b p c ch t w h
theorem ref_any (b p c ch t : Int) (w : World) :
    Calls Try.prog 7 #[geoV b p c ch t] w fun e w' => e = .returned (.tuple #[(planG b p c ch t).v, .bool (decide (ofP b p c ch t))]) ∧ Below w.heap.size w w' := by
  unfold planG
  by_cases h : ofP b p c ch t
  · rw [if_pos h, show decide (ofP b p c ch t) = true by simpa using h]
    exact ref_plan b p c ch t w h
  · rw [if_neg h, show decide (ofP b p c ch t) = false by simpa using h]
    exact ref_plan_not b p c ch t w h
set_option maxHeartbeats 800000 in
theorem space_speaks (w : World) :
    Calls Try.prog 5 #[] w fun e w' => e = .returned (.bool true) ∧ Below w.heap.size w w' := by
  have ho : ofP 16 16 1 256 1 := by decide
  have h1 : (planOf 16 16 1 256).jo = 2 := by decide
  have h2 : (planOf 16 16 1 256).ha = 5 := by decide
  have h3 : (planOf 16 16 1 256).by_ = 249 := by decide
  have HO := Aside.mk (fun W => space_of 16 16 1 256 1 W ho)
  unfold PlanT.v at HO
  rw [h1, h2, h3] at HO
  generalize (planOf 16 16 1 256).ro = ro at *
  generalize (planOf 16 16 1 256).si = si at *
  clear h1 h2 h3 ho
  go_enter Try.func5, Try.ntmps5
  go_upto_region 2 with (go_at_call 6; refine (HO.out _).mono ?_; rintro e w1 ⟨rfl, hb1⟩)
  have hb := hb1.alloc hb1.size (.cells #[.int .i64 2, .int .i64 5, .int .i64 ro, .int .i64 249, .int .i64 si] 25)
  have HB := Aside.mk hb
  clear hb hb1
  go_wp2
  go_ret
  exact ⟨rfl, HB.out⟩
set_option maxRecDepth 20000 in
set_option maxHeartbeats 4000000 in
theorem spacePlans_walk (a b c d e : Int) (w : World) (_h : (Lit.int .i64 a).wf = true ∧ (Lit.int .i64 b).wf = true ∧ (Lit.int .i64 c).wf = true ∧ (Lit.int .i64 d).wf = true ∧ (Lit.int .i64 e).wf = true) :
    Calls Try.prog 3 #[.agg #[.int .i64 a, .int .i64 b, .int .i64 c, .int .i64 d, .int .i64 e]] w fun e w' => e = .returned (.bool true) ∧ Below w.heap.size w w' := by
  clear _h
  have hb := (Below.refl w.heap.size w).alloc (Nat.le_refl _) (.cells #[.int .i64 a, .int .i64 b, .int .i64 c, .int .i64 d, .int .i64 e] 22)
  have hk := heap_alloc_new w (.cells #[.int .i64 a, .int .i64 b, .int .i64 c, .int .i64 d, .int .i64 e] 22)
  have HO := Aside.mk (fun W => of_any a b c d e W)
  have HR := Aside.mk (fun W => ref_any a b c d e W)
  have HK := Aside.mk (planG_ok a b c d e)
  generalize planG a b c d e = x at *
  generalize decide (ofP a b c d e) = ok at *
  go_enter Try.func3, Try.ntmps3
  have HCS := Aside.mk (fun W => space_cap_any x W HK.out)
  have HCR := Aside.mk (fun W => ref_cap_any x W HK.out)
  unfold PlanT.v at HO HR HCS HCR
  have H0 := Aside.mk (And.intro hb hk)
  clear hb hk
  go_upto_region 3 with (go_at_call 5; refine (space_speaks _).mono ?_; rintro e' w1 ⟨rfl, hb1⟩)
  have hk1 := below_blk H0.out.2 hb1
  have h1 := H0.out.1.trans (hb1.mono H0.out.1.size)
  have H1 := Aside.mk (And.intro h1 hk1)
  have a0 := cell_of_row w1 _ 0 _ _ _ hk1
  have a1 := cell_of_row w1 _ 1 _ _ _ hk1
  have a2 := cell_of_row w1 _ 2 _ _ _ hk1
  have a3 := cell_of_row w1 _ 3 _ _ _ hk1
  have a4 := cell_of_row w1 _ 4 _ _ _ hk1
  simp only [List.getElem?_cons_zero, List.getElem?_cons_succ, List.getElem?_toArray] at a0 a1 a2 a3 a4
  clear hk1 h1 hb1 H0
  go_upto_region 4 with (go_at_call 6; refine (HO.out _).mono ?_; rintro e' w2 ⟨rfl, hb2⟩)
  clear a0 a1 a2 a3 a4
  have hb3 := hb2.alloc hb2.size (.cells #[.int .i64 x.jo, .int .i64 x.ha, .int .i64 x.ro, .int .i64 x.by_, .int .i64 x.si] 25)
  have hn3 := heap_alloc_new w2 (.cells #[.int .i64 x.jo, .int .i64 x.ha, .int .i64 x.ro, .int .i64 x.by_, .int .i64 x.si] 25)
  generalize w2.alloc (.cells #[.int .i64 x.jo, .int .i64 x.ha, .int .i64 x.ro, .int .i64 x.by_, .int .i64 x.si] 25) = w3 at *
  generalize w2.heap.size = q3 at *
  have hk3 := below_blk H1.out.2 hb3
  have H3 := Aside.mk (And.intro (H1.out.1.trans (hb3.mono H1.out.1.size)) (And.intro hk3 hn3))
  have a0 := cell_of_row w3 _ 0 _ _ _ hk3
  have a1 := cell_of_row w3 _ 1 _ _ _ hk3
  have a2 := cell_of_row w3 _ 2 _ _ _ hk3
  have a3 := cell_of_row w3 _ 3 _ _ _ hk3
  have a4 := cell_of_row w3 _ 4 _ _ _ hk3
  simp only [List.getElem?_cons_zero, List.getElem?_cons_succ, List.getElem?_toArray] at a0 a1 a2 a3 a4
  clear hk3 hb3 hn3 hb2 H1
  go_upto_region 5 with (go_at_call 7; refine (HR.out _).mono ?_; rintro e' w4 ⟨rfl, hb4⟩)
  clear a0 a1 a2 a3 a4
  have hb5 := hb4.alloc hb4.size (.cells #[.int .i64 x.jo, .int .i64 x.ha, .int .i64 x.ro, .int .i64 x.by_, .int .i64 x.si] 30)
  have hn5 := heap_alloc_new w4 (.cells #[.int .i64 x.jo, .int .i64 x.ha, .int .i64 x.ro, .int .i64 x.by_, .int .i64 x.si] 30)
  generalize w4.alloc (.cells #[.int .i64 x.jo, .int .i64 x.ha, .int .i64 x.ro, .int .i64 x.by_, .int .i64 x.si] 30) = w5 at *
  generalize w4.heap.size = q5 at *
  have H5 := Aside.mk (And.intro (H3.out.1.trans (hb5.mono H3.out.1.size)) (And.intro (below_blk H3.out.2.2 hb5) hn5))
  clear hb5 hn5 hb4 H3 HO HR
  generalize x.jo = jo at *
  generalize x.ha = ha at *
  generalize hro : x.ro = ro at *
  generalize x.by_ = pa at *
  generalize x.si = si at *
  refine wp_region_r 16 (by kernel_rfl) (by kernel_rfl) (rel_small (by kernel_rfl)) (chgV (fun _ => False) (fun _ => True) [(2, .val (.bool true)), (39, .val (.bool ok)), (40, .val (.bool ok)), (41, .val (.bool true)), (42, .val (.bool true)), (43, .val (.agg #[.int .i64 jo, .int .i64 ha, .int .i64 ro, .int .i64 pa, .int .i64 si])), (44, .val (.agg #[.int .i64 jo, .int .i64 ha, .int .i64 ro, .int .i64 pa, .int .i64 si])), (45, .val (.bool true)), (46, .val (.bool true)), (47, .val (.bool true)), (48, .val (.agg #[.int .i64 jo, .int .i64 ha, .int .i64 ro, .int .i64 pa, .int .i64 si])), (49, .that (CapV x)), (50, .val (.agg #[.int .i64 jo, .int .i64 ha, .int .i64 ro, .int .i64 pa, .int .i64 si])), (51, .that (CapV x)), (52, .val (.bool true)), (53, .val (.bool true))]) (Chg (fun _ => False) (fun _ => True)) (chg_drew _ _ _ (id)) Chg.refl (fun _ _ _ => Chg.trans) (chgV_stable _ _ _) ⟨?_, ?_, ?_, ?_, ?_, ?_, ?_, ?_, ?_, ?_, ?_, ?_, ?_, ?_, ?_, ?_, trivial⟩ ?_
  · -- 39 := move t4
    intro f W hW hold hd K hK
    refine .inl ⟨wanted_free rfl _, ?_⟩
    dsimp only [bare]
    have ze4 : f 4 = .bool ok := hold 4 rfl
    have HK : ∀ v W', Chg (fun _ => False) (fun _ => True) W W' → chgV (fun _ => False) (fun _ => True) _ 39 v W' → K { tmps := #[f 0, f 1, f 2, f 3, f 4, f 5, f 6, f 7, f 8, f 9, f 10, f 11, f 12, f 13, f 14, f 15, f 16, f 17, f 18, f 19, f 20, f 21, f 22, f 23, f 24, f 25, f 26, f 27, f 28, f 29, f 30, f 31, f 32, f 33, f 34, f 35, f 36, f 37, f 38, v, f 40, f 41, f 42, f 43, f 44, f 45, f 46, f 47, f 48, f 49, f 50, f 51, f 52, f 53], defers := [] } W' := hK
    change wpList _ #[_] _ [_] { tmps := #[f 0, f 1, f 2, f 3, f 4, f 5, f 6, f 7, f 8, f 9, f 10, f 11, f 12, f 13, f 14, f 15, f 16, f 17, f 18, f 19, f 20, f 21, f 22, f 23, f 24, f 25, f 26, f 27, f 28, f 29, f 30, f 31, f 32, f 33, f 34, f 35, f 36, f 37, f 38, f 39, f 40, f 41, f 42, f 43, f 44, f 45, f 46, f 47, f 48, f 49, f 50, f 51, f 52, f 53], defers := [] } W
    clear hK hd hold
    simp only [ze4] at HK ⊢
    clear ze4
    have HK := Aside.mk HK
    go_wp2
    exact HK.out _ _ (Chg.refl _) rfl
  · -- 40 := move t6
    intro f W hW hold hd K hK
    refine .inl ⟨wanted_free rfl _, ?_⟩
    dsimp only [bare]
    have ze6 : f 6 = .bool ok := hold 6 rfl
    have HK : ∀ v W', Chg (fun _ => False) (fun _ => True) W W' → chgV (fun _ => False) (fun _ => True) _ 40 v W' → K { tmps := #[f 0, f 1, f 2, f 3, f 4, f 5, f 6, f 7, f 8, f 9, f 10, f 11, f 12, f 13, f 14, f 15, f 16, f 17, f 18, f 19, f 20, f 21, f 22, f 23, f 24, f 25, f 26, f 27, f 28, f 29, f 30, f 31, f 32, f 33, f 34, f 35, f 36, f 37, f 38, f 39, v, f 41, f 42, f 43, f 44, f 45, f 46, f 47, f 48, f 49, f 50, f 51, f 52, f 53], defers := [] } W' := hK
    change wpList _ #[_] _ [_] { tmps := #[f 0, f 1, f 2, f 3, f 4, f 5, f 6, f 7, f 8, f 9, f 10, f 11, f 12, f 13, f 14, f 15, f 16, f 17, f 18, f 19, f 20, f 21, f 22, f 23, f 24, f 25, f 26, f 27, f 28, f 29, f 30, f 31, f 32, f 33, f 34, f 35, f 36, f 37, f 38, f 39, f 40, f 41, f 42, f 43, f 44, f 45, f 46, f 47, f 48, f 49, f 50, f 51, f 52, f 53], defers := [] } W
    clear hK hd hold
    simp only [ze6] at HK ⊢
    clear ze6
    have HK := Aside.mk HK
    go_wp2
    exact HK.out _ _ (Chg.refl _) rfl
  · -- 41 := binOp eql 4 t39 t40 4
    intro f W hW hold hd K hK
    refine .inl ⟨wanted_free rfl _, ?_⟩
    dsimp only [bare]
    have ze39 : f 39 = .bool ok := hd 39 rfl rfl
    have ze40 : f 40 = .bool ok := hd 40 rfl rfl
    have HK : ∀ v W', Chg (fun _ => False) (fun _ => True) W W' → chgV (fun _ => False) (fun _ => True) _ 41 v W' → K { tmps := #[f 0, f 1, f 2, f 3, f 4, f 5, f 6, f 7, f 8, f 9, f 10, f 11, f 12, f 13, f 14, f 15, f 16, f 17, f 18, f 19, f 20, f 21, f 22, f 23, f 24, f 25, f 26, f 27, f 28, f 29, f 30, f 31, f 32, f 33, f 34, f 35, f 36, f 37, f 38, f 39, f 40, v, f 42, f 43, f 44, f 45, f 46, f 47, f 48, f 49, f 50, f 51, f 52, f 53], defers := [] } W' := hK
    change wpList _ #[_] _ [_] { tmps := #[f 0, f 1, f 2, f 3, f 4, f 5, f 6, f 7, f 8, f 9, f 10, f 11, f 12, f 13, f 14, f 15, f 16, f 17, f 18, f 19, f 20, f 21, f 22, f 23, f 24, f 25, f 26, f 27, f 28, f 29, f 30, f 31, f 32, f 33, f 34, f 35, f 36, f 37, f 38, f 39, f 40, f 41, f 42, f 43, f 44, f 45, f 46, f 47, f 48, f 49, f 50, f 51, f 52, f 53], defers := [] } W
    clear hK hd hold
    simp only [ze39, ze40] at HK ⊢
    clear ze39 ze40
    have HK := Aside.mk HK
    go_wp2
    exact HK.out _ _ (Chg.refl _) rfl
  · -- 42 := move t41
    intro f W hW hold hd K hK
    refine .inl ⟨wanted_free rfl _, ?_⟩
    dsimp only [bare]
    have ze41 : f 41 = .bool true := hd 41 rfl rfl
    have HK : ∀ v W', Chg (fun _ => False) (fun _ => True) W W' → chgV (fun _ => False) (fun _ => True) _ 42 v W' → K { tmps := #[f 0, f 1, f 2, f 3, f 4, f 5, f 6, f 7, f 8, f 9, f 10, f 11, f 12, f 13, f 14, f 15, f 16, f 17, f 18, f 19, f 20, f 21, f 22, f 23, f 24, f 25, f 26, f 27, f 28, f 29, f 30, f 31, f 32, f 33, f 34, f 35, f 36, f 37, f 38, f 39, f 40, f 41, v, f 43, f 44, f 45, f 46, f 47, f 48, f 49, f 50, f 51, f 52, f 53], defers := [] } W' := hK
    change wpList _ #[_] _ [_] { tmps := #[f 0, f 1, f 2, f 3, f 4, f 5, f 6, f 7, f 8, f 9, f 10, f 11, f 12, f 13, f 14, f 15, f 16, f 17, f 18, f 19, f 20, f 21, f 22, f 23, f 24, f 25, f 26, f 27, f 28, f 29, f 30, f 31, f 32, f 33, f 34, f 35, f 36, f 37, f 38, f 39, f 40, f 41, f 42, f 43, f 44, f 45, f 46, f 47, f 48, f 49, f 50, f 51, f 52, f 53], defers := [] } W
    clear hK hd hold
    simp only [ze41] at HK ⊢
    clear ze41
    have HK := Aside.mk HK
    go_wp2
    exact HK.out _ _ (Chg.refl _) rfl
  · -- 43 := load 25 t3
    intro f W hW hold hd K hK
    have zg : f 42 = .bool true := hd 42 rfl rfl
    refine .inl ⟨wanted_of (g := 3) (t := 42) (by kernel_rfl) (by kernel_rfl) (of_decide_eq_true (by kernel_rfl)) zg, ?_⟩
    clear zg
    dsimp only [bare]
    have ze3 : f 3 = .pointer (some ⟨q3, 0, none⟩) := hold 3 rfl
    have HK : ∀ v W', Chg (fun _ => False) (fun _ => True) W W' → chgV (fun _ => False) (fun _ => True) _ 43 v W' → K { tmps := #[f 0, f 1, f 2, f 3, f 4, f 5, f 6, f 7, f 8, f 9, f 10, f 11, f 12, f 13, f 14, f 15, f 16, f 17, f 18, f 19, f 20, f 21, f 22, f 23, f 24, f 25, f 26, f 27, f 28, f 29, f 30, f 31, f 32, f 33, f 34, f 35, f 36, f 37, f 38, f 39, f 40, f 41, f 42, v, f 44, f 45, f 46, f 47, f 48, f 49, f 50, f 51, f 52, f 53], defers := [] } W' := hK
    change wpList _ #[_] _ [_] { tmps := #[f 0, f 1, f 2, f 3, f 4, f 5, f 6, f 7, f 8, f 9, f 10, f 11, f 12, f 13, f 14, f 15, f 16, f 17, f 18, f 19, f 20, f 21, f 22, f 23, f 24, f 25, f 26, f 27, f 28, f 29, f 30, f 31, f 32, f 33, f 34, f 35, f 36, f 37, f 38, f 39, f 40, f 41, f 42, f 43, f 44, f 45, f 46, f 47, f 48, f 49, f 50, f 51, f 52, f 53], defers := [] } W
    clear hK hd hold
    simp only [ze3] at HK ⊢
    clear ze3
    have HK := Aside.mk HK
    have hh := hW.blk (H5.out.2.1) id; have q0 := cell_of_row W q3 0 _ _ _ hh; have q1 := cell_of_row W q3 1 _ _ _ hh; have q2 := cell_of_row W q3 2 _ _ _ hh; have q3' := cell_of_row W q3 3 _ _ _ hh; have q4 := cell_of_row W q3 4 _ _ _ hh; clear hh
    go_wp2
    exact HK.out _ _ (Chg.refl _) rfl
  · -- 44 := load 30 t5
    intro f W hW hold hd K hK
    have zg : f 42 = .bool true := hd 42 rfl rfl
    refine .inl ⟨wanted_of (g := 3) (t := 42) (by kernel_rfl) (by kernel_rfl) (of_decide_eq_true (by kernel_rfl)) zg, ?_⟩
    clear zg
    dsimp only [bare]
    have ze5 : f 5 = .pointer (some ⟨q5, 0, none⟩) := hold 5 rfl
    have HK : ∀ v W', Chg (fun _ => False) (fun _ => True) W W' → chgV (fun _ => False) (fun _ => True) _ 44 v W' → K { tmps := #[f 0, f 1, f 2, f 3, f 4, f 5, f 6, f 7, f 8, f 9, f 10, f 11, f 12, f 13, f 14, f 15, f 16, f 17, f 18, f 19, f 20, f 21, f 22, f 23, f 24, f 25, f 26, f 27, f 28, f 29, f 30, f 31, f 32, f 33, f 34, f 35, f 36, f 37, f 38, f 39, f 40, f 41, f 42, f 43, v, f 45, f 46, f 47, f 48, f 49, f 50, f 51, f 52, f 53], defers := [] } W' := hK
    change wpList _ #[_] _ [_] { tmps := #[f 0, f 1, f 2, f 3, f 4, f 5, f 6, f 7, f 8, f 9, f 10, f 11, f 12, f 13, f 14, f 15, f 16, f 17, f 18, f 19, f 20, f 21, f 22, f 23, f 24, f 25, f 26, f 27, f 28, f 29, f 30, f 31, f 32, f 33, f 34, f 35, f 36, f 37, f 38, f 39, f 40, f 41, f 42, f 43, f 44, f 45, f 46, f 47, f 48, f 49, f 50, f 51, f 52, f 53], defers := [] } W
    clear hK hd hold
    simp only [ze5] at HK ⊢
    clear ze5
    have HK := Aside.mk HK
    have hh := hW.blk (H5.out.2.2) id; have q0 := cell_of_row W q5 0 _ _ _ hh; have q1 := cell_of_row W q5 1 _ _ _ hh; have q2 := cell_of_row W q5 2 _ _ _ hh; have q3' := cell_of_row W q5 3 _ _ _ hh; have q4 := cell_of_row W q5 4 _ _ _ hh; clear hh
    go_wp2
    exact HK.out _ _ (Chg.refl _) rfl
  · -- 45 := binOp eql 30 t43 t44 30
    intro f W hW hold hd K hK
    have zg : f 42 = .bool true := hd 42 rfl rfl
    refine .inl ⟨wanted_of (g := 3) (t := 42) (by kernel_rfl) (by kernel_rfl) (of_decide_eq_true (by kernel_rfl)) zg, ?_⟩
    clear zg
    dsimp only [bare]
    have ze43 : f 43 = .agg #[.int .i64 jo, .int .i64 ha, .int .i64 ro, .int .i64 pa, .int .i64 si] := hd 43 rfl rfl
    have ze44 : f 44 = .agg #[.int .i64 jo, .int .i64 ha, .int .i64 ro, .int .i64 pa, .int .i64 si] := hd 44 rfl rfl
    have HK : ∀ v W', Chg (fun _ => False) (fun _ => True) W W' → chgV (fun _ => False) (fun _ => True) _ 45 v W' → K { tmps := #[f 0, f 1, f 2, f 3, f 4, f 5, f 6, f 7, f 8, f 9, f 10, f 11, f 12, f 13, f 14, f 15, f 16, f 17, f 18, f 19, f 20, f 21, f 22, f 23, f 24, f 25, f 26, f 27, f 28, f 29, f 30, f 31, f 32, f 33, f 34, f 35, f 36, f 37, f 38, f 39, f 40, f 41, f 42, f 43, f 44, v, f 46, f 47, f 48, f 49, f 50, f 51, f 52, f 53], defers := [] } W' := hK
    change wpList _ #[_] _ [_] { tmps := #[f 0, f 1, f 2, f 3, f 4, f 5, f 6, f 7, f 8, f 9, f 10, f 11, f 12, f 13, f 14, f 15, f 16, f 17, f 18, f 19, f 20, f 21, f 22, f 23, f 24, f 25, f 26, f 27, f 28, f 29, f 30, f 31, f 32, f 33, f 34, f 35, f 36, f 37, f 38, f 39, f 40, f 41, f 42, f 43, f 44, f 45, f 46, f 47, f 48, f 49, f 50, f 51, f 52, f 53], defers := [] } W
    clear hK hd hold
    simp only [ze43, ze44] at HK ⊢
    clear ze43 ze44
    have HK := Aside.mk HK
    go_wp2
    exact HK.out _ _ (Chg.refl _) rfl
  · -- 46 := pick t42 t45 <bool(false)>
    intro f W hW hold hd K hK
    refine .inl ⟨wanted_free rfl _, ?_⟩
    dsimp only [bare]
    have ze42 : f 42 = .bool true := hd 42 rfl rfl
    have ze45 : f 45 = .bool true := hd 45 rfl rfl
    have HK : ∀ v W', Chg (fun _ => False) (fun _ => True) W W' → chgV (fun _ => False) (fun _ => True) _ 46 v W' → K { tmps := #[f 0, f 1, f 2, f 3, f 4, f 5, f 6, f 7, f 8, f 9, f 10, f 11, f 12, f 13, f 14, f 15, f 16, f 17, f 18, f 19, f 20, f 21, f 22, f 23, f 24, f 25, f 26, f 27, f 28, f 29, f 30, f 31, f 32, f 33, f 34, f 35, f 36, f 37, f 38, f 39, f 40, f 41, f 42, f 43, f 44, f 45, v, f 47, f 48, f 49, f 50, f 51, f 52, f 53], defers := [] } W' := hK
    change wpList _ #[_] _ [_] { tmps := #[f 0, f 1, f 2, f 3, f 4, f 5, f 6, f 7, f 8, f 9, f 10, f 11, f 12, f 13, f 14, f 15, f 16, f 17, f 18, f 19, f 20, f 21, f 22, f 23, f 24, f 25, f 26, f 27, f 28, f 29, f 30, f 31, f 32, f 33, f 34, f 35, f 36, f 37, f 38, f 39, f 40, f 41, f 42, f 43, f 44, f 45, f 46, f 47, f 48, f 49, f 50, f 51, f 52, f 53], defers := [] } W
    clear hK hd hold
    simp only [ze42, ze45] at HK ⊢
    clear ze42 ze45
    have HK := Aside.mk HK
    go_wp2
    exact HK.out _ _ (Chg.refl _) rfl
  · -- 47 := move t46
    intro f W hW hold hd K hK
    refine .inl ⟨wanted_free rfl _, ?_⟩
    dsimp only [bare]
    have ze46 : f 46 = .bool true := hd 46 rfl rfl
    have HK : ∀ v W', Chg (fun _ => False) (fun _ => True) W W' → chgV (fun _ => False) (fun _ => True) _ 47 v W' → K { tmps := #[f 0, f 1, f 2, f 3, f 4, f 5, f 6, f 7, f 8, f 9, f 10, f 11, f 12, f 13, f 14, f 15, f 16, f 17, f 18, f 19, f 20, f 21, f 22, f 23, f 24, f 25, f 26, f 27, f 28, f 29, f 30, f 31, f 32, f 33, f 34, f 35, f 36, f 37, f 38, f 39, f 40, f 41, f 42, f 43, f 44, f 45, f 46, v, f 48, f 49, f 50, f 51, f 52, f 53], defers := [] } W' := hK
    change wpList _ #[_] _ [_] { tmps := #[f 0, f 1, f 2, f 3, f 4, f 5, f 6, f 7, f 8, f 9, f 10, f 11, f 12, f 13, f 14, f 15, f 16, f 17, f 18, f 19, f 20, f 21, f 22, f 23, f 24, f 25, f 26, f 27, f 28, f 29, f 30, f 31, f 32, f 33, f 34, f 35, f 36, f 37, f 38, f 39, f 40, f 41, f 42, f 43, f 44, f 45, f 46, f 47, f 48, f 49, f 50, f 51, f 52, f 53], defers := [] } W
    clear hK hd hold
    simp only [ze46] at HK ⊢
    clear ze46
    have HK := Aside.mk HK
    go_wp2
    exact HK.out _ _ (Chg.refl _) rfl
  · -- 48 := load 25 t3
    intro f W hW hold hd K hK
    have zg : f 47 = .bool true := hd 47 rfl rfl
    refine .inl ⟨wanted_of (g := 8) (t := 47) (by kernel_rfl) (by kernel_rfl) (of_decide_eq_true (by kernel_rfl)) zg, ?_⟩
    clear zg
    dsimp only [bare]
    have ze3 : f 3 = .pointer (some ⟨q3, 0, none⟩) := hold 3 rfl
    have HK : ∀ v W', Chg (fun _ => False) (fun _ => True) W W' → chgV (fun _ => False) (fun _ => True) _ 48 v W' → K { tmps := #[f 0, f 1, f 2, f 3, f 4, f 5, f 6, f 7, f 8, f 9, f 10, f 11, f 12, f 13, f 14, f 15, f 16, f 17, f 18, f 19, f 20, f 21, f 22, f 23, f 24, f 25, f 26, f 27, f 28, f 29, f 30, f 31, f 32, f 33, f 34, f 35, f 36, f 37, f 38, f 39, f 40, f 41, f 42, f 43, f 44, f 45, f 46, f 47, v, f 49, f 50, f 51, f 52, f 53], defers := [] } W' := hK
    change wpList _ #[_] _ [_] { tmps := #[f 0, f 1, f 2, f 3, f 4, f 5, f 6, f 7, f 8, f 9, f 10, f 11, f 12, f 13, f 14, f 15, f 16, f 17, f 18, f 19, f 20, f 21, f 22, f 23, f 24, f 25, f 26, f 27, f 28, f 29, f 30, f 31, f 32, f 33, f 34, f 35, f 36, f 37, f 38, f 39, f 40, f 41, f 42, f 43, f 44, f 45, f 46, f 47, f 48, f 49, f 50, f 51, f 52, f 53], defers := [] } W
    clear hK hd hold
    simp only [ze3] at HK ⊢
    clear ze3
    have HK := Aside.mk HK
    have hh := hW.blk (H5.out.2.1) id; have q0 := cell_of_row W q3 0 _ _ _ hh; have q1 := cell_of_row W q3 1 _ _ _ hh; have q2 := cell_of_row W q3 2 _ _ _ hh; have q3' := cell_of_row W q3 3 _ _ _ hh; have q4 := cell_of_row W q3 4 _ _ _ hh; clear hh
    go_wp2
    exact HK.out _ _ (Chg.refl _) rfl
  · -- 49 := CALL f8 (chert/space.Plan).Capacity [t48] : [25]
    intro f W hW hold hd K hK
    have zg : f 47 = .bool true := hd 47 rfl rfl
    refine .inl ⟨wanted_of (g := 8) (t := 47) (by kernel_rfl) (by kernel_rfl) (of_decide_eq_true (by kernel_rfl)) zg, ?_⟩
    clear zg
    dsimp only [bare]
    have ze48 : f 48 = .agg #[.int .i64 jo, .int .i64 ha, .int .i64 ro, .int .i64 pa, .int .i64 si] := hd 48 rfl rfl
    have HK : ∀ v W', Chg (fun _ => False) (fun _ => True) W W' → chgV (fun _ => False) (fun _ => True) _ 49 v W' → K { tmps := #[f 0, f 1, f 2, f 3, f 4, f 5, f 6, f 7, f 8, f 9, f 10, f 11, f 12, f 13, f 14, f 15, f 16, f 17, f 18, f 19, f 20, f 21, f 22, f 23, f 24, f 25, f 26, f 27, f 28, f 29, f 30, f 31, f 32, f 33, f 34, f 35, f 36, f 37, f 38, f 39, f 40, f 41, f 42, f 43, f 44, f 45, f 46, f 47, f 48, v, f 50, f 51, f 52, f 53], defers := [] } W' := hK
    change wpList _ #[_] _ [_] { tmps := #[f 0, f 1, f 2, f 3, f 4, f 5, f 6, f 7, f 8, f 9, f 10, f 11, f 12, f 13, f 14, f 15, f 16, f 17, f 18, f 19, f 20, f 21, f 22, f 23, f 24, f 25, f 26, f 27, f 28, f 29, f 30, f 31, f 32, f 33, f 34, f 35, f 36, f 37, f 38, f 39, f 40, f 41, f 42, f 43, f 44, f 45, f 46, f 47, f 48, f 49, f 50, f 51, f 52, f 53], defers := [] } W
    clear hK hd hold
    simp only [ze48] at HK ⊢
    clear ze48
    have HK := Aside.mk HK
    go_wp2_with (go_at_call 8; refine (HCS.out W).mono ?_; rintro e' w6 ⟨n, rfl, hn, hb6⟩)
    exact HK.out _ _ (Chg.of_below hb6 id) ⟨_, ⟨n, rfl, hn⟩, Chg.refl _⟩
  · -- 50 := load 30 t5
    intro f W hW hold hd K hK
    have zg : f 47 = .bool true := hd 47 rfl rfl
    refine .inl ⟨wanted_of (g := 8) (t := 47) (by kernel_rfl) (by kernel_rfl) (of_decide_eq_true (by kernel_rfl)) zg, ?_⟩
    clear zg
    dsimp only [bare]
    have ze5 : f 5 = .pointer (some ⟨q5, 0, none⟩) := hold 5 rfl
    have HK : ∀ v W', Chg (fun _ => False) (fun _ => True) W W' → chgV (fun _ => False) (fun _ => True) _ 50 v W' → K { tmps := #[f 0, f 1, f 2, f 3, f 4, f 5, f 6, f 7, f 8, f 9, f 10, f 11, f 12, f 13, f 14, f 15, f 16, f 17, f 18, f 19, f 20, f 21, f 22, f 23, f 24, f 25, f 26, f 27, f 28, f 29, f 30, f 31, f 32, f 33, f 34, f 35, f 36, f 37, f 38, f 39, f 40, f 41, f 42, f 43, f 44, f 45, f 46, f 47, f 48, f 49, v, f 51, f 52, f 53], defers := [] } W' := hK
    change wpList _ #[_] _ [_] { tmps := #[f 0, f 1, f 2, f 3, f 4, f 5, f 6, f 7, f 8, f 9, f 10, f 11, f 12, f 13, f 14, f 15, f 16, f 17, f 18, f 19, f 20, f 21, f 22, f 23, f 24, f 25, f 26, f 27, f 28, f 29, f 30, f 31, f 32, f 33, f 34, f 35, f 36, f 37, f 38, f 39, f 40, f 41, f 42, f 43, f 44, f 45, f 46, f 47, f 48, f 49, f 50, f 51, f 52, f 53], defers := [] } W
    clear hK hd hold
    simp only [ze5] at HK ⊢
    clear ze5
    have HK := Aside.mk HK
    have hh := hW.blk (H5.out.2.2) id; have q0 := cell_of_row W q5 0 _ _ _ hh; have q1 := cell_of_row W q5 1 _ _ _ hh; have q2 := cell_of_row W q5 2 _ _ _ hh; have q3' := cell_of_row W q5 3 _ _ _ hh; have q4 := cell_of_row W q5 4 _ _ _ hh; clear hh
    go_wp2
    exact HK.out _ _ (Chg.refl _) rfl
  · -- 51 := CALL f9 chert/chertref17.Capacity [t50] : [30]
    intro f W hW hold hd K hK
    have zg : f 47 = .bool true := hd 47 rfl rfl
    refine .inl ⟨wanted_of (g := 8) (t := 47) (by kernel_rfl) (by kernel_rfl) (of_decide_eq_true (by kernel_rfl)) zg, ?_⟩
    clear zg
    dsimp only [bare]
    have ze50 : f 50 = .agg #[.int .i64 jo, .int .i64 ha, .int .i64 ro, .int .i64 pa, .int .i64 si] := hd 50 rfl rfl
    have HK : ∀ v W', Chg (fun _ => False) (fun _ => True) W W' → chgV (fun _ => False) (fun _ => True) _ 51 v W' → K { tmps := #[f 0, f 1, f 2, f 3, f 4, f 5, f 6, f 7, f 8, f 9, f 10, f 11, f 12, f 13, f 14, f 15, f 16, f 17, f 18, f 19, f 20, f 21, f 22, f 23, f 24, f 25, f 26, f 27, f 28, f 29, f 30, f 31, f 32, f 33, f 34, f 35, f 36, f 37, f 38, f 39, f 40, f 41, f 42, f 43, f 44, f 45, f 46, f 47, f 48, f 49, f 50, v, f 52, f 53], defers := [] } W' := hK
    change wpList _ #[_] _ [_] { tmps := #[f 0, f 1, f 2, f 3, f 4, f 5, f 6, f 7, f 8, f 9, f 10, f 11, f 12, f 13, f 14, f 15, f 16, f 17, f 18, f 19, f 20, f 21, f 22, f 23, f 24, f 25, f 26, f 27, f 28, f 29, f 30, f 31, f 32, f 33, f 34, f 35, f 36, f 37, f 38, f 39, f 40, f 41, f 42, f 43, f 44, f 45, f 46, f 47, f 48, f 49, f 50, f 51, f 52, f 53], defers := [] } W
    clear hK hd hold
    simp only [ze50] at HK ⊢
    clear ze50
    have HK := Aside.mk HK
    go_wp2_with (go_at_call 9; refine (HCR.out W).mono ?_; rintro e' w6 ⟨n, rfl, hn, hb6⟩)
    exact HK.out _ _ (Chg.of_below hb6 id) ⟨_, ⟨n, rfl, hn⟩, Chg.refl _⟩
  · -- 52 := binOp eql 3 t49 t51 3
    intro f W hW hold hd K hK
    have zg : f 47 = .bool true := hd 47 rfl rfl
    refine .inl ⟨wanted_of (g := 8) (t := 47) (by kernel_rfl) (by kernel_rfl) (of_decide_eq_true (by kernel_rfl)) zg, ?_⟩
    clear zg
    dsimp only [bare]
    obtain ⟨W49, p49, b49⟩ : ∃ W0, (CapV x) (f 49) W0 ∧ Chg (fun _ => False) (fun _ => True) W0 W := hd 49 rfl rfl
    obtain ⟨W51, p51, b51⟩ : ∃ W0, (CapV x) (f 51) W0 ∧ Chg (fun _ => False) (fun _ => True) W0 W := hd 51 rfl rfl
    have HK : ∀ v W', Chg (fun _ => False) (fun _ => True) W W' → chgV (fun _ => False) (fun _ => True) _ 52 v W' → K { tmps := #[f 0, f 1, f 2, f 3, f 4, f 5, f 6, f 7, f 8, f 9, f 10, f 11, f 12, f 13, f 14, f 15, f 16, f 17, f 18, f 19, f 20, f 21, f 22, f 23, f 24, f 25, f 26, f 27, f 28, f 29, f 30, f 31, f 32, f 33, f 34, f 35, f 36, f 37, f 38, f 39, f 40, f 41, f 42, f 43, f 44, f 45, f 46, f 47, f 48, f 49, f 50, f 51, v, f 53], defers := [] } W' := hK
    change wpList _ #[_] _ [_] { tmps := #[f 0, f 1, f 2, f 3, f 4, f 5, f 6, f 7, f 8, f 9, f 10, f 11, f 12, f 13, f 14, f 15, f 16, f 17, f 18, f 19, f 20, f 21, f 22, f 23, f 24, f 25, f 26, f 27, f 28, f 29, f 30, f 31, f 32, f 33, f 34, f 35, f 36, f 37, f 38, f 39, f 40, f 41, f 42, f 43, f 44, f 45, f 46, f 47, f 48, f 49, f 50, f 51, f 52, f 53], defers := [] } W
    clear hK hd hold
    have HK := Aside.mk HK
    obtain ⟨n, zn, hcn⟩ := p49
    obtain ⟨m, zm, hcm⟩ := p51
    have hnm := hcn.unique hcm
    subst hnm
    have HK' := HK.out
    clear HK
    simp only [zn, zm] at HK' ⊢
    have HK := Aside.mk HK'
    clear HK' zn zm hcn hcm b49 b51
    go_wp2
    exact HK.out _ _ (Chg.refl _) rfl
  · -- 53 := pick t47 t52 <bool(false)>
    intro f W hW hold hd K hK
    refine .inl ⟨wanted_free rfl _, ?_⟩
    dsimp only [bare]
    have ze47 : f 47 = .bool true := hd 47 rfl rfl
    have ze52 : f 52 = .bool true := hd 52 rfl rfl
    have HK : ∀ v W', Chg (fun _ => False) (fun _ => True) W W' → chgV (fun _ => False) (fun _ => True) _ 53 v W' → K { tmps := #[f 0, f 1, f 2, f 3, f 4, f 5, f 6, f 7, f 8, f 9, f 10, f 11, f 12, f 13, f 14, f 15, f 16, f 17, f 18, f 19, f 20, f 21, f 22, f 23, f 24, f 25, f 26, f 27, f 28, f 29, f 30, f 31, f 32, f 33, f 34, f 35, f 36, f 37, f 38, f 39, f 40, f 41, f 42, f 43, f 44, f 45, f 46, f 47, f 48, f 49, f 50, f 51, f 52, v], defers := [] } W' := hK
    change wpList _ #[_] _ [_] { tmps := #[f 0, f 1, f 2, f 3, f 4, f 5, f 6, f 7, f 8, f 9, f 10, f 11, f 12, f 13, f 14, f 15, f 16, f 17, f 18, f 19, f 20, f 21, f 22, f 23, f 24, f 25, f 26, f 27, f 28, f 29, f 30, f 31, f 32, f 33, f 34, f 35, f 36, f 37, f 38, f 39, f 40, f 41, f 42, f 43, f 44, f 45, f 46, f 47, f 48, f 49, f 50, f 51, f 52, f 53], defers := [] } W
    clear hK hd hold
    simp only [ze47, ze52] at HK ⊢
    clear ze47 ze52
    have HK := Aside.mk HK
    go_wp2
    exact HK.out _ _ (Chg.refl _) rfl
  · -- 2 := assign t53
    intro f W hW hold hd K hK
    refine .inl ⟨wanted_free rfl _, ?_⟩
    dsimp only [bare]
    have ze53 : f 53 = .bool true := hd 53 rfl rfl
    have HK : ∀ v W', Chg (fun _ => False) (fun _ => True) W W' → chgV (fun _ => False) (fun _ => True) _ 2 v W' → K { tmps := #[f 0, f 1, v, f 3, f 4, f 5, f 6, f 7, f 8, f 9, f 10, f 11, f 12, f 13, f 14, f 15, f 16, f 17, f 18, f 19, f 20, f 21, f 22, f 23, f 24, f 25, f 26, f 27, f 28, f 29, f 30, f 31, f 32, f 33, f 34, f 35, f 36, f 37, f 38, f 39, f 40, f 41, f 42, f 43, f 44, f 45, f 46, f 47, f 48, f 49, f 50, f 51, f 52, f 53], defers := [] } W' := hK
    change wpList _ #[_] _ [_] { tmps := #[f 0, f 1, f 2, f 3, f 4, f 5, f 6, f 7, f 8, f 9, f 10, f 11, f 12, f 13, f 14, f 15, f 16, f 17, f 18, f 19, f 20, f 21, f 22, f 23, f 24, f 25, f 26, f 27, f 28, f 29, f 30, f 31, f 32, f 33, f 34, f 35, f 36, f 37, f 38, f 39, f 40, f 41, f 42, f 43, f 44, f 45, f 46, f 47, f 48, f 49, f 50, f 51, f 52, f 53], defers := [] } W
    clear hK hd hold
    simp only [ze53] at HK ⊢
    clear ze53
    have HK := Aside.mk HK
    go_wp2
    exact HK.out _ _ (Chg.refl _) rfl
  · intro f W hW hold hd aAct hAct
    replace hAct := hAct.trans (rel_puts hold)
    have ze2 : f 2 = .bool true := hd 2 rfl
    have ze39 : f 39 = .bool ok := hd 39 rfl
    have ze40 : f 40 = .bool ok := hd 40 rfl
    have ze41 : f 41 = .bool true := hd 41 rfl
    have ze42 : f 42 = .bool true := hd 42 rfl
    have ze43 : f 43 = .agg #[.int .i64 jo, .int .i64 ha, .int .i64 ro, .int .i64 pa, .int .i64 si] := hd 43 rfl
    have ze44 : f 44 = .agg #[.int .i64 jo, .int .i64 ha, .int .i64 ro, .int .i64 pa, .int .i64 si] := hd 44 rfl
    have ze45 : f 45 = .bool true := hd 45 rfl
    have ze46 : f 46 = .bool true := hd 46 rfl
    have ze47 : f 47 = .bool true := hd 47 rfl
    have ze48 : f 48 = .agg #[.int .i64 jo, .int .i64 ha, .int .i64 ro, .int .i64 pa, .int .i64 si] := hd 48 rfl
    obtain ⟨W49, p49, b49⟩ : ∃ W0, (CapV x) (f 49) W0 ∧ Chg (fun _ => False) (fun _ => True) W0 W := hd 49 rfl
    have ze50 : f 50 = .agg #[.int .i64 jo, .int .i64 ha, .int .i64 ro, .int .i64 pa, .int .i64 si] := hd 50 rfl
    obtain ⟨W51, p51, b51⟩ : ∃ W0, (CapV x) (f 51) W0 ∧ Chg (fun _ => False) (fun _ => True) W0 W := hd 51 rfl
    have ze52 : f 52 = .bool true := hd 52 rfl
    have ze53 : f 53 = .bool true := hd 53 rfl
    simp only [List.take_succ_cons, List.take_zero, putAll, List.foldl_cons, List.foldl_nil, Option.getD_some] at hAct
    simp only [ze2, ze39, ze40, ze41, ze42, ze43, ze44, ze45, ze46, ze47, ze48, ze50, ze52, ze53] at hAct
    subst hAct
    simp only [List.drop_succ_cons, List.drop_nil, Act.put, List.setIfInBounds_toArray, List.set_cons_zero, List.set_cons_succ]
    clear hold hd ze2 ze39 ze40 ze41 ze42 ze43 ze44 ze45 ze46 ze47 ze48 ze50 ze52 ze53
    have hbf : Below w.heap.size w W := ⟨hW.os.trans H5.out.1.os, hW.tape.trans H5.out.1.tape, hW.output.trans H5.out.1.output, Nat.le_trans H5.out.1.size hW.size, fun q hq => (hW.block q (Nat.lt_of_lt_of_le hq H5.out.1.size) id).trans (H5.out.1.block q hq)⟩
    have HBF := Aside.mk hbf
    clear hbf hW p49 p51 b49 b51
    go_wp2
    go_ret
    exact ⟨rfl, HBF.out⟩
end Go.Proofs.Ytffdpmejilmnnaa
namespace Go.Proofs.Ytffdpmejilmnnaa
open Go.RowKit

set_option maxHeartbeats 400000 in
theorem need_one (k : Int) (w : World) (h1 : 1 ≤ k) (h2 : k ≤ 64) :
    Calls Try.prog 26 #[.int .i64 k] w fun e w' => e = .returned (.bool false) ∧ w = w' := by
  have g1 : ¬ k < 1 := by omega
  have g2 : ¬ 64 < k := by omega
  go_enter Try.func26, Try.ntmps26
  go_wp2
  go_ret
  exact ⟨rfl, rfl⟩
abbrev needV : Value := .func (.func 26) #[] #[]
set_option maxHeartbeats 800000 in
theorem index_need (A : Option Addr) (n c : Nat) (f : Nat → Int) (w : World) (hn : n ≤ 10000000000000) (hc : n ≤ c) (hcm : c ≤ 9223372036854775807) (hR : Rd w A n (fun i => .int .i64 (f i))) (hg : ∀ i, i < n → 1 ≤ f i ∧ f i ≤ 64) :
    Calls Try.prog 34 #[.slice A n c, needV] w fun e w' => e = .returned (.int .i64 (-1)) ∧ Below w.heap.size w w' := by
  have HR := Aside.mk hR
  clear hR
  go_enter Try.func34, Try.ntmps34
  go_wp2
  go_loopw [5, 8] (fun _ s8 wr => ∃ k : Nat, k ≤ n ∧ s8 = .int .i64 k ∧ Aside (Below w.heap.size w wr)) (fun _ s8 _ => n - (intOf s8).toNat)
  case atStart => exact ⟨0, Nat.zero_le _, rfl, ⟨Below.refl _ _⟩⟩
  case round =>
    obtain ⟨k, hk, rfl, HB⟩ := hrel
    by_cases hlt : k < n
    · obtain ⟨g, off, rfl, hcell⟩ := HR.out.cells hlt
      have c0 := hcell w.heap.size wr (Nat.le_refl _) HB.out
      have hk1 : IntKind.i64.wrap ((k : Int) + 1) = (k : Int) + 1 := by rw [IntKind.wrap_i64]; omega
      have HG := Aside.mk (hg k hlt)
      clear hcell
      generalize f k = x at *
      have HC : Aside (∀ W : World, Calls Try.prog 26 #[.int .i64 x] W fun e w' => e = .returned (.bool false) ∧ Below W.heap.size W w') := ⟨fun W => by
        refine (need_one x W HG.out.1 HG.out.2).mono ?_
        rintro e w' ⟨he, rfl⟩
        exact ⟨he, Below.refl _ _⟩⟩
      go_wp2_with (go_at_call 26; refine (HC.out _).mono ?_; rintro e w' ⟨rfl, hb2⟩)
      go_roundw
      case rel => exact ⟨k + 1, by omega, by go_num, ⟨HB.out.trans (hb2.mono HB.out.size)⟩⟩
      case measure => simp [intOf]; omega
    · obtain rfl : n = k := by omega
      go_wp2
      go_ret
      exact ⟨rfl, HB.out⟩
set_option maxHeartbeats 800000 in
theorem contains_need (A : Option Addr) (n c : Nat) (f : Nat → Int) (w : World) (hn : n ≤ 10000000000000) (hc : n ≤ c) (hcm : c ≤ 9223372036854775807) (hR : Rd w A n (fun i => .int .i64 (f i))) (hg : ∀ i, i < n → 1 ≤ f i ∧ f i ≤ 64) :
    Calls Try.prog 25 #[.slice A n c, needV] w fun e w' => e = .returned (.bool false) ∧ Below w.heap.size w w' := by
  have HI := Aside.mk (index_need A n c f w hn hc hcm hR hg)
  clear hR hg hn hc hcm
  go_enter Try.func25, Try.ntmps25
  go_wp2_with (go_at_call 34; refine HI.out.mono ?_; rintro e w' ⟨rfl, hb⟩)
  go_ret
  exact ⟨rfl, hb⟩
set_option maxHeartbeats 400000 in
theorem pack_new (n : Int) (w : World) :
    Calls Try.prog 35 #[.int .i64 n] w fun e w' => e = .returned (.pointer (some ⟨w.heap.size, 0, none⟩)) ∧ w'.cell? ⟨w.heap.size, 0, none⟩ = some (.int .i64 (min (max n 1) 2048)) ∧ Below w.heap.size w w' := by
  go_enter Try.func35, Try.ntmps35
  go_wp2
  all_goals
    go_ret
    refine ⟨rfl, ?_, (Below.refl _ _).alloc (Nat.le_refl _) _⟩
    rw [cell_of_row _ _ _ _ _ _ (heap_alloc_new w _)]
    simp
/-- How many pages so many lengths take, and how much room is left in the last one. -/
def pgs (z : Int) (f : Nat → Int) : Nat → Int × Int
  | 0 => (0, 0)
  | k + 1 => if (pgs z f k).2 < f k then ((pgs z f k).1 + 1, z - f k) else ((pgs z f k).1, (pgs z f k).2 - f k)
theorem pgs_more {z : Int} {f : Nat → Int} {k : Nat} (h : (pgs z f k).2 < f k) : pgs z f (k + 1) = ((pgs z f k).1 + 1, z - f k) := by rw [pgs, if_pos h]
theorem pgs_fits {z : Int} {f : Nat → Int} {k : Nat} (h : ¬ (pgs z f k).2 < f k) : pgs z f (k + 1) = ((pgs z f k).1, (pgs z f k).2 - f k) := by rw [pgs, if_neg h]
abbrev GoodTo (z : Int) (f : Nat → Int) (k : Nat) : Prop := ∀ i, i < k → 1 ≤ f i ∧ f i ≤ z
theorem pgs_bounds {z : Int} {f : Nat → Int} : ∀ k, GoodTo z f k → 0 ≤ z → 0 ≤ (pgs z f k).1 ∧ (pgs z f k).1 ≤ k ∧ 0 ≤ (pgs z f k).2 ∧ (pgs z f k).2 ≤ z
  | 0, _, hz => by simp only [pgs]; omega
  | k + 1, h, hz => by
    have ih := pgs_bounds k (fun i hi => h i (by omega)) hz
    have hk := h k (by omega)
    by_cases hc : (pgs z f k).2 < f k
    · rw [pgs_more hc]; simp only []; omega
    · rw [pgs_fits hc]; simp only []; omega
/-- What Pages answers. -/
def PagesAns (z : Int) (f : Nat → Int) (len : Nat) (p : Int) (b : Bool) : Prop := b = true ∧ p = (pgs z f len).1 ∧ GoodTo z f len ∨ b = false ∧ p = 0 ∧ ¬ GoodTo z f len
def PagesEnd (z : Int) (f : Nat → Int) (len : Nat) (e : Ending) : Prop := ∃ p b, PagesAns z f len p b ∧ e = .returned (.tuple #[.int .i64 p, .bool b])

set_option maxHeartbeats 2000000 in
theorem pack_pages (n : Int) (A : Option Addr) (len cap : Nat) (f : Nat → Int) (w : World) (hlen : len ≤ 17592186043904) (hR : Rd w A len (fun i => .int .i64 (f i))) (hcap : len ≤ cap) (hcm : cap ≤ 9223372036854775807) :
    Calls Try.prog 27 #[.int .i64 n, .slice A len cap] w fun e w' => PagesEnd (min (max n 1) 2048) f len e ∧ Below w.heap.size w w' := by
  have HR := Aside.mk hR
  clear hR
  go_enter Try.func27, Try.ntmps27
  go_upto_region 2 with (go_at_call 35; refine (pack_new _ _).mono ?_; rintro e w2 ⟨rfl, c0, hb2⟩)
  obtain ⟨z, hz⟩ : ∃ z, z = min (max n 1) 2048 := ⟨_, rfl⟩
  have hz1 : 1 ≤ z := by omega
  have hz2 : z ≤ 2048 := by omega
  simp only [← hz]
  have HZ := Aside.mk hz
  clear hz c0
  go_wp2_with fail
  go_loopw [6, 7, 17] (fun s6 s7 s17 wr => ∃ k : Nat, k ≤ len ∧ GoodTo z f k ∧ s6 = .int .i64 (pgs z f k).1 ∧ s7 = .int .i64 (pgs z f k).2 ∧ s17 = .int .i64 k ∧ w2 = wr) (fun _ _ s17 _ => len - (intOf s17).toNat)
  case atStart => exact ⟨0, by omega, fun i hi => by omega, rfl, rfl, rfl, rfl⟩
  case round =>
    obtain ⟨k, hkl, hg, rfl, rfl, rfl, rfl⟩ := hrel
    have hbd := pgs_bounds k hg (by omega)
    have HG := Aside.mk hg
    clear hg
    by_cases hlt : k < len
    · obtain ⟨b, off, rfl, hbl, hcell⟩ := HR.out k hlt
      have hcell : w.cell? ⟨b, off + k, none⟩ = some (.int .i64 (f k)) := hcell
      have hcr : w2.cell? ⟨b, off + k, none⟩ = some (.int .i64 (f k)) := (hb2.cell (p := ⟨b, off + k, none⟩) hbl).trans hcell
      clear hcell
      have hk1 : IntKind.i64.wrap ((k : Int) + 1) = (k : Int) + 1 := by rw [IntKind.wrap_i64]; omega
      have hmore := fun hc => pgs_more (z := z) (f := f) (k := k) hc
      have hfits := fun hc => pgs_fits (z := z) (f := f) (k := k) hc
      have HM := Aside.mk hmore
      have HF := Aside.mk hfits
      clear hmore hfits
      generalize hpq : (pgs z f k).1 = pq at *
      generalize hlq : (pgs z f k).2 = lq at *
      generalize hfk : f k = fk at *
      have HK := Aside.mk hfk
      clear hfk hpq hlq
      by_cases hgk : 1 ≤ fk ∧ fk ≤ z
      · have hg' : GoodTo z f (k + 1) := fun i hi => by
          by_cases h : i = k
          · rw [h, HK.out]; exact hgk
          · exact HG.out i (by omega)
        have HG' := Aside.mk hg'
        clear hg'
        have ha1 : ¬ fk < 1 := by omega
        have ha2 : ¬ z < fk := by omega
        by_cases hlf : lq < fk
        · have hw1 : IntKind.i64.wrap (pq + 1) = pq + 1 := by rw [IntKind.wrap_i64]; omega
          have hw2 : IntKind.i64.wrap (z - fk) = z - fk := by rw [IntKind.wrap_i64]; omega
          go_wp2_with fail
          go_roundw
          case rel => exact ⟨k + 1, by omega, HG'.out, by rw [HM.out hlf], by rw [HM.out hlf], by go_num, trivial⟩
          case measure => simp [intOf]; omega
        · have hw2 : IntKind.i64.wrap (lq - fk) = lq - fk := by rw [IntKind.wrap_i64]; omega
          go_wp2_with fail
          go_roundw
          case rel => exact ⟨k + 1, by omega, HG'.out, by rw [HF.out hlf], by rw [HF.out hlf], by go_num, trivial⟩
          case measure => simp [intOf]; omega
      · have hno : ¬ GoodTo z f len := fun h => hgk (by rw [← HK.out]; exact h k hlt)
        have HN := Aside.mk hno
        clear hno
        have hcas : fk < 1 ∨ (¬ fk < 1 ∧ z < fk) := by omega
        clear hgk
        rcases hcas with hc | ⟨hc, hd⟩
        all_goals
          go_wp2_with fail
          go_ret2
          exact ⟨⟨0, false, .inr ⟨rfl, rfl, HZ.out ▸ HN.out⟩, rfl⟩, hb2⟩
    · obtain rfl : k = len := by omega
      go_wp2_with fail
      go_ret2
      exact ⟨⟨_, true, .inl ⟨rfl, by rw [← HZ.out], HZ.out ▸ HG.out⟩, rfl⟩, hb2⟩


end Go.Proofs.Ytffdpmejilmnnaa
namespace Go.Proofs.Ytffdpmejilmnnaa
open Go.RowKit

/-- While an index's level is made: k keys read, n1 pages, so much left in the last one, so many keys in it. -/
def LvR (z : Int) (k n1 : Nat) (left : Int) (count : Int) : Prop := (k = 0 ∧ n1 = 0 ∧ left = 0 ∧ count = 255) ∨ (1 ≤ n1 ∧ 1 ≤ count ∧ count ≤ 255 ∧ 0 ≤ left ∧ left ≤ z - 2 ∧ 3 * ((n1 : Int) - 1) + count ≤ k ∧ (count < 3 → (3 - count) * 78 ≤ left))
theorem LvR.more {z : Int} {k n1 : Nat} {left count s : Int} (h : LvR z k n1 left count) (hz : 249 ≤ z) (h1 : 1 ≤ s) (h2 : s ≤ 78) (hc : count = 255 ∨ left < s) : LvR z (k + 1) (n1 + 1) (z - 2 - s) 1 := by
  rcases h with ⟨rfl, rfl, rfl, rfl⟩ | ⟨h3, h4, h5, h6, h7, h8, h9⟩
  · exact .inr ⟨by omega, by omega, by omega, by omega, by omega, by omega, fun _ => by omega⟩
  · exact .inr ⟨by omega, by omega, by omega, by omega, by omega, by omega, fun _ => by omega⟩
theorem LvR.fits {z : Int} {k n1 : Nat} {left count s : Int} (h : LvR z k n1 left count) (h1 : 1 ≤ s) (h2 : s ≤ 78) (hc : ¬ count = 255) (hd : ¬ left < s) : LvR z (k + 1) n1 (left - s) (count + 1) := by
  rcases h with ⟨rfl, rfl, rfl, rfl⟩ | ⟨h3, h4, h5, h6, h7, h8, h9⟩
  · omega
  · exact .inr ⟨by omega, by omega, by omega, by omega, by omega, by omega, fun _ => by omega⟩
theorem LvR.bounds {z : Int} {k n1 : Nat} {left count : Int} (h : LvR z k n1 left count) : n1 ≤ k ∧ 0 ≤ count ∧ count ≤ 255 ∧ 0 ≤ left ∧ (left ≤ z ∨ left = 0) ∧ (n1 = 0 ∨ 3 * n1 ≤ k + 2) := by
  rcases h with ⟨rfl, rfl, rfl, rfl⟩ | ⟨h3, h4, h5, h6, h7, h8, h9⟩ <;> omega
abbrev Good64 (l : List Int) : Prop := ∀ x ∈ l, 1 ≤ x ∧ x ≤ 64
theorem Good64.snoc {l : List Int} {x : Int} (h : Good64 l) (h1 : 1 ≤ x) (h2 : x ≤ 64) : Good64 (l ++ [x]) := by
  intro y hy
  rcases List.mem_append.1 hy with hy | hy
  · exact h y hy
  · rw [List.mem_singleton.1 hy]; exact ⟨h1, h2⟩
theorem Good64.at_ {l : List Int} (h : Good64 l) {i : Nat} (hi : i < l.length) : 1 ≤ l.getD i 0 ∧ l.getD i 0 ≤ 64 := by
  rw [List.getD_eq_getElem?_getD, List.getElem?_eq_getElem hi]
  exact h _ (List.getElem_mem hi)
theorem below_blk' {w w' : World} {g B : Nat} {o : Obj} (h : w.heap[g]? = some o) (hb : Below B w w') (hg : g + 1 ≤ B) : w'.heap[g]? = some o := (hb.block g (by omega)).trans h
set_option maxRecDepth 20000 in
set_option maxHeartbeats 4000000 in
theorem space_index (x : PlanT) (A : Option Addr) (N c : Nat) (l : List Int) (w : World) (hl : N = l.length) (hN : N ≤ 4096) (hc : N ≤ c) (hcm : c ≤ 9223372036854775807) (hb1 : 249 ≤ x.by_) (hb2 : x.by_ ≤ 2048) (hg : Good64 l) (hR : Rd w A N (fun i => .int .i64 (l.getD i 0))) :
    Calls Try.prog 28 #[x.v, .slice A N c] w fun e w' => (∃ q : Int, e = .returned (.int .i64 q) ∧ 0 ≤ q ∧ q ≤ N) ∧ Below w.heap.size w w' := by
  unfold PlanT.v
  generalize x.by_ = z at *
  have hb := (Below.refl w.heap.size w).alloc (Nat.le_refl _) (.cells #[.int .i64 x.jo, .int .i64 x.ha, .int .i64 x.ro, .int .i64 z, .int .i64 x.si] 25)
  have hk := heap_alloc_new w (.cells #[.int .i64 x.jo, .int .i64 x.ha, .int .i64 x.ro, .int .i64 z, .int .i64 x.si] 25)
  have hs : (w.alloc (.cells #[.int .i64 x.jo, .int .i64 x.ha, .int .i64 x.ro, .int .i64 z, .int .i64 x.si] 25)).heap.size = w.heap.size + 1 := by simp
  have hR1 := hR.below (Nat.le_refl _) hb
  have HG := Aside.mk hg
  have H0 := Aside.mk (And.intro hb (And.intro hk (And.intro hs hR1)))
  clear hb hk hs hR hg hR1
  go_enter Try.func28, Try.ntmps28
  go_upto_region 3 with fail
  generalize w.alloc (.cells #[.int .i64 x.jo, .int .i64 x.ha, .int .i64 x.ro, .int .i64 z, .int .i64 x.si] 25) = w1 at *
  go_loopw [1, 5, 6] (fun s1 s5 s6 wr => ∃ (A : Option Addr) (m c : Nat) (l : List Int) (all v : Int), s1 = .slice A m c ∧ s5 = .int .i64 all ∧ s6 = .int .i64 v ∧ m = l.length ∧ m ≤ c ∧ c ≤ 9223372036854775807 ∧ 2 ≤ v ∧ v ≤ 12 ∧ 0 ≤ all ∧ all + m ≤ N ∧ Aside (Good64 l ∧ Rd wr A m (fun i => .int .i64 (l.getD i 0)) ∧ Below w.heap.size w wr ∧ wr.heap[w.heap.size]? = some (.cells #[.int .i64 x.jo, .int .i64 x.ha, .int .i64 x.ro, .int .i64 z, .int .i64 x.si] 25 (0, 0)) ∧ w.heap.size + 1 ≤ wr.heap.size)) (fun s1 _ _ _ => match s1 with | .slice _ m _ => m | _ => 0)
  case atStart => exact ⟨A, N, c, l, 0, 12, rfl, rfl, rfl, hl, hc, hcm, by omega, by omega, by omega, by omega, ⟨HG.out, H0.out.2.2.2, H0.out.1, H0.out.2.1, by rw [H0.out.2.2.1]; omega⟩⟩
  case round =>
    clear HG H0 hl hc hcm
    obtain ⟨A, m, c, l, all, v, rfl, rfl, rfl, hl, hc, hcm, hv1, hv2, ha1, ha2, HI⟩ := hrel
    generalize wr = w0 at *
    go_wp2
    go_loopw [7, 8, 9, 11, 12, 15] (fun s7 s8 s9 _ _ s15 wx => ∃ (k n1 : Nat) (left count : Int) (fs : List Int), k ≤ m ∧ s15 = .int .i64 k ∧ s8 = .int .i64 left ∧ s9 = .int .i64 count ∧ LvR z k n1 left count ∧ n1 = fs.length ∧ Aside (Good64 fs ∧ Row wx w0.heap.size 3 1 s7 n1 (intsV fs) ∧ Below w0.heap.size w0 wx)) (fun _ _ _ _ _ s15 _ => m - (intOf s15).toNat)
    case atStart => exact ⟨0, 0, 0, 255, [], by omega, rfl, rfl, rfl, .inl ⟨rfl, rfl, rfl, rfl⟩, rfl, ⟨fun _ h => by simp at h, Row.nil _ _ _ _, Below.refl _ _⟩⟩
    case round =>
      obtain ⟨k, n1, left, count, fs, hkm, rfl, rfl, rfl, hlv, hn1, HJ⟩ := hrel
      by_cases hlt : k < m
      · obtain ⟨b, off, rfl, hcell⟩ := HI.out.2.1.cells hlt
        have cx := hcell w0.heap.size wr (Nat.le_refl _) HJ.out.2.2
        clear hcell
        have c3 := cell_of_row wr _ 3 _ _ _ (below_blk' HI.out.2.2.2.1 HJ.out.2.2 HI.out.2.2.2.2)
        simp only [List.getElem?_cons_zero, List.getElem?_cons_succ, List.getElem?_toArray] at c3
        obtain ⟨hy1, hy2⟩ := HI.out.1.at_ (i := k) (by omega)
        generalize l.getD k 0 = y at *
        have hk1 : IntKind.i64.wrap ((k : Int) + 1) = (k : Int) + 1 := by rw [IntKind.wrap_i64]; omega
        have e1 : IntKind.i64.wrap (2 + y) = 2 + y := by rw [IntKind.wrap_i64]; omega
        have e2 : IntKind.i64.wrap (2 + y + v) = 2 + y + v := by rw [IntKind.wrap_i64]; omega
        have e3 : IntKind.i64.wrap (z - 2) = z - 2 := by rw [IntKind.wrap_i64]; omega
        have e4 : IntKind.i64.wrap (z - 2 - (2 + y + v)) = z - 2 - (2 + y + v) := by rw [IntKind.wrap_i64]; omega
        have hbd := hlv.bounds
        have e5 : IntKind.i64.wrap (left - (2 + y + v)) = left - (2 + y + v) := by rw [IntKind.wrap_i64]; omega
        have e6 : IntKind.i64.wrap (count + 1) = count + 1 := by rw [IntKind.wrap_i64]; omega
        have e7 : IntKind.i64.wrap (0 + 1) = 1 := rfl
        have HF := Aside.mk (hlv.fits (s := 2 + y + v))
        have HM := Aside.mk (hlv.more (s := 2 + y + v))
        have HLV := Aside.mk (And.intro hlv hn1)
        clear hlv hn1
        by_cases hc5 : count = 255
        · subst hc5
          go_wp2_with (at_builtin; refine wpList_append_one (w0 := w0) w0.heap.size rfl _ _ 37 3 1 8 (.int .i64 0) rfl Try.underlying37 infoInt rfl (by decide) u7 n1 _ #[.int .i64 y] rfl rfl rfl HJ.out.2.1 (by simp [Value.oneCell']) HJ.out.2.2 HJ.out.2.2.size (by omega) (by simp only [maxLen]; omega) ?_; intro v1 w2 hr1 hb1 hg1 hat1; clear hg1 hat1; have d3 := cell_of_row w2 _ 3 _ _ _ (below_blk' HI.out.2.2.2.1 hb1 HI.out.2.2.2.2); simp only [List.getElem?_cons_zero, List.getElem?_cons_succ, List.getElem?_toArray] at d3; have HW := Aside.mk (And.intro hr1 hb1); clear hr1 hb1)
          go_roundw
          case rel => refine ⟨_, _, _, _, _, _, ?_, rfl, rfl, rfl, rfl, rfl, rfl⟩; exact ⟨k + 1, by omega, by go_num, n1 + 1, _, rfl, _, rfl, HM.out hb1 (by omega) (by omega) (.inl trivial), fs ++ [y], by simp [HLV.out.2], ⟨HJ.out.1.snoc hy1 hy2, by rw [intsV_append]; exact HW.out.1, HW.out.2⟩⟩
          case measure => simp [intOf]; omega
        · by_cases hlf : left < 2 + y + v
          · go_wp2_with (at_builtin; refine wpList_append_one (w0 := w0) w0.heap.size rfl _ _ 37 3 1 8 (.int .i64 0) rfl Try.underlying37 infoInt rfl (by decide) u7 n1 _ #[.int .i64 y] rfl rfl rfl HJ.out.2.1 (by simp [Value.oneCell']) HJ.out.2.2 HJ.out.2.2.size (by omega) (by simp only [maxLen]; omega) ?_; intro v1 w2 hr1 hb1 hg1 hat1; clear hg1 hat1; have d3 := cell_of_row w2 _ 3 _ _ _ (below_blk' HI.out.2.2.2.1 hb1 HI.out.2.2.2.2); simp only [List.getElem?_cons_zero, List.getElem?_cons_succ, List.getElem?_toArray] at d3; have HW := Aside.mk (And.intro hr1 hb1); clear hr1 hb1)
            go_roundw
            case rel => refine ⟨_, _, _, _, _, _, ?_, rfl, rfl, rfl, rfl, rfl, rfl⟩; exact ⟨k + 1, by omega, by go_num, n1 + 1, _, rfl, _, rfl, HM.out hb1 (by omega) (by omega) (.inr hlf), fs ++ [y], by simp [HLV.out.2], ⟨HJ.out.1.snoc hy1 hy2, by rw [intsV_append]; exact HW.out.1, HW.out.2⟩⟩
            case measure => simp [intOf]; omega
          · go_wp2_with fail
            go_roundw
            case rel =>
              refine ⟨_, _, _, _, _, _, ?_, rfl, rfl, rfl, rfl, rfl, rfl⟩; exact ⟨k + 1, by omega, by go_num, n1, _, rfl, _, rfl, HF.out (by omega) (by omega) hc5 hlf, fs, HLV.out.2, HJ⟩
            case measure => simp [intOf]; omega
      · obtain rfl : k = m := by omega
        have hbd := hlv.bounds
        obtain ⟨A7, c7, rfl, h71, h72, h73, h74⟩ := HJ.out.2.1.readInts
        have e1 : IntKind.i64.wrap (all + (n1 : Int)) = all + (n1 : Int) := by rw [IntKind.wrap_i64]; omega
        have HH := Aside.mk (And.intro h74 (And.intro hlv (And.intro hn1 h71)))
        clear h74 hlv hn1 h71
        by_cases hone : n1 ≤ 1
        · have ho : ((n1 : Int) ≤ 1) := by omega
          go_wp2_with fail
          go_ret
          exact ⟨⟨_, rfl, by omega, by omega⟩, HI.out.2.2.1.trans (HJ.out.2.2.mono (by have := HI.out.2.2.2.2; omega))⟩
        · have ho : ¬ ((n1 : Int) ≤ 1) := by omega
          go_wp2_with fail
          go_roundw
          case rel => exact ⟨A7, n1, c7, fs, all + n1, 2, rfl, by first | rfl | rw [e1], rfl, HH.out.2.2.1, h72, h73, by omega, by omega, by omega, by omega, ⟨HJ.out.1, HH.out.1, HI.out.2.2.1.trans (HJ.out.2.2.mono (by have := HI.out.2.2.2.2; omega)), below_blk' HI.out.2.2.2.1 HJ.out.2.2 HI.out.2.2.2.2, by have := HI.out.2.2.2.2; have := HJ.out.2.2.size; omega⟩⟩
          case measure => show n1 < k; omega
end Go.Proofs.Ytffdpmejilmnnaa
