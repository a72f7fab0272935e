/-
  The plan of every geometry, and how much surely fits.
-/
import Derived.Test.YtffdpmejilmnnaaMg12
namespace Go.Proofs.Ytffdpmejilmnnaa
open Go.RowKit

theorem plan_bounds {b p c ch t : Int} (h : ofP b p c ch t) : 1 ≤ (planOf b p c ch).ro ∧ (planOf b p c ch).ro ≤ 64 ∧ (planOf b p c ch).ha ≤ 64 := by
  obtain ⟨hg, h1, h2, h3⟩ := h
  have hdl := dLen_at p.toNat (by have := hg.2.2.2.1; omega) (by omega) (by have := hg.2.2.2.2.1; omega)
  have hb := hg.2.1
  have hp := hg.2.2.2.1
  simp only [planOf, dLen]
  omega
def CapR (x : PlanT) (n : Nat) : Prop := (x.ro < 1 ∧ n = 0) ∨ (1 ≤ x.ro ∧ IsCap x.ha x.ro n)
theorem CapR.unique {x : PlanT} {n m : Nat} (h : CapR x n) (h' : CapR x m) : n = m := by
  rcases h with ⟨h1, h2⟩ | ⟨h1, h2⟩ <;> rcases h' with ⟨h3, h4⟩ | ⟨h3, h4⟩
  · omega
  · omega
  · omega
  · exact h2.unique h4
def CapV (x : PlanT) (v : Value) (_ : World) : Prop := ∃ n : Nat, v = .int .i64 (n : Int) ∧ CapR x n
/-- A plan as Of answers it. -/
def OkPlan (x : PlanT) : Prop := x.ro < 1 ∨ (1 ≤ x.ro ∧ x.ro ≤ 64 ∧ x.ha ≤ 64)
theorem space_cap_any (x : PlanT) (w : World) (h : OkPlan x) :
    Calls Try.prog 8 #[x.v] w fun e w' => ∃ n : Nat, e = .returned (.int .i64 (n : Int)) ∧ CapR x n ∧ Below w.heap.size w w' := by
  rcases h with h | ⟨h1, h2, h3⟩
  · have hb := (Below.refl w.heap.size w).alloc (Nat.le_refl _) (.cells #[.int .i64 x.jo, .int .i64 x.ha, .int .i64 x.ro, .int .i64 x.by_, .int .i64 x.si] 25)
    have HB := Aside.mk hb
    have HX := Aside.mk h
    unfold PlanT.v
    generalize hro : x.ro = ro at *
    have HRO := Aside.mk hro
    clear hb hro
    go_enter Try.func8, Try.ntmps8
    go_wp2
    go_ret
    exact ⟨0, rfl, .inl ⟨by rw [HRO.out]; exact HX.out, rfl⟩, HB.out⟩
  · refine (space_cap x w h1 h2 h3).mono ?_
    rintro e w' ⟨n, rfl, hn, hb⟩
    exact ⟨n, rfl, .inr ⟨h1, hn⟩, hb⟩
theorem ref_cap_any (x : PlanT) (w : World) (h : OkPlan x) :
    Calls Try.prog 9 #[x.v] w fun e w' => ∃ n : Nat, e = .returned (.int .i64 (n : Int)) ∧ CapR x n ∧ Below w.heap.size w w' := by
  rcases h with h | ⟨h1, h2, h3⟩
  · have hb := (Below.refl w.heap.size w).alloc (Nat.le_refl _) (.cells #[.int .i64 x.jo, .int .i64 x.ha, .int .i64 x.ro, .int .i64 x.by_, .int .i64 x.si] 30)
    have HB := Aside.mk hb
    have HX := Aside.mk h
    unfold PlanT.v
    generalize hro : x.ro = ro at *
    have HRO := Aside.mk hro
    clear hb hro
    go_enter Try.func9, Try.ntmps9
    go_wp2
    go_ret
    exact ⟨0, rfl, .inl ⟨by rw [HRO.out]; exact HX.out, rfl⟩, HB.out⟩
  · refine (ref_cap x w h1 h2 h3).mono ?_
    rintro e w' ⟨n, rfl, hn, hb⟩
    exact ⟨n, rfl, .inr ⟨h1, hn⟩, hb⟩
theorem planG_ok (b p c ch t : Int) : OkPlan (planG b p c ch t) := by
  unfold planG
  by_cases h : ofP b p c ch t
  · rw [if_pos h]; exact .inr (plan_bounds h)
  · rw [if_neg h]; left; show (0 : Int) < 1; omega
theorem of_any (b p c ch t : Int) (w : World) :
    Calls Try.prog 6 #[geoV b p c ch t] w fun e w' => e = .returned (.tuple #[(planG b p c ch t).v, .bool (decide (ofP b p c ch t))]) ∧ Below w.heap.size w w' := by
  unfold planG
  by_cases h : ofP b p c ch t
  · rw [if_pos h, show decide (ofP b p c ch t) = true by simpa using h]
    exact space_of b p c ch t w h
  · rw [if_neg h, show decide (ofP b p c ch t) = false by simpa using h]
    exact space_of_not b p c ch t w h
theorem ref_any (b p c ch t : Int) (w : World) :
    Calls Try.prog 7 #[geoV b p c ch t] w fun e w' => e = .returned (.tuple #[(planG b p c ch t).v, .bool (decide (ofP b p c ch t))]) ∧ Below w.heap.size w w' := by
  unfold planG
  by_cases h : ofP b p c ch t
  · rw [if_pos h, show decide (ofP b p c ch t) = true by simpa using h]
    exact ref_plan b p c ch t w h
  · rw [if_neg h, show decide (ofP b p c ch t) = false by simpa using h]
    exact ref_plan_not b p c ch t w h
set_option maxHeartbeats 800000 in
theorem space_speaks (w : World) :
    Calls Try.prog 5 #[] w fun e w' => e = .returned (.bool true) ∧ Below w.heap.size w w' := by
  have ho : ofP 16 16 1 256 1 := by decide
  have h1 : (planOf 16 16 1 256).jo = 2 := by decide
  have h2 : (planOf 16 16 1 256).ha = 5 := by decide
  have h3 : (planOf 16 16 1 256).by_ = 249 := by decide
  have HO := Aside.mk (fun W => space_of 16 16 1 256 1 W ho)
  unfold PlanT.v at HO
  rw [h1, h2, h3] at HO
  generalize (planOf 16 16 1 256).ro = ro at *
  generalize (planOf 16 16 1 256).si = si at *
  clear h1 h2 h3 ho
  go_enter Try.func5, Try.ntmps5
  go_upto_region 2 with (go_at_call 6; refine (HO.out _).mono ?_; rintro e w1 ⟨rfl, hb1⟩)
  have hb := hb1.alloc hb1.size (.cells #[.int .i64 2, .int .i64 5, .int .i64 ro, .int .i64 249, .int .i64 si] 25)
  have HB := Aside.mk hb
  clear hb hb1
  go_wp2
  go_ret
  exact ⟨rfl, HB.out⟩
set_option maxRecDepth 20000 in
set_option maxHeartbeats 4000000 in
theorem spacePlans_walk (a b c d e : Int) (w : World) (_h : (Lit.int .i64 a).wf = true ∧ (Lit.int .i64 b).wf = true ∧ (Lit.int .i64 c).wf = true ∧ (Lit.int .i64 d).wf = true ∧ (Lit.int .i64 e).wf = true) :
    Calls Try.prog 3 #[.agg #[.int .i64 a, .int .i64 b, .int .i64 c, .int .i64 d, .int .i64 e]] w fun e w' => e = .returned (.bool true) ∧ Below w.heap.size w w' := by
  clear _h
  have hb := (Below.refl w.heap.size w).alloc (Nat.le_refl _) (.cells #[.int .i64 a, .int .i64 b, .int .i64 c, .int .i64 d, .int .i64 e] 22)
  have hk := heap_alloc_new w (.cells #[.int .i64 a, .int .i64 b, .int .i64 c, .int .i64 d, .int .i64 e] 22)
  have HO := Aside.mk (fun W => of_any a b c d e W)
  have HR := Aside.mk (fun W => ref_any a b c d e W)
  have HK := Aside.mk (planG_ok a b c d e)
  generalize planG a b c d e = x at *
  generalize decide (ofP a b c d e) = ok at *
  go_enter Try.func3, Try.ntmps3
  have HCS := Aside.mk (fun W => space_cap_any x W HK.out)
  have HCR := Aside.mk (fun W => ref_cap_any x W HK.out)
  unfold PlanT.v at HO HR HCS HCR
  have H0 := Aside.mk (And.intro hb hk)
  clear hb hk
  go_upto_region 3 with (go_at_call 5; refine (space_speaks _).mono ?_; rintro e' w1 ⟨rfl, hb1⟩)
  have hk1 := below_blk H0.out.2 hb1
  have h1 := H0.out.1.trans (hb1.mono H0.out.1.size)
  have H1 := Aside.mk (And.intro h1 hk1)
  have a0 := cell_of_row w1 _ 0 _ _ _ hk1
  have a1 := cell_of_row w1 _ 1 _ _ _ hk1
  have a2 := cell_of_row w1 _ 2 _ _ _ hk1
  have a3 := cell_of_row w1 _ 3 _ _ _ hk1
  have a4 := cell_of_row w1 _ 4 _ _ _ hk1
  simp only [List.getElem?_cons_zero, List.getElem?_cons_succ, List.getElem?_toArray] at a0 a1 a2 a3 a4
  clear hk1 h1 hb1 H0
  go_upto_region 4 with (go_at_call 6; refine (HO.out _).mono ?_; rintro e' w2 ⟨rfl, hb2⟩)
  clear a0 a1 a2 a3 a4
  have hb3 := hb2.alloc hb2.size (.cells #[.int .i64 x.jo, .int .i64 x.ha, .int .i64 x.ro, .int .i64 x.by_, .int .i64 x.si] 25)
  have hn3 := heap_alloc_new w2 (.cells #[.int .i64 x.jo, .int .i64 x.ha, .int .i64 x.ro, .int .i64 x.by_, .int .i64 x.si] 25)
  generalize w2.alloc (.cells #[.int .i64 x.jo, .int .i64 x.ha, .int .i64 x.ro, .int .i64 x.by_, .int .i64 x.si] 25) = w3 at *
  generalize w2.heap.size = q3 at *
  have hk3 := below_blk H1.out.2 hb3
  have H3 := Aside.mk (And.intro (H1.out.1.trans (hb3.mono H1.out.1.size)) (And.intro hk3 hn3))
  have a0 := cell_of_row w3 _ 0 _ _ _ hk3
  have a1 := cell_of_row w3 _ 1 _ _ _ hk3
  have a2 := cell_of_row w3 _ 2 _ _ _ hk3
  have a3 := cell_of_row w3 _ 3 _ _ _ hk3
  have a4 := cell_of_row w3 _ 4 _ _ _ hk3
  simp only [List.getElem?_cons_zero, List.getElem?_cons_succ, List.getElem?_toArray] at a0 a1 a2 a3 a4
  clear hk3 hb3 hn3 hb2 H1
  go_upto_region 5 with (go_at_call 7; refine (HR.out _).mono ?_; rintro e' w4 ⟨rfl, hb4⟩)
  clear a0 a1 a2 a3 a4
  have hb5 := hb4.alloc hb4.size (.cells #[.int .i64 x.jo, .int .i64 x.ha, .int .i64 x.ro, .int .i64 x.by_, .int .i64 x.si] 30)
  have hn5 := heap_alloc_new w4 (.cells #[.int .i64 x.jo, .int .i64 x.ha, .int .i64 x.ro, .int .i64 x.by_, .int .i64 x.si] 30)
  generalize w4.alloc (.cells #[.int .i64 x.jo, .int .i64 x.ha, .int .i64 x.ro, .int .i64 x.by_, .int .i64 x.si] 30) = w5 at *
  generalize w4.heap.size = q5 at *
  have H5 := Aside.mk (And.intro (H3.out.1.trans (hb5.mono H3.out.1.size)) (And.intro (below_blk H3.out.2.2 hb5) hn5))
  clear hb5 hn5 hb4 H3 HO HR
  generalize x.jo = jo at *
  generalize x.ha = ha at *
  generalize hro : x.ro = ro at *
  generalize x.by_ = pa at *
  generalize x.si = si at *
  refine wp_region_r 16 (by kernel_rfl) (by kernel_rfl) (rel_small (by kernel_rfl)) (chgV (fun _ => False) (fun _ => True) [(2, .val (.bool true)), (39, .val (.bool ok)), (40, .val (.bool ok)), (41, .val (.bool true)), (42, .val (.bool true)), (43, .val (.agg #[.int .i64 jo, .int .i64 ha, .int .i64 ro, .int .i64 pa, .int .i64 si])), (44, .val (.agg #[.int .i64 jo, .int .i64 ha, .int .i64 ro, .int .i64 pa, .int .i64 si])), (45, .val (.bool true)), (46, .val (.bool true)), (47, .val (.bool true)), (48, .val (.agg #[.int .i64 jo, .int .i64 ha, .int .i64 ro, .int .i64 pa, .int .i64 si])), (49, .that (CapV x)), (50, .val (.agg #[.int .i64 jo, .int .i64 ha, .int .i64 ro, .int .i64 pa, .int .i64 si])), (51, .that (CapV x)), (52, .val (.bool true)), (53, .val (.bool true))]) (Chg (fun _ => False) (fun _ => True)) (chg_drew _ _ _ (id)) Chg.refl (fun _ _ _ => Chg.trans) (chgV_stable _ _ _) ⟨?_, ?_, ?_, ?_, ?_, ?_, ?_, ?_, ?_, ?_, ?_, ?_, ?_, ?_, ?_, ?_, trivial⟩ ?_
  · -- 39 := move t4
    intro f W hW hold hd K hK
    refine .inl ⟨wanted_free rfl _, ?_⟩
    dsimp only [bare]
    have ze4 : f 4 = .bool ok := hold 4 rfl
    have HK : ∀ v W', Chg (fun _ => False) (fun _ => True) W W' → chgV (fun _ => False) (fun _ => True) _ 39 v W' → K { tmps := #[f 0, f 1, f 2, f 3, f 4, f 5, f 6, f 7, f 8, f 9, f 10, f 11, f 12, f 13, f 14, f 15, f 16, f 17, f 18, f 19, f 20, f 21, f 22, f 23, f 24, f 25, f 26, f 27, f 28, f 29, f 30, f 31, f 32, f 33, f 34, f 35, f 36, f 37, f 38, v, f 40, f 41, f 42, f 43, f 44, f 45, f 46, f 47, f 48, f 49, f 50, f 51, f 52, f 53], defers := [] } W' := hK
    change wpList _ #[_] _ [_] { tmps := #[f 0, f 1, f 2, f 3, f 4, f 5, f 6, f 7, f 8, f 9, f 10, f 11, f 12, f 13, f 14, f 15, f 16, f 17, f 18, f 19, f 20, f 21, f 22, f 23, f 24, f 25, f 26, f 27, f 28, f 29, f 30, f 31, f 32, f 33, f 34, f 35, f 36, f 37, f 38, f 39, f 40, f 41, f 42, f 43, f 44, f 45, f 46, f 47, f 48, f 49, f 50, f 51, f 52, f 53], defers := [] } W
    clear hK hd hold
    simp only [ze4] at HK ⊢
    clear ze4
    have HK := Aside.mk HK
    go_wp2
    exact HK.out _ _ (Chg.refl _) rfl
  · -- 40 := move t6
    intro f W hW hold hd K hK
    refine .inl ⟨wanted_free rfl _, ?_⟩
    dsimp only [bare]
    have ze6 : f 6 = .bool ok := hold 6 rfl
    have HK : ∀ v W', Chg (fun _ => False) (fun _ => True) W W' → chgV (fun _ => False) (fun _ => True) _ 40 v W' → K { tmps := #[f 0, f 1, f 2, f 3, f 4, f 5, f 6, f 7, f 8, f 9, f 10, f 11, f 12, f 13, f 14, f 15, f 16, f 17, f 18, f 19, f 20, f 21, f 22, f 23, f 24, f 25, f 26, f 27, f 28, f 29, f 30, f 31, f 32, f 33, f 34, f 35, f 36, f 37, f 38, f 39, v, f 41, f 42, f 43, f 44, f 45, f 46, f 47, f 48, f 49, f 50, f 51, f 52, f 53], defers := [] } W' := hK
    change wpList _ #[_] _ [_] { tmps := #[f 0, f 1, f 2, f 3, f 4, f 5, f 6, f 7, f 8, f 9, f 10, f 11, f 12, f 13, f 14, f 15, f 16, f 17, f 18, f 19, f 20, f 21, f 22, f 23, f 24, f 25, f 26, f 27, f 28, f 29, f 30, f 31, f 32, f 33, f 34, f 35, f 36, f 37, f 38, f 39, f 40, f 41, f 42, f 43, f 44, f 45, f 46, f 47, f 48, f 49, f 50, f 51, f 52, f 53], defers := [] } W
    clear hK hd hold
    simp only [ze6] at HK ⊢
    clear ze6
    have HK := Aside.mk HK
    go_wp2
    exact HK.out _ _ (Chg.refl _) rfl
  · -- 41 := binOp eql 4 t39 t40 4
    intro f W hW hold hd K hK
    refine .inl ⟨wanted_free rfl _, ?_⟩
    dsimp only [bare]
    have ze39 : f 39 = .bool ok := hd 39 rfl rfl
    have ze40 : f 40 = .bool ok := hd 40 rfl rfl
    have HK : ∀ v W', Chg (fun _ => False) (fun _ => True) W W' → chgV (fun _ => False) (fun _ => True) _ 41 v W' → K { tmps := #[f 0, f 1, f 2, f 3, f 4, f 5, f 6, f 7, f 8, f 9, f 10, f 11, f 12, f 13, f 14, f 15, f 16, f 17, f 18, f 19, f 20, f 21, f 22, f 23, f 24, f 25, f 26, f 27, f 28, f 29, f 30, f 31, f 32, f 33, f 34, f 35, f 36, f 37, f 38, f 39, f 40, v, f 42, f 43, f 44, f 45, f 46, f 47, f 48, f 49, f 50, f 51, f 52, f 53], defers := [] } W' := hK
    change wpList _ #[_] _ [_] { tmps := #[f 0, f 1, f 2, f 3, f 4, f 5, f 6, f 7, f 8, f 9, f 10, f 11, f 12, f 13, f 14, f 15, f 16, f 17, f 18, f 19, f 20, f 21, f 22, f 23, f 24, f 25, f 26, f 27, f 28, f 29, f 30, f 31, f 32, f 33, f 34, f 35, f 36, f 37, f 38, f 39, f 40, f 41, f 42, f 43, f 44, f 45, f 46, f 47, f 48, f 49, f 50, f 51, f 52, f 53], defers := [] } W
    clear hK hd hold
    simp only [ze39, ze40] at HK ⊢
    clear ze39 ze40
    have HK := Aside.mk HK
    go_wp2
    exact HK.out _ _ (Chg.refl _) rfl
  · -- 42 := move t41
    intro f W hW hold hd K hK
    refine .inl ⟨wanted_free rfl _, ?_⟩
    dsimp only [bare]
    have ze41 : f 41 = .bool true := hd 41 rfl rfl
    have HK : ∀ v W', Chg (fun _ => False) (fun _ => True) W W' → chgV (fun _ => False) (fun _ => True) _ 42 v W' → K { tmps := #[f 0, f 1, f 2, f 3, f 4, f 5, f 6, f 7, f 8, f 9, f 10, f 11, f 12, f 13, f 14, f 15, f 16, f 17, f 18, f 19, f 20, f 21, f 22, f 23, f 24, f 25, f 26, f 27, f 28, f 29, f 30, f 31, f 32, f 33, f 34, f 35, f 36, f 37, f 38, f 39, f 40, f 41, v, f 43, f 44, f 45, f 46, f 47, f 48, f 49, f 50, f 51, f 52, f 53], defers := [] } W' := hK
    change wpList _ #[_] _ [_] { tmps := #[f 0, f 1, f 2, f 3, f 4, f 5, f 6, f 7, f 8, f 9, f 10, f 11, f 12, f 13, f 14, f 15, f 16, f 17, f 18, f 19, f 20, f 21, f 22, f 23, f 24, f 25, f 26, f 27, f 28, f 29, f 30, f 31, f 32, f 33, f 34, f 35, f 36, f 37, f 38, f 39, f 40, f 41, f 42, f 43, f 44, f 45, f 46, f 47, f 48, f 49, f 50, f 51, f 52, f 53], defers := [] } W
    clear hK hd hold
    simp only [ze41] at HK ⊢
    clear ze41
    have HK := Aside.mk HK
    go_wp2
    exact HK.out _ _ (Chg.refl _) rfl
  · -- 43 := load 25 t3
    intro f W hW hold hd K hK
    have zg : f 42 = .bool true := hd 42 rfl rfl
    refine .inl ⟨wanted_of (g := 3) (t := 42) (by kernel_rfl) (by kernel_rfl) (of_decide_eq_true (by kernel_rfl)) zg, ?_⟩
    clear zg
    dsimp only [bare]
    have ze3 : f 3 = .pointer (some ⟨q3, 0, none⟩) := hold 3 rfl
    have HK : ∀ v W', Chg (fun _ => False) (fun _ => True) W W' → chgV (fun _ => False) (fun _ => True) _ 43 v W' → K { tmps := #[f 0, f 1, f 2, f 3, f 4, f 5, f 6, f 7, f 8, f 9, f 10, f 11, f 12, f 13, f 14, f 15, f 16, f 17, f 18, f 19, f 20, f 21, f 22, f 23, f 24, f 25, f 26, f 27, f 28, f 29, f 30, f 31, f 32, f 33, f 34, f 35, f 36, f 37, f 38, f 39, f 40, f 41, f 42, v, f 44, f 45, f 46, f 47, f 48, f 49, f 50, f 51, f 52, f 53], defers := [] } W' := hK
    change wpList _ #[_] _ [_] { tmps := #[f 0, f 1, f 2, f 3, f 4, f 5, f 6, f 7, f 8, f 9, f 10, f 11, f 12, f 13, f 14, f 15, f 16, f 17, f 18, f 19, f 20, f 21, f 22, f 23, f 24, f 25, f 26, f 27, f 28, f 29, f 30, f 31, f 32, f 33, f 34, f 35, f 36, f 37, f 38, f 39, f 40, f 41, f 42, f 43, f 44, f 45, f 46, f 47, f 48, f 49, f 50, f 51, f 52, f 53], defers := [] } W
    clear hK hd hold
    simp only [ze3] at HK ⊢
    clear ze3
    have HK := Aside.mk HK
    have hh := hW.blk (H5.out.2.1) id; have q0 := cell_of_row W q3 0 _ _ _ hh; have q1 := cell_of_row W q3 1 _ _ _ hh; have q2 := cell_of_row W q3 2 _ _ _ hh; have q3' := cell_of_row W q3 3 _ _ _ hh; have q4 := cell_of_row W q3 4 _ _ _ hh; clear hh
    go_wp2
    exact HK.out _ _ (Chg.refl _) rfl
  · -- 44 := load 30 t5
    intro f W hW hold hd K hK
    have zg : f 42 = .bool true := hd 42 rfl rfl
    refine .inl ⟨wanted_of (g := 3) (t := 42) (by kernel_rfl) (by kernel_rfl) (of_decide_eq_true (by kernel_rfl)) zg, ?_⟩
    clear zg
    dsimp only [bare]
    have ze5 : f 5 = .pointer (some ⟨q5, 0, none⟩) := hold 5 rfl
    have HK : ∀ v W', Chg (fun _ => False) (fun _ => True) W W' → chgV (fun _ => False) (fun _ => True) _ 44 v W' → K { tmps := #[f 0, f 1, f 2, f 3, f 4, f 5, f 6, f 7, f 8, f 9, f 10, f 11, f 12, f 13, f 14, f 15, f 16, f 17, f 18, f 19, f 20, f 21, f 22, f 23, f 24, f 25, f 26, f 27, f 28, f 29, f 30, f 31, f 32, f 33, f 34, f 35, f 36, f 37, f 38, f 39, f 40, f 41, f 42, f 43, v, f 45, f 46, f 47, f 48, f 49, f 50, f 51, f 52, f 53], defers := [] } W' := hK
    change wpList _ #[_] _ [_] { tmps := #[f 0, f 1, f 2, f 3, f 4, f 5, f 6, f 7, f 8, f 9, f 10, f 11, f 12, f 13, f 14, f 15, f 16, f 17, f 18, f 19, f 20, f 21, f 22, f 23, f 24, f 25, f 26, f 27, f 28, f 29, f 30, f 31, f 32, f 33, f 34, f 35, f 36, f 37, f 38, f 39, f 40, f 41, f 42, f 43, f 44, f 45, f 46, f 47, f 48, f 49, f 50, f 51, f 52, f 53], defers := [] } W
    clear hK hd hold
    simp only [ze5] at HK ⊢
    clear ze5
    have HK := Aside.mk HK
    have hh := hW.blk (H5.out.2.2) id; have q0 := cell_of_row W q5 0 _ _ _ hh; have q1 := cell_of_row W q5 1 _ _ _ hh; have q2 := cell_of_row W q5 2 _ _ _ hh; have q3' := cell_of_row W q5 3 _ _ _ hh; have q4 := cell_of_row W q5 4 _ _ _ hh; clear hh
    go_wp2
    exact HK.out _ _ (Chg.refl _) rfl
  · -- 45 := binOp eql 30 t43 t44 30
    intro f W hW hold hd K hK
    have zg : f 42 = .bool true := hd 42 rfl rfl
    refine .inl ⟨wanted_of (g := 3) (t := 42) (by kernel_rfl) (by kernel_rfl) (of_decide_eq_true (by kernel_rfl)) zg, ?_⟩
    clear zg
    dsimp only [bare]
    have ze43 : f 43 = .agg #[.int .i64 jo, .int .i64 ha, .int .i64 ro, .int .i64 pa, .int .i64 si] := hd 43 rfl rfl
    have ze44 : f 44 = .agg #[.int .i64 jo, .int .i64 ha, .int .i64 ro, .int .i64 pa, .int .i64 si] := hd 44 rfl rfl
    have HK : ∀ v W', Chg (fun _ => False) (fun _ => True) W W' → chgV (fun _ => False) (fun _ => True) _ 45 v W' → K { tmps := #[f 0, f 1, f 2, f 3, f 4, f 5, f 6, f 7, f 8, f 9, f 10, f 11, f 12, f 13, f 14, f 15, f 16, f 17, f 18, f 19, f 20, f 21, f 22, f 23, f 24, f 25, f 26, f 27, f 28, f 29, f 30, f 31, f 32, f 33, f 34, f 35, f 36, f 37, f 38, f 39, f 40, f 41, f 42, f 43, f 44, v, f 46, f 47, f 48, f 49, f 50, f 51, f 52, f 53], defers := [] } W' := hK
    change wpList _ #[_] _ [_] { tmps := #[f 0, f 1, f 2, f 3, f 4, f 5, f 6, f 7, f 8, f 9, f 10, f 11, f 12, f 13, f 14, f 15, f 16, f 17, f 18, f 19, f 20, f 21, f 22, f 23, f 24, f 25, f 26, f 27, f 28, f 29, f 30, f 31, f 32, f 33, f 34, f 35, f 36, f 37, f 38, f 39, f 40, f 41, f 42, f 43, f 44, f 45, f 46, f 47, f 48, f 49, f 50, f 51, f 52, f 53], defers := [] } W
    clear hK hd hold
    simp only [ze43, ze44] at HK ⊢
    clear ze43 ze44
    have HK := Aside.mk HK
    go_wp2
    exact HK.out _ _ (Chg.refl _) rfl
  · -- 46 := pick t42 t45 <bool(false)>
    intro f W hW hold hd K hK
    refine .inl ⟨wanted_free rfl _, ?_⟩
    dsimp only [bare]
    have ze42 : f 42 = .bool true := hd 42 rfl rfl
    have ze45 : f 45 = .bool true := hd 45 rfl rfl
    have HK : ∀ v W', Chg (fun _ => False) (fun _ => True) W W' → chgV (fun _ => False) (fun _ => True) _ 46 v W' → K { tmps := #[f 0, f 1, f 2, f 3, f 4, f 5, f 6, f 7, f 8, f 9, f 10, f 11, f 12, f 13, f 14, f 15, f 16, f 17, f 18, f 19, f 20, f 21, f 22, f 23, f 24, f 25, f 26, f 27, f 28, f 29, f 30, f 31, f 32, f 33, f 34, f 35, f 36, f 37, f 38, f 39, f 40, f 41, f 42, f 43, f 44, f 45, v, f 47, f 48, f 49, f 50, f 51, f 52, f 53], defers := [] } W' := hK
    change wpList _ #[_] _ [_] { tmps := #[f 0, f 1, f 2, f 3, f 4, f 5, f 6, f 7, f 8, f 9, f 10, f 11, f 12, f 13, f 14, f 15, f 16, f 17, f 18, f 19, f 20, f 21, f 22, f 23, f 24, f 25, f 26, f 27, f 28, f 29, f 30, f 31, f 32, f 33, f 34, f 35, f 36, f 37, f 38, f 39, f 40, f 41, f 42, f 43, f 44, f 45, f 46, f 47, f 48, f 49, f 50, f 51, f 52, f 53], defers := [] } W
    clear hK hd hold
    simp only [ze42, ze45] at HK ⊢
    clear ze42 ze45
    have HK := Aside.mk HK
    go_wp2
    exact HK.out _ _ (Chg.refl _) rfl
  · -- 47 := move t46
    intro f W hW hold hd K hK
    refine .inl ⟨wanted_free rfl _, ?_⟩
    dsimp only [bare]
    have ze46 : f 46 = .bool true := hd 46 rfl rfl
    have HK : ∀ v W', Chg (fun _ => False) (fun _ => True) W W' → chgV (fun _ => False) (fun _ => True) _ 47 v W' → K { tmps := #[f 0, f 1, f 2, f 3, f 4, f 5, f 6, f 7, f 8, f 9, f 10, f 11, f 12, f 13, f 14, f 15, f 16, f 17, f 18, f 19, f 20, f 21, f 22, f 23, f 24, f 25, f 26, f 27, f 28, f 29, f 30, f 31, f 32, f 33, f 34, f 35, f 36, f 37, f 38, f 39, f 40, f 41, f 42, f 43, f 44, f 45, f 46, v, f 48, f 49, f 50, f 51, f 52, f 53], defers := [] } W' := hK
    change wpList _ #[_] _ [_] { tmps := #[f 0, f 1, f 2, f 3, f 4, f 5, f 6, f 7, f 8, f 9, f 10, f 11, f 12, f 13, f 14, f 15, f 16, f 17, f 18, f 19, f 20, f 21, f 22, f 23, f 24, f 25, f 26, f 27, f 28, f 29, f 30, f 31, f 32, f 33, f 34, f 35, f 36, f 37, f 38, f 39, f 40, f 41, f 42, f 43, f 44, f 45, f 46, f 47, f 48, f 49, f 50, f 51, f 52, f 53], defers := [] } W
    clear hK hd hold
    simp only [ze46] at HK ⊢
    clear ze46
    have HK := Aside.mk HK
    go_wp2
    exact HK.out _ _ (Chg.refl _) rfl
  · -- 48 := load 25 t3
    intro f W hW hold hd K hK
    have zg : f 47 = .bool true := hd 47 rfl rfl
    refine .inl ⟨wanted_of (g := 8) (t := 47) (by kernel_rfl) (by kernel_rfl) (of_decide_eq_true (by kernel_rfl)) zg, ?_⟩
    clear zg
    dsimp only [bare]
    have ze3 : f 3 = .pointer (some ⟨q3, 0, none⟩) := hold 3 rfl
    have HK : ∀ v W', Chg (fun _ => False) (fun _ => True) W W' → chgV (fun _ => False) (fun _ => True) _ 48 v W' → K { tmps := #[f 0, f 1, f 2, f 3, f 4, f 5, f 6, f 7, f 8, f 9, f 10, f 11, f 12, f 13, f 14, f 15, f 16, f 17, f 18, f 19, f 20, f 21, f 22, f 23, f 24, f 25, f 26, f 27, f 28, f 29, f 30, f 31, f 32, f 33, f 34, f 35, f 36, f 37, f 38, f 39, f 40, f 41, f 42, f 43, f 44, f 45, f 46, f 47, v, f 49, f 50, f 51, f 52, f 53], defers := [] } W' := hK
    change wpList _ #[_] _ [_] { tmps := #[f 0, f 1, f 2, f 3, f 4, f 5, f 6, f 7, f 8, f 9, f 10, f 11, f 12, f 13, f 14, f 15, f 16, f 17, f 18, f 19, f 20, f 21, f 22, f 23, f 24, f 25, f 26, f 27, f 28, f 29, f 30, f 31, f 32, f 33, f 34, f 35, f 36, f 37, f 38, f 39, f 40, f 41, f 42, f 43, f 44, f 45, f 46, f 47, f 48, f 49, f 50, f 51, f 52, f 53], defers := [] } W
    clear hK hd hold
    simp only [ze3] at HK ⊢
    clear ze3
    have HK := Aside.mk HK
    have hh := hW.blk (H5.out.2.1) id; have q0 := cell_of_row W q3 0 _ _ _ hh; have q1 := cell_of_row W q3 1 _ _ _ hh; have q2 := cell_of_row W q3 2 _ _ _ hh; have q3' := cell_of_row W q3 3 _ _ _ hh; have q4 := cell_of_row W q3 4 _ _ _ hh; clear hh
    go_wp2
    exact HK.out _ _ (Chg.refl _) rfl
  · -- 49 := CALL f8 (chert/space.Plan).Capacity [t48] : [25]
    intro f W hW hold hd K hK
    have zg : f 47 = .bool true := hd 47 rfl rfl
    refine .inl ⟨wanted_of (g := 8) (t := 47) (by kernel_rfl) (by kernel_rfl) (of_decide_eq_true (by kernel_rfl)) zg, ?_⟩
    clear zg
    dsimp only [bare]
    have ze48 : f 48 = .agg #[.int .i64 jo, .int .i64 ha, .int .i64 ro, .int .i64 pa, .int .i64 si] := hd 48 rfl rfl
    have HK : ∀ v W', Chg (fun _ => False) (fun _ => True) W W' → chgV (fun _ => False) (fun _ => True) _ 49 v W' → K { tmps := #[f 0, f 1, f 2, f 3, f 4, f 5, f 6, f 7, f 8, f 9, f 10, f 11, f 12, f 13, f 14, f 15, f 16, f 17, f 18, f 19, f 20, f 21, f 22, f 23, f 24, f 25, f 26, f 27, f 28, f 29, f 30, f 31, f 32, f 33, f 34, f 35, f 36, f 37, f 38, f 39, f 40, f 41, f 42, f 43, f 44, f 45, f 46, f 47, f 48, v, f 50, f 51, f 52, f 53], defers := [] } W' := hK
    change wpList _ #[_] _ [_] { tmps := #[f 0, f 1, f 2, f 3, f 4, f 5, f 6, f 7, f 8, f 9, f 10, f 11, f 12, f 13, f 14, f 15, f 16, f 17, f 18, f 19, f 20, f 21, f 22, f 23, f 24, f 25, f 26, f 27, f 28, f 29, f 30, f 31, f 32, f 33, f 34, f 35, f 36, f 37, f 38, f 39, f 40, f 41, f 42, f 43, f 44, f 45, f 46, f 47, f 48, f 49, f 50, f 51, f 52, f 53], defers := [] } W
    clear hK hd hold
    simp only [ze48] at HK ⊢
    clear ze48
    have HK := Aside.mk HK
    go_wp2_with (go_at_call 8; refine (HCS.out W).mono ?_; rintro e' w6 ⟨n, rfl, hn, hb6⟩)
    exact HK.out _ _ (Chg.of_below hb6 id) ⟨_, ⟨n, rfl, hn⟩, Chg.refl _⟩
  · -- 50 := load 30 t5
    intro f W hW hold hd K hK
    have zg : f 47 = .bool true := hd 47 rfl rfl
    refine .inl ⟨wanted_of (g := 8) (t := 47) (by kernel_rfl) (by kernel_rfl) (of_decide_eq_true (by kernel_rfl)) zg, ?_⟩
    clear zg
    dsimp only [bare]
    have ze5 : f 5 = .pointer (some ⟨q5, 0, none⟩) := hold 5 rfl
    have HK : ∀ v W', Chg (fun _ => False) (fun _ => True) W W' → chgV (fun _ => False) (fun _ => True) _ 50 v W' → K { tmps := #[f 0, f 1, f 2, f 3, f 4, f 5, f 6, f 7, f 8, f 9, f 10, f 11, f 12, f 13, f 14, f 15, f 16, f 17, f 18, f 19, f 20, f 21, f 22, f 23, f 24, f 25, f 26, f 27, f 28, f 29, f 30, f 31, f 32, f 33, f 34, f 35, f 36, f 37, f 38, f 39, f 40, f 41, f 42, f 43, f 44, f 45, f 46, f 47, f 48, f 49, v, f 51, f 52, f 53], defers := [] } W' := hK
    change wpList _ #[_] _ [_] { tmps := #[f 0, f 1, f 2, f 3, f 4, f 5, f 6, f 7, f 8, f 9, f 10, f 11, f 12, f 13, f 14, f 15, f 16, f 17, f 18, f 19, f 20, f 21, f 22, f 23, f 24, f 25, f 26, f 27, f 28, f 29, f 30, f 31, f 32, f 33, f 34, f 35, f 36, f 37, f 38, f 39, f 40, f 41, f 42, f 43, f 44, f 45, f 46, f 47, f 48, f 49, f 50, f 51, f 52, f 53], defers := [] } W
    clear hK hd hold
    simp only [ze5] at HK ⊢
    clear ze5
    have HK := Aside.mk HK
    have hh := hW.blk (H5.out.2.2) id; have q0 := cell_of_row W q5 0 _ _ _ hh; have q1 := cell_of_row W q5 1 _ _ _ hh; have q2 := cell_of_row W q5 2 _ _ _ hh; have q3' := cell_of_row W q5 3 _ _ _ hh; have q4 := cell_of_row W q5 4 _ _ _ hh; clear hh
    go_wp2
    exact HK.out _ _ (Chg.refl _) rfl
  · -- 51 := CALL f9 chert/chertref17.Capacity [t50] : [30]
    intro f W hW hold hd K hK
    have zg : f 47 = .bool true := hd 47 rfl rfl
    refine .inl ⟨wanted_of (g := 8) (t := 47) (by kernel_rfl) (by kernel_rfl) (of_decide_eq_true (by kernel_rfl)) zg, ?_⟩
    clear zg
    dsimp only [bare]
    have ze50 : f 50 = .agg #[.int .i64 jo, .int .i64 ha, .int .i64 ro, .int .i64 pa, .int .i64 si] := hd 50 rfl rfl
    have HK : ∀ v W', Chg (fun _ => False) (fun _ => True) W W' → chgV (fun _ => False) (fun _ => True) _ 51 v W' → K { tmps := #[f 0, f 1, f 2, f 3, f 4, f 5, f 6, f 7, f 8, f 9, f 10, f 11, f 12, f 13, f 14, f 15, f 16, f 17, f 18, f 19, f 20, f 21, f 22, f 23, f 24, f 25, f 26, f 27, f 28, f 29, f 30, f 31, f 32, f 33, f 34, f 35, f 36, f 37, f 38, f 39, f 40, f 41, f 42, f 43, f 44, f 45, f 46, f 47, f 48, f 49, f 50, v, f 52, f 53], defers := [] } W' := hK
    change wpList _ #[_] _ [_] { tmps := #[f 0, f 1, f 2, f 3, f 4, f 5, f 6, f 7, f 8, f 9, f 10, f 11, f 12, f 13, f 14, f 15, f 16, f 17, f 18, f 19, f 20, f 21, f 22, f 23, f 24, f 25, f 26, f 27, f 28, f 29, f 30, f 31, f 32, f 33, f 34, f 35, f 36, f 37, f 38, f 39, f 40, f 41, f 42, f 43, f 44, f 45, f 46, f 47, f 48, f 49, f 50, f 51, f 52, f 53], defers := [] } W
    clear hK hd hold
    simp only [ze50] at HK ⊢
    clear ze50
    have HK := Aside.mk HK
    go_wp2_with (go_at_call 9; refine (HCR.out W).mono ?_; rintro e' w6 ⟨n, rfl, hn, hb6⟩)
    exact HK.out _ _ (Chg.of_below hb6 id) ⟨_, ⟨n, rfl, hn⟩, Chg.refl _⟩
  · -- 52 := binOp eql 3 t49 t51 3
    intro f W hW hold hd K hK
    have zg : f 47 = .bool true := hd 47 rfl rfl
    refine .inl ⟨wanted_of (g := 8) (t := 47) (by kernel_rfl) (by kernel_rfl) (of_decide_eq_true (by kernel_rfl)) zg, ?_⟩
    clear zg
    dsimp only [bare]
    obtain ⟨W49, p49, b49⟩ : ∃ W0, (CapV x) (f 49) W0 ∧ Chg (fun _ => False) (fun _ => True) W0 W := hd 49 rfl rfl
    obtain ⟨W51, p51, b51⟩ : ∃ W0, (CapV x) (f 51) W0 ∧ Chg (fun _ => False) (fun _ => True) W0 W := hd 51 rfl rfl
    have HK : ∀ v W', Chg (fun _ => False) (fun _ => True) W W' → chgV (fun _ => False) (fun _ => True) _ 52 v W' → K { tmps := #[f 0, f 1, f 2, f 3, f 4, f 5, f 6, f 7, f 8, f 9, f 10, f 11, f 12, f 13, f 14, f 15, f 16, f 17, f 18, f 19, f 20, f 21, f 22, f 23, f 24, f 25, f 26, f 27, f 28, f 29, f 30, f 31, f 32, f 33, f 34, f 35, f 36, f 37, f 38, f 39, f 40, f 41, f 42, f 43, f 44, f 45, f 46, f 47, f 48, f 49, f 50, f 51, v, f 53], defers := [] } W' := hK
    change wpList _ #[_] _ [_] { tmps := #[f 0, f 1, f 2, f 3, f 4, f 5, f 6, f 7, f 8, f 9, f 10, f 11, f 12, f 13, f 14, f 15, f 16, f 17, f 18, f 19, f 20, f 21, f 22, f 23, f 24, f 25, f 26, f 27, f 28, f 29, f 30, f 31, f 32, f 33, f 34, f 35, f 36, f 37, f 38, f 39, f 40, f 41, f 42, f 43, f 44, f 45, f 46, f 47, f 48, f 49, f 50, f 51, f 52, f 53], defers := [] } W
    clear hK hd hold
    have HK := Aside.mk HK
    obtain ⟨n, zn, hcn⟩ := p49
    obtain ⟨m, zm, hcm⟩ := p51
    have hnm := hcn.unique hcm
    subst hnm
    have HK' := HK.out
    clear HK
    simp only [zn, zm] at HK' ⊢
    have HK := Aside.mk HK'
    clear HK' zn zm hcn hcm b49 b51
    go_wp2
    exact HK.out _ _ (Chg.refl _) rfl
  · -- 53 := pick t47 t52 <bool(false)>
    intro f W hW hold hd K hK
    refine .inl ⟨wanted_free rfl _, ?_⟩
    dsimp only [bare]
    have ze47 : f 47 = .bool true := hd 47 rfl rfl
    have ze52 : f 52 = .bool true := hd 52 rfl rfl
    have HK : ∀ v W', Chg (fun _ => False) (fun _ => True) W W' → chgV (fun _ => False) (fun _ => True) _ 53 v W' → K { tmps := #[f 0, f 1, f 2, f 3, f 4, f 5, f 6, f 7, f 8, f 9, f 10, f 11, f 12, f 13, f 14, f 15, f 16, f 17, f 18, f 19, f 20, f 21, f 22, f 23, f 24, f 25, f 26, f 27, f 28, f 29, f 30, f 31, f 32, f 33, f 34, f 35, f 36, f 37, f 38, f 39, f 40, f 41, f 42, f 43, f 44, f 45, f 46, f 47, f 48, f 49, f 50, f 51, f 52, v], defers := [] } W' := hK
    change wpList _ #[_] _ [_] { tmps := #[f 0, f 1, f 2, f 3, f 4, f 5, f 6, f 7, f 8, f 9, f 10, f 11, f 12, f 13, f 14, f 15, f 16, f 17, f 18, f 19, f 20, f 21, f 22, f 23, f 24, f 25, f 26, f 27, f 28, f 29, f 30, f 31, f 32, f 33, f 34, f 35, f 36, f 37, f 38, f 39, f 40, f 41, f 42, f 43, f 44, f 45, f 46, f 47, f 48, f 49, f 50, f 51, f 52, f 53], defers := [] } W
    clear hK hd hold
    simp only [ze47, ze52] at HK ⊢
    clear ze47 ze52
    have HK := Aside.mk HK
    go_wp2
    exact HK.out _ _ (Chg.refl _) rfl
  · -- 2 := assign t53
    intro f W hW hold hd K hK
    refine .inl ⟨wanted_free rfl _, ?_⟩
    dsimp only [bare]
    have ze53 : f 53 = .bool true := hd 53 rfl rfl
    have HK : ∀ v W', Chg (fun _ => False) (fun _ => True) W W' → chgV (fun _ => False) (fun _ => True) _ 2 v W' → K { tmps := #[f 0, f 1, v, f 3, f 4, f 5, f 6, f 7, f 8, f 9, f 10, f 11, f 12, f 13, f 14, f 15, f 16, f 17, f 18, f 19, f 20, f 21, f 22, f 23, f 24, f 25, f 26, f 27, f 28, f 29, f 30, f 31, f 32, f 33, f 34, f 35, f 36, f 37, f 38, f 39, f 40, f 41, f 42, f 43, f 44, f 45, f 46, f 47, f 48, f 49, f 50, f 51, f 52, f 53], defers := [] } W' := hK
    change wpList _ #[_] _ [_] { tmps := #[f 0, f 1, f 2, f 3, f 4, f 5, f 6, f 7, f 8, f 9, f 10, f 11, f 12, f 13, f 14, f 15, f 16, f 17, f 18, f 19, f 20, f 21, f 22, f 23, f 24, f 25, f 26, f 27, f 28, f 29, f 30, f 31, f 32, f 33, f 34, f 35, f 36, f 37, f 38, f 39, f 40, f 41, f 42, f 43, f 44, f 45, f 46, f 47, f 48, f 49, f 50, f 51, f 52, f 53], defers := [] } W
    clear hK hd hold
    simp only [ze53] at HK ⊢
    clear ze53
    have HK := Aside.mk HK
    go_wp2
    exact HK.out _ _ (Chg.refl _) rfl
  · intro f W hW hold hd aAct hAct
    replace hAct := hAct.trans (rel_puts hold)
    have ze2 : f 2 = .bool true := hd 2 rfl
    have ze39 : f 39 = .bool ok := hd 39 rfl
    have ze40 : f 40 = .bool ok := hd 40 rfl
    have ze41 : f 41 = .bool true := hd 41 rfl
    have ze42 : f 42 = .bool true := hd 42 rfl
    have ze43 : f 43 = .agg #[.int .i64 jo, .int .i64 ha, .int .i64 ro, .int .i64 pa, .int .i64 si] := hd 43 rfl
    have ze44 : f 44 = .agg #[.int .i64 jo, .int .i64 ha, .int .i64 ro, .int .i64 pa, .int .i64 si] := hd 44 rfl
    have ze45 : f 45 = .bool true := hd 45 rfl
    have ze46 : f 46 = .bool true := hd 46 rfl
    have ze47 : f 47 = .bool true := hd 47 rfl
    have ze48 : f 48 = .agg #[.int .i64 jo, .int .i64 ha, .int .i64 ro, .int .i64 pa, .int .i64 si] := hd 48 rfl
    obtain ⟨W49, p49, b49⟩ : ∃ W0, (CapV x) (f 49) W0 ∧ Chg (fun _ => False) (fun _ => True) W0 W := hd 49 rfl
    have ze50 : f 50 = .agg #[.int .i64 jo, .int .i64 ha, .int .i64 ro, .int .i64 pa, .int .i64 si] := hd 50 rfl
    obtain ⟨W51, p51, b51⟩ : ∃ W0, (CapV x) (f 51) W0 ∧ Chg (fun _ => False) (fun _ => True) W0 W := hd 51 rfl
    have ze52 : f 52 = .bool true := hd 52 rfl
    have ze53 : f 53 = .bool true := hd 53 rfl
    simp only [List.take_succ_cons, List.take_zero, putAll, List.foldl_cons, List.foldl_nil, Option.getD_some] at hAct
    simp only [ze2, ze39, ze40, ze41, ze42, ze43, ze44, ze45, ze46, ze47, ze48, ze50, ze52, ze53] at hAct
    subst hAct
    simp only [List.drop_succ_cons, List.drop_nil, Act.put, List.setIfInBounds_toArray, List.set_cons_zero, List.set_cons_succ]
    clear hold hd ze2 ze39 ze40 ze41 ze42 ze43 ze44 ze45 ze46 ze47 ze48 ze50 ze52 ze53
    have hbf : Below w.heap.size w W := ⟨hW.os.trans H5.out.1.os, hW.tape.trans H5.out.1.tape, hW.output.trans H5.out.1.output, Nat.le_trans H5.out.1.size hW.size, fun q hq => (hW.block q (Nat.lt_of_lt_of_le hq H5.out.1.size) id).trans (H5.out.1.block q hq)⟩
    have HBF := Aside.mk hbf
    clear hbf hW p49 p51 b49 b51
    go_wp2
    go_ret
    exact ⟨rfl, HBF.out⟩
end Go.Proofs.Ytffdpmejilmnnaa
