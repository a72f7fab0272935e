/-
  As many nodes as the capacity tells fit, whatever they are.
-/
import Derived.Test.YtffdpmejilmnnaaMg14
namespace Go.Proofs.Ytffdpmejilmnnaa
open Go.RowKit

theorem plan_bytes (b p c ch t : Int) : (planG b p c ch t).ro < 1 ∨ (249 ≤ (planG b p c ch t).by_ ∧ (planG b p c ch t).by_ ≤ 2048) := by
  unfold planG
  by_cases h : ofP b p c ch t
  · rw [if_pos h]
    have := raw_bounds h.1
    have h2 := h.2.1
    refine .inr ⟨h2, ?_⟩
    show payI c ch ≤ 2048
    unfold payI
    omega
  · rw [if_neg h]; left; show (0 : Int) < 1; omega
theorem Chg.bel {I : World → Prop} {W W' : World} (h : Chg (fun _ => False) I W W') : Below W.heap.size W W' := ⟨h.os, h.tape, h.output, h.size, fun q hq => h.block q hq id⟩
/-- Two slices share no block. -/
def Dj (u v : Value) : Prop := ∀ q, u.ownBlock = some q → v.ownBlock ≠ some q
theorem Dj.symm {u v : Value} (h : Dj u v) : Dj v u := fun q hq hp => h q hp hq
theorem Dj.row {w w' : World} {base : Nat} {e : TypeId} {u v : Value} {n : Nat} {xs : List Value} (h : Dj u v) (hr : Row w base e 1 u n xs) (hg : w.grownBy w' v.ownBlock) : Row w' base e 1 u n xs := by
  refine hr.kept hg ?_
  cases hu : u.ownBlock with
  | none => exact .inl rfl
  | some q => exact .inr (fun he => h q hu he.symm)
theorem Dj.new {w : World} {base : Nat} {e : TypeId} {u v v1 : Value} {n : Nat} {xs : List Value} (h : Dj u v) (hr : Row w base e 1 u n xs) (ha : v1.ownBlock = v.ownBlock ∨ ∃ b, v1.ownBlock = some b ∧ w.heap.size ≤ b) : Dj u v1 := by
  intro q hq
  rcases ha with ha | ⟨b, hb, hs⟩
  · rw [ha]; exact h q hq
  · rw [hb]
    intro hx
    injection hx with hx
    have := (hr.blk q hq).2.1
    omega
theorem Bnd.snoc {l : List Int} {x z : Int} (h : ∀ x ∈ l, 1 ≤ x ∧ x ≤ z) (h1 : 1 ≤ x) (h2 : x ≤ z) : ∀ y ∈ l ++ [x], 1 ≤ y ∧ y ≤ z := by
  intro y hy
  rcases List.mem_append.1 hy with hy | hy
  · exact h y hy
  · rw [List.mem_singleton.1 hy]; exact ⟨h1, h2⟩
/-- While the nodes are laid out: two rows. -/
structure LayR (w : World) (B : Nat) (z : Int) (u v : Value) (k : Nat) (la lb : List Int) (W : World) : Prop where
  na : k = la.length
  nb : k = lb.length
  ga : Good64 la
  gb : ∀ x ∈ lb, 1 ≤ x ∧ x ≤ z
  ra : Row W B 3 1 u k (intsV la)
  rb : Row W B 3 1 v k (intsV lb)
  dj : Dj u v
  bel : Below B w W
theorem LayR.next {w : World} {B : Nat} {z : Int} {u v : Value} {k : Nat} {la lb : List Int} {W0 : World} (h : LayR w B z u v k la lb W0) {u' v' : Value} {a b : Int} {W : World}
    (h1 : Row W B 3 1 u' (k + 1) (intsV la ++ [.int .i64 a])) (h2 : Row W B 3 1 v' (k + 1) (intsV lb ++ [.int .i64 b])) (hd : Dj u' v') (hb : Below B w W) (g1 : 1 ≤ a) (g2 : a ≤ 64) (g3 : 1 ≤ b) (g4 : b ≤ z) : LayR w B z u' v' (k + 1) (la ++ [a]) (lb ++ [b]) W :=
  ⟨by simp [h.na], by simp [h.nb], h.ga.snoc g1 g2, Bnd.snoc h.gb g3 g4, by rw [intsV_append]; exact h1, by rw [intsV_append]; exact h2, hd, hb⟩
set_option maxRecDepth 20000 in
set_option maxHeartbeats 8000000 in
theorem spaceSure_walk (a b c d e : Int) (A : Option Addr) (n cn : Nat) (ks : List Int) (B : Option Addr) (m cm : Nat) (bs : List Int) (w : World) (_h : (Lit.int .i64 a).wf = true ∧ (Lit.int .i64 b).wf = true ∧ (Lit.int .i64 c).wf = true ∧ (Lit.int .i64 d).wf = true ∧ (Lit.int .i64 e).wf = true)
    (hx : ks.length = n ∧ n ≤ cn ∧ cn ≤ maxLen ∧ n * 8 ≤ 140737488351232 ∧ (∀ k ∈ ks, (Lit.int .i64 k).wf = true) ∧ Rd w A n (fun i => .int .i64 (ks.getD i 0)))
    (hy : bs.length = m ∧ m ≤ cm ∧ cm ≤ maxLen ∧ m * 8 ≤ 140737488351232 ∧ (∀ k ∈ bs, (Lit.int .i64 k).wf = true) ∧ Rd w B m (fun i => .int .i64 (bs.getD i 0))) :
    Calls Try.prog 4 #[.agg #[.int .i64 a, .int .i64 b, .int .i64 c, .int .i64 d, .int .i64 e], .slice A n cn, .slice B m cm] w fun e w' => e = .returned (.bool true) ∧ Below w.heap.size w w' := by
  clear _h
  obtain ⟨_, hnc, hcn, hn8, _, hRA⟩ := hx
  obtain ⟨_, hmc, hcm, hm8, _, hRB⟩ := hy
  have hcn : cn ≤ 9223372036854775807 := hcn
  have hcm : cm ≤ 9223372036854775807 := hcm
  have HRA := Aside.mk hRA
  have HRB := Aside.mk hRB
  have hb := (Below.refl w.heap.size w).alloc (Nat.le_refl _) (.cells #[.int .i64 a, .int .i64 b, .int .i64 c, .int .i64 d, .int .i64 e] 22)
  have hk := heap_alloc_new w (.cells #[.int .i64 a, .int .i64 b, .int .i64 c, .int .i64 d, .int .i64 e] 22)
  have HO := Aside.mk (fun W => plan_any a b c d e W)
  have HK := Aside.mk (And.intro (planG_ok a b c d e) (plan_bytes a b c d e))
  generalize planG a b c d e = x at *
  go_enter Try.func4, Try.ntmps4
  have HCS := Aside.mk (fun W => space_cap_any x W HK.out.1)
  unfold PlanT.v at HO HCS
  have H0 := Aside.mk (And.intro hb hk)
  clear hb hk hRA hRB
  go_upto_region 3 with (go_at_call 5; refine (space_speaks _).mono ?_; rintro e' w1 ⟨rfl, hb1⟩)
  have hk1 := below_blk H0.out.2 hb1
  have H1 := Aside.mk (H0.out.1.trans (hb1.mono H0.out.1.size))
  have a0 := cell_of_row w1 _ 0 _ _ _ hk1
  have a1 := cell_of_row w1 _ 1 _ _ _ hk1
  have a2 := cell_of_row w1 _ 2 _ _ _ hk1
  have a3 := cell_of_row w1 _ 3 _ _ _ hk1
  have a4 := cell_of_row w1 _ 4 _ _ _ hk1
  simp only [List.getElem?_cons_zero, List.getElem?_cons_succ, List.getElem?_toArray] at a0 a1 a2 a3 a4
  clear hk1 hb1 H0
  go_upto_region 4 with (go_at_call 10; refine (HO.out _).mono ?_; rintro e' w2 ⟨rfl, hb2⟩)
  clear a0 a1 a2 a3 a4 HO
  have hb3 := (hb2.alloc hb2.size (.cells #[.int .i64 x.jo, .int .i64 x.ha, .int .i64 x.ro, .int .i64 x.by_, .int .i64 x.si] 25))
  have hs3 : (w2.alloc (.cells #[.int .i64 x.jo, .int .i64 x.ha, .int .i64 x.ro, .int .i64 x.by_, .int .i64 x.si] 25)).heap.size = w2.heap.size + 1 := by simp
  have hb4 := hb3.alloc hb3.size (.cells #[.int .i64 x.jo, .int .i64 x.ha, .int .i64 x.ro, .int .i64 x.by_, .int .i64 x.si] 30)
  have hn3 := heap_alloc_new w2 (.cells #[.int .i64 x.jo, .int .i64 x.ha, .int .i64 x.ro, .int .i64 x.by_, .int .i64 x.si] 25)
  have hn4 := (((Below.refl _ (w2.alloc (.cells #[.int .i64 x.jo, .int .i64 x.ha, .int .i64 x.ro, .int .i64 x.by_, .int .i64 x.si] 25))).alloc (Nat.le_refl _) (.cells #[.int .i64 x.jo, .int .i64 x.ha, .int .i64 x.ro, .int .i64 x.by_, .int .i64 x.si] 30)).block _ (by rw [hs3]; exact Nat.lt_succ_self w2.heap.size)).trans hn3
  generalize (w2.alloc (.cells #[.int .i64 x.jo, .int .i64 x.ha, .int .i64 x.ro, .int .i64 x.by_, .int .i64 x.si] 25)).alloc (.cells #[.int .i64 x.jo, .int .i64 x.ha, .int .i64 x.ro, .int .i64 x.by_, .int .i64 x.si] 30) = w3 at *
  have hq3 := hb2.size
  generalize w2.heap.size = q3 at *
  have H3 := Aside.mk (And.intro (H1.out.trans (hb4.mono H1.out.size)) hn4)
  have hq3 : w.heap.size ≤ q3 := Nat.le_trans H1.out.size hq3
  obtain ⟨b0, b1, b2, b3, b4⟩ := row5 (x := x) hn4
  clear hb3 hs3 hb4 hn3 hn4 hb2 H1
  go_upto_region 5 with (go_at_call 8; refine (HCS.out _).mono ?_; rintro e' w5 ⟨N, rfl, hcap, hb5⟩)
  have hk5 := below_blk H3.out.2 hb5
  have h5 := H3.out.1.trans (hb5.mono H3.out.1.size)
  have hlt5 := (Array.getElem?_eq_some_iff.1 hk5).1
  have H5 := Aside.mk (And.intro h5 (And.intro hk5 (And.intro hlt5 hcap)))
  clear b0 b1 b2 b3 b4 hk5 h5 hb5 H3 HCS hcap
  have hcas : N = 0 ∨ (¬ N = 0 ∧ n = 0) ∨ (¬ N = 0 ∧ ¬ n = 0 ∧ m = 0) ∨ (¬ N = 0 ∧ ¬ n = 0 ∧ ¬ m = 0) := by omega
  rcases hcas with rfl | ⟨hN, rfl⟩ | ⟨hN, hn, rfl⟩ | ⟨hN, hn, hm⟩
  · go_wp2
    go_ret
    exact ⟨rfl, H5.out.1⟩
  · have hN' : ¬ (N : Int) = 0 := by omega
    go_wp2
    go_ret
    exact ⟨rfl, H5.out.1⟩
  · have hN' : ¬ (N : Int) = 0 := by omega
    have hn' : ¬ (n : Int) = 0 := by omega
    go_wp2
    go_ret
    exact ⟨rfl, H5.out.1⟩
  · have hN' : ¬ (N : Int) = 0 := by omega
    have hn' : ¬ (n : Int) = 0 := by omega
    have hm' : ¬ (m : Int) = 0 := by omega
    have hor : ¬ ((((N : Int) == 0) = true ∨ ((n : Int) == 0) = true) ∨ ((m : Int) == 0) = true) := by simp; omega
    have hC : 1 ≤ x.ro ∧ x.ro ≤ 64 ∧ x.ha ≤ 64 ∧ upI N x.ro + upI (2 * N) x.ro ≤ x.ha ∧ N ≤ 4096 ∧ 249 ≤ x.by_ ∧ x.by_ ≤ 2048 := by
      rcases H5.out.2.2.2 with ⟨_, h⟩ | ⟨h1, h2⟩
      · exact absurd h hN
      · rcases HK.out.1 with h3 | ⟨_, h4, h5⟩
        · omega
        · have hc := h2.1 (N - 1) (by omega)
          have hbd := cap_bound h1 h4 h5 hc
          unfold capC at hc
          have e1 : ((N - 1 : Nat) : Int) + 1 = N := by omega
          have e2 : 2 * ((N - 1 : Nat) : Int) + 2 = 2 * N := by omega
          rw [e1, e2] at hc
          rcases HK.out.2 with h6 | h6
          · omega
          · exact ⟨h1, h4, h5, hc, by omega, h6⟩
    have HC := Aside.mk hC
    have hN4 : N ≤ 4096 := hC.2.2.2.2.1
    have hz1 : 249 ≤ x.by_ := hC.2.2.2.2.2.1
    have hz2 : x.by_ ≤ 2048 := hC.2.2.2.2.2.2
    clear hC
    obtain ⟨B5, hB5⟩ : ∃ B5, B5 = w5.heap.size := ⟨_, rfl⟩
    have HB5 := Aside.mk hB5
    have hl5 : w.heap.size ≤ B5 ∧ q3 < B5 := by rw [hB5]; exact ⟨H5.out.1.size, H5.out.2.2.1⟩
    have h0 : LayR w5 B5 x.by_ (.slice none 0 0) (.slice none 0 0) 0 [] [] w5 := ⟨rfl, rfl, fun _ h => by simp at h, fun _ h => by simp at h, Row.nil _ _ _ _, Row.nil _ _ _ _, fun _ h => by simp [Value.ownBlock] at h, Below.refl _ _⟩
    have HS0 := Aside.mk (And.intro h0 (show B5 ≤ w5.heap.size by omega))
    clear h0 hB5
    go_wp2_with fail
    go_loopw [10, 11, 12] (fun s10 s11 s12 wr => ∃ (k : Nat) (la lb : List Int), k ≤ N ∧ s12 = .int .i64 k ∧ Aside (LayR w5 B5 x.by_ s10 s11 k la lb wr ∧ B5 ≤ wr.heap.size)) (fun _ _ s12 _ => N - (intOf s12).toNat)
    case atStart => exact ⟨0, [], [], by omega, rfl, HS0⟩
    case round =>
      obtain ⟨k, la, lb, hkN, rfl, HJQ⟩ := hrel
      have HJ := Aside.mk HJQ.out.1
      have HQ := Aside.mk HJQ.out.2
      clear HJQ HS0
      by_cases hlt : k < N
      · have hki : (k : Int) < N := by omega
        have hk1 : IntKind.i64.wrap ((k : Int) + 1) = (k : Int) + 1 := by rw [IntKind.wrap_i64]; omega
        have t1 : (k : Int).tmod n = ((k % n : Nat) : Int) := by rw [Int.tmod_eq_emod_of_nonneg (by omega)]; simp
        have t2 : (k : Int).tmod m = ((k % m : Nat) : Int) := by rw [Int.tmod_eq_emod_of_nonneg (by omega)]; simp
        have i1 : k % n < n := Nat.mod_lt _ (by omega)
        have i2 : k % m < m := Nat.mod_lt _ (by omega)
        have t3 : IntKind.i64.wrap ((k % n : Nat) : Int) = ((k % n : Nat) : Int) := by rw [IntKind.wrap_i64]; omega
        have t4 : IntKind.i64.wrap ((k % m : Nat) : Int) = ((k % m : Nat) : Int) := by rw [IntKind.wrap_i64]; omega
        generalize k % n = j1 at *
        generalize k % m = j2 at *
        obtain ⟨g1, o1, rfl, hc1⟩ := HRA.out.cells i1
        obtain ⟨g2, o2, rfl, hc2⟩ := HRB.out.cells i2
        have hbw := H5.out.1.trans (HJ.out.bel.mono hl5.1)
        have e1 := hc1 w.heap.size wr (Nat.le_refl _) hbw
        have e2 := hc2 w.heap.size wr (Nat.le_refl _) hbw
        have e3 := hc1 w.heap.size wr.drew (Nat.le_refl _) hbw.drew
        have e4 := hc2 w.heap.size wr.drew (Nat.le_refl _) hbw.drew
        have hkp := (HJ.out.bel.block q3 hl5.2).trans H5.out.2.1
        have p3 := cell_of_row wr _ 3 _ _ _ hkp
        simp only [List.getElem?_cons_zero, List.getElem?_cons_succ, List.getElem?_toArray] at p3
        clear hc1 hc2 hbw hkp
        generalize ks.getD j1 0 = y at *
        generalize bs.getD j2 0 = z at *
        generalize x.by_ = pa at *
        go_upto_region 12 with go_region
        have HJd : LayR w5 B5 pa u10 u11 k la lb wr.drew := ⟨HJ.out.na, HJ.out.nb, HJ.out.ga, HJ.out.gb, HJ.out.ra.drew, HJ.out.rb.drew, HJ.out.dj, HJ.out.bel.drew⟩
        have HQd : B5 ≤ wr.drew.heap.size := HQ.out
        have p3d : wr.drew.cell? ⟨q3, 3, none⟩ = some (.int .i64 pa) := p3
        have HJ := Aside.mk HJd
        have HQ := Aside.mk HQd
        clear e1 e2 e3 e4 p3 HJd HQd
        generalize wr.drew = wd at *
        have HY : y < 1 ∨ (¬ y < 1 ∧ 64 < y) ∨ (¬ y < 1 ∧ ¬ 64 < y) := by omega
        have HZ : z < 1 ∨ (¬ z < 1 ∧ pa < z) ∨ (¬ z < 1 ∧ ¬ pa < z) := by omega
        rcases HY with h1 | ⟨h1, h2⟩ | ⟨h1, h2⟩ <;> rcases HZ with h3 | ⟨h3, h4⟩ | ⟨h3, h4⟩
        all_goals
          go_wp2_with (first | (at_builtin; refine wpList_append_one (w0 := w5) B5 rfl _ _ 37 3 1 8 (.int .i64 0) rfl Try.underlying37 infoInt rfl (by decide) u10 k _ _ rfl rfl rfl HJ.out.ra (by simp [Value.oneCell']) HJ.out.bel HQ.out (by omega) (by simp only [maxLen]; omega) ?_; intro v1 w6 hr1 hb1 hg1 hat1; have hrb6 := HJ.out.dj.symm.row HJ.out.rb hg1; have hdj6 := HJ.out.dj.symm.new HJ.out.rb hat1; have hs6 := Nat.le_trans HQ.out hg1.size; have H6 := Aside.mk (And.intro hr1 (And.intro hb1 (And.intro hrb6 (And.intro hdj6 hs6)))); clear hr1 hb1 hg1 hat1 hrb6 hdj6 hs6) | (at_builtin; refine wpList_append_one (w0 := w5) B5 rfl _ _ 37 3 1 8 (.int .i64 0) rfl Try.underlying37 infoInt rfl (by decide) u11 k _ _ rfl rfl rfl H6.out.2.2.1 (by simp [Value.oneCell']) H6.out.2.1 H6.out.2.2.2.2 (by omega) (by simp only [maxLen]; omega) ?_; intro v2 w7 hr2 hb2 hg2 hat2; have hra7 := H6.out.2.2.2.1.symm.row H6.out.1 hg2; have hdj7 := H6.out.2.2.2.1.symm.new H6.out.1 hat2; have hs7 := Nat.le_trans H6.out.2.2.2.2 hg2.size; have H7 := Aside.mk (And.intro (And.intro hra7 (And.intro hr2 (And.intro hdj7 hb2))) hs7); clear hr2 hb2 hg2 hat2 hra7 hdj7 hs7))
          go_roundw
          case rel => refine ⟨_, _, _, ?_, rfl, rfl, rfl⟩; exact ⟨k + 1, by omega, by go_num, _, _, ⟨HJ.out.next H7.out.1.1 H7.out.1.2.1 H7.out.1.2.2.1 H7.out.1.2.2.2 (by omega) (by omega) (by omega) (by omega), H7.out.2⟩⟩
          case measure => simp [intOf]; omega
      · obtain rfl : k = N := by omega
        have hkp := (HJ.out.bel.block q3 hl5.2).trans H5.out.2.1
        have hro := HC.out.1
        have hup := HC.out.2.2.2.1
        obtain ⟨A1, c1, hx1, hq1, hd1, hd2, hR1⟩ := HJ.out.ra.readInts
        obtain ⟨A2, c2, hx2, hq2, hd3, hd4, hR2⟩ := HJ.out.rb.readInts
        obtain ⟨g1, o1, c1', hy1, _, _, _, _⟩ := HJ.out.ra.form (by omega)
        obtain ⟨g2, o2, c2', hy2, _, _, _, _⟩ := HJ.out.rb.form (by omega)
        have hA1 := hx1.symm.trans hy1
        have hA2 := hx2.symm.trans hy2
        injection hA1 with hA1 _ hA1'
        injection hA2 with hA2 _ hA2'
        subst hA1' hA2' hA1 hA2 hx1 hx2
        clear hy1 hy2 hq1 hq2
        have hna := HJ.out.na
        have hnb := HJ.out.nb
        have hga := HJ.out.ga
        have hgb : GoodTo x.by_ (fun i => lb.getD i 0) k := fun i hi => by
          show 1 ≤ lb.getD i 0 ∧ lb.getD i 0 ≤ x.by_
          rw [List.getD_eq_getElem?_getD, List.getElem?_eq_getElem (show i < lb.length by omega)]
          exact HJ.out.gb _ (List.getElem_mem _)
        obtain ⟨h, hh⟩ : ∃ h, h = k / 2 := ⟨_, rfl⟩
        have hh1 : h ≤ k := by omega
        have hlh : h = (la.take h).length := by rw [List.length_take]; omega
        have hgh : Good64 (la.take h) := fun y hy => hga y (List.mem_of_mem_take hy)
        have hgb2 : GoodTo x.by_ (fun i => (lb.take h).getD i 0) h := fun i hi => by
          have := hgb i (by omega)
          show 1 ≤ (lb.take h).getD i 0 ∧ (lb.take h).getD i 0 ≤ x.by_
          rw [List.getD_eq_getElem?_getD, List.getElem?_take, if_pos hi]
          exact this
        have hR1h : Rd wr (some ⟨g1, o1, none⟩) h (fun i => .int .i64 ((la.take h).getD i 0)) := fun i hi => by
          obtain ⟨b, off, h1, h2, h3⟩ := hR1 i (by omega)
          refine ⟨b, off, h1, h2, h3.trans ?_⟩
          show some (Value.int .i64 (la.getD i 0)) = some (Value.int .i64 ((la.take h).getD i 0))
          rw [List.getD_eq_getElem?_getD, List.getD_eq_getElem?_getD, List.getElem?_take, if_pos hi]
        have hR2h : Rd wr (some ⟨g2, o2, none⟩) h (fun i => .int .i64 ((lb.take h).getD i 0)) := fun i hi => by
          obtain ⟨b, off, h1, h2, h3⟩ := hR2 i (by omega)
          refine ⟨b, off, h1, h2, h3.trans ?_⟩
          show some (Value.int .i64 (lb.getD i 0)) = some (Value.int .i64 ((lb.take h).getD i 0))
          rw [List.getD_eq_getElem?_getD, List.getD_eq_getElem?_getD, List.getElem?_take, if_pos hi]
        have hup2 : upI h x.ro + upI (2 * h) x.ro ≤ x.ha := by
          have e1 := upI_mono hro (show (h : Int) ≤ k by omega)
          have e2 := upI_mono hro (show (2 * h : Int) ≤ 2 * k by omega)
          omega
        have HF1 : Aside (∀ W, Below wr.heap.size wr W → Calls Try.prog 11 #[x.v, .slice (some ⟨g1, o1, none⟩) k c1, .slice (some ⟨g2, o2, none⟩) k c2] W fun e w' => e = .returned (.bool true) ∧ Below W.heap.size W w') := ⟨fun W hW => space_fits x _ _ k c1 c2 la lb W hna hN4 hd1 hd2 hd3 hd4 hro HC.out.2.1 hz1 hz2 hga hgb (hR1.below (Nat.le_refl _) hW) (hR2.below (Nat.le_refl _) hW) hup⟩
        have HF2 : Aside (∀ W, Below wr.heap.size wr W → Calls Try.prog 11 #[x.v, .slice (some ⟨g1, o1, none⟩) h c1, .slice (some ⟨g2, o2, none⟩) h c2] W fun e w' => e = .returned (.bool true) ∧ Below W.heap.size W w') := ⟨fun W hW => space_fits x _ _ h c1 c2 (la.take h) (lb.take h) W hlh (by omega) (by omega) hd2 (by omega) hd4 hro HC.out.2.1 hz1 hz2 hgh hgb2 (hR1h.below (Nat.le_refl _) hW) (hR2h.below (Nat.le_refl _) hW) hup2⟩
        unfold PlanT.v at HF1 HF2
        have HB := Aside.mk (H5.out.1.trans (HJ.out.bel.mono hl5.1))
        have HP := Aside.mk hkp
        have q1 : (k : Int).tdiv 2 = (h : Int) := by rw [Int.tdiv_eq_ediv_of_nonneg (by omega)]; omega
        have q2 : IntKind.i64.wrap (h : Int) = (h : Int) := by rw [IntKind.wrap_i64]; omega
        have HQ1 := Aside.mk (And.intro q1 q2)
        have HS1 := Aside.mk (fun W => cut_to (P := Try.prog) 37 3 rfl (by kernel_rfl) g1 o1 k c1 h (by omega) W)
        have HS2 := Aside.mk (fun W => cut_to (P := Try.prog) 37 3 rfl (by kernel_rfl) g2 o2 k c2 h (by omega) W)
        have hki : ¬ (k : Int) < k := by omega
        clear q1 q2 hkp hro hup hR1 hR2 hna hnb hga hgb hh hlh hgh hgb2 hR1h hR2h hup2 HJ HQ HRA HRB HC HK H5 HB5
        go_upto_region 17 with fail
        refine wp_region_r 15 (by kernel_rfl) (by kernel_rfl) (rel_small (by kernel_rfl)) (chgV (fun _ => False) (fun _ => True) [(79, .val (.agg #[.int .i64 x.jo, .int .i64 x.ha, .int .i64 x.ro, .int .i64 x.by_, .int .i64 x.si])), (80, .val (.slice (some ⟨g1, o1, none⟩) k c1)), (81, .val (.slice (some ⟨g2, o2, none⟩) k c2)), (82, .val (.bool true)), (83, .val (.bool true)), (84, .val (.agg #[.int .i64 x.jo, .int .i64 x.ha, .int .i64 x.ro, .int .i64 x.by_, .int .i64 x.si])), (85, .val (.slice (some ⟨g1, o1, none⟩) k c1)), (86, .val (.int .i64 k)), (87, .val (.int .i64 h)), (88, .val (.slice (some ⟨g1, o1, none⟩) h c1)), (89, .val (.slice (some ⟨g2, o2, none⟩) k c2)), (90, .val (.int .i64 k)), (91, .val (.int .i64 h)), (92, .val (.slice (some ⟨g2, o2, none⟩) h c2)), (93, .val (.bool true))]) (Chg (fun _ => False) (fun _ => True)) (chg_drew _ _ _ (id)) Chg.refl (fun _ _ _ => Chg.trans) (chgV_stable _ _ _) ⟨?_, ?_, ?_, ?_, ?_, ?_, ?_, ?_, ?_, ?_, ?_, ?_, ?_, ?_, ?_, trivial⟩ ?_
        · -- 79 := load 25 t7
          intro f W hW hold hd K hK
          refine .inl ⟨wanted_free rfl _, ?_⟩
          dsimp only [bare]
          have ze7 : f 7 = .pointer (some ⟨q3, 0, none⟩) := hold 7 rfl
          have HK : ∀ v W', Chg (fun _ => False) (fun _ => True) W W' → chgV (fun _ => False) (fun _ => True) _ 79 v W' → K { tmps := #[f 0, f 1, f 2, f 3, f 4, f 5, f 6, f 7, f 8, f 9, f 10, f 11, f 12, f 13, f 14, f 15, f 16, f 17, f 18, f 19, f 20, f 21, f 22, f 23, f 24, f 25, f 26, f 27, f 28, f 29, f 30, f 31, f 32, f 33, f 34, f 35, f 36, f 37, f 38, f 39, f 40, f 41, f 42, f 43, f 44, f 45, f 46, f 47, f 48, f 49, f 50, f 51, f 52, f 53, f 54, f 55, f 56, f 57, f 58, f 59, f 60, f 61, f 62, f 63, f 64, f 65, f 66, f 67, f 68, f 69, f 70, f 71, f 72, f 73, f 74, f 75, f 76, f 77, f 78, v, f 80, f 81, f 82, f 83, f 84, f 85, f 86, f 87, f 88, f 89, f 90, f 91, f 92, f 93, f 94], defers := [] } W' := hK
          change wpList _ #[_] _ [_] { tmps := #[f 0, f 1, f 2, f 3, f 4, f 5, f 6, f 7, f 8, f 9, f 10, f 11, f 12, f 13, f 14, f 15, f 16, f 17, f 18, f 19, f 20, f 21, f 22, f 23, f 24, f 25, f 26, f 27, f 28, f 29, f 30, f 31, f 32, f 33, f 34, f 35, f 36, f 37, f 38, f 39, f 40, f 41, f 42, f 43, f 44, f 45, f 46, f 47, f 48, f 49, f 50, f 51, f 52, f 53, f 54, f 55, f 56, f 57, f 58, f 59, f 60, f 61, f 62, f 63, f 64, f 65, f 66, f 67, f 68, f 69, f 70, f 71, f 72, f 73, f 74, f 75, f 76, f 77, f 78, f 79, f 80, f 81, f 82, f 83, f 84, f 85, f 86, f 87, f 88, f 89, f 90, f 91, f 92, f 93, f 94], defers := [] } W
          clear hK hd hold
          simp only [ze7] at HK ⊢
          clear ze7
          have HK := Aside.mk HK
          have hh := hW.blk HP.out id; have z0 := cell_of_row W q3 0 _ _ _ hh; have z1 := cell_of_row W q3 1 _ _ _ hh; have z2 := cell_of_row W q3 2 _ _ _ hh; have z3 := cell_of_row W q3 3 _ _ _ hh; have z4 := cell_of_row W q3 4 _ _ _ hh; clear hh
          go_wp2
          exact HK.out _ _ (Chg.refl _) rfl
        · -- 80 := move t10
          intro f W hW hold hd K hK
          refine .inl ⟨wanted_free rfl _, ?_⟩
          dsimp only [bare]
          have ze10 : f 10 = .slice (some ⟨g1, o1, none⟩) k c1 := hold 10 rfl
          have HK : ∀ v W', Chg (fun _ => False) (fun _ => True) W W' → chgV (fun _ => False) (fun _ => True) _ 80 v W' → K { tmps := #[f 0, f 1, f 2, f 3, f 4, f 5, f 6, f 7, f 8, f 9, f 10, f 11, f 12, f 13, f 14, f 15, f 16, f 17, f 18, f 19, f 20, f 21, f 22, f 23, f 24, f 25, f 26, f 27, f 28, f 29, f 30, f 31, f 32, f 33, f 34, f 35, f 36, f 37, f 38, f 39, f 40, f 41, f 42, f 43, f 44, f 45, f 46, f 47, f 48, f 49, f 50, f 51, f 52, f 53, f 54, f 55, f 56, f 57, f 58, f 59, f 60, f 61, f 62, f 63, f 64, f 65, f 66, f 67, f 68, f 69, f 70, f 71, f 72, f 73, f 74, f 75, f 76, f 77, f 78, f 79, v, f 81, f 82, f 83, f 84, f 85, f 86, f 87, f 88, f 89, f 90, f 91, f 92, f 93, f 94], defers := [] } W' := hK
          change wpList _ #[_] _ [_] { tmps := #[f 0, f 1, f 2, f 3, f 4, f 5, f 6, f 7, f 8, f 9, f 10, f 11, f 12, f 13, f 14, f 15, f 16, f 17, f 18, f 19, f 20, f 21, f 22, f 23, f 24, f 25, f 26, f 27, f 28, f 29, f 30, f 31, f 32, f 33, f 34, f 35, f 36, f 37, f 38, f 39, f 40, f 41, f 42, f 43, f 44, f 45, f 46, f 47, f 48, f 49, f 50, f 51, f 52, f 53, f 54, f 55, f 56, f 57, f 58, f 59, f 60, f 61, f 62, f 63, f 64, f 65, f 66, f 67, f 68, f 69, f 70, f 71, f 72, f 73, f 74, f 75, f 76, f 77, f 78, f 79, f 80, f 81, f 82, f 83, f 84, f 85, f 86, f 87, f 88, f 89, f 90, f 91, f 92, f 93, f 94], defers := [] } W
          clear hK hd hold
          simp only [ze10] at HK ⊢
          clear ze10
          have HK := Aside.mk HK
          go_wp2
          exact HK.out _ _ (Chg.refl _) rfl
        · -- 81 := move t11
          intro f W hW hold hd K hK
          refine .inl ⟨wanted_free rfl _, ?_⟩
          dsimp only [bare]
          have ze11 : f 11 = .slice (some ⟨g2, o2, none⟩) k c2 := hold 11 rfl
          have HK : ∀ v W', Chg (fun _ => False) (fun _ => True) W W' → chgV (fun _ => False) (fun _ => True) _ 81 v W' → K { tmps := #[f 0, f 1, f 2, f 3, f 4, f 5, f 6, f 7, f 8, f 9, f 10, f 11, f 12, f 13, f 14, f 15, f 16, f 17, f 18, f 19, f 20, f 21, f 22, f 23, f 24, f 25, f 26, f 27, f 28, f 29, f 30, f 31, f 32, f 33, f 34, f 35, f 36, f 37, f 38, f 39, f 40, f 41, f 42, f 43, f 44, f 45, f 46, f 47, f 48, f 49, f 50, f 51, f 52, f 53, f 54, f 55, f 56, f 57, f 58, f 59, f 60, f 61, f 62, f 63, f 64, f 65, f 66, f 67, f 68, f 69, f 70, f 71, f 72, f 73, f 74, f 75, f 76, f 77, f 78, f 79, f 80, v, f 82, f 83, f 84, f 85, f 86, f 87, f 88, f 89, f 90, f 91, f 92, f 93, f 94], defers := [] } W' := hK
          change wpList _ #[_] _ [_] { tmps := #[f 0, f 1, f 2, f 3, f 4, f 5, f 6, f 7, f 8, f 9, f 10, f 11, f 12, f 13, f 14, f 15, f 16, f 17, f 18, f 19, f 20, f 21, f 22, f 23, f 24, f 25, f 26, f 27, f 28, f 29, f 30, f 31, f 32, f 33, f 34, f 35, f 36, f 37, f 38, f 39, f 40, f 41, f 42, f 43, f 44, f 45, f 46, f 47, f 48, f 49, f 50, f 51, f 52, f 53, f 54, f 55, f 56, f 57, f 58, f 59, f 60, f 61, f 62, f 63, f 64, f 65, f 66, f 67, f 68, f 69, f 70, f 71, f 72, f 73, f 74, f 75, f 76, f 77, f 78, f 79, f 80, f 81, f 82, f 83, f 84, f 85, f 86, f 87, f 88, f 89, f 90, f 91, f 92, f 93, f 94], defers := [] } W
          clear hK hd hold
          simp only [ze11] at HK ⊢
          clear ze11
          have HK := Aside.mk HK
          go_wp2
          exact HK.out _ _ (Chg.refl _) rfl
        · -- 82 := CALL f11 (chert/space.Plan).Fits [t79, t80, t81] : [25, 37, 37]
          intro f W hW hold hd K hK
          refine .inl ⟨wanted_free rfl _, ?_⟩
          dsimp only [bare]
          have ze79 : f 79 = .agg #[.int .i64 x.jo, .int .i64 x.ha, .int .i64 x.ro, .int .i64 x.by_, .int .i64 x.si] := hd 79 rfl rfl
          have ze80 : f 80 = .slice (some ⟨g1, o1, none⟩) k c1 := hd 80 rfl rfl
          have ze81 : f 81 = .slice (some ⟨g2, o2, none⟩) k c2 := hd 81 rfl rfl
          have HK : ∀ v W', Chg (fun _ => False) (fun _ => True) W W' → chgV (fun _ => False) (fun _ => True) _ 82 v W' → K { tmps := #[f 0, f 1, f 2, f 3, f 4, f 5, f 6, f 7, f 8, f 9, f 10, f 11, f 12, f 13, f 14, f 15, f 16, f 17, f 18, f 19, f 20, f 21, f 22, f 23, f 24, f 25, f 26, f 27, f 28, f 29, f 30, f 31, f 32, f 33, f 34, f 35, f 36, f 37, f 38, f 39, f 40, f 41, f 42, f 43, f 44, f 45, f 46, f 47, f 48, f 49, f 50, f 51, f 52, f 53, f 54, f 55, f 56, f 57, f 58, f 59, f 60, f 61, f 62, f 63, f 64, f 65, f 66, f 67, f 68, f 69, f 70, f 71, f 72, f 73, f 74, f 75, f 76, f 77, f 78, f 79, f 80, f 81, v, f 83, f 84, f 85, f 86, f 87, f 88, f 89, f 90, f 91, f 92, f 93, f 94], defers := [] } W' := hK
          change wpList _ #[_] _ [_] { tmps := #[f 0, f 1, f 2, f 3, f 4, f 5, f 6, f 7, f 8, f 9, f 10, f 11, f 12, f 13, f 14, f 15, f 16, f 17, f 18, f 19, f 20, f 21, f 22, f 23, f 24, f 25, f 26, f 27, f 28, f 29, f 30, f 31, f 32, f 33, f 34, f 35, f 36, f 37, f 38, f 39, f 40, f 41, f 42, f 43, f 44, f 45, f 46, f 47, f 48, f 49, f 50, f 51, f 52, f 53, f 54, f 55, f 56, f 57, f 58, f 59, f 60, f 61, f 62, f 63, f 64, f 65, f 66, f 67, f 68, f 69, f 70, f 71, f 72, f 73, f 74, f 75, f 76, f 77, f 78, f 79, f 80, f 81, f 82, f 83, f 84, f 85, f 86, f 87, f 88, f 89, f 90, f 91, f 92, f 93, f 94], defers := [] } W
          clear hK hd hold
          simp only [ze79, ze80, ze81] at HK ⊢
          clear ze79 ze80 ze81
          have HK := Aside.mk HK
          go_wp2_with (go_at_call 11; refine (HF1.out W hW.bel).mono ?_; rintro e' w6 ⟨rfl, hb6⟩)
          exact HK.out _ _ (Chg.of_below hb6 id) rfl
        · -- 83 := move t82
          intro f W hW hold hd K hK
          refine .inl ⟨wanted_free rfl _, ?_⟩
          dsimp only [bare]
          have ze82 : f 82 = .bool true := hd 82 rfl rfl
          have HK : ∀ v W', Chg (fun _ => False) (fun _ => True) W W' → chgV (fun _ => False) (fun _ => True) _ 83 v W' → K { tmps := #[f 0, f 1, f 2, f 3, f 4, f 5, f 6, f 7, f 8, f 9, f 10, f 11, f 12, f 13, f 14, f 15, f 16, f 17, f 18, f 19, f 20, f 21, f 22, f 23, f 24, f 25, f 26, f 27, f 28, f 29, f 30, f 31, f 32, f 33, f 34, f 35, f 36, f 37, f 38, f 39, f 40, f 41, f 42, f 43, f 44, f 45, f 46, f 47, f 48, f 49, f 50, f 51, f 52, f 53, f 54, f 55, f 56, f 57, f 58, f 59, f 60, f 61, f 62, f 63, f 64, f 65, f 66, f 67, f 68, f 69, f 70, f 71, f 72, f 73, f 74, f 75, f 76, f 77, f 78, f 79, f 80, f 81, f 82, v, f 84, f 85, f 86, f 87, f 88, f 89, f 90, f 91, f 92, f 93, f 94], defers := [] } W' := hK
          change wpList _ #[_] _ [_] { tmps := #[f 0, f 1, f 2, f 3, f 4, f 5, f 6, f 7, f 8, f 9, f 10, f 11, f 12, f 13, f 14, f 15, f 16, f 17, f 18, f 19, f 20, f 21, f 22, f 23, f 24, f 25, f 26, f 27, f 28, f 29, f 30, f 31, f 32, f 33, f 34, f 35, f 36, f 37, f 38, f 39, f 40, f 41, f 42, f 43, f 44, f 45, f 46, f 47, f 48, f 49, f 50, f 51, f 52, f 53, f 54, f 55, f 56, f 57, f 58, f 59, f 60, f 61, f 62, f 63, f 64, f 65, f 66, f 67, f 68, f 69, f 70, f 71, f 72, f 73, f 74, f 75, f 76, f 77, f 78, f 79, f 80, f 81, f 82, f 83, f 84, f 85, f 86, f 87, f 88, f 89, f 90, f 91, f 92, f 93, f 94], defers := [] } W
          clear hK hd hold
          simp only [ze82] at HK ⊢
          clear ze82
          have HK := Aside.mk HK
          go_wp2
          exact HK.out _ _ (Chg.refl _) rfl
        · -- 84 := load 25 t7
          intro f W hW hold hd K hK
          have zg : f 83 = .bool true := hd 83 rfl rfl
          refine .inl ⟨wanted_of (g := 4) (t := 83) (by kernel_rfl) (by kernel_rfl) (of_decide_eq_true (by kernel_rfl)) zg, ?_⟩
          clear zg
          dsimp only [bare]
          have ze7 : f 7 = .pointer (some ⟨q3, 0, none⟩) := hold 7 rfl
          have HK : ∀ v W', Chg (fun _ => False) (fun _ => True) W W' → chgV (fun _ => False) (fun _ => True) _ 84 v W' → K { tmps := #[f 0, f 1, f 2, f 3, f 4, f 5, f 6, f 7, f 8, f 9, f 10, f 11, f 12, f 13, f 14, f 15, f 16, f 17, f 18, f 19, f 20, f 21, f 22, f 23, f 24, f 25, f 26, f 27, f 28, f 29, f 30, f 31, f 32, f 33, f 34, f 35, f 36, f 37, f 38, f 39, f 40, f 41, f 42, f 43, f 44, f 45, f 46, f 47, f 48, f 49, f 50, f 51, f 52, f 53, f 54, f 55, f 56, f 57, f 58, f 59, f 60, f 61, f 62, f 63, f 64, f 65, f 66, f 67, f 68, f 69, f 70, f 71, f 72, f 73, f 74, f 75, f 76, f 77, f 78, f 79, f 80, f 81, f 82, f 83, v, f 85, f 86, f 87, f 88, f 89, f 90, f 91, f 92, f 93, f 94], defers := [] } W' := hK
          change wpList _ #[_] _ [_] { tmps := #[f 0, f 1, f 2, f 3, f 4, f 5, f 6, f 7, f 8, f 9, f 10, f 11, f 12, f 13, f 14, f 15, f 16, f 17, f 18, f 19, f 20, f 21, f 22, f 23, f 24, f 25, f 26, f 27, f 28, f 29, f 30, f 31, f 32, f 33, f 34, f 35, f 36, f 37, f 38, f 39, f 40, f 41, f 42, f 43, f 44, f 45, f 46, f 47, f 48, f 49, f 50, f 51, f 52, f 53, f 54, f 55, f 56, f 57, f 58, f 59, f 60, f 61, f 62, f 63, f 64, f 65, f 66, f 67, f 68, f 69, f 70, f 71, f 72, f 73, f 74, f 75, f 76, f 77, f 78, f 79, f 80, f 81, f 82, f 83, f 84, f 85, f 86, f 87, f 88, f 89, f 90, f 91, f 92, f 93, f 94], defers := [] } W
          clear hK hd hold
          simp only [ze7] at HK ⊢
          clear ze7
          have HK := Aside.mk HK
          have hh := hW.blk HP.out id; have z0 := cell_of_row W q3 0 _ _ _ hh; have z1 := cell_of_row W q3 1 _ _ _ hh; have z2 := cell_of_row W q3 2 _ _ _ hh; have z3 := cell_of_row W q3 3 _ _ _ hh; have z4 := cell_of_row W q3 4 _ _ _ hh; clear hh
          go_wp2
          exact HK.out _ _ (Chg.refl _) rfl
        · -- 85 := move t10
          intro f W hW hold hd K hK
          have zg : f 83 = .bool true := hd 83 rfl rfl
          refine .inl ⟨wanted_of (g := 4) (t := 83) (by kernel_rfl) (by kernel_rfl) (of_decide_eq_true (by kernel_rfl)) zg, ?_⟩
          clear zg
          dsimp only [bare]
          have ze10 : f 10 = .slice (some ⟨g1, o1, none⟩) k c1 := hold 10 rfl
          have HK : ∀ v W', Chg (fun _ => False) (fun _ => True) W W' → chgV (fun _ => False) (fun _ => True) _ 85 v W' → K { tmps := #[f 0, f 1, f 2, f 3, f 4, f 5, f 6, f 7, f 8, f 9, f 10, f 11, f 12, f 13, f 14, f 15, f 16, f 17, f 18, f 19, f 20, f 21, f 22, f 23, f 24, f 25, f 26, f 27, f 28, f 29, f 30, f 31, f 32, f 33, f 34, f 35, f 36, f 37, f 38, f 39, f 40, f 41, f 42, f 43, f 44, f 45, f 46, f 47, f 48, f 49, f 50, f 51, f 52, f 53, f 54, f 55, f 56, f 57, f 58, f 59, f 60, f 61, f 62, f 63, f 64, f 65, f 66, f 67, f 68, f 69, f 70, f 71, f 72, f 73, f 74, f 75, f 76, f 77, f 78, f 79, f 80, f 81, f 82, f 83, f 84, v, f 86, f 87, f 88, f 89, f 90, f 91, f 92, f 93, f 94], defers := [] } W' := hK
          change wpList _ #[_] _ [_] { tmps := #[f 0, f 1, f 2, f 3, f 4, f 5, f 6, f 7, f 8, f 9, f 10, f 11, f 12, f 13, f 14, f 15, f 16, f 17, f 18, f 19, f 20, f 21, f 22, f 23, f 24, f 25, f 26, f 27, f 28, f 29, f 30, f 31, f 32, f 33, f 34, f 35, f 36, f 37, f 38, f 39, f 40, f 41, f 42, f 43, f 44, f 45, f 46, f 47, f 48, f 49, f 50, f 51, f 52, f 53, f 54, f 55, f 56, f 57, f 58, f 59, f 60, f 61, f 62, f 63, f 64, f 65, f 66, f 67, f 68, f 69, f 70, f 71, f 72, f 73, f 74, f 75, f 76, f 77, f 78, f 79, f 80, f 81, f 82, f 83, f 84, f 85, f 86, f 87, f 88, f 89, f 90, f 91, f 92, f 93, f 94], defers := [] } W
          clear hK hd hold
          simp only [ze10] at HK ⊢
          clear ze10
          have HK := Aside.mk HK
          go_wp2
          exact HK.out _ _ (Chg.refl _) rfl
        · -- 86 := move t9
          intro f W hW hold hd K hK
          have zg : f 83 = .bool true := hd 83 rfl rfl
          refine .inl ⟨wanted_of (g := 4) (t := 83) (by kernel_rfl) (by kernel_rfl) (of_decide_eq_true (by kernel_rfl)) zg, ?_⟩
          clear zg
          dsimp only [bare]
          have ze9 : f 9 = .int .i64 k := hold 9 rfl
          have HK : ∀ v W', Chg (fun _ => False) (fun _ => True) W W' → chgV (fun _ => False) (fun _ => True) _ 86 v W' → K { tmps := #[f 0, f 1, f 2, f 3, f 4, f 5, f 6, f 7, f 8, f 9, f 10, f 11, f 12, f 13, f 14, f 15, f 16, f 17, f 18, f 19, f 20, f 21, f 22, f 23, f 24, f 25, f 26, f 27, f 28, f 29, f 30, f 31, f 32, f 33, f 34, f 35, f 36, f 37, f 38, f 39, f 40, f 41, f 42, f 43, f 44, f 45, f 46, f 47, f 48, f 49, f 50, f 51, f 52, f 53, f 54, f 55, f 56, f 57, f 58, f 59, f 60, f 61, f 62, f 63, f 64, f 65, f 66, f 67, f 68, f 69, f 70, f 71, f 72, f 73, f 74, f 75, f 76, f 77, f 78, f 79, f 80, f 81, f 82, f 83, f 84, f 85, v, f 87, f 88, f 89, f 90, f 91, f 92, f 93, f 94], defers := [] } W' := hK
          change wpList _ #[_] _ [_] { tmps := #[f 0, f 1, f 2, f 3, f 4, f 5, f 6, f 7, f 8, f 9, f 10, f 11, f 12, f 13, f 14, f 15, f 16, f 17, f 18, f 19, f 20, f 21, f 22, f 23, f 24, f 25, f 26, f 27, f 28, f 29, f 30, f 31, f 32, f 33, f 34, f 35, f 36, f 37, f 38, f 39, f 40, f 41, f 42, f 43, f 44, f 45, f 46, f 47, f 48, f 49, f 50, f 51, f 52, f 53, f 54, f 55, f 56, f 57, f 58, f 59, f 60, f 61, f 62, f 63, f 64, f 65, f 66, f 67, f 68, f 69, f 70, f 71, f 72, f 73, f 74, f 75, f 76, f 77, f 78, f 79, f 80, f 81, f 82, f 83, f 84, f 85, f 86, f 87, f 88, f 89, f 90, f 91, f 92, f 93, f 94], defers := [] } W
          clear hK hd hold
          simp only [ze9] at HK ⊢
          clear ze9
          have HK := Aside.mk HK
          go_wp2
          exact HK.out _ _ (Chg.refl _) rfl
        · -- 87 := binOp quo 3 t86 <i64 2> 3
          intro f W hW hold hd K hK
          have zg : f 83 = .bool true := hd 83 rfl rfl
          refine .inl ⟨wanted_of (g := 4) (t := 83) (by kernel_rfl) (by kernel_rfl) (of_decide_eq_true (by kernel_rfl)) zg, ?_⟩
          clear zg
          dsimp only [bare]
          have ze86 : f 86 = .int .i64 k := hd 86 rfl rfl
          have HK : ∀ v W', Chg (fun _ => False) (fun _ => True) W W' → chgV (fun _ => False) (fun _ => True) _ 87 v W' → K { tmps := #[f 0, f 1, f 2, f 3, f 4, f 5, f 6, f 7, f 8, f 9, f 10, f 11, f 12, f 13, f 14, f 15, f 16, f 17, f 18, f 19, f 20, f 21, f 22, f 23, f 24, f 25, f 26, f 27, f 28, f 29, f 30, f 31, f 32, f 33, f 34, f 35, f 36, f 37, f 38, f 39, f 40, f 41, f 42, f 43, f 44, f 45, f 46, f 47, f 48, f 49, f 50, f 51, f 52, f 53, f 54, f 55, f 56, f 57, f 58, f 59, f 60, f 61, f 62, f 63, f 64, f 65, f 66, f 67, f 68, f 69, f 70, f 71, f 72, f 73, f 74, f 75, f 76, f 77, f 78, f 79, f 80, f 81, f 82, f 83, f 84, f 85, f 86, v, f 88, f 89, f 90, f 91, f 92, f 93, f 94], defers := [] } W' := hK
          change wpList _ #[_] _ [_] { tmps := #[f 0, f 1, f 2, f 3, f 4, f 5, f 6, f 7, f 8, f 9, f 10, f 11, f 12, f 13, f 14, f 15, f 16, f 17, f 18, f 19, f 20, f 21, f 22, f 23, f 24, f 25, f 26, f 27, f 28, f 29, f 30, f 31, f 32, f 33, f 34, f 35, f 36, f 37, f 38, f 39, f 40, f 41, f 42, f 43, f 44, f 45, f 46, f 47, f 48, f 49, f 50, f 51, f 52, f 53, f 54, f 55, f 56, f 57, f 58, f 59, f 60, f 61, f 62, f 63, f 64, f 65, f 66, f 67, f 68, f 69, f 70, f 71, f 72, f 73, f 74, f 75, f 76, f 77, f 78, f 79, f 80, f 81, f 82, f 83, f 84, f 85, f 86, f 87, f 88, f 89, f 90, f 91, f 92, f 93, f 94], defers := [] } W
          clear hK hd hold
          simp only [ze86] at HK ⊢
          clear ze86
          have HK := Aside.mk HK
          have q1 := HQ1.out.1; have q2 := HQ1.out.2
          go_wp2
          exact HK.out _ _ (Chg.refl _) rfl
        · -- 88 := slice 37 t85 - t87 -
          intro f W hW hold hd K hK
          have zg : f 83 = .bool true := hd 83 rfl rfl
          refine .inl ⟨wanted_of (g := 4) (t := 83) (by kernel_rfl) (by kernel_rfl) (of_decide_eq_true (by kernel_rfl)) zg, ?_⟩
          clear zg
          dsimp only [bare]
          have ze85 : f 85 = .slice (some ⟨g1, o1, none⟩) k c1 := hd 85 rfl rfl
          have ze87 : f 87 = .int .i64 h := hd 87 rfl rfl
          have HK : ∀ v W', Chg (fun _ => False) (fun _ => True) W W' → chgV (fun _ => False) (fun _ => True) _ 88 v W' → K { tmps := #[f 0, f 1, f 2, f 3, f 4, f 5, f 6, f 7, f 8, f 9, f 10, f 11, f 12, f 13, f 14, f 15, f 16, f 17, f 18, f 19, f 20, f 21, f 22, f 23, f 24, f 25, f 26, f 27, f 28, f 29, f 30, f 31, f 32, f 33, f 34, f 35, f 36, f 37, f 38, f 39, f 40, f 41, f 42, f 43, f 44, f 45, f 46, f 47, f 48, f 49, f 50, f 51, f 52, f 53, f 54, f 55, f 56, f 57, f 58, f 59, f 60, f 61, f 62, f 63, f 64, f 65, f 66, f 67, f 68, f 69, f 70, f 71, f 72, f 73, f 74, f 75, f 76, f 77, f 78, f 79, f 80, f 81, f 82, f 83, f 84, f 85, f 86, f 87, v, f 89, f 90, f 91, f 92, f 93, f 94], defers := [] } W' := hK
          change wpList _ #[_] _ [_] { tmps := #[f 0, f 1, f 2, f 3, f 4, f 5, f 6, f 7, f 8, f 9, f 10, f 11, f 12, f 13, f 14, f 15, f 16, f 17, f 18, f 19, f 20, f 21, f 22, f 23, f 24, f 25, f 26, f 27, f 28, f 29, f 30, f 31, f 32, f 33, f 34, f 35, f 36, f 37, f 38, f 39, f 40, f 41, f 42, f 43, f 44, f 45, f 46, f 47, f 48, f 49, f 50, f 51, f 52, f 53, f 54, f 55, f 56, f 57, f 58, f 59, f 60, f 61, f 62, f 63, f 64, f 65, f 66, f 67, f 68, f 69, f 70, f 71, f 72, f 73, f 74, f 75, f 76, f 77, f 78, f 79, f 80, f 81, f 82, f 83, f 84, f 85, f 86, f 87, f 88, f 89, f 90, f 91, f 92, f 93, f 94], defers := [] } W
          clear hK hd hold
          simp only [ze85, ze87] at HK ⊢
          clear ze85 ze87
          have HK := Aside.mk HK
          have cz := HS1.out W
          go_wp2
          exact HK.out _ _ (Chg.refl _) rfl
        · -- 89 := move t11
          intro f W hW hold hd K hK
          have zg : f 83 = .bool true := hd 83 rfl rfl
          refine .inl ⟨wanted_of (g := 4) (t := 83) (by kernel_rfl) (by kernel_rfl) (of_decide_eq_true (by kernel_rfl)) zg, ?_⟩
          clear zg
          dsimp only [bare]
          have ze11 : f 11 = .slice (some ⟨g2, o2, none⟩) k c2 := hold 11 rfl
          have HK : ∀ v W', Chg (fun _ => False) (fun _ => True) W W' → chgV (fun _ => False) (fun _ => True) _ 89 v W' → K { tmps := #[f 0, f 1, f 2, f 3, f 4, f 5, f 6, f 7, f 8, f 9, f 10, f 11, f 12, f 13, f 14, f 15, f 16, f 17, f 18, f 19, f 20, f 21, f 22, f 23, f 24, f 25, f 26, f 27, f 28, f 29, f 30, f 31, f 32, f 33, f 34, f 35, f 36, f 37, f 38, f 39, f 40, f 41, f 42, f 43, f 44, f 45, f 46, f 47, f 48, f 49, f 50, f 51, f 52, f 53, f 54, f 55, f 56, f 57, f 58, f 59, f 60, f 61, f 62, f 63, f 64, f 65, f 66, f 67, f 68, f 69, f 70, f 71, f 72, f 73, f 74, f 75, f 76, f 77, f 78, f 79, f 80, f 81, f 82, f 83, f 84, f 85, f 86, f 87, f 88, v, f 90, f 91, f 92, f 93, f 94], defers := [] } W' := hK
          change wpList _ #[_] _ [_] { tmps := #[f 0, f 1, f 2, f 3, f 4, f 5, f 6, f 7, f 8, f 9, f 10, f 11, f 12, f 13, f 14, f 15, f 16, f 17, f 18, f 19, f 20, f 21, f 22, f 23, f 24, f 25, f 26, f 27, f 28, f 29, f 30, f 31, f 32, f 33, f 34, f 35, f 36, f 37, f 38, f 39, f 40, f 41, f 42, f 43, f 44, f 45, f 46, f 47, f 48, f 49, f 50, f 51, f 52, f 53, f 54, f 55, f 56, f 57, f 58, f 59, f 60, f 61, f 62, f 63, f 64, f 65, f 66, f 67, f 68, f 69, f 70, f 71, f 72, f 73, f 74, f 75, f 76, f 77, f 78, f 79, f 80, f 81, f 82, f 83, f 84, f 85, f 86, f 87, f 88, f 89, f 90, f 91, f 92, f 93, f 94], defers := [] } W
          clear hK hd hold
          simp only [ze11] at HK ⊢
          clear ze11
          have HK := Aside.mk HK
          go_wp2
          exact HK.out _ _ (Chg.refl _) rfl
        · -- 90 := move t9
          intro f W hW hold hd K hK
          have zg : f 83 = .bool true := hd 83 rfl rfl
          refine .inl ⟨wanted_of (g := 4) (t := 83) (by kernel_rfl) (by kernel_rfl) (of_decide_eq_true (by kernel_rfl)) zg, ?_⟩
          clear zg
          dsimp only [bare]
          have ze9 : f 9 = .int .i64 k := hold 9 rfl
          have HK : ∀ v W', Chg (fun _ => False) (fun _ => True) W W' → chgV (fun _ => False) (fun _ => True) _ 90 v W' → K { tmps := #[f 0, f 1, f 2, f 3, f 4, f 5, f 6, f 7, f 8, f 9, f 10, f 11, f 12, f 13, f 14, f 15, f 16, f 17, f 18, f 19, f 20, f 21, f 22, f 23, f 24, f 25, f 26, f 27, f 28, f 29, f 30, f 31, f 32, f 33, f 34, f 35, f 36, f 37, f 38, f 39, f 40, f 41, f 42, f 43, f 44, f 45, f 46, f 47, f 48, f 49, f 50, f 51, f 52, f 53, f 54, f 55, f 56, f 57, f 58, f 59, f 60, f 61, f 62, f 63, f 64, f 65, f 66, f 67, f 68, f 69, f 70, f 71, f 72, f 73, f 74, f 75, f 76, f 77, f 78, f 79, f 80, f 81, f 82, f 83, f 84, f 85, f 86, f 87, f 88, f 89, v, f 91, f 92, f 93, f 94], defers := [] } W' := hK
          change wpList _ #[_] _ [_] { tmps := #[f 0, f 1, f 2, f 3, f 4, f 5, f 6, f 7, f 8, f 9, f 10, f 11, f 12, f 13, f 14, f 15, f 16, f 17, f 18, f 19, f 20, f 21, f 22, f 23, f 24, f 25, f 26, f 27, f 28, f 29, f 30, f 31, f 32, f 33, f 34, f 35, f 36, f 37, f 38, f 39, f 40, f 41, f 42, f 43, f 44, f 45, f 46, f 47, f 48, f 49, f 50, f 51, f 52, f 53, f 54, f 55, f 56, f 57, f 58, f 59, f 60, f 61, f 62, f 63, f 64, f 65, f 66, f 67, f 68, f 69, f 70, f 71, f 72, f 73, f 74, f 75, f 76, f 77, f 78, f 79, f 80, f 81, f 82, f 83, f 84, f 85, f 86, f 87, f 88, f 89, f 90, f 91, f 92, f 93, f 94], defers := [] } W
          clear hK hd hold
          simp only [ze9] at HK ⊢
          clear ze9
          have HK := Aside.mk HK
          go_wp2
          exact HK.out _ _ (Chg.refl _) rfl
        · -- 91 := binOp quo 3 t90 <i64 2> 3
          intro f W hW hold hd K hK
          have zg : f 83 = .bool true := hd 83 rfl rfl
          refine .inl ⟨wanted_of (g := 4) (t := 83) (by kernel_rfl) (by kernel_rfl) (of_decide_eq_true (by kernel_rfl)) zg, ?_⟩
          clear zg
          dsimp only [bare]
          have ze90 : f 90 = .int .i64 k := hd 90 rfl rfl
          have HK : ∀ v W', Chg (fun _ => False) (fun _ => True) W W' → chgV (fun _ => False) (fun _ => True) _ 91 v W' → K { tmps := #[f 0, f 1, f 2, f 3, f 4, f 5, f 6, f 7, f 8, f 9, f 10, f 11, f 12, f 13, f 14, f 15, f 16, f 17, f 18, f 19, f 20, f 21, f 22, f 23, f 24, f 25, f 26, f 27, f 28, f 29, f 30, f 31, f 32, f 33, f 34, f 35, f 36, f 37, f 38, f 39, f 40, f 41, f 42, f 43, f 44, f 45, f 46, f 47, f 48, f 49, f 50, f 51, f 52, f 53, f 54, f 55, f 56, f 57, f 58, f 59, f 60, f 61, f 62, f 63, f 64, f 65, f 66, f 67, f 68, f 69, f 70, f 71, f 72, f 73, f 74, f 75, f 76, f 77, f 78, f 79, f 80, f 81, f 82, f 83, f 84, f 85, f 86, f 87, f 88, f 89, f 90, v, f 92, f 93, f 94], defers := [] } W' := hK
          change wpList _ #[_] _ [_] { tmps := #[f 0, f 1, f 2, f 3, f 4, f 5, f 6, f 7, f 8, f 9, f 10, f 11, f 12, f 13, f 14, f 15, f 16, f 17, f 18, f 19, f 20, f 21, f 22, f 23, f 24, f 25, f 26, f 27, f 28, f 29, f 30, f 31, f 32, f 33, f 34, f 35, f 36, f 37, f 38, f 39, f 40, f 41, f 42, f 43, f 44, f 45, f 46, f 47, f 48, f 49, f 50, f 51, f 52, f 53, f 54, f 55, f 56, f 57, f 58, f 59, f 60, f 61, f 62, f 63, f 64, f 65, f 66, f 67, f 68, f 69, f 70, f 71, f 72, f 73, f 74, f 75, f 76, f 77, f 78, f 79, f 80, f 81, f 82, f 83, f 84, f 85, f 86, f 87, f 88, f 89, f 90, f 91, f 92, f 93, f 94], defers := [] } W
          clear hK hd hold
          simp only [ze90] at HK ⊢
          clear ze90
          have HK := Aside.mk HK
          have q1 := HQ1.out.1; have q2 := HQ1.out.2
          go_wp2
          exact HK.out _ _ (Chg.refl _) rfl
        · -- 92 := slice 37 t89 - t91 -
          intro f W hW hold hd K hK
          have zg : f 83 = .bool true := hd 83 rfl rfl
          refine .inl ⟨wanted_of (g := 4) (t := 83) (by kernel_rfl) (by kernel_rfl) (of_decide_eq_true (by kernel_rfl)) zg, ?_⟩
          clear zg
          dsimp only [bare]
          have ze89 : f 89 = .slice (some ⟨g2, o2, none⟩) k c2 := hd 89 rfl rfl
          have ze91 : f 91 = .int .i64 h := hd 91 rfl rfl
          have HK : ∀ v W', Chg (fun _ => False) (fun _ => True) W W' → chgV (fun _ => False) (fun _ => True) _ 92 v W' → K { tmps := #[f 0, f 1, f 2, f 3, f 4, f 5, f 6, f 7, f 8, f 9, f 10, f 11, f 12, f 13, f 14, f 15, f 16, f 17, f 18, f 19, f 20, f 21, f 22, f 23, f 24, f 25, f 26, f 27, f 28, f 29, f 30, f 31, f 32, f 33, f 34, f 35, f 36, f 37, f 38, f 39, f 40, f 41, f 42, f 43, f 44, f 45, f 46, f 47, f 48, f 49, f 50, f 51, f 52, f 53, f 54, f 55, f 56, f 57, f 58, f 59, f 60, f 61, f 62, f 63, f 64, f 65, f 66, f 67, f 68, f 69, f 70, f 71, f 72, f 73, f 74, f 75, f 76, f 77, f 78, f 79, f 80, f 81, f 82, f 83, f 84, f 85, f 86, f 87, f 88, f 89, f 90, f 91, v, f 93, f 94], defers := [] } W' := hK
          change wpList _ #[_] _ [_] { tmps := #[f 0, f 1, f 2, f 3, f 4, f 5, f 6, f 7, f 8, f 9, f 10, f 11, f 12, f 13, f 14, f 15, f 16, f 17, f 18, f 19, f 20, f 21, f 22, f 23, f 24, f 25, f 26, f 27, f 28, f 29, f 30, f 31, f 32, f 33, f 34, f 35, f 36, f 37, f 38, f 39, f 40, f 41, f 42, f 43, f 44, f 45, f 46, f 47, f 48, f 49, f 50, f 51, f 52, f 53, f 54, f 55, f 56, f 57, f 58, f 59, f 60, f 61, f 62, f 63, f 64, f 65, f 66, f 67, f 68, f 69, f 70, f 71, f 72, f 73, f 74, f 75, f 76, f 77, f 78, f 79, f 80, f 81, f 82, f 83, f 84, f 85, f 86, f 87, f 88, f 89, f 90, f 91, f 92, f 93, f 94], defers := [] } W
          clear hK hd hold
          simp only [ze89, ze91] at HK ⊢
          clear ze89 ze91
          have HK := Aside.mk HK
          have cz := HS2.out W
          go_wp2
          exact HK.out _ _ (Chg.refl _) rfl
        · -- 93 := CALL f11 (chert/space.Plan).Fits [t84, t88, t92] : [25, 37, 37]
          intro f W hW hold hd K hK
          have zg : f 83 = .bool true := hd 83 rfl rfl
          refine .inl ⟨wanted_of (g := 4) (t := 83) (by kernel_rfl) (by kernel_rfl) (of_decide_eq_true (by kernel_rfl)) zg, ?_⟩
          clear zg
          dsimp only [bare]
          have ze84 : f 84 = .agg #[.int .i64 x.jo, .int .i64 x.ha, .int .i64 x.ro, .int .i64 x.by_, .int .i64 x.si] := hd 84 rfl rfl
          have ze88 : f 88 = .slice (some ⟨g1, o1, none⟩) h c1 := hd 88 rfl rfl
          have ze92 : f 92 = .slice (some ⟨g2, o2, none⟩) h c2 := hd 92 rfl rfl
          have HK : ∀ v W', Chg (fun _ => False) (fun _ => True) W W' → chgV (fun _ => False) (fun _ => True) _ 93 v W' → K { tmps := #[f 0, f 1, f 2, f 3, f 4, f 5, f 6, f 7, f 8, f 9, f 10, f 11, f 12, f 13, f 14, f 15, f 16, f 17, f 18, f 19, f 20, f 21, f 22, f 23, f 24, f 25, f 26, f 27, f 28, f 29, f 30, f 31, f 32, f 33, f 34, f 35, f 36, f 37, f 38, f 39, f 40, f 41, f 42, f 43, f 44, f 45, f 46, f 47, f 48, f 49, f 50, f 51, f 52, f 53, f 54, f 55, f 56, f 57, f 58, f 59, f 60, f 61, f 62, f 63, f 64, f 65, f 66, f 67, f 68, f 69, f 70, f 71, f 72, f 73, f 74, f 75, f 76, f 77, f 78, f 79, f 80, f 81, f 82, f 83, f 84, f 85, f 86, f 87, f 88, f 89, f 90, f 91, f 92, v, f 94], defers := [] } W' := hK
          change wpList _ #[_] _ [_] { tmps := #[f 0, f 1, f 2, f 3, f 4, f 5, f 6, f 7, f 8, f 9, f 10, f 11, f 12, f 13, f 14, f 15, f 16, f 17, f 18, f 19, f 20, f 21, f 22, f 23, f 24, f 25, f 26, f 27, f 28, f 29, f 30, f 31, f 32, f 33, f 34, f 35, f 36, f 37, f 38, f 39, f 40, f 41, f 42, f 43, f 44, f 45, f 46, f 47, f 48, f 49, f 50, f 51, f 52, f 53, f 54, f 55, f 56, f 57, f 58, f 59, f 60, f 61, f 62, f 63, f 64, f 65, f 66, f 67, f 68, f 69, f 70, f 71, f 72, f 73, f 74, f 75, f 76, f 77, f 78, f 79, f 80, f 81, f 82, f 83, f 84, f 85, f 86, f 87, f 88, f 89, f 90, f 91, f 92, f 93, f 94], defers := [] } W
          clear hK hd hold
          simp only [ze84, ze88, ze92] at HK ⊢
          clear ze84 ze88 ze92
          have HK := Aside.mk HK
          go_wp2_with (go_at_call 11; refine (HF2.out W hW.bel).mono ?_; rintro e' w6 ⟨rfl, hb6⟩)
          exact HK.out _ _ (Chg.of_below hb6 id) rfl
        · intro f W hW hold hd aAct hAct
          replace hAct := hAct.trans (rel_puts hold)
          have ze79 : f 79 = .agg #[.int .i64 x.jo, .int .i64 x.ha, .int .i64 x.ro, .int .i64 x.by_, .int .i64 x.si] := hd 79 rfl
          have ze80 : f 80 = .slice (some ⟨g1, o1, none⟩) k c1 := hd 80 rfl
          have ze81 : f 81 = .slice (some ⟨g2, o2, none⟩) k c2 := hd 81 rfl
          have ze82 : f 82 = .bool true := hd 82 rfl
          have ze83 : f 83 = .bool true := hd 83 rfl
          have ze84 : f 84 = .agg #[.int .i64 x.jo, .int .i64 x.ha, .int .i64 x.ro, .int .i64 x.by_, .int .i64 x.si] := hd 84 rfl
          have ze85 : f 85 = .slice (some ⟨g1, o1, none⟩) k c1 := hd 85 rfl
          have ze86 : f 86 = .int .i64 k := hd 86 rfl
          have ze87 : f 87 = .int .i64 h := hd 87 rfl
          have ze88 : f 88 = .slice (some ⟨g1, o1, none⟩) h c1 := hd 88 rfl
          have ze89 : f 89 = .slice (some ⟨g2, o2, none⟩) k c2 := hd 89 rfl
          have ze90 : f 90 = .int .i64 k := hd 90 rfl
          have ze91 : f 91 = .int .i64 h := hd 91 rfl
          have ze92 : f 92 = .slice (some ⟨g2, o2, none⟩) h c2 := hd 92 rfl
          have ze93 : f 93 = .bool true := hd 93 rfl
          simp only [List.take_succ_cons, List.take_zero, putAll, List.foldl_cons, List.foldl_nil, Option.getD_some] at hAct
          simp only [ze79, ze80, ze81, ze82, ze83, ze84, ze85, ze86, ze87, ze88, ze89, ze90, ze91, ze92, ze93] at hAct
          subst hAct
          simp only [List.drop_succ_cons, List.drop_zero, Act.put, List.setIfInBounds_toArray, List.set_cons_zero, List.set_cons_succ]
          clear hold hd ze79 ze80 ze81 ze82 ze83 ze84 ze85 ze86 ze87 ze88 ze89 ze90 ze91 ze92 ze93
          have HBF := Aside.mk (HB.out.trans (hW.bel.mono HB.out.size))
          clear hW
          go_wp2
          go_ret
          exact ⟨rfl, HBF.out⟩
end Go.Proofs.Ytffdpmejilmnnaa
