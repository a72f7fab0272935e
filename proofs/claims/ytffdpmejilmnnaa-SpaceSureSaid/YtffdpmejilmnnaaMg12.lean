/-
  How much surely fits, by the program and by the document.
-/
import Derived.Test.YtffdpmejilmnnaaMg11
import Derived.Test.YtffdpmejilmnnaaMg8
namespace Go.Proofs.Ytffdpmejilmnnaa
open Go.RowKit

/-- Blocks of so many pages. -/
def upI (k r : Int) : Int := (k + r - 1) / r
def capC (ha ro : Int) (m : Nat) : Prop := upI ((m : Int) + 1) ro + upI (2 * (m : Int) + 2) ro ≤ ha
def IsCap (ha ro : Int) (n : Nat) : Prop := (∀ m, m < n → capC ha ro m) ∧ ¬ capC ha ro n
theorem IsCap.unique {ha ro : Int} {n m : Nat} (h : IsCap ha ro n) (h' : IsCap ha ro m) : n = m := by
  rcases Nat.lt_trichotomy n m with h1 | h1 | h1
  · exact absurd (h'.1 n h1) h.2
  · exact h1
  · exact absurd (h.1 m h1) h'.2
theorem upI_nonneg {k r : Int} (hk : 0 ≤ k) (hr : 1 ≤ r) : 0 ≤ upI k r := Int.ediv_nonneg (by omega) (by omega)
theorem upI_le {k r : Int} (hk : 0 ≤ k) (hr : 1 ≤ r) : upI k r ≤ k := by
  unfold upI
  rw [← Int.lt_add_one_iff, Int.ediv_lt_iff_lt_mul (by omega)]
  have : k + 1 ≤ (k + 1) * r := by
    have := Int.mul_le_mul_of_nonneg_left hr (show 0 ≤ k + 1 by omega)
    omega
  have h2 : (k + 1) * r = k * r + r := by rw [Int.add_mul, Int.one_mul]
  have h3 : k ≤ k * r := by
    have := Int.mul_le_mul_of_nonneg_left hr hk
    omega
  omega
theorem upI_step {k r : Int} (hk : 0 < k) (hr : 1 ≤ r) : upI k r = (if k - r ≤ 0 then 0 else upI (k - r) r) + 1 := by
  unfold upI
  split
  · rw [Int.zero_add]
    have h1 : (k + r - 1) / r < 2 := by rw [Int.ediv_lt_iff_lt_mul (by omega)]; omega
    have h2 : 1 ≤ (k + r - 1) / r := by rw [Int.le_ediv_iff_mul_le (by omega)]; omega
    omega
  · rw [show k + r - 1 = (k - r + r - 1) + r by omega, Int.add_ediv_of_dvd_right (Int.dvd_refl r), Int.ediv_self (by omega)]
theorem cap_bound {ha ro : Int} {m : Nat} (h1 : 1 ≤ ro) (h2 : ro ≤ 64) (h3 : ha ≤ 64) (h : capC ha ro m) : m + 1 ≤ 4096 := by
  unfold capC at h
  have h4 := upI_nonneg (show 0 ≤ 2 * (m : Int) + 2 by omega) h1
  have h5 : upI ((m : Int) + 1) ro < 65 := by omega
  unfold upI at h5
  rw [Int.ediv_lt_iff_lt_mul (by omega)] at h5
  omega
theorem space_blocks (x : PlanT) (k : Int) (w : World) (h0 : 0 ≤ k) (h1 : k ≤ 1000000) (h2 : 1 ≤ x.ro) (h3 : x.ro ≤ 1000) :
    Calls Try.prog 16 #[x.v, .int .i64 k] w fun e w' => e = .returned (.int .i64 (upI k x.ro)) ∧ Below w.heap.size w w' := by
  have hb := (Below.refl w.heap.size w).alloc (Nat.le_refl _) (.cells #[.int .i64 x.jo, .int .i64 x.ha, .int .i64 x.ro, .int .i64 x.by_, .int .i64 x.si] 25)
  have HB := Aside.mk hb
  have hu := upI_le h0 h2
  have hn := upI_nonneg h0 h2
  have e4 : (k + x.ro - 1).tdiv x.ro = upI k x.ro := by unfold upI; rw [Int.tdiv_eq_ediv_of_nonneg (by omega)]
  have hnz : ¬ x.ro = 0 := by omega
  clear hb
  unfold PlanT.v
  generalize upI k x.ro = u at *
  generalize x.ro = ro at *
  have e1 : IntKind.i64.wrap (k + ro) = k + ro := by rw [IntKind.wrap_i64]; omega
  have e2 : IntKind.i64.wrap (k + ro - 1) = k + ro - 1 := by rw [IntKind.wrap_i64]; omega
  have e3 : IntKind.i64.wrap u = u := by rw [IntKind.wrap_i64]; omega
  go_enter Try.func16, Try.ntmps16
  go_wp2
  go_ret
  exact ⟨rfl, HB.out⟩
theorem ref_up (k r : Int) (w : World) (h1 : k ≤ 1000000) (h2 : 1 ≤ r) (h3 : r ≤ 1000) (h0 : 0 < k) :
    Calls Try.prog 17 #[.int .i64 k, .int .i64 r] w fun e w' => e = .returned (.int .i64 (upI k r)) ∧ w = w' := by
  have hu := upI_le (show 0 ≤ k by omega) h2
  have HU : Aside (upI k r ≤ 1000000) := ⟨by omega⟩
  clear hu
  go_enter Try.func17, Try.ntmps17
  go_wp2
  go_loopw [0, 5] (fun s0 s5 wr => ∃ (q : Int) (n : Nat), s0 = .int .i64 q ∧ s5 = .int .i64 (n : Int) ∧ -1000 ≤ q ∧ q ≤ 1000000 ∧ Aside ((if q ≤ 0 then 0 else upI q r) + (n : Int) = upI k r) ∧ w = wr) (fun s0 _ _ => (intOf s0).toNat)
  case atStart => exact ⟨k, 0, rfl, rfl, by omega, by omega, ⟨by rw [if_neg (by omega)]; simp⟩, rfl⟩
  case round =>
    obtain ⟨q, n, rfl, rfl, hq1, hq2, HQ, rfl⟩ := hrel
    by_cases hq : 0 < q
    · have hst := upI_step hq h2
      have HN : Aside ((if q - r ≤ 0 then 0 else upI (q - r) r) + ((n + 1 : Nat) : Int) = upI k r) := ⟨by
        have h := HQ.out
        rw [if_neg (by omega), hst] at h
        omega⟩
      have hn1 : n ≤ 1000000 := by
        have h := HQ.out
        rw [if_neg (by omega)] at h
        have := upI_nonneg (show 0 ≤ q by omega) h2
        have := HU.out
        omega
      clear hst
      have e1 : IntKind.i64.wrap (q - r) = q - r := by rw [IntKind.wrap_i64]; omega
      have e2 : IntKind.i64.wrap ((n : Int) + 1) = (n : Int) + 1 := by rw [IntKind.wrap_i64]; omega
      go_wp2
      go_roundw
      case rel => exact ⟨q - r, n + 1, rfl, by simp, by omega, by omega, HN, trivial⟩
      case measure => simp [intOf]; omega
    · have hf : (n : Int) = upI k r := by
        have h := HQ.out
        rw [if_pos (by omega)] at h
        omega
      have HF := Aside.mk hf
      clear hf
      go_wp2
      go_ret
      exact ⟨by rw [← HF.out]; rfl, rfl⟩
set_option maxRecDepth 20000 in
set_option maxHeartbeats 4000000 in
theorem space_cap (x : PlanT) (w : World) (h2 : 1 ≤ x.ro) (h3 : x.ro ≤ 64) (h4 : x.ha ≤ 64) :
    Calls Try.prog 8 #[x.v] w fun e w' => ∃ n : Nat, e = .returned (.int .i64 (n : Int)) ∧ IsCap x.ha x.ro n ∧ Below w.heap.size w w' := by
  have hb := (Below.refl w.heap.size w).alloc (Nat.le_refl _) (.cells #[.int .i64 x.jo, .int .i64 x.ha, .int .i64 x.ro, .int .i64 x.by_, .int .i64 x.si] 25)
  have hk := heap_alloc_new w (.cells #[.int .i64 x.jo, .int .i64 x.ha, .int .i64 x.ro, .int .i64 x.by_, .int .i64 x.si] 25)
  have HBA : Aside (∀ k W, 0 ≤ k → k ≤ 1000000 → Calls Try.prog 16 #[x.v, .int .i64 k] W fun e w' => e = .returned (.int .i64 (upI k x.ro)) ∧ Below W.heap.size W w') := ⟨fun k W h0 h1 => space_blocks x k W h0 h1 h2 (by omega)⟩
  unfold PlanT.v at *
  have HP := Aside.mk (And.intro h2 (And.intro h3 h4))
  generalize x.jo = jo at *
  generalize x.ha = ha at *
  generalize x.ro = ro at *
  generalize x.by_ = pa at *
  generalize x.si = si at *
  have H0 := Aside.mk (And.intro hb hk)
  clear hb hk
  go_enter Try.func8, Try.ntmps8
  go_wp2
  generalize w.alloc (.cells #[.int .i64 jo, .int .i64 ha, .int .i64 ro, .int .i64 pa, .int .i64 si] 25) = w0 at *
  go_loopw [3] (fun s3 wr => ∃ n : Nat, s3 = .int .i64 (n : Int) ∧ n ≤ 4096 ∧ Aside ((Below w.heap.size w wr ∧ wr.heap[w.heap.size]? = some (.cells #[.int .i64 jo, .int .i64 ha, .int .i64 ro, .int .i64 pa, .int .i64 si] 25 (0, 0))) ∧ ∀ m, m < n → capC ha ro m)) (fun s3 _ => 4096 - (intOf s3).toNat)
  case atStart => exact ⟨0, rfl, by omega, ⟨H0.out, fun m hm => by omega⟩⟩
  case round =>
    obtain ⟨n, rfl, hn, HI⟩ := hrel
    have HB := Aside.mk HI.out.1.1
    have HBX := Aside.mk HI.out.1.2
    have HBL : Aside ((∀ W, Calls Try.prog 16 #[.agg #[.int .i64 jo, .int .i64 ha, .int .i64 ro, .int .i64 pa, .int .i64 si], .int .i64 ((n : Int) + 1)] W fun e w' => e = .returned (.int .i64 (upI ((n : Int) + 1) ro)) ∧ Below W.heap.size W w') ∧ (∀ W, Calls Try.prog 16 #[.agg #[.int .i64 jo, .int .i64 ha, .int .i64 ro, .int .i64 pa, .int .i64 si], .int .i64 (2 * (n : Int) + 2)] W fun e w' => e = .returned (.int .i64 (upI (2 * (n : Int) + 2) ro)) ∧ Below W.heap.size W w')) := ⟨fun W => HBA.out _ W (by omega) (by omega), fun W => HBA.out _ W (by omega) (by omega)⟩
    have hu1 := upI_le (show 0 ≤ (n : Int) + 1 by omega) HP.out.1
    have hu1' := upI_nonneg (show 0 ≤ (n : Int) + 1 by omega) HP.out.1
    have hu2 := upI_le (show 0 ≤ 2 * (n : Int) + 2 by omega) HP.out.1
    have hu2' := upI_nonneg (show 0 ≤ 2 * (n : Int) + 2 by omega) HP.out.1
    obtain ⟨u1, hx1⟩ : ∃ u1, u1 = upI ((n : Int) + 1) ro := ⟨_, rfl⟩
    obtain ⟨u2, hx2⟩ : ∃ u2, u2 = upI (2 * (n : Int) + 2) ro := ⟨_, rfl⟩
    rw [← hx1, ← hx2] at HBL
    rw [← hx1] at hu1 hu1'
    rw [← hx2] at hu2 hu2'
    have HU : Aside (u1 = upI ((n : Int) + 1) ro ∧ u2 = upI (2 * (n : Int) + 2) ro) := ⟨hx1, hx2⟩
    have e1 : IntKind.i64.wrap ((n : Int) + 1) = (n : Int) + 1 := by rw [IntKind.wrap_i64]; omega
    have e2 : IntKind.i64.wrap (2 * (n : Int)) = 2 * (n : Int) := by rw [IntKind.wrap_i64]; omega
    have e3 : IntKind.i64.wrap (2 * (n : Int) + 2) = 2 * (n : Int) + 2 := by rw [IntKind.wrap_i64]; omega
    have e4 : IntKind.i64.wrap (u1 + u2) = u1 + u2 := by rw [IntKind.wrap_i64]; omega
    clear hx1 hx2 hu1 hu1' hu2 hu2'
    go_upto_region 4 with fail
    refine wp_region_r 13 (by kernel_rfl) (by kernel_rfl) (rel_small (by kernel_rfl)) (chgV (fun _ => False) (fun _ => True) [(7, .val (.agg #[.int .i64 jo, .int .i64 ha, .int .i64 ro, .int .i64 pa, .int .i64 si])), (8, .val (.int .i64 (n : Nat))), (9, .val (.int .i64 ((n : Int) + 1))), (10, .val (.int .i64 u1)), (11, .val (.agg #[.int .i64 jo, .int .i64 ha, .int .i64 ro, .int .i64 pa, .int .i64 si])), (12, .val (.int .i64 (n : Nat))), (13, .val (.int .i64 (2 * (n : Int)))), (14, .val (.int .i64 (2 * (n : Int) + 2))), (15, .val (.int .i64 u2)), (16, .val (.int .i64 (u1 + u2))), (17, .val (.pointer (some ⟨w.heap.size, 1, none⟩))), (18, .val (.int .i64 ha)), (19, .val (.bool (decide (u1 + u2 ≤ ha))))]) (Chg (fun _ => False) (fun _ => True)) (chg_drew _ _ _ (id)) Chg.refl (fun _ _ _ => Chg.trans) (chgV_stable _ _ _) ⟨?_, ?_, ?_, ?_, ?_, ?_, ?_, ?_, ?_, ?_, ?_, ?_, ?_, trivial⟩ ?_
    · -- 7 := load 25 t1
      intro f W hW hold hd K hK
      refine .inl ⟨wanted_free rfl _, ?_⟩
      dsimp only [bare]
      have ze1 : f 1 = .pointer (some ⟨w.heap.size, 0, none⟩) := hold 1 rfl
      have HK : ∀ v W', Chg (fun _ => False) (fun _ => True) W W' → chgV (fun _ => False) (fun _ => True) _ 7 v W' → K { tmps := #[f 0, f 1, f 2, f 3, f 4, f 5, f 6, v, f 8, f 9, f 10, f 11, f 12, f 13, f 14, f 15, f 16, f 17, f 18, f 19, f 20, f 21, f 22], defers := [] } W' := hK
      change wpList _ #[_] _ [_] { tmps := #[f 0, f 1, f 2, f 3, f 4, f 5, f 6, f 7, f 8, f 9, f 10, f 11, f 12, f 13, f 14, f 15, f 16, f 17, f 18, f 19, f 20, f 21, f 22], defers := [] } W
      clear hK hd hold
      simp only [ze1] at HK ⊢
      clear ze1
      have HK := Aside.mk HK
      have hh := hW.blk HBX.out id; have q0 := cell_of_row W w.heap.size 0 _ _ _ hh; have q1 := cell_of_row W w.heap.size 1 _ _ _ hh; have q2 := cell_of_row W w.heap.size 2 _ _ _ hh; have q3 := cell_of_row W w.heap.size 3 _ _ _ hh; have q4 := cell_of_row W w.heap.size 4 _ _ _ hh; clear hh
      go_wp2
      exact HK.out _ _ (Chg.refl _) rfl
    · -- 8 := move t3
      intro f W hW hold hd K hK
      refine .inl ⟨wanted_free rfl _, ?_⟩
      dsimp only [bare]
      have ze3 : f 3 = .int .i64 (n : Nat) := hold 3 rfl
      have HK : ∀ v W', Chg (fun _ => False) (fun _ => True) W W' → chgV (fun _ => False) (fun _ => True) _ 8 v W' → K { tmps := #[f 0, f 1, f 2, f 3, f 4, f 5, f 6, f 7, v, f 9, f 10, f 11, f 12, f 13, f 14, f 15, f 16, f 17, f 18, f 19, f 20, f 21, f 22], defers := [] } W' := hK
      change wpList _ #[_] _ [_] { tmps := #[f 0, f 1, f 2, f 3, f 4, f 5, f 6, f 7, f 8, f 9, f 10, f 11, f 12, f 13, f 14, f 15, f 16, f 17, f 18, f 19, f 20, f 21, f 22], defers := [] } W
      clear hK hd hold
      simp only [ze3] at HK ⊢
      clear ze3
      have HK := Aside.mk HK
      go_wp2
      exact HK.out _ _ (Chg.refl _) rfl
    · -- 9 := binOp add 3 t8 <i64 1> 3
      intro f W hW hold hd K hK
      refine .inl ⟨wanted_free rfl _, ?_⟩
      dsimp only [bare]
      have ze8 : f 8 = .int .i64 (n : Nat) := hd 8 rfl rfl
      have HK : ∀ v W', Chg (fun _ => False) (fun _ => True) W W' → chgV (fun _ => False) (fun _ => True) _ 9 v W' → K { tmps := #[f 0, f 1, f 2, f 3, f 4, f 5, f 6, f 7, f 8, v, f 10, f 11, f 12, f 13, f 14, f 15, f 16, f 17, f 18, f 19, f 20, f 21, f 22], defers := [] } W' := hK
      change wpList _ #[_] _ [_] { tmps := #[f 0, f 1, f 2, f 3, f 4, f 5, f 6, f 7, f 8, f 9, f 10, f 11, f 12, f 13, f 14, f 15, f 16, f 17, f 18, f 19, f 20, f 21, f 22], defers := [] } W
      clear hK hd hold
      simp only [ze8] at HK ⊢
      clear ze8
      have HK := Aside.mk HK
      go_wp2
      exact HK.out _ _ (Chg.refl _) rfl
    · -- 10 := CALL f16 (chert/space.Plan).blocks [t7, t9] : [25, 3]
      intro f W hW hold hd K hK
      refine .inl ⟨wanted_free rfl _, ?_⟩
      dsimp only [bare]
      have ze7 : f 7 = .agg #[.int .i64 jo, .int .i64 ha, .int .i64 ro, .int .i64 pa, .int .i64 si] := hd 7 rfl rfl
      have ze9 : f 9 = .int .i64 ((n : Int) + 1) := hd 9 rfl rfl
      have HK : ∀ v W', Chg (fun _ => False) (fun _ => True) W W' → chgV (fun _ => False) (fun _ => True) _ 10 v W' → K { tmps := #[f 0, f 1, f 2, f 3, f 4, f 5, f 6, f 7, f 8, f 9, v, f 11, f 12, f 13, f 14, f 15, f 16, f 17, f 18, f 19, f 20, f 21, f 22], defers := [] } W' := hK
      change wpList _ #[_] _ [_] { tmps := #[f 0, f 1, f 2, f 3, f 4, f 5, f 6, f 7, f 8, f 9, f 10, f 11, f 12, f 13, f 14, f 15, f 16, f 17, f 18, f 19, f 20, f 21, f 22], defers := [] } W
      clear hK hd hold
      simp only [ze7, ze9] at HK ⊢
      clear ze7 ze9
      have HK := Aside.mk HK
      go_wp2_with (go_at_call 16; refine (HBL.out.1 W).mono ?_; rintro e w3 ⟨rfl, hb3⟩)
      exact HK.out _ _ (Chg.of_below hb3 id) rfl
    · -- 11 := load 25 t1
      intro f W hW hold hd K hK
      refine .inl ⟨wanted_free rfl _, ?_⟩
      dsimp only [bare]
      have ze1 : f 1 = .pointer (some ⟨w.heap.size, 0, none⟩) := hold 1 rfl
      have HK : ∀ v W', Chg (fun _ => False) (fun _ => True) W W' → chgV (fun _ => False) (fun _ => True) _ 11 v W' → K { tmps := #[f 0, f 1, f 2, f 3, f 4, f 5, f 6, f 7, f 8, f 9, f 10, v, f 12, f 13, f 14, f 15, f 16, f 17, f 18, f 19, f 20, f 21, f 22], defers := [] } W' := hK
      change wpList _ #[_] _ [_] { tmps := #[f 0, f 1, f 2, f 3, f 4, f 5, f 6, f 7, f 8, f 9, f 10, f 11, f 12, f 13, f 14, f 15, f 16, f 17, f 18, f 19, f 20, f 21, f 22], defers := [] } W
      clear hK hd hold
      simp only [ze1] at HK ⊢
      clear ze1
      have HK := Aside.mk HK
      have hh := hW.blk HBX.out id; have q0 := cell_of_row W w.heap.size 0 _ _ _ hh; have q1 := cell_of_row W w.heap.size 1 _ _ _ hh; have q2 := cell_of_row W w.heap.size 2 _ _ _ hh; have q3 := cell_of_row W w.heap.size 3 _ _ _ hh; have q4 := cell_of_row W w.heap.size 4 _ _ _ hh; clear hh
      go_wp2
      exact HK.out _ _ (Chg.refl _) rfl
    · -- 12 := move t3
      intro f W hW hold hd K hK
      refine .inl ⟨wanted_free rfl _, ?_⟩
      dsimp only [bare]
      have ze3 : f 3 = .int .i64 (n : Nat) := hold 3 rfl
      have HK : ∀ v W', Chg (fun _ => False) (fun _ => True) W W' → chgV (fun _ => False) (fun _ => True) _ 12 v W' → K { tmps := #[f 0, f 1, f 2, f 3, f 4, f 5, f 6, f 7, f 8, f 9, f 10, f 11, v, f 13, f 14, f 15, f 16, f 17, f 18, f 19, f 20, f 21, f 22], defers := [] } W' := hK
      change wpList _ #[_] _ [_] { tmps := #[f 0, f 1, f 2, f 3, f 4, f 5, f 6, f 7, f 8, f 9, f 10, f 11, f 12, f 13, f 14, f 15, f 16, f 17, f 18, f 19, f 20, f 21, f 22], defers := [] } W
      clear hK hd hold
      simp only [ze3] at HK ⊢
      clear ze3
      have HK := Aside.mk HK
      go_wp2
      exact HK.out _ _ (Chg.refl _) rfl
    · -- 13 := binOp mul 3 <i64 2> t12 3
      intro f W hW hold hd K hK
      refine .inl ⟨wanted_free rfl _, ?_⟩
      dsimp only [bare]
      have ze12 : f 12 = .int .i64 (n : Nat) := hd 12 rfl rfl
      have HK : ∀ v W', Chg (fun _ => False) (fun _ => True) W W' → chgV (fun _ => False) (fun _ => True) _ 13 v W' → K { tmps := #[f 0, f 1, f 2, f 3, f 4, f 5, f 6, f 7, f 8, f 9, f 10, f 11, f 12, v, f 14, f 15, f 16, f 17, f 18, f 19, f 20, f 21, f 22], defers := [] } W' := hK
      change wpList _ #[_] _ [_] { tmps := #[f 0, f 1, f 2, f 3, f 4, f 5, f 6, f 7, f 8, f 9, f 10, f 11, f 12, f 13, f 14, f 15, f 16, f 17, f 18, f 19, f 20, f 21, f 22], defers := [] } W
      clear hK hd hold
      simp only [ze12] at HK ⊢
      clear ze12
      have HK := Aside.mk HK
      go_wp2
      exact HK.out _ _ (Chg.refl _) rfl
    · -- 14 := binOp add 3 t13 <i64 2> 3
      intro f W hW hold hd K hK
      refine .inl ⟨wanted_free rfl _, ?_⟩
      dsimp only [bare]
      have ze13 : f 13 = .int .i64 (2 * (n : Int)) := hd 13 rfl rfl
      have HK : ∀ v W', Chg (fun _ => False) (fun _ => True) W W' → chgV (fun _ => False) (fun _ => True) _ 14 v W' → K { tmps := #[f 0, f 1, f 2, f 3, f 4, f 5, f 6, f 7, f 8, f 9, f 10, f 11, f 12, f 13, v, f 15, f 16, f 17, f 18, f 19, f 20, f 21, f 22], defers := [] } W' := hK
      change wpList _ #[_] _ [_] { tmps := #[f 0, f 1, f 2, f 3, f 4, f 5, f 6, f 7, f 8, f 9, f 10, f 11, f 12, f 13, f 14, f 15, f 16, f 17, f 18, f 19, f 20, f 21, f 22], defers := [] } W
      clear hK hd hold
      simp only [ze13] at HK ⊢
      clear ze13
      have HK := Aside.mk HK
      go_wp2
      exact HK.out _ _ (Chg.refl _) rfl
    · -- 15 := CALL f16 (chert/space.Plan).blocks [t11, t14] : [25, 3]
      intro f W hW hold hd K hK
      refine .inl ⟨wanted_free rfl _, ?_⟩
      dsimp only [bare]
      have ze11 : f 11 = .agg #[.int .i64 jo, .int .i64 ha, .int .i64 ro, .int .i64 pa, .int .i64 si] := hd 11 rfl rfl
      have ze14 : f 14 = .int .i64 (2 * (n : Int) + 2) := hd 14 rfl rfl
      have HK : ∀ v W', Chg (fun _ => False) (fun _ => True) W W' → chgV (fun _ => False) (fun _ => True) _ 15 v W' → K { tmps := #[f 0, f 1, f 2, f 3, f 4, f 5, f 6, f 7, f 8, f 9, f 10, f 11, f 12, f 13, f 14, v, f 16, f 17, f 18, f 19, f 20, f 21, f 22], defers := [] } W' := hK
      change wpList _ #[_] _ [_] { tmps := #[f 0, f 1, f 2, f 3, f 4, f 5, f 6, f 7, f 8, f 9, f 10, f 11, f 12, f 13, f 14, f 15, f 16, f 17, f 18, f 19, f 20, f 21, f 22], defers := [] } W
      clear hK hd hold
      simp only [ze11, ze14] at HK ⊢
      clear ze11 ze14
      have HK := Aside.mk HK
      go_wp2_with (go_at_call 16; refine (HBL.out.2 W).mono ?_; rintro e w3 ⟨rfl, hb3⟩)
      exact HK.out _ _ (Chg.of_below hb3 id) rfl
    · -- 16 := binOp add 3 t10 t15 3
      intro f W hW hold hd K hK
      refine .inl ⟨wanted_free rfl _, ?_⟩
      dsimp only [bare]
      have ze10 : f 10 = .int .i64 u1 := hd 10 rfl rfl
      have ze15 : f 15 = .int .i64 u2 := hd 15 rfl rfl
      have HK : ∀ v W', Chg (fun _ => False) (fun _ => True) W W' → chgV (fun _ => False) (fun _ => True) _ 16 v W' → K { tmps := #[f 0, f 1, f 2, f 3, f 4, f 5, f 6, f 7, f 8, f 9, f 10, f 11, f 12, f 13, f 14, f 15, v, f 17, f 18, f 19, f 20, f 21, f 22], defers := [] } W' := hK
      change wpList _ #[_] _ [_] { tmps := #[f 0, f 1, f 2, f 3, f 4, f 5, f 6, f 7, f 8, f 9, f 10, f 11, f 12, f 13, f 14, f 15, f 16, f 17, f 18, f 19, f 20, f 21, f 22], defers := [] } W
      clear hK hd hold
      simp only [ze10, ze15] at HK ⊢
      clear ze10 ze15
      have HK := Aside.mk HK
      go_wp2
      exact HK.out _ _ (Chg.refl _) rfl
    · -- 17 := fieldAddr 25 t1 1
      intro f W hW hold hd K hK
      refine .inl ⟨wanted_free rfl _, ?_⟩
      dsimp only [bare]
      have ze1 : f 1 = .pointer (some ⟨w.heap.size, 0, none⟩) := hold 1 rfl
      have HK : ∀ v W', Chg (fun _ => False) (fun _ => True) W W' → chgV (fun _ => False) (fun _ => True) _ 17 v W' → K { tmps := #[f 0, f 1, f 2, f 3, f 4, f 5, f 6, f 7, f 8, f 9, f 10, f 11, f 12, f 13, f 14, f 15, f 16, v, f 18, f 19, f 20, f 21, f 22], defers := [] } W' := hK
      change wpList _ #[_] _ [_] { tmps := #[f 0, f 1, f 2, f 3, f 4, f 5, f 6, f 7, f 8, f 9, f 10, f 11, f 12, f 13, f 14, f 15, f 16, f 17, f 18, f 19, f 20, f 21, f 22], defers := [] } W
      clear hK hd hold
      simp only [ze1] at HK ⊢
      clear ze1
      have HK := Aside.mk HK
      go_wp2
      exact HK.out _ _ (Chg.refl _) rfl
    · -- 18 := load 3 t17
      intro f W hW hold hd K hK
      refine .inl ⟨wanted_free rfl _, ?_⟩
      dsimp only [bare]
      have ze17 : f 17 = .pointer (some ⟨w.heap.size, 1, none⟩) := hd 17 rfl rfl
      have HK : ∀ v W', Chg (fun _ => False) (fun _ => True) W W' → chgV (fun _ => False) (fun _ => True) _ 18 v W' → K { tmps := #[f 0, f 1, f 2, f 3, f 4, f 5, f 6, f 7, f 8, f 9, f 10, f 11, f 12, f 13, f 14, f 15, f 16, f 17, v, f 19, f 20, f 21, f 22], defers := [] } W' := hK
      change wpList _ #[_] _ [_] { tmps := #[f 0, f 1, f 2, f 3, f 4, f 5, f 6, f 7, f 8, f 9, f 10, f 11, f 12, f 13, f 14, f 15, f 16, f 17, f 18, f 19, f 20, f 21, f 22], defers := [] } W
      clear hK hd hold
      simp only [ze17] at HK ⊢
      clear ze17
      have HK := Aside.mk HK
      have hh := hW.blk (HBX.out) (id); have hcell := cell_of_row W (w.heap.size) 1 _ _ _ hh; clear hh
      go_wp2
      exact HK.out _ _ (Chg.refl _) rfl
    · -- 19 := binOp leq 3 t16 t18 3
      intro f W hW hold hd K hK
      refine .inl ⟨wanted_free rfl _, ?_⟩
      dsimp only [bare]
      have ze16 : f 16 = .int .i64 (u1 + u2) := hd 16 rfl rfl
      have ze18 : f 18 = .int .i64 ha := hd 18 rfl rfl
      have HK : ∀ v W', Chg (fun _ => False) (fun _ => True) W W' → chgV (fun _ => False) (fun _ => True) _ 19 v W' → K { tmps := #[f 0, f 1, f 2, f 3, f 4, f 5, f 6, f 7, f 8, f 9, f 10, f 11, f 12, f 13, f 14, f 15, f 16, f 17, f 18, v, f 20, f 21, f 22], defers := [] } W' := hK
      change wpList _ #[_] _ [_] { tmps := #[f 0, f 1, f 2, f 3, f 4, f 5, f 6, f 7, f 8, f 9, f 10, f 11, f 12, f 13, f 14, f 15, f 16, f 17, f 18, f 19, f 20, f 21, f 22], defers := [] } W
      clear hK hd hold
      simp only [ze16, ze18] at HK ⊢
      clear ze16 ze18
      have HK := Aside.mk HK
      go_wp2
      exact HK.out _ _ (Chg.refl _) rfl
    · intro f W hW hold hd aAct hAct
      replace hAct := hAct.trans (rel_puts hold)
      have ze7 : f 7 = .agg #[.int .i64 jo, .int .i64 ha, .int .i64 ro, .int .i64 pa, .int .i64 si] := hd 7 rfl
      have ze8 : f 8 = .int .i64 (n : Nat) := hd 8 rfl
      have ze9 : f 9 = .int .i64 ((n : Int) + 1) := hd 9 rfl
      have ze10 : f 10 = .int .i64 u1 := hd 10 rfl
      have ze11 : f 11 = .agg #[.int .i64 jo, .int .i64 ha, .int .i64 ro, .int .i64 pa, .int .i64 si] := hd 11 rfl
      have ze12 : f 12 = .int .i64 (n : Nat) := hd 12 rfl
      have ze13 : f 13 = .int .i64 (2 * (n : Int)) := hd 13 rfl
      have ze14 : f 14 = .int .i64 (2 * (n : Int) + 2) := hd 14 rfl
      have ze15 : f 15 = .int .i64 u2 := hd 15 rfl
      have ze16 : f 16 = .int .i64 (u1 + u2) := hd 16 rfl
      have ze17 : f 17 = .pointer (some ⟨w.heap.size, 1, none⟩) := hd 17 rfl
      have ze18 : f 18 = .int .i64 ha := hd 18 rfl
      have ze19 : f 19 = .bool (decide (u1 + u2 ≤ ha)) := hd 19 rfl
      simp only [List.take_succ_cons, List.take_zero, putAll, List.foldl_cons, List.foldl_nil, Option.getD_some] at hAct
      simp only [ze7, ze8, ze9, ze10, ze11, ze12, ze13, ze14, ze15, ze16, ze17, ze18, ze19] at hAct
      subst hAct
      simp only [List.drop_succ_cons, List.drop_nil, Act.put, List.setIfInBounds_toArray, List.set_cons_zero, List.set_cons_succ]
      clear hold hd ze7 ze8 ze9 ze10 ze11 ze12 ze13 ze14 ze15 ze16 ze17 ze18 ze19
      have hbf : Below w.heap.size w W := ⟨hW.os.trans HB.out.os, hW.tape.trans HB.out.tape, hW.output.trans HB.out.output, Nat.le_trans HB.out.size hW.size, fun q hq => (hW.block q (Nat.lt_of_lt_of_le hq HB.out.size) id).trans (HB.out.block q hq)⟩
      have hblk := hW.blk HBX.out id
      have HW2 := Aside.mk (And.intro hbf hblk)
      clear hbf hblk
      have HOLD := Aside.mk hW
      clear hW
      cases hcd : decide (u1 + u2 ≤ ha)
      · have hno := of_decide_eq_false hcd
        rw [HU.out.1, HU.out.2] at hno
        have HNO := Aside.mk hno
        clear hcd hno
        go_wp2
        go_ret
        exact ⟨n, rfl, ⟨HI.out.2, by unfold capC; have := HNO.out; omega⟩, HW2.out.1⟩
      · have hyes := of_decide_eq_true hcd
        rw [HU.out.1, HU.out.2] at hyes
        have hbd := cap_bound HP.out.1 HP.out.2.1 HP.out.2.2 hyes
        have HY := Aside.mk (And.intro hyes hbd)
        clear hcd hyes hbd
        go_wp2
        go_roundw
        case rel => exact ⟨n + 1, by go_num, HY.out.2, ⟨HW2.out, fun m hm => (by
          rcases Nat.lt_or_ge m n with h | h
          · exact HI.out.2 m h
          · obtain rfl : m = n := by omega
            exact HY.out.1)⟩⟩
        case measure => simp [intOf]; have := HY.out.2; omega
set_option maxRecDepth 20000 in
set_option maxHeartbeats 4000000 in
theorem ref_cap (x : PlanT) (w : World) (h2 : 1 ≤ x.ro) (h3 : x.ro ≤ 64) (h4 : x.ha ≤ 64) :
    Calls Try.prog 9 #[x.v] w fun e w' => ∃ n : Nat, e = .returned (.int .i64 (n : Int)) ∧ IsCap x.ha x.ro n ∧ Below w.heap.size w w' := by
  have hb := (Below.refl w.heap.size w).alloc (Nat.le_refl _) (.cells #[.int .i64 x.jo, .int .i64 x.ha, .int .i64 x.ro, .int .i64 x.by_, .int .i64 x.si] 30)
  have hk := heap_alloc_new w (.cells #[.int .i64 x.jo, .int .i64 x.ha, .int .i64 x.ro, .int .i64 x.by_, .int .i64 x.si] 30)
  have HBA : Aside (∀ k W, 0 < k → k ≤ 1000000 → Calls Try.prog 17 #[.int .i64 k, .int .i64 x.ro] W fun e w' => e = .returned (.int .i64 (upI k x.ro)) ∧ W = w') := ⟨fun k W h0 h1 => ref_up k x.ro W h1 h2 (by omega) h0⟩
  unfold PlanT.v at *
  have HP := Aside.mk (And.intro h2 (And.intro h3 h4))
  generalize x.jo = jo at *
  generalize x.ha = ha at *
  generalize x.ro = ro at *
  generalize x.by_ = pa at *
  generalize x.si = si at *
  have H0 := Aside.mk (And.intro hb hk)
  clear hb hk
  go_enter Try.func9, Try.ntmps9
  go_wp2
  generalize w.alloc (.cells #[.int .i64 jo, .int .i64 ha, .int .i64 ro, .int .i64 pa, .int .i64 si] 30) = w0 at *
  go_loopw [3] (fun s3 wr => ∃ n : Nat, s3 = .int .i64 (n : Int) ∧ n ≤ 4096 ∧ Aside ((Below w.heap.size w wr ∧ wr.heap[w.heap.size]? = some (.cells #[.int .i64 jo, .int .i64 ha, .int .i64 ro, .int .i64 pa, .int .i64 si] 30 (0, 0))) ∧ ∀ m, m < n → capC ha ro m)) (fun s3 _ => 4096 - (intOf s3).toNat)
  case atStart => exact ⟨0, rfl, by omega, ⟨H0.out, fun m hm => by omega⟩⟩
  case round =>
    obtain ⟨n, rfl, hn, HI⟩ := hrel
    have HB := Aside.mk HI.out.1.1
    have HBX := Aside.mk HI.out.1.2
    have HBL : Aside ((∀ W, Calls Try.prog 17 #[.int .i64 ((n : Int) + 1), .int .i64 ro] W fun e w' => e = .returned (.int .i64 (upI ((n : Int) + 1) ro)) ∧ W = w') ∧ (∀ W, Calls Try.prog 17 #[.int .i64 (2 * ((n : Int) + 1)), .int .i64 ro] W fun e w' => e = .returned (.int .i64 (upI (2 * ((n : Int) + 1)) ro)) ∧ W = w')) := ⟨fun W => HBA.out _ W (by omega) (by omega), fun W => HBA.out _ W (by omega) (by omega)⟩
    have h22 : 2 * ((n : Int) + 1) = 2 * (n : Int) + 2 := by omega
    have hu1 := upI_le (show 0 ≤ (n : Int) + 1 by omega) HP.out.1
    have hu1' := upI_nonneg (show 0 ≤ (n : Int) + 1 by omega) HP.out.1
    have hu2 := upI_le (show 0 ≤ 2 * ((n : Int) + 1) by omega) HP.out.1
    have hu2' := upI_nonneg (show 0 ≤ 2 * ((n : Int) + 1) by omega) HP.out.1
    obtain ⟨u1, hx1⟩ : ∃ u1, u1 = upI ((n : Int) + 1) ro := ⟨_, rfl⟩
    obtain ⟨u2, hx2⟩ : ∃ u2, u2 = upI (2 * ((n : Int) + 1)) ro := ⟨_, rfl⟩
    rw [← hx1, ← hx2] at HBL
    rw [← hx1] at hu1 hu1'
    rw [← hx2] at hu2 hu2'
    have HU : Aside (u1 = upI ((n : Int) + 1) ro ∧ u2 = upI (2 * (n : Int) + 2) ro) := ⟨hx1, by rw [← h22]; exact hx2⟩
    have e1 : IntKind.i64.wrap ((n : Int) + 1) = (n : Int) + 1 := by rw [IntKind.wrap_i64]; omega
    have e2 : IntKind.i64.wrap (2 * ((n : Int) + 1)) = 2 * ((n : Int) + 1) := by rw [IntKind.wrap_i64]; omega
    have e4 : IntKind.i64.wrap (u1 + u2) = u1 + u2 := by rw [IntKind.wrap_i64]; omega
    clear hx1 hx2 hu1 hu1' hu2 hu2' h22
    go_upto_region 4 with fail
    refine wp_region_r 15 (by kernel_rfl) (by kernel_rfl) (rel_small (by kernel_rfl)) (chgV (fun _ => False) (fun _ => True) [(7, .val (.int .i64 (n : Nat))), (8, .val (.int .i64 ((n : Int) + 1))), (9, .val (.pointer (some ⟨w.heap.size, 2, none⟩))), (10, .val (.int .i64 ro)), (11, .val (.int .i64 u1)), (12, .val (.int .i64 (n : Nat))), (13, .val (.int .i64 ((n : Int) + 1))), (14, .val (.int .i64 (2 * ((n : Int) + 1)))), (15, .val (.pointer (some ⟨w.heap.size, 2, none⟩))), (16, .val (.int .i64 ro)), (17, .val (.int .i64 u2)), (18, .val (.int .i64 (u1 + u2))), (19, .val (.pointer (some ⟨w.heap.size, 1, none⟩))), (20, .val (.int .i64 ha)), (21, .val (.bool (decide (u1 + u2 ≤ ha))))]) (Chg (fun _ => False) (fun _ => True)) (chg_drew _ _ _ (id)) Chg.refl (fun _ _ _ => Chg.trans) (chgV_stable _ _ _) ⟨?_, ?_, ?_, ?_, ?_, ?_, ?_, ?_, ?_, ?_, ?_, ?_, ?_, ?_, ?_, trivial⟩ ?_
    · -- 7 := move t3
      intro f W hW hold hd K hK
      refine .inl ⟨wanted_free rfl _, ?_⟩
      dsimp only [bare]
      have ze3 : f 3 = .int .i64 (n : Nat) := hold 3 rfl
      have HK : ∀ v W', Chg (fun _ => False) (fun _ => True) W W' → chgV (fun _ => False) (fun _ => True) _ 7 v W' → K { tmps := #[f 0, f 1, f 2, f 3, f 4, f 5, f 6, v, f 8, f 9, f 10, f 11, f 12, f 13, f 14, f 15, f 16, f 17, f 18, f 19, f 20, f 21, f 22, f 23, f 24], defers := [] } W' := hK
      change wpList _ #[_] _ [_] { tmps := #[f 0, f 1, f 2, f 3, f 4, f 5, f 6, f 7, f 8, f 9, f 10, f 11, f 12, f 13, f 14, f 15, f 16, f 17, f 18, f 19, f 20, f 21, f 22, f 23, f 24], defers := [] } W
      clear hK hd hold
      simp only [ze3] at HK ⊢
      clear ze3
      have HK := Aside.mk HK
      go_wp2
      exact HK.out _ _ (Chg.refl _) rfl
    · -- 8 := binOp add 3 t7 <i64 1> 3
      intro f W hW hold hd K hK
      refine .inl ⟨wanted_free rfl _, ?_⟩
      dsimp only [bare]
      have ze7 : f 7 = .int .i64 (n : Nat) := hd 7 rfl rfl
      have HK : ∀ v W', Chg (fun _ => False) (fun _ => True) W W' → chgV (fun _ => False) (fun _ => True) _ 8 v W' → K { tmps := #[f 0, f 1, f 2, f 3, f 4, f 5, f 6, f 7, v, f 9, f 10, f 11, f 12, f 13, f 14, f 15, f 16, f 17, f 18, f 19, f 20, f 21, f 22, f 23, f 24], defers := [] } W' := hK
      change wpList _ #[_] _ [_] { tmps := #[f 0, f 1, f 2, f 3, f 4, f 5, f 6, f 7, f 8, f 9, f 10, f 11, f 12, f 13, f 14, f 15, f 16, f 17, f 18, f 19, f 20, f 21, f 22, f 23, f 24], defers := [] } W
      clear hK hd hold
      simp only [ze7] at HK ⊢
      clear ze7
      have HK := Aside.mk HK
      go_wp2
      exact HK.out _ _ (Chg.refl _) rfl
    · -- 9 := fieldAddr 30 t1 2
      intro f W hW hold hd K hK
      refine .inl ⟨wanted_free rfl _, ?_⟩
      dsimp only [bare]
      have ze1 : f 1 = .pointer (some ⟨w.heap.size, 0, none⟩) := hold 1 rfl
      have HK : ∀ v W', Chg (fun _ => False) (fun _ => True) W W' → chgV (fun _ => False) (fun _ => True) _ 9 v W' → K { tmps := #[f 0, f 1, f 2, f 3, f 4, f 5, f 6, f 7, f 8, v, f 10, f 11, f 12, f 13, f 14, f 15, f 16, f 17, f 18, f 19, f 20, f 21, f 22, f 23, f 24], defers := [] } W' := hK
      change wpList _ #[_] _ [_] { tmps := #[f 0, f 1, f 2, f 3, f 4, f 5, f 6, f 7, f 8, f 9, f 10, f 11, f 12, f 13, f 14, f 15, f 16, f 17, f 18, f 19, f 20, f 21, f 22, f 23, f 24], defers := [] } W
      clear hK hd hold
      simp only [ze1] at HK ⊢
      clear ze1
      have HK := Aside.mk HK
      go_wp2
      exact HK.out _ _ (Chg.refl _) rfl
    · -- 10 := load 3 t9
      intro f W hW hold hd K hK
      refine .inl ⟨wanted_free rfl _, ?_⟩
      dsimp only [bare]
      have ze9 : f 9 = .pointer (some ⟨w.heap.size, 2, none⟩) := hd 9 rfl rfl
      have HK : ∀ v W', Chg (fun _ => False) (fun _ => True) W W' → chgV (fun _ => False) (fun _ => True) _ 10 v W' → K { tmps := #[f 0, f 1, f 2, f 3, f 4, f 5, f 6, f 7, f 8, f 9, v, f 11, f 12, f 13, f 14, f 15, f 16, f 17, f 18, f 19, f 20, f 21, f 22, f 23, f 24], defers := [] } W' := hK
      change wpList _ #[_] _ [_] { tmps := #[f 0, f 1, f 2, f 3, f 4, f 5, f 6, f 7, f 8, f 9, f 10, f 11, f 12, f 13, f 14, f 15, f 16, f 17, f 18, f 19, f 20, f 21, f 22, f 23, f 24], defers := [] } W
      clear hK hd hold
      simp only [ze9] at HK ⊢
      clear ze9
      have HK := Aside.mk HK
      have hh := hW.blk (HBX.out) (id); have hcell := cell_of_row W (w.heap.size) 2 _ _ _ hh; clear hh
      go_wp2
      exact HK.out _ _ (Chg.refl _) rfl
    · -- 11 := CALL f17 chert/chertref17.Up [t8, t10] : [3, 3]
      intro f W hW hold hd K hK
      refine .inl ⟨wanted_free rfl _, ?_⟩
      dsimp only [bare]
      have ze8 : f 8 = .int .i64 ((n : Int) + 1) := hd 8 rfl rfl
      have ze10 : f 10 = .int .i64 ro := hd 10 rfl rfl
      have HK : ∀ v W', Chg (fun _ => False) (fun _ => True) W W' → chgV (fun _ => False) (fun _ => True) _ 11 v W' → K { tmps := #[f 0, f 1, f 2, f 3, f 4, f 5, f 6, f 7, f 8, f 9, f 10, v, f 12, f 13, f 14, f 15, f 16, f 17, f 18, f 19, f 20, f 21, f 22, f 23, f 24], defers := [] } W' := hK
      change wpList _ #[_] _ [_] { tmps := #[f 0, f 1, f 2, f 3, f 4, f 5, f 6, f 7, f 8, f 9, f 10, f 11, f 12, f 13, f 14, f 15, f 16, f 17, f 18, f 19, f 20, f 21, f 22, f 23, f 24], defers := [] } W
      clear hK hd hold
      simp only [ze8, ze10] at HK ⊢
      clear ze8 ze10
      have HK := Aside.mk HK
      go_wp2_with (go_at_call 17; refine (HBL.out.1 W).mono ?_; rintro e w3 ⟨rfl, rfl⟩)
      exact HK.out _ _ (Chg.refl _) rfl
    · -- 12 := move t3
      intro f W hW hold hd K hK
      refine .inl ⟨wanted_free rfl _, ?_⟩
      dsimp only [bare]
      have ze3 : f 3 = .int .i64 (n : Nat) := hold 3 rfl
      have HK : ∀ v W', Chg (fun _ => False) (fun _ => True) W W' → chgV (fun _ => False) (fun _ => True) _ 12 v W' → K { tmps := #[f 0, f 1, f 2, f 3, f 4, f 5, f 6, f 7, f 8, f 9, f 10, f 11, v, f 13, f 14, f 15, f 16, f 17, f 18, f 19, f 20, f 21, f 22, f 23, f 24], defers := [] } W' := hK
      change wpList _ #[_] _ [_] { tmps := #[f 0, f 1, f 2, f 3, f 4, f 5, f 6, f 7, f 8, f 9, f 10, f 11, f 12, f 13, f 14, f 15, f 16, f 17, f 18, f 19, f 20, f 21, f 22, f 23, f 24], defers := [] } W
      clear hK hd hold
      simp only [ze3] at HK ⊢
      clear ze3
      have HK := Aside.mk HK
      go_wp2
      exact HK.out _ _ (Chg.refl _) rfl
    · -- 13 := binOp add 3 t12 <i64 1> 3
      intro f W hW hold hd K hK
      refine .inl ⟨wanted_free rfl _, ?_⟩
      dsimp only [bare]
      have ze12 : f 12 = .int .i64 (n : Nat) := hd 12 rfl rfl
      have HK : ∀ v W', Chg (fun _ => False) (fun _ => True) W W' → chgV (fun _ => False) (fun _ => True) _ 13 v W' → K { tmps := #[f 0, f 1, f 2, f 3, f 4, f 5, f 6, f 7, f 8, f 9, f 10, f 11, f 12, v, f 14, f 15, f 16, f 17, f 18, f 19, f 20, f 21, f 22, f 23, f 24], defers := [] } W' := hK
      change wpList _ #[_] _ [_] { tmps := #[f 0, f 1, f 2, f 3, f 4, f 5, f 6, f 7, f 8, f 9, f 10, f 11, f 12, f 13, f 14, f 15, f 16, f 17, f 18, f 19, f 20, f 21, f 22, f 23, f 24], defers := [] } W
      clear hK hd hold
      simp only [ze12] at HK ⊢
      clear ze12
      have HK := Aside.mk HK
      go_wp2
      exact HK.out _ _ (Chg.refl _) rfl
    · -- 14 := binOp mul 3 <i64 2> t13 3
      intro f W hW hold hd K hK
      refine .inl ⟨wanted_free rfl _, ?_⟩
      dsimp only [bare]
      have ze13 : f 13 = .int .i64 ((n : Int) + 1) := hd 13 rfl rfl
      have HK : ∀ v W', Chg (fun _ => False) (fun _ => True) W W' → chgV (fun _ => False) (fun _ => True) _ 14 v W' → K { tmps := #[f 0, f 1, f 2, f 3, f 4, f 5, f 6, f 7, f 8, f 9, f 10, f 11, f 12, f 13, v, f 15, f 16, f 17, f 18, f 19, f 20, f 21, f 22, f 23, f 24], defers := [] } W' := hK
      change wpList _ #[_] _ [_] { tmps := #[f 0, f 1, f 2, f 3, f 4, f 5, f 6, f 7, f 8, f 9, f 10, f 11, f 12, f 13, f 14, f 15, f 16, f 17, f 18, f 19, f 20, f 21, f 22, f 23, f 24], defers := [] } W
      clear hK hd hold
      simp only [ze13] at HK ⊢
      clear ze13
      have HK := Aside.mk HK
      go_wp2
      exact HK.out _ _ (Chg.refl _) rfl
    · -- 15 := fieldAddr 30 t1 2
      intro f W hW hold hd K hK
      refine .inl ⟨wanted_free rfl _, ?_⟩
      dsimp only [bare]
      have ze1 : f 1 = .pointer (some ⟨w.heap.size, 0, none⟩) := hold 1 rfl
      have HK : ∀ v W', Chg (fun _ => False) (fun _ => True) W W' → chgV (fun _ => False) (fun _ => True) _ 15 v W' → K { tmps := #[f 0, f 1, f 2, f 3, f 4, f 5, f 6, f 7, f 8, f 9, f 10, f 11, f 12, f 13, f 14, v, f 16, f 17, f 18, f 19, f 20, f 21, f 22, f 23, f 24], defers := [] } W' := hK
      change wpList _ #[_] _ [_] { tmps := #[f 0, f 1, f 2, f 3, f 4, f 5, f 6, f 7, f 8, f 9, f 10, f 11, f 12, f 13, f 14, f 15, f 16, f 17, f 18, f 19, f 20, f 21, f 22, f 23, f 24], defers := [] } W
      clear hK hd hold
      simp only [ze1] at HK ⊢
      clear ze1
      have HK := Aside.mk HK
      go_wp2
      exact HK.out _ _ (Chg.refl _) rfl
    · -- 16 := load 3 t15
      intro f W hW hold hd K hK
      refine .inl ⟨wanted_free rfl _, ?_⟩
      dsimp only [bare]
      have ze15 : f 15 = .pointer (some ⟨w.heap.size, 2, none⟩) := hd 15 rfl rfl
      have HK : ∀ v W', Chg (fun _ => False) (fun _ => True) W W' → chgV (fun _ => False) (fun _ => True) _ 16 v W' → K { tmps := #[f 0, f 1, f 2, f 3, f 4, f 5, f 6, f 7, f 8, f 9, f 10, f 11, f 12, f 13, f 14, f 15, v, f 17, f 18, f 19, f 20, f 21, f 22, f 23, f 24], defers := [] } W' := hK
      change wpList _ #[_] _ [_] { tmps := #[f 0, f 1, f 2, f 3, f 4, f 5, f 6, f 7, f 8, f 9, f 10, f 11, f 12, f 13, f 14, f 15, f 16, f 17, f 18, f 19, f 20, f 21, f 22, f 23, f 24], defers := [] } W
      clear hK hd hold
      simp only [ze15] at HK ⊢
      clear ze15
      have HK := Aside.mk HK
      have hh := hW.blk (HBX.out) (id); have hcell := cell_of_row W (w.heap.size) 2 _ _ _ hh; clear hh
      go_wp2
      exact HK.out _ _ (Chg.refl _) rfl
    · -- 17 := CALL f17 chert/chertref17.Up [t14, t16] : [3, 3]
      intro f W hW hold hd K hK
      refine .inl ⟨wanted_free rfl _, ?_⟩
      dsimp only [bare]
      have ze14 : f 14 = .int .i64 (2 * ((n : Int) + 1)) := hd 14 rfl rfl
      have ze16 : f 16 = .int .i64 ro := hd 16 rfl rfl
      have HK : ∀ v W', Chg (fun _ => False) (fun _ => True) W W' → chgV (fun _ => False) (fun _ => True) _ 17 v W' → K { tmps := #[f 0, f 1, f 2, f 3, f 4, f 5, f 6, f 7, f 8, f 9, f 10, f 11, f 12, f 13, f 14, f 15, f 16, v, f 18, f 19, f 20, f 21, f 22, f 23, f 24], defers := [] } W' := hK
      change wpList _ #[_] _ [_] { tmps := #[f 0, f 1, f 2, f 3, f 4, f 5, f 6, f 7, f 8, f 9, f 10, f 11, f 12, f 13, f 14, f 15, f 16, f 17, f 18, f 19, f 20, f 21, f 22, f 23, f 24], defers := [] } W
      clear hK hd hold
      simp only [ze14, ze16] at HK ⊢
      clear ze14 ze16
      have HK := Aside.mk HK
      go_wp2_with (go_at_call 17; refine (HBL.out.2 W).mono ?_; rintro e w3 ⟨rfl, rfl⟩)
      exact HK.out _ _ (Chg.refl _) rfl
    · -- 18 := binOp add 3 t11 t17 3
      intro f W hW hold hd K hK
      refine .inl ⟨wanted_free rfl _, ?_⟩
      dsimp only [bare]
      have ze11 : f 11 = .int .i64 u1 := hd 11 rfl rfl
      have ze17 : f 17 = .int .i64 u2 := hd 17 rfl rfl
      have HK : ∀ v W', Chg (fun _ => False) (fun _ => True) W W' → chgV (fun _ => False) (fun _ => True) _ 18 v W' → K { tmps := #[f 0, f 1, f 2, f 3, f 4, f 5, f 6, f 7, f 8, f 9, f 10, f 11, f 12, f 13, f 14, f 15, f 16, f 17, v, f 19, f 20, f 21, f 22, f 23, f 24], defers := [] } W' := hK
      change wpList _ #[_] _ [_] { tmps := #[f 0, f 1, f 2, f 3, f 4, f 5, f 6, f 7, f 8, f 9, f 10, f 11, f 12, f 13, f 14, f 15, f 16, f 17, f 18, f 19, f 20, f 21, f 22, f 23, f 24], defers := [] } W
      clear hK hd hold
      simp only [ze11, ze17] at HK ⊢
      clear ze11 ze17
      have HK := Aside.mk HK
      go_wp2
      exact HK.out _ _ (Chg.refl _) rfl
    · -- 19 := fieldAddr 30 t1 1
      intro f W hW hold hd K hK
      refine .inl ⟨wanted_free rfl _, ?_⟩
      dsimp only [bare]
      have ze1 : f 1 = .pointer (some ⟨w.heap.size, 0, none⟩) := hold 1 rfl
      have HK : ∀ v W', Chg (fun _ => False) (fun _ => True) W W' → chgV (fun _ => False) (fun _ => True) _ 19 v W' → K { tmps := #[f 0, f 1, f 2, f 3, f 4, f 5, f 6, f 7, f 8, f 9, f 10, f 11, f 12, f 13, f 14, f 15, f 16, f 17, f 18, v, f 20, f 21, f 22, f 23, f 24], defers := [] } W' := hK
      change wpList _ #[_] _ [_] { tmps := #[f 0, f 1, f 2, f 3, f 4, f 5, f 6, f 7, f 8, f 9, f 10, f 11, f 12, f 13, f 14, f 15, f 16, f 17, f 18, f 19, f 20, f 21, f 22, f 23, f 24], defers := [] } W
      clear hK hd hold
      simp only [ze1] at HK ⊢
      clear ze1
      have HK := Aside.mk HK
      go_wp2
      exact HK.out _ _ (Chg.refl _) rfl
    · -- 20 := load 3 t19
      intro f W hW hold hd K hK
      refine .inl ⟨wanted_free rfl _, ?_⟩
      dsimp only [bare]
      have ze19 : f 19 = .pointer (some ⟨w.heap.size, 1, none⟩) := hd 19 rfl rfl
      have HK : ∀ v W', Chg (fun _ => False) (fun _ => True) W W' → chgV (fun _ => False) (fun _ => True) _ 20 v W' → K { tmps := #[f 0, f 1, f 2, f 3, f 4, f 5, f 6, f 7, f 8, f 9, f 10, f 11, f 12, f 13, f 14, f 15, f 16, f 17, f 18, f 19, v, f 21, f 22, f 23, f 24], defers := [] } W' := hK
      change wpList _ #[_] _ [_] { tmps := #[f 0, f 1, f 2, f 3, f 4, f 5, f 6, f 7, f 8, f 9, f 10, f 11, f 12, f 13, f 14, f 15, f 16, f 17, f 18, f 19, f 20, f 21, f 22, f 23, f 24], defers := [] } W
      clear hK hd hold
      simp only [ze19] at HK ⊢
      clear ze19
      have HK := Aside.mk HK
      have hh := hW.blk (HBX.out) (id); have hcell := cell_of_row W (w.heap.size) 1 _ _ _ hh; clear hh
      go_wp2
      exact HK.out _ _ (Chg.refl _) rfl
    · -- 21 := binOp leq 3 t18 t20 3
      intro f W hW hold hd K hK
      refine .inl ⟨wanted_free rfl _, ?_⟩
      dsimp only [bare]
      have ze18 : f 18 = .int .i64 (u1 + u2) := hd 18 rfl rfl
      have ze20 : f 20 = .int .i64 ha := hd 20 rfl rfl
      have HK : ∀ v W', Chg (fun _ => False) (fun _ => True) W W' → chgV (fun _ => False) (fun _ => True) _ 21 v W' → K { tmps := #[f 0, f 1, f 2, f 3, f 4, f 5, f 6, f 7, f 8, f 9, f 10, f 11, f 12, f 13, f 14, f 15, f 16, f 17, f 18, f 19, f 20, v, f 22, f 23, f 24], defers := [] } W' := hK
      change wpList _ #[_] _ [_] { tmps := #[f 0, f 1, f 2, f 3, f 4, f 5, f 6, f 7, f 8, f 9, f 10, f 11, f 12, f 13, f 14, f 15, f 16, f 17, f 18, f 19, f 20, f 21, f 22, f 23, f 24], defers := [] } W
      clear hK hd hold
      simp only [ze18, ze20] at HK ⊢
      clear ze18 ze20
      have HK := Aside.mk HK
      go_wp2
      exact HK.out _ _ (Chg.refl _) rfl
    · intro f W hW hold hd aAct hAct
      replace hAct := hAct.trans (rel_puts hold)
      have ze7 : f 7 = .int .i64 (n : Nat) := hd 7 rfl
      have ze8 : f 8 = .int .i64 ((n : Int) + 1) := hd 8 rfl
      have ze9 : f 9 = .pointer (some ⟨w.heap.size, 2, none⟩) := hd 9 rfl
      have ze10 : f 10 = .int .i64 ro := hd 10 rfl
      have ze11 : f 11 = .int .i64 u1 := hd 11 rfl
      have ze12 : f 12 = .int .i64 (n : Nat) := hd 12 rfl
      have ze13 : f 13 = .int .i64 ((n : Int) + 1) := hd 13 rfl
      have ze14 : f 14 = .int .i64 (2 * ((n : Int) + 1)) := hd 14 rfl
      have ze15 : f 15 = .pointer (some ⟨w.heap.size, 2, none⟩) := hd 15 rfl
      have ze16 : f 16 = .int .i64 ro := hd 16 rfl
      have ze17 : f 17 = .int .i64 u2 := hd 17 rfl
      have ze18 : f 18 = .int .i64 (u1 + u2) := hd 18 rfl
      have ze19 : f 19 = .pointer (some ⟨w.heap.size, 1, none⟩) := hd 19 rfl
      have ze20 : f 20 = .int .i64 ha := hd 20 rfl
      have ze21 : f 21 = .bool (decide (u1 + u2 ≤ ha)) := hd 21 rfl
      simp only [List.take_succ_cons, List.take_zero, putAll, List.foldl_cons, List.foldl_nil, Option.getD_some] at hAct
      simp only [ze7, ze8, ze9, ze10, ze11, ze12, ze13, ze14, ze15, ze16, ze17, ze18, ze19, ze20, ze21] at hAct
      subst hAct
      simp only [List.drop_succ_cons, List.drop_nil, Act.put, List.setIfInBounds_toArray, List.set_cons_zero, List.set_cons_succ]
      clear hold hd ze7 ze8 ze9 ze10 ze11 ze12 ze13 ze14 ze15 ze16 ze17 ze18 ze19 ze20 ze21
      have hbf : Below w.heap.size w W := ⟨hW.os.trans HB.out.os, hW.tape.trans HB.out.tape, hW.output.trans HB.out.output, Nat.le_trans HB.out.size hW.size, fun q hq => (hW.block q (Nat.lt_of_lt_of_le hq HB.out.size) id).trans (HB.out.block q hq)⟩
      have hblk := hW.blk HBX.out id
      have HW2 := Aside.mk (And.intro hbf hblk)
      clear hbf hblk
      have HOLD := Aside.mk hW
      clear hW
      cases hcd : decide (u1 + u2 ≤ ha)
      · have hno := of_decide_eq_false hcd
        rw [HU.out.1, HU.out.2] at hno
        have HNO := Aside.mk hno
        clear hcd hno
        go_wp2
        go_ret
        exact ⟨n, rfl, ⟨HI.out.2, by unfold capC; have := HNO.out; omega⟩, HW2.out.1⟩
      · have hyes := of_decide_eq_true hcd
        rw [HU.out.1, HU.out.2] at hyes
        have hbd := cap_bound HP.out.1 HP.out.2.1 HP.out.2.2 hyes
        have HY := Aside.mk (And.intro hyes hbd)
        clear hcd hyes hbd
        go_wp2
        go_roundw
        case rel => exact ⟨n + 1, by go_num, HY.out.2, ⟨HW2.out, fun m hm => (by
          rcases Nat.lt_or_ge m n with h | h
          · exact HI.out.2 m h
          · obtain rfl : m = n := by omega
            exact HY.out.1)⟩⟩
        case measure => simp [intOf]; have := HY.out.2; omega
end Go.Proofs.Ytffdpmejilmnnaa
