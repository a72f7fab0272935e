/-
  A block known whole: its cells, what a store leaves of it.
  The plan of a geometry.
  The document's plan.
-/
import Derived.Test.YtffdpmejilmnnaaMg2
import Derived.Test.YtffdpmejilmnnaaMg10
namespace Go.Proofs.Ytffdpmejilmnnaa
open Go.RowKit

theorem row_cell {W : World} {g : Nat} {cs : Array Value} {t : TypeId} (h : W.heap[g]? = some (.cells cs t (0, 0))) (i : Nat) {v : Value} (hv : cs[i]? = some v) : W.cell? ⟨g, i, none⟩ = some v ∧ W.frozen? ⟨g, i, none⟩ = false :=
  ⟨(cell_of_row W g i _ _ _ h).trans hv, by simp [World.frozen?, h]⟩
theorem row_set {W : World} {g i : Nat} {cs : Array Value} {t : TypeId} {fr : Nat × Nat} (h : W.heap[g]? = some (.cells cs t fr)) (v : Value) : (W.setCell ⟨g, i, none⟩ v).heap[g]? = some (.cells (cs.setIfInBounds i v) t fr) := by
  have hlt : g < W.heap.size := (Array.getElem?_eq_some_iff.1 h).1
  simp [World.setCell, Array.getElem?_modify, h]
theorem row_other {W : World} {g i b : Nat} {o : Obj} (h : W.heap[b]? = some o) (hne : b ≠ g) (v : Value) : (W.setCell ⟨g, i, none⟩ v).heap[b]? = some o :=
  (Below.heap_setCell _ _ _ _ (by simpa using hne)).trans h
theorem row_alloc {W : World} {b : Nat} {o : Obj} (h : W.heap[b]? = some o) (X : Obj) : (W.alloc X).heap[b]? = some o :=
  (Below.heap_alloc W X b (by have := (Array.getElem?_eq_some_iff.1 h).1; omega)).trans h
end Go.Proofs.Ytffdpmejilmnnaa
namespace Go.Proofs.Ytffdpmejilmnnaa
open Go.RowKit

/-- A plan's numbers. -/
structure PlanT where
  jo : Int
  ha : Int
  ro : Int
  by_ : Int
  si : Int
def PlanT.cells (p : PlanT) : Array Value := #[.int .i64 p.jo, .int .i64 p.ha, .int .i64 p.ro, .int .i64 p.by_, .int .i64 p.si]
def PlanT.v (p : PlanT) : Value := .agg #[.int .i64 p.jo, .int .i64 p.ha, .int .i64 p.ro, .int .i64 p.by_, .int .i64 p.si]
def PlanT.none : PlanT := ⟨0, 0, 0, 0, 0⟩
def ofP (b p c ch t : Int) : Prop := goodP b p c ch t ∧ 249 ≤ payI c ch ∧ 12 ≤ b ∧ 16 ≤ p
instance (b p c ch t : Int) : Decidable (ofP b p c ch t) := by unfold ofP; infer_instance
def dLen (q : Bool) (p : Int) : Int := ((dataL q (p.toNat - 3)).length : Int)
def planOf (b p c ch : Int) : PlanT := ⟨max (b / 8) 2, (b - max (b / 8) 2 - 4) / 2, dLen false p - 2, payI c ch, dLen true p - 2⟩
def planG (b p c ch t : Int) : PlanT := if ofP b p c ch t then planOf b p c ch else PlanT.none
/-- How many pages hold data. -/
theorem dLen_at : ∀ n : Nat, n < 65 → 16 ≤ n → n % 4 = 0 → (dataL false (n - 3)).length = n - 3 ∧ 2 ≤ (dataL true (n - 3)).length ∧ (dataL true (n - 3)).length ≤ n - 3 := by decide +kernel
/-- parity.Of, as the plan wants it. -/
theorem par_len (p : Int) (q : Bool) (w : World) (h1 : 4 ≤ p) (h2 : p ≤ 64) (h3 : p % 4 = 0) :
    Calls Try.prog 13 #[.int .i64 p, .bool q] w fun e w' => ∃ A1 c1 A2 n2 c2, e = .returned (.tuple #[.agg #[.slice A1 (dataL q (p.toNat - 3)).length c1, .slice A2 n2 c2], .bool true]) ∧ Aside (Below w.heap.size w w') := by
  obtain ⟨N, rfl⟩ := Int.eq_ofNat_of_zero_le (show 0 ≤ p by omega)
  refine (parity_of N q w (by omega) (by omega) (by omega)).mono ?_
  rintro e w' ⟨⟨v1, v2, hr1, hr2, rfl⟩, hb⟩
  obtain ⟨A1, c1, rfl, _⟩ := hr1.slice
  obtain ⟨A2, c2, rfl, _⟩ := hr2.slice
  exact ⟨A1, c1, A2, _, c2, by rw [Int.toNat_natCast], ⟨hb⟩⟩
theorem ref_len (p : Int) (q : Bool) (w : World) (h1 : 4 ≤ p) (h2 : p ≤ 64) (h3 : p % 4 = 0) :
    Calls Try.prog 15 #[.int .i64 p, .bool q] w fun e w' => ∃ A1 c1 A2 n2 c2, e = .returned (.tuple #[.slice A1 (dataL q (p.toNat - 3)).length c1, .slice A2 n2 c2, .bool true]) ∧ Aside (Below w.heap.size w w') := by
  obtain ⟨N, rfl⟩ := Int.eq_ofNat_of_zero_le (show 0 ≤ p by omega)
  refine (ref_of N q w (by omega) (by omega) (by omega)).mono ?_
  rintro e w' ⟨⟨v1, v2, hr1, hr2, rfl⟩, hb⟩
  obtain ⟨A1, c1, rfl, _⟩ := hr1.slice
  obtain ⟨A2, c2, rfl, _⟩ := hr2.slice
  exact ⟨A1, c1, A2, _, c2, by rw [Int.toNat_natCast], ⟨hb⟩⟩
/-- Either way what the sizes are. -/
def payG (b p c ch t : Int) : Int := if goodP b p c ch t then payI c ch else 0
theorem raw_any (b p c ch t : Int) (w : World) :
    Calls Try.prog 12 #[geoV b p c ch t] w fun e w' => ∃ r, e = .returned (.tuple #[.int .i64 r, .int .i64 (payG b p c ch t)]) ∧ Aside (Below w.heap.size w w') := by
  unfold payG
  by_cases h : goodP b p c ch t
  · rw [if_pos h]
    refine (page_raw b p c ch t w h).mono ?_
    rintro e w' ⟨rfl, hb⟩
    exact ⟨_, rfl, ⟨hb⟩⟩
  · rw [if_neg h]
    refine (page_raw_not b p c ch t w h).mono ?_
    rintro e w' ⟨rfl, hb⟩
    exact ⟨_, rfl, ⟨hb⟩⟩
structure OfAt (w : World) (T1 T2 : TypeId) (b p c ch t : Int) (x : PlanT) (W : World) : Prop where
  bel : Below w.heap.size w W
  geo : W.heap[w.heap.size]? = some (.cells #[.int .i64 b, .int .i64 p, .int .i64 c, .int .i64 ch, .int .i64 t] T1 (0, 0))
  res : W.heap[w.heap.size + 1]? = some (.cells x.cells T2 (0, 0))
theorem OfAt.below {w W W' : World} {T1 T2 : TypeId} {b p c ch t : Int} {x : PlanT} (h : OfAt w T1 T2 b p c ch t x W) (hb : Below W.heap.size W W') : OfAt w T1 T2 b p c ch t x W' :=
  ⟨h.bel.trans (hb.mono h.bel.size), (hb.block _ (Array.getElem?_eq_some_iff.1 h.geo).1).trans h.geo, (hb.block _ (Array.getElem?_eq_some_iff.1 h.res).1).trans h.res⟩
theorem OfAt.cellG {w W : World} {T1 T2 : TypeId} {b p c ch t : Int} {x : PlanT} (h : OfAt w T1 T2 b p c ch t x W) : W.cell? ⟨w.heap.size, 0, none⟩ = some (.int .i64 b) ∧ W.cell? ⟨w.heap.size, 1, none⟩ = some (.int .i64 p) :=
  ⟨cell_of_row W _ 0 _ _ _ h.geo, cell_of_row W _ 1 _ _ _ h.geo⟩
theorem OfAt.start (w : World) (T1 T2 : TypeId) (b p c ch t : Int) : OfAt w T1 T2 b p c ch t PlanT.none ((w.alloc (.cells #[.int .i64 b, .int .i64 p, .int .i64 c, .int .i64 ch, .int .i64 t] T1)).alloc (.cells #[.int .i64 0, .int .i64 0, .int .i64 0, .int .i64 0, .int .i64 0] T2)) := by
  have h1 := heap_alloc_new w (.cells #[.int .i64 b, .int .i64 p, .int .i64 c, .int .i64 ch, .int .i64 t] T1)
  have hs : (w.alloc (.cells #[.int .i64 b, .int .i64 p, .int .i64 c, .int .i64 ch, .int .i64 t] T1)).heap.size = w.heap.size + 1 := by simp
  have h2 := heap_alloc_new (w.alloc (.cells #[.int .i64 b, .int .i64 p, .int .i64 c, .int .i64 ch, .int .i64 t] T1)) (.cells #[.int .i64 0, .int .i64 0, .int .i64 0, .int .i64 0, .int .i64 0] T2)
  have hb1 := (Below.refl w.heap.size w).alloc (Nat.le_refl _) (.cells #[.int .i64 b, .int .i64 p, .int .i64 c, .int .i64 ch, .int .i64 t] T1)
  have hb2 := (Below.refl (w.alloc (.cells #[.int .i64 b, .int .i64 p, .int .i64 c, .int .i64 ch, .int .i64 t] T1)).heap.size (w.alloc (.cells #[.int .i64 b, .int .i64 p, .int .i64 c, .int .i64 ch, .int .i64 t] T1))).alloc (Nat.le_refl _) (.cells #[.int .i64 0, .int .i64 0, .int .i64 0, .int .i64 0, .int .i64 0] T2)
  exact ⟨hb1.trans (hb2.mono (by omega)), (hb2.block _ (by omega)).trans h1, by rw [← hs]; exact h2⟩
/-- A plan stored. -/
def put5 (W : World) (g : Nat) (x : PlanT) : World := ((((W.setCell ⟨g, 0, none⟩ (.int .i64 x.jo)).setCell ⟨g, 1, none⟩ (.int .i64 x.ha)).setCell ⟨g, 2, none⟩ (.int .i64 x.ro)).setCell ⟨g, 3, none⟩ (.int .i64 x.by_)).setCell ⟨g, 4, none⟩ (.int .i64 x.si)
theorem put5_row {W : World} {g : Nat} {x y : PlanT} {T : TypeId} (h : W.heap[g]? = some (.cells y.cells T (0, 0))) : (put5 W g x).heap[g]? = some (.cells x.cells T (0, 0)) :=
  row_set (row_set (row_set (row_set (row_set h _) _) _) _) _
theorem put5_below {W w : World} {g B : Nat} (x : PlanT) (h : Below B w W) (hg : B ≤ g) : Below B w (put5 W g x) :=
  ((((h.setCell (p := ⟨g, 0, none⟩) hg _).setCell (p := ⟨g, 1, none⟩) hg _).setCell (p := ⟨g, 2, none⟩) hg _).setCell (p := ⟨g, 3, none⟩) hg _).setCell (p := ⟨g, 4, none⟩) hg _
theorem row5 {W : World} {g : Nat} {x : PlanT} {T : TypeId} (h : W.heap[g]? = some (.cells x.cells T (0, 0))) : W.cell? ⟨g, 0, none⟩ = some (.int .i64 x.jo) ∧ W.cell? ⟨g, 1, none⟩ = some (.int .i64 x.ha) ∧ W.cell? ⟨g, 2, none⟩ = some (.int .i64 x.ro) ∧ W.cell? ⟨g, 3, none⟩ = some (.int .i64 x.by_) ∧ W.cell? ⟨g, 4, none⟩ = some (.int .i64 x.si) :=
  ⟨cell_of_row W g 0 _ _ _ h, cell_of_row W g 1 _ _ _ h, cell_of_row W g 2 _ _ _ h, cell_of_row W g 3 _ _ _ h, cell_of_row W g 4 _ _ _ h⟩
theorem free5 {W : World} {g : Nat} {x : PlanT} {T : TypeId} (h : W.heap[g]? = some (.cells x.cells T (0, 0))) (i : Nat) : W.frozen? ⟨g, i, none⟩ = false := by simp [World.frozen?, h]
set_option maxRecDepth 20000 in
set_option maxHeartbeats 2000000 in
theorem space_of_not (b p c ch t : Int) (w : World) (hn : ¬ ofP b p c ch t) :
    Calls Try.prog 6 #[geoV b p c ch t] w fun e w' => e = .returned (.tuple #[(PlanT.none).v, .bool false]) ∧ Below w.heap.size w w' := by
  have H0 := Aside.mk (OfAt.start w 29 25 b p c ch t)
  have hcs : payG b p c ch t < 249 ∨ (¬ payG b p c ch t < 249 ∧ b < 12) ∨ (¬ payG b p c ch t < 249 ∧ ¬ b < 12 ∧ p < 16) := by
    unfold ofP at hn
    unfold payG
    by_cases hg : goodP b p c ch t
    · rw [if_pos hg]
      have : ¬ (249 ≤ payI c ch ∧ 12 ≤ b ∧ 16 ≤ p) := fun h => hn ⟨hg, h⟩
      omega
    · rw [if_neg hg]; omega
  have HR := Aside.mk (raw_any b p c ch t)
  clear hn
  generalize payG b p c ch t = pay at *
  go_enter Try.func6, Try.ntmps6
  go_upto_region 2 with (go_at_call 12; refine (HR.out _).mono ?_; rintro e w1 ⟨r, rfl, HB1⟩)
  have H1 := Aside.mk (H0.out.below HB1.out)
  obtain ⟨g0, g1⟩ := H1.out.cellG
  have f0 := free5 H1.out.res 0
  have f1 := free5 H1.out.res 1
  have f2 := free5 H1.out.res 2
  have f3 := free5 H1.out.res 3
  have f4 := free5 H1.out.res 4
  obtain ⟨d0, d1, d2, d3, d4⟩ := row5 H1.out.res
  have hfin := put5_row (x := PlanT.none) H1.out.res
  have hbf := put5_below PlanT.none H1.out.bel (Nat.le_succ w.heap.size)
  have HF := Aside.mk (And.intro hfin hbf)
  clear H0 HR hfin hbf HB1
  rcases hcs with h | ⟨h, h2⟩ | ⟨h, h2, h3⟩
  all_goals
    go_wp2
    obtain ⟨hfin, hbf⟩ := HF.out
    obtain ⟨z0, z1, z2, z3, z4⟩ := row5 hfin
    change bodyPost _ _ _ _ _ (put5 w1 (w.heap.size + 1) PlanT.none)
    generalize put5 w1 (w.heap.size + 1) PlanT.none = Wf at *
    exact bodyPost_ret (v := .tuple #[(PlanT.none).v, .bool false]) (by simp [results, Try.results6, go_sem, z0, z1, z2, z3, z4, PlanT.v]) rfl ⟨rfl, hbf⟩
set_option maxRecDepth 20000 in
set_option maxHeartbeats 2000000 in
theorem space_of (b p c ch t : Int) (w : World) (ho : ofP b p c ch t) :
    Calls Try.prog 6 #[geoV b p c ch t] w fun e w' => e = .returned (.tuple #[(planOf b p c ch).v, .bool true]) ∧ Below w.heap.size w w' := by
  have H0 := Aside.mk (OfAt.start w 29 25 b p c ch t)
  have HR := Aside.mk (raw_any b p c ch t)
  have hpay : payG b p c ch t = payI c ch := by unfold payG; rw [if_pos ho.1]
  rw [hpay] at HR
  obtain ⟨hg, ho1, ho2, ho3⟩ := ho
  have hpb : payI c ch ≤ 2000 := by have := raw_bounds hg; unfold payI; omega
  have HP0 := Aside.mk (fun W => par_len p false W hg.2.2.1 hg.2.2.2.1 hg.2.2.2.2.1)
  have HP1 := Aside.mk (fun W => par_len p true W hg.2.2.1 hg.2.2.2.1 hg.2.2.2.2.1)
  have hdl := dLen_at p.toNat (by have := hg.2.2.2.1; omega) (by omega) (by have := hg.2.2.2.2.1; omega)
  have hb64 := hg.2.1
  have hx : planOf b p c ch = ⟨max (b / 8) 2, (b - max (b / 8) 2 - 4) / 2, ((dataL false (p.toNat - 3)).length : Int) - 2, payI c ch, ((dataL true (p.toNat - 3)).length : Int) - 2⟩ := rfl
  obtain ⟨jo, hjo⟩ : ∃ jo, jo = max (b / 8) 2 := ⟨_, rfl⟩
  rw [← hjo] at hx
  have HX := Aside.mk hx
  have hj2 : 2 ≤ jo ∧ jo ≤ 8 ∧ jo ≤ b - 4 := by omega
  have hq : b.tdiv 8 = b / 8 := by rw [Int.tdiv_eq_ediv_of_nonneg (by omega)]
  have e1 : IntKind.i64.wrap (b / 8) = b / 8 := by rw [IntKind.wrap_i64]; omega
  have HJO := Aside.mk hjo
  have hl0 : 3 ≤ p := by omega
  have hp64 : p ≤ 64 := hg.2.2.2.1
  have hl1 : ((dataL false (p.toNat - 3)).length : Int) ≤ 64 := by omega
  have hl2 : (2 : Int) ≤ ((dataL false (p.toNat - 3)).length : Int) := by omega
  have hl3 : ((dataL true (p.toNat - 3)).length : Int) ≤ 64 := by omega
  have hl4 : (2 : Int) ≤ ((dataL true (p.toNat - 3)).length : Int) := by omega
  generalize (dataL false (p.toNat - 3)).length = l0 at *
  generalize (dataL true (p.toNat - 3)).length = l1 at *
  clear hg hpay hx hdl hjo
  generalize payI c ch = pay at *
  go_enter Try.func6, Try.ntmps6
  go_upto_region 2 with (go_at_call 12; refine (HR.out _).mono ?_; rintro e w1 ⟨r, rfl, HB1⟩)
  have H1 := Aside.mk (H0.out.below HB1.out)
  obtain ⟨g0, g1⟩ := H1.out.cellG
  clear H0 HR HB1
  go_upto_region 5 with (go_at_call 13; refine (HP0.out _).mono ?_; rintro e w2 ⟨A1, c1, A2, n2, c2, rfl, HB2⟩)
  have h1 := H1.out.below HB2.out
  have hb3 := (Below.refl w2.heap.size w2).alloc (Nat.le_refl _) (.cells #[.slice A1 l0 c1, .slice A2 n2 c2] 45)
  have h3 := h1.below hb3
  have hk3 := heap_alloc_new w2 (.cells #[.slice A1 l0 c1, .slice A2 n2 c2] 45)
  generalize w2.alloc (.cells #[.slice A1 l0 c1, .slice A2 n2 c2] 45) = w3 at *
  generalize w2.heap.size = q6 at *
  have H3 := Aside.mk (And.intro h3 hk3)
  obtain ⟨_, k1⟩ := h3.cellG
  clear g0 g1 h1 hb3 h3 hk3 H1
  go_upto_region 6 with (go_at_call 13; refine (HP1.out _).mono ?_; rintro e w4 ⟨A3, c3, A4, n4, c4, rfl, HB4⟩)
  have h4 := H3.out.1.below HB4.out
  have hk4 := below_blk H3.out.2 HB4.out
  have hb5 := (Below.refl w4.heap.size w4).alloc (Nat.le_refl _) (.cells #[.slice A3 l1 c3, .slice A4 n4 c4] 45)
  have h5 := h4.below hb5
  have hk5 := below_blk hk4 hb5
  have hm5 := heap_alloc_new w4 (.cells #[.slice A3 l1 c3, .slice A4 n4 c4] 45)
  generalize w4.alloc (.cells #[.slice A3 l1 c3, .slice A4 n4 c4] 45) = w5 at *
  generalize w4.heap.size = q8 at *
  have H5 := Aside.mk h5
  obtain ⟨g0, g1⟩ := h5.cellG
  have k6 := cell_of_row w5 q6 0 _ _ _ hk5
  have k8 := cell_of_row w5 q8 0 _ _ _ hm5
  simp only [List.getElem?_cons_zero, List.getElem?_toArray] at k6 k8
  clear k1 h4 hk4 hb5 h5 hk5 hm5 H3
  go_cut [10] (fun s10 wx => ∃ q, s10 = .pointer (some ⟨q, 0, none⟩) ∧ wx.heap[q]? = some (.cells #[.int .i64 jo, .int .i64 0, .int .i64 ((l0 : Int) - 2), .int .i64 pay, .int .i64 ((l1 : Int) - 2)] 25 (0, 0)) ∧ Below w5.heap.size w5 wx ∧ w5.heap.size ≤ q)
  case first =>
    as_aux_lemma =>
      have hjo := HJO.out
      have w0 : IntKind.i64.wrap ((l0 : Int) - 2) = (l0 : Int) - 2 := by rw [IntKind.wrap_i64]; omega
      have w1 : IntKind.i64.wrap ((l1 : Int) - 2) = (l1 : Int) - 2 := by rw [IntKind.wrap_i64]; omega
      go_wp2
      go_meet
      exact ⟨_, rfl, by rw [hjo]; exact heap_alloc_new w5 _, (Below.refl w5.heap.size w5).alloc (Nat.le_refl _) _, Nat.le_refl _⟩
  case rest =>
  obtain ⟨q, rfl, hq10, hb10, hq5⟩ := hcut
  have h6 := H5.out.below hb10
  have H6 := Aside.mk h6
  have hqne : q ≠ w.heap.size + 1 := fun e => by
    have h := h6.res
    rw [← e, hq10] at h
    injection h with h
    injection h with h _ _
    have h2 : (Value.int .i64 jo) = (Value.int .i64 PlanT.none.jo) := by
      have := congrArg (fun a => a[0]?) h
      simpa [PlanT.cells] using this
    injection h2 with _ h2
    have : jo = 0 := h2
    omega
  obtain ⟨g0', _⟩ := h6.cellG
  have z0 := cell_of_row wc q 0 _ _ _ hq10
  have z1 := cell_of_row wc q 1 _ _ _ hq10
  have f1 : wc.frozen? ⟨q, 1, none⟩ = false := by simp [World.frozen?, hq10]
  simp only [List.getElem?_cons_zero, List.getElem?_cons_succ, List.getElem?_toArray] at z0 z1
  have v1 : IntKind.i64.wrap (b - jo) = b - jo := by rw [IntKind.wrap_i64]; omega
  have v2 : IntKind.i64.wrap (b - jo - 4) = b - jo - 4 := by rw [IntKind.wrap_i64]; omega
  have v3 : (b - jo - 4).tdiv 2 = (b - jo - 4) / 2 := by rw [Int.tdiv_eq_ediv_of_nonneg (by omega)]
  have v4 : IntKind.i64.wrap ((b - jo - 4) / 2) = (b - jo - 4) / 2 := by rw [IntKind.wrap_i64]; omega
  have hset : (wc.setCell ⟨q, 1, none⟩ (.int .i64 ((b - jo - 4) / 2))).heap[q]? = some (.cells (⟨jo, (b - jo - 4) / 2, (l0 : Int) - 2, pay, (l1 : Int) - 2⟩ : PlanT).cells 25 (0, 0)) := row_set hq10 _
  have hres : (wc.setCell ⟨q, 1, none⟩ (.int .i64 ((b - jo - 4) / 2))).heap[w.heap.size + 1]? = some (.cells PlanT.none.cells 25 (0, 0)) := row_other h6.res (Ne.symm hqne) _
  have hq1 : w.heap.size ≤ q := Nat.le_trans H5.out.bel.size hq5
  have hbW : Below w.heap.size w (wc.setCell ⟨q, 1, none⟩ (.int .i64 ((b - jo - 4) / 2))) := h6.bel.setCell (p := ⟨q, 1, none⟩) hq1 _
  clear h6 g0 g1 k6 k8 hb10 hq10 hqne hq5
  apply_assumption
  go_upto_region 8 with fail
  generalize wc.setCell ⟨q, 1, none⟩ (.int .i64 ((b - jo - 4) / 2)) = w7 at *
  rw [← HX.out] at hset
  clear g0' z0 z1 f1 v1 v2 v3 v4 hq1
  have f0 := free5 hres 0
  have f1 := free5 hres 1
  have f2 := free5 hres 2
  have f3 := free5 hres 3
  have f4 := free5 hres 4
  obtain ⟨d0, d1, d2, d3, d4⟩ := row5 hset
  obtain ⟨r0, r1, r2, r3, r4⟩ := row5 hres
  have hfin := put5_row (x := planOf b p c ch) hres
  have hbf := put5_below (planOf b p c ch) hbW (Nat.le_succ w.heap.size)
  have HF := Aside.mk (And.intro hfin hbf)
  clear hset hres hbW hfin hbf HX
  obtain ⟨X, hX⟩ : ∃ X, X = planOf b p c ch := ⟨_, rfl⟩
  rw [← hX] at HF d0 d1 d2 d3 d4
  have HXE := Aside.mk hX
  clear hX
  go_wp2
  obtain ⟨hfin, hbf⟩ := HF.out
  obtain ⟨z0, z1, z2, z3, z4⟩ := row5 hfin
  change bodyPost _ _ _ _ _ (put5 w7 (w.heap.size + 1) X)
  generalize put5 w7 (w.heap.size + 1) X = Wf at *
  exact bodyPost_ret (v := .tuple #[X.v, .bool true]) (by simp [results, Try.results6, go_sem, z0, z1, z2, z3, z4, PlanT.v]) rfl ⟨by rw [HXE.out], hbf⟩
end Go.Proofs.Ytffdpmejilmnnaa
namespace Go.Proofs.Ytffdpmejilmnnaa
open Go.RowKit

theorem sizes_any (b p c ch t : Int) (w : World) :
    Calls Try.prog 14 #[geoV b p c ch t] w fun e w' => ∃ r, e = .returned (.tuple #[.int .i64 r, .int .i64 (payG b p c ch t)]) ∧ Aside (Below w.heap.size w w') := by
  unfold payG
  by_cases h : goodP b p c ch t
  · rw [if_pos h]
    refine (ref_sizes b p c ch t w h).mono ?_
    rintro e w' ⟨rfl, hb⟩
    exact ⟨_, rfl, ⟨hb⟩⟩
  · rw [if_neg h]
    have hb := (Below.refl w.heap.size w).alloc (Nat.le_refl _) (.cells #[.int .i64 b, .int .i64 p, .int .i64 c, .int .i64 ch, .int .i64 t] 33)
    have HB := Aside.mk hb
    have HGC := Aside.mk (ref_good b p c ch t)
    rw [good_no h] at HGC
    clear hb h
    go_enter Try.func14, Try.ntmps14
    go_wp2_with (go_at_call 22; refine (HGC.out _).mono ?_; rintro e w2 ⟨rfl, hb2⟩)
    go_ret2
    exact ⟨0, rfl, ⟨HB.out.trans (hb2.mono HB.out.size)⟩⟩
set_option maxRecDepth 20000 in
set_option maxHeartbeats 2000000 in
theorem ref_plan_not (b p c ch t : Int) (w : World) (hn : ¬ ofP b p c ch t) :
    Calls Try.prog 7 #[geoV b p c ch t] w fun e w' => e = .returned (.tuple #[(PlanT.none).v, .bool false]) ∧ Below w.heap.size w w' := by
  have H0 := Aside.mk (OfAt.start w 33 30 b p c ch t)
  have hcs : payG b p c ch t < 249 ∨ (¬ payG b p c ch t < 249 ∧ b < 12) ∨ (¬ payG b p c ch t < 249 ∧ ¬ b < 12 ∧ p < 16) := by
    unfold ofP at hn
    unfold payG
    by_cases hg : goodP b p c ch t
    · rw [if_pos hg]
      have : ¬ (249 ≤ payI c ch ∧ 12 ≤ b ∧ 16 ≤ p) := fun h => hn ⟨hg, h⟩
      omega
    · rw [if_neg hg]; omega
  have HR := Aside.mk (sizes_any b p c ch t)
  clear hn
  generalize payG b p c ch t = pay at *
  go_enter Try.func7, Try.ntmps7
  go_upto_region 2 with (go_at_call 14; refine (HR.out _).mono ?_; rintro e w1 ⟨r, rfl, HB1⟩)
  have H1 := Aside.mk (H0.out.below HB1.out)
  obtain ⟨g0, g1⟩ := H1.out.cellG
  have f0 := free5 H1.out.res 0
  have f1 := free5 H1.out.res 1
  have f2 := free5 H1.out.res 2
  have f3 := free5 H1.out.res 3
  have f4 := free5 H1.out.res 4
  obtain ⟨d0, d1, d2, d3, d4⟩ := row5 H1.out.res
  have hfin := put5_row (x := PlanT.none) H1.out.res
  have hbf := put5_below PlanT.none H1.out.bel (Nat.le_succ w.heap.size)
  have HF := Aside.mk (And.intro hfin hbf)
  clear H0 HR hfin hbf HB1
  rcases hcs with h | ⟨h, h2⟩ | ⟨h, h2, h3⟩
  all_goals
    go_wp2
    obtain ⟨hfin, hbf⟩ := HF.out
    obtain ⟨z0, z1, z2, z3, z4⟩ := row5 hfin
    change bodyPost _ _ _ _ _ (put5 w1 (w.heap.size + 1) PlanT.none)
    generalize put5 w1 (w.heap.size + 1) PlanT.none = Wf at *
    exact bodyPost_ret (v := .tuple #[(PlanT.none).v, .bool false]) (by simp [results, Try.results7, go_sem, z0, z1, z2, z3, z4, PlanT.v]) rfl ⟨rfl, hbf⟩
set_option maxRecDepth 20000 in
set_option maxHeartbeats 2000000 in
theorem ref_plan (b p c ch t : Int) (w : World) (ho : ofP b p c ch t) :
    Calls Try.prog 7 #[geoV b p c ch t] w fun e w' => e = .returned (.tuple #[(planOf b p c ch).v, .bool true]) ∧ Below w.heap.size w w' := by
  have H0 := Aside.mk (OfAt.start w 33 30 b p c ch t)
  have HR := Aside.mk (sizes_any b p c ch t)
  have hpay : payG b p c ch t = payI c ch := by unfold payG; rw [if_pos ho.1]
  rw [hpay] at HR
  obtain ⟨hg, ho1, ho2, ho3⟩ := ho
  have hpb : payI c ch ≤ 2000 := by have := raw_bounds hg; unfold payI; omega
  have HP0 := Aside.mk (fun W => ref_len p false W hg.2.2.1 hg.2.2.2.1 hg.2.2.2.2.1)
  have HP1 := Aside.mk (fun W => ref_len p true W hg.2.2.1 hg.2.2.2.1 hg.2.2.2.2.1)
  have hdl := dLen_at p.toNat (by have := hg.2.2.2.1; omega) (by omega) (by have := hg.2.2.2.2.1; omega)
  have hb64 := hg.2.1
  have hx : planOf b p c ch = ⟨max (b / 8) 2, (b - max (b / 8) 2 - 4) / 2, ((dataL false (p.toNat - 3)).length : Int) - 2, payI c ch, ((dataL true (p.toNat - 3)).length : Int) - 2⟩ := rfl
  obtain ⟨jo, hjo⟩ : ∃ jo, jo = max (b / 8) 2 := ⟨_, rfl⟩
  rw [← hjo] at hx
  have HX := Aside.mk hx
  have hj2 : 2 ≤ jo ∧ jo ≤ 8 ∧ jo ≤ b - 4 := by omega
  have hq : b.tdiv 8 = b / 8 := by rw [Int.tdiv_eq_ediv_of_nonneg (by omega)]
  have e1 : IntKind.i64.wrap (b / 8) = b / 8 := by rw [IntKind.wrap_i64]; omega
  have HJO := Aside.mk hjo
  have hp64 : p ≤ 64 := hg.2.2.2.1
  have hl1 : ((dataL false (p.toNat - 3)).length : Int) ≤ 64 := by omega
  have hl2 : (2 : Int) ≤ ((dataL false (p.toNat - 3)).length : Int) := by omega
  have hl3 : ((dataL true (p.toNat - 3)).length : Int) ≤ 64 := by omega
  have hl4 : (2 : Int) ≤ ((dataL true (p.toNat - 3)).length : Int) := by omega
  generalize (dataL false (p.toNat - 3)).length = l0 at *
  generalize (dataL true (p.toNat - 3)).length = l1 at *
  clear hg hpay hx hdl hjo
  generalize payI c ch = pay at *
  go_enter Try.func7, Try.ntmps7
  go_upto_region 2 with (go_at_call 14; refine (HR.out _).mono ?_; rintro e w1 ⟨r, rfl, HB1⟩)
  have H1 := Aside.mk (H0.out.below HB1.out)
  obtain ⟨g0, g1⟩ := H1.out.cellG
  clear H0 HR HB1
  go_upto_region 5 with fail
  go_cut [35] (fun s35 wx => s35 = .bool (decide (b / 8 < 2)) ∧ w1 = wx)
  case first =>
    go_wp2
    go_meet
    exact ⟨rfl, rfl⟩
  case rest =>
  obtain ⟨rfl, rfl⟩ := hcut
  apply_assumption
  go_cut [6] (fun s6 wx => s6 = .int .i64 jo ∧ w1 = wx)
  case first =>
    by_cases hjb : b / 8 < 2
    · have hjo := HJO.out
      obtain rfl : jo = 2 := by omega
      clear hjo HJO
      go_wp2
      go_meet
      exact ⟨rfl, rfl⟩
    · have hjo := HJO.out
      have hj3 : jo = b / 8 := by omega
      clear hjo
      go_wp2
      go_meet
      exact ⟨by rw [hj3], rfl⟩
  case rest =>
  obtain ⟨rfl, rfl⟩ := hcut
  apply_assumption
  go_upto_region 8 with (go_at_call 15; refine (HP0.out _).mono ?_; rintro e w2 ⟨A1, c1, A2, n2, c2, rfl, HB2⟩)
  have H2 := Aside.mk (H1.out.below HB2.out)
  obtain ⟨_, k1⟩ := H2.out.cellG
  clear g0 g1 H1
  go_upto_region 9 with (go_at_call 15; refine (HP1.out _).mono ?_; rintro e w4 ⟨A3, c3, A4, n4, c4, rfl, HB4⟩)
  have H4 := Aside.mk (H2.out.below HB4.out)
  obtain ⟨g0, _⟩ := H4.out.cellG
  clear k1 H2
  have v1 : IntKind.i64.wrap (b - jo) = b - jo := by rw [IntKind.wrap_i64]; omega
  have v2 : IntKind.i64.wrap (b - jo - 4) = b - jo - 4 := by rw [IntKind.wrap_i64]; omega
  have v3 : (b - jo - 4).tdiv 2 = (b - jo - 4) / 2 := by rw [Int.tdiv_eq_ediv_of_nonneg (by omega)]
  have v4 : IntKind.i64.wrap ((b - jo - 4) / 2) = (b - jo - 4) / 2 := by rw [IntKind.wrap_i64]; omega
  have v5 : IntKind.i64.wrap ((l0 : Int) - 2) = (l0 : Int) - 2 := by rw [IntKind.wrap_i64]; omega
  have v6 : IntKind.i64.wrap ((l1 : Int) - 2) = (l1 : Int) - 2 := by rw [IntKind.wrap_i64]; omega
  have f0 := free5 H4.out.res 0
  have f1 := free5 H4.out.res 1
  have f2 := free5 H4.out.res 2
  have f3 := free5 H4.out.res 3
  have f4 := free5 H4.out.res 4
  obtain ⟨r0, r1, r2, r3, r4⟩ := row5 H4.out.res
  have hfin := put5_row (x := planOf b p c ch) H4.out.res
  have hbf := put5_below (planOf b p c ch) H4.out.bel (Nat.le_succ w.heap.size)
  rw [HX.out] at hfin hbf
  have HF := Aside.mk (And.intro hfin hbf)
  clear hfin hbf H4 HJO
  go_wp2
  obtain ⟨hfin, hbf⟩ := HF.out
  obtain ⟨z0, z1, z2, z3, z4⟩ := row5 hfin
  change bodyPost _ _ _ _ _ (put5 w4 (w.heap.size + 1) ⟨jo, (b - jo - 4) / 2, (l0 : Int) - 2, pay, (l1 : Int) - 2⟩)
  generalize put5 w4 (w.heap.size + 1) ⟨jo, (b - jo - 4) / 2, (l0 : Int) - 2, pay, (l1 : Int) - 2⟩ = Wf at *
  exact bodyPost_ret (v := .tuple #[(⟨jo, (b - jo - 4) / 2, (l0 : Int) - 2, pay, (l1 : Int) - 2⟩ : PlanT).v, .bool true]) (by simp [results, Try.results7, go_sem, z0, z1, z2, z3, z4, PlanT.v]) rfl ⟨by rw [HX.out], hbf⟩
end Go.Proofs.Ytffdpmejilmnnaa
