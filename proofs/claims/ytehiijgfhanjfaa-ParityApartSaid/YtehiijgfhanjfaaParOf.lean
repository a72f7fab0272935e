/-
  Which pages of a block hold data and which parities: what the program's and the document's functions make.
-/
import Derived.Test.YtehiijgfhanjfaaSlices
import Derived.Test.YtehiijgfhanjfaaHeld
namespace Go.Proofs.Ytehiijgfhanjfaa
open Go.RowKit

def upB (p : Int) : Bool := decide (0 ≤ p ∧ 2 ≤ p % 4)
def grp (p : Int) : Int := if upB p = true then 1 else 0

theorem tmod4 {p : Int} (h : 0 ≤ p) : p.tmod 4 = p % 4 := by rw [Int.tmod_eq_emod_of_nonneg h]
set_option maxHeartbeats 400000 in
theorem nand_upper (p : Int) (w : World) (h : 0 ≤ p) (_h2 : p ≤ 9223372036854775807) :
    Calls Try.prog 17 #[.int .i64 p] w fun e w' => e = .returned (.bool (decide (2 ≤ p % 4))) ∧ w = w' := by
  have ht := tmod4 h
  have hw : IntKind.i64.wrap (p.tmod 4) = p % 4 := by rw [ht, IntKind.wrap_i64]; omega
  go_enter Try.func17, Try.ntmps17
  go_wp2
  go_ret
  exact ⟨rfl, rfl⟩
def pairQ (p : Int) : Int := if p < 0 then 0 else if upB p = true then p - 2 else p + 2
set_option maxHeartbeats 400000 in
theorem nand_pair (p : Int) (w : World) (h2 : p ≤ 9223372036854775805) :
    Calls Try.prog 15 #[.int .i64 p] w fun e w' => e = .returned (.tuple #[.int .i64 (pairQ p), .bool (upB p)]) ∧ w = w' := by
  unfold pairQ
  by_cases h : p < 0
  · have hu : upB p = false := by unfold upB; simp; omega
    rw [if_pos h, hu]
    go_enter Try.func15, Try.ntmps15
    go_wp2
    go_ret2
    exact ⟨rfl, rfl⟩
  · rw [if_neg h]
    have h0 : 0 ≤ p := by omega
    by_cases hu : 2 ≤ p % 4
    · have hu2 : upB p = true := by unfold upB; simp; omega
      have hd : decide (2 ≤ p % 4) = true := by simp [hu]
      have hw : IntKind.i64.wrap (p - 2) = p - 2 := by rw [IntKind.wrap_i64]; omega
      rw [if_pos hu2, hu2]
      go_enter Try.func15, Try.ntmps15
      go_wp2_with (go_at_call 17; refine (nand_upper p _ h0 (by omega)).mono ?_; rintro e w1 ⟨rfl, rfl⟩)
      go_ret2
      exact ⟨rfl, rfl⟩
    · have hu2 : upB p = false := by unfold upB; simp; omega
      have hd : decide (2 ≤ p % 4) = false := by simp; omega
      have hw : IntKind.i64.wrap (p + 2) = p + 2 := by rw [IntKind.wrap_i64]; omega
      rw [if_neg (by simp [hu2]), hu2]
      go_enter Try.func15, Try.ntmps15
      go_wp2_with (go_at_call 17; refine (nand_upper p _ h0 (by omega)).mono ?_; rintro e w1 ⟨rfl, rfl⟩)
      go_ret2
      exact ⟨rfl, rfl⟩
set_option maxHeartbeats 400000 in
theorem parity_group (p : Int) (w : World) (h2 : p ≤ 9223372036854775805) :
    Calls Try.prog 16 #[.int .i64 p] w fun e w' => e = .returned (.int .i64 (grp p)) ∧ w = w' := by
  unfold grp
  cases hu : upB p
  · go_enter Try.func16, Try.ntmps16
    go_wp2_with (go_at_call 15; refine (nand_pair p _ h2).mono ?_; rintro e w1 ⟨rfl, rfl⟩)
    go_ret
    exact ⟨rfl, rfl⟩
  · go_enter Try.func16, Try.ntmps16
    go_wp2_with (go_at_call 15; refine (nand_pair p _ h2).mono ?_; rintro e w1 ⟨rfl, rfl⟩)
    go_ret
    exact ⟨rfl, rfl⟩
set_option maxHeartbeats 400000 in
theorem ref_lower (p : Int) (w : World) (h : 0 ≤ p) (_h2 : p ≤ 9223372036854775807) :
    Calls Try.prog 13 #[.int .i64 p] w fun e w' => e = .returned (.bool (!upB p)) ∧ w = w' := by
  have ht := tmod4 h
  have hw : IntKind.i64.wrap (p.tmod 4) = p % 4 := by rw [ht, IntKind.wrap_i64]; omega
  have hcas : p % 4 = 0 ∨ p % 4 = 1 ∨ 2 ≤ p % 4 := by omega
  rcases hcas with h4 | h4 | h4
  · have hu : upB p = false := by unfold upB; simp; omega
    rw [hu]
    go_enter Try.func13, Try.ntmps13
    go_wp2
    go_ret
    exact ⟨rfl, rfl⟩
  · have hu : upB p = false := by unfold upB; simp; omega
    rw [hu]
    go_enter Try.func13, Try.ntmps13
    go_wp2
    go_ret
    exact ⟨rfl, rfl⟩
  · have hu : upB p = true := by unfold upB; simp; omega
    have h5 : (p % 4 == 0) = false := by simp; omega
    have h6 : (p % 4 == 1) = false := by simp; omega
    rw [hu]
    go_enter Try.func13, Try.ntmps13
    go_wp2
    all_goals (go_ret; exact ⟨rfl, rfl⟩)

set_option maxHeartbeats 1000000 in
theorem ints_eq (A B : Option Addr) (n m c d : Nat) (x y : List Int) (w : World) (hx : n = x.length) (hy : m = y.length) (hn : n ≤ c) (hc : c ≤ 9223372036854775807) (hm : m ≤ d) (_hd : d ≤ 9223372036854775807) (hA : Rd w A n (fun i => .int .i64 (x.getD i 0))) (hB : Rd w B m (fun i => .int .i64 (y.getD i 0))) :
    Calls Try.prog 12 #[.slice A n c, .slice B m d] w fun e w' => e = .returned (.bool (decide (x = y))) ∧ Below w.heap.size w w' := by
  have HA := Aside.mk hA
  have HB := Aside.mk hB
  clear hA hB
  go_enter Try.func12, Try.ntmps12
  by_cases hnm : n = m
  · subst hnm
    have HX := Aside.mk hx
    have HY := Aside.mk hy
    clear hx hy
    go_wp2
    go_loopw [5] (fun s5 wr => ∃ k : Nat, k ≤ n ∧ s5 = .int .i64 k ∧ Aside (∀ i, i < k → x.getD i 0 = y.getD i 0) ∧ Below w.heap.size w wr) (fun s5 _ => n - (intOf s5).toNat)
    case atStart => exact ⟨0, by omega, rfl, ⟨fun i hi => by omega⟩, Below.refl _ _⟩
    case round =>
      obtain ⟨k, hk, rfl, hall, hb⟩ := hrel
      by_cases hlt : k < n
      · obtain ⟨b1, o1, rfl, hc1⟩ := HA.out.cells hlt
        obtain ⟨b2, o2, rfl, hc2⟩ := HB.out.cells hlt
        have e1 := hc1 w.heap.size wr (Nat.le_refl _) hb
        have e2 := hc2 w.heap.size wr (Nat.le_refl _) hb
        have e3 := hc1 w.heap.size wr.drew (Nat.le_refl _) hb.drew
        have e4 := hc2 w.heap.size wr.drew (Nat.le_refl _) hb.drew
        have hk1 : IntKind.i64.wrap ((k : Int) + 1) = (k : Int) + 1 := by rw [IntKind.wrap_i64]; omega
        clear hc1 hc2
        obtain ⟨xk, hxk⟩ : ∃ v, v = x.getD k 0 := ⟨_, rfl⟩
        obtain ⟨yk, hyk⟩ : ∃ v, v = y.getD k 0 := ⟨_, rfl⟩
        rw [← hxk] at e1 e3
        rw [← hyk] at e2 e4
        have HXK := Aside.mk hxk
        have HYK := Aside.mk hyk
        clear hxk hyk
        by_cases hxy : xk = yk
        · subst hxy
          go_upto_region 6 with fail
          go_region
          go_wp2
          go_roundw
          case rel => exact ⟨k + 1, by omega, by go_num, ⟨fun i hi => by
            by_cases h : i = k
            · rw [h, ← HXK.out, ← HYK.out]
            · exact hall.out i (by omega)⟩, hb.drew⟩
          case measure => simp [intOf]; omega
        · have hne : decide (x = y) = false := by
            simp only [decide_eq_false_iff_not]
            intro h
            exact hxy (by rw [HXK.out, HYK.out, h])
          have HN := Aside.mk hne
          clear hne
          go_upto_region 6 with fail
          go_region
          go_wp2
          go_ret
          exact ⟨by rw [HN.out]; rfl, hb.drew⟩
      · have heq : decide (x = y) = true := by
          simp only [decide_eq_true_eq]
          apply List.ext_getElem
          · rw [← HX.out, ← HY.out]
          · intro i h1 h2
            have := hall.out i (by have := HX.out; omega)
            simpa [List.getD_eq_getElem?_getD, List.getElem?_eq_getElem h1, List.getElem?_eq_getElem h2] using this
        have HN := Aside.mk heq
        clear heq
        go_wp2
        go_ret
        exact ⟨by rw [HN.out]; rfl, hb⟩
  · have hne : decide (x = y) = false := by
      simp only [decide_eq_false_iff_not]
      intro h
      exact hnm (by rw [hx, hy, h])
    rw [hne]
    clear hne hx hy
    go_wp2
    go_ret
    exact ⟨rfl, Below.refl _ _⟩

/-- The data pages among the first k ones, and the parities' pages. -/
def dataL (b : Bool) : Nat → List Int
  | 0 => []
  | k + 1 => if (upB k && b) = true then dataL b k else dataL b k ++ [(k : Int)]
def parL (b : Bool) (N : Nat) : List Int := if b = true then [(N : Int) - 3] else [(N : Int) - 3, (N : Int) - 1]
theorem dataL_skip {b : Bool} {k : Nat} (h : (upB k && b) = true) : dataL b (k + 1) = dataL b k := by rw [dataL, if_pos h]
theorem dataL_more {b : Bool} {k : Nat} (h : (upB k && b) = false) : dataL b (k + 1) = dataL b k ++ [(k : Int)] := by rw [dataL, if_neg (by simp [h])]
theorem dataL_len (b : Bool) : ∀ k, (dataL b k).length ≤ k
  | 0 => by simp [dataL]
  | k + 1 => by
    have := dataL_len b k
    cases h : (upB k && b)
    · rw [dataL_more h, List.length_append]; simp; omega
    · rw [dataL_skip h]; omega
/-- A plan lies in block g. -/
def PlanAt (w : World) (g : Nat) (v1 v2 : Value) : Prop := w.heap[g]? = some (.cells #[v1, v2] 30 (0, 0))
section
variable {w w' : World} {g : Nat} {v1 v2 : Value}
theorem PlanAt.lt (p : PlanAt w g v1 v2) : g < w.heap.size := (Array.getElem?_eq_some_iff.1 p).1
theorem PlanAt.c0 (p : PlanAt w g v1 v2) : w.cell? ⟨g, 0, none⟩ = some v1 := cell_of_row w g 0 _ _ _ p
theorem PlanAt.c1 (p : PlanAt w g v1 v2) : w.cell? ⟨g, 1, none⟩ = some v2 := cell_of_row w g 1 _ _ _ p
theorem PlanAt.free (p : PlanAt w g v1 v2) (i : Nat) : w.frozen? ⟨g, i, none⟩ = false := by
  unfold PlanAt at p
  simp [World.frozen?, p]
theorem PlanAt.kept {row : Option Nat} (p : PlanAt w g v1 v2) (hg : w.grownBy w' row) (hne : some g ≠ row) : PlanAt w' g v1 v2 := (hg.block g p.lt hne).trans p
theorem PlanAt.below {B : Nat} (p : PlanAt w g v1 v2) (hb : Below B w w') (hlt : g < B) : PlanAt w' g v1 v2 := (hb.block g hlt).trans p
theorem PlanAt.set0 (p : PlanAt w g v1 v2) (x : Value) : PlanAt (w.setCell ⟨g, 0, none⟩ x) g x v2 := by
  have hlt := p.lt
  unfold PlanAt at *
  simp [World.setCell, Array.getElem?_modify, p]
theorem PlanAt.set1 (p : PlanAt w g v1 v2) (x : Value) : PlanAt (w.setCell ⟨g, 1, none⟩ x) g v1 x := by
  have hlt := p.lt
  unfold PlanAt at *
  simp [World.setCell, Array.getElem?_modify, p]
end
theorem grownBy_set (w : World) (g i : Nat) (x : Value) : w.grownBy (w.setCell ⟨g, i, none⟩ x) (some g) :=
  ⟨rfl, rfl, rfl, by simp [World.setCell], fun k _ hne => Below.heap_setCell _ _ _ _ (by simpa using fun e => hne (by simp [e]))⟩

theorem Row.belowAt {w w' : World} {base : Nat} {e : TypeId} {size : Nat} {v : Value} {n : Nat} {xs : List Value} {B : Nat} (h : Row w base e size v n xs) (hb : Below B w w') (hlt : ∀ q, v.ownBlock = some q → q < B) : Row w' base e size v n xs := by
  refine ⟨h.1, ?_⟩
  rcases h.2 with hn | ⟨g, off, cap, cur, fr, rfl, hbg, hgg, rest⟩
  · exact .inl hn
  · exact .inr ⟨g, off, cap, cur, fr, rfl, hbg, (hb.block g (hlt g rfl)).trans hgg, rest⟩

/-- What Of answers where there is a plan. -/
def PlanEnd (N : Nat) (b : Bool) (base : Nat) (e : Ending) (w : World) : Prop :=
  ∃ v1 v2, Row w base 3 1 v1 (dataL b (N - 3)).length (intsV (dataL b (N - 3))) ∧ Row w base 3 1 v2 (parL b N).length (intsV (parL b N)) ∧ e = .returned (.tuple #[.agg #[v1, v2], .bool true])

set_option maxHeartbeats 4000000 in
theorem parity_of (N : Nat) (b : Bool) (w : World) (h1 : 4 ≤ N) (h2 : N ≤ 64) (h3 : N % 4 = 0) :
    Calls Try.prog 10 #[.int .i64 N, .bool b] w fun e w' => PlanEnd N b w.heap.size e w' ∧ Below w.heap.size w w' := by
  have ht : ((N : Int).tmod 4) = 0 := by rw [tmod4 (by omega)]; omega
  have hw : IntKind.i64.wrap ((N : Int).tmod 4) = 0 := by rw [ht]; rfl
  have hw1 : IntKind.i64.wrap ((N : Int) - 3) = (N : Int) - 3 := by rw [IntKind.wrap_i64]; omega
  have hw2 : IntKind.i64.wrap ((N : Int) - 1) = (N : Int) - 1 := by rw [IntKind.wrap_i64]; omega
  have g1 : ¬ (N : Int) < 4 := by omega
  have g2 : ¬ 64 < (N : Int) := by omega
  go_enter Try.func10, Try.ntmps10
  go_upto_region 4 with fail
  obtain ⟨g, hg⟩ : ∃ g, g = w.heap.size := ⟨_, rfl⟩
  have hP0 : PlanAt (((w.alloc (.cells #[.slice none 0 0, .slice none 0 0] 30)).alloc (.cells #[.int .i64 ((N : Int) - 3)] 3)).alloc (.cells #[.slice none 0 0, .slice (some ⟨w.heap.size + 1, 0, none⟩) 1 1] 30)) g (.slice none 0 0) (.slice none 0 0) := by
    have h0 : PlanAt (w.alloc (.cells #[.slice none 0 0, .slice none 0 0] 30)) w.heap.size (.slice none 0 0) (.slice none 0 0) := heap_alloc_new w _
    rw [hg]
    exact (h0.kept (World.grownBy_alloc _ _ none) (by simp)).kept (World.grownBy_alloc _ _ none) (by simp)
  have hP : PlanAt (((w.alloc (.cells #[.slice none 0 0, .slice none 0 0] 30)).alloc (.cells #[.int .i64 ((N : Int) - 3)] 3)).alloc (.cells #[.slice none 0 0, .slice (some ⟨w.heap.size + 1, 0, none⟩) 1 1] 30)) (g + 1 + 1) (.slice none 0 0) (.slice (some ⟨w.heap.size + 1, 0, none⟩) 1 1) := by
    have h0 := heap_alloc_new ((w.alloc (.cells #[.slice none 0 0, .slice none 0 0] 30)).alloc (.cells #[.int .i64 ((N : Int) - 3)] 3)) (.cells #[.slice none 0 0, .slice (some ⟨w.heap.size + 1, 0, none⟩) 1 1] 30)
    simp only [World.size_alloc] at h0
    rw [hg]
    exact h0
  have hr : Row (((w.alloc (.cells #[.slice none 0 0, .slice none 0 0] 30)).alloc (.cells #[.int .i64 ((N : Int) - 3)] 3)).alloc (.cells #[.slice none 0 0, .slice (some ⟨w.heap.size + 1, 0, none⟩) 1 1] 30)) (g + 1) 3 1 (.slice (some ⟨w.heap.size + 1, 0, none⟩) 1 1) 1 (intsV [(N : Int) - 3]) := by
    have h0 := Row.lit (w.alloc (.cells #[.slice none 0 0, .slice none 0 0] 30)) (w.heap.size + 1) 3 1 #[.int .i64 ((N : Int) - 3)] 1 (by simp) (by decide) rfl
    simp only [World.size_alloc] at h0
    rw [hg]
    exact h0.alloc _
  have hb : Below g w (((w.alloc (.cells #[.slice none 0 0, .slice none 0 0] 30)).alloc (.cells #[.int .i64 ((N : Int) - 3)] 3)).alloc (.cells #[.slice none 0 0, .slice (some ⟨w.heap.size + 1, 0, none⟩) 1 1] 30)) := by
    rw [hg]
    exact (((Below.refl _ _).alloc (Nat.le_refl _) _).alloc (by simp) _).alloc (by simp; omega) _
  have hsz : (((w.alloc (.cells #[.slice none 0 0, .slice none 0 0] 30)).alloc (.cells #[.int .i64 ((N : Int) - 3)] 3)).alloc (.cells #[.slice none 0 0, .slice (some ⟨w.heap.size + 1, 0, none⟩) 1 1] 30)).heap.size = g + 3 := by
    rw [hg]; simp
  generalize ((w.alloc (.cells #[.slice none 0 0, .slice none 0 0] 30)).alloc (.cells #[.int .i64 ((N : Int) - 3)] 3)).alloc (.cells #[.slice none 0 0, .slice (some ⟨w.heap.size + 1, 0, none⟩) 1 1] 30) = W at *
  rw [← hg] at hP hr ⊢
  have HG := Aside.mk (And.intro hg hsz)
  clear hg hsz
  have c0 := hP.c0
  have c1 := hP.c1
  have f0 := hP.free 0
  have f1 := hP.free 1
  go_upto_if 27 with fail
  go_cut [6] (fun s6 wx => ∃ v2, s6 = .pointer (some ⟨g + 1 + 1, 0, none⟩) ∧ PlanAt wx g (.slice none 0 0) (.slice none 0 0) ∧ PlanAt wx (g + 1 + 1) (.slice none 0 0) v2 ∧ Row wx (g + 1) 3 1 v2 (parL b N).length (intsV (parL b N)) ∧ v2.ownBlock ≠ some (g + 1 + 1) ∧ Below g w wx)
  case first =>
    cases b
    · have hsz := HG.out.2
      have hbs : g + 1 ≤ W.heap.size := by omega
      have HA := Aside.mk (And.intro hP0 (And.intro hP (And.intro hr (And.intro hb hbs))))
      clear hP0 hP hr hb hsz hbs
      go_wp2_with (at_builtin; refine wpList_append_one (w0 := W) (g + 1) rfl _ _ 28 3 1 8 (.int .i64 0) rfl Try.underlying28 infoInt rfl (by decide) (.slice (some ⟨g + 1, 0, none⟩) 1 1) 1 _ #[.int .i64 ((N : Int) - 1)] rfl rfl rfl HA.out.2.2.1 (by simp [Value.oneCell']) (Below.refl (g + 1) W) HA.out.2.2.2.2 (by omega) (by decide) ?_; intro v1 w1 hr1 hb1 hg1 hat1; obtain ⟨A1, k1, rfl, hk1⟩ := hr1.slice; have hP1 := HA.out.2.1.kept hg1 (by simp [Value.ownBlock]); have d1 := hP1.c1; have d2 := hP1.free 1; have HC := Aside.mk (And.intro hr1 (And.intro hb1 (And.intro hg1 (And.intro hat1 hP1)))); clear hr1 hb1 hg1 hat1 hP1)
      go_meet
      obtain ⟨hP0, hP, hr, hb, hbs⟩ := HA.out
      obtain ⟨hr1, hb1, hg1, hat1, hP1⟩ := HC.out
      have hv1 : (Value.slice A1 (1 + 1) k1).ownBlock ≠ some (g + 1 + 1) := by
        rcases hat1 with h | ⟨b, h, hb⟩
        · rw [h]; simp [Value.ownBlock]
        · rw [h]; have := HG.out.2; simp; omega
      refine ⟨_, rfl, ?_, hP1.set1 _, ?_, hv1, ?_⟩
      · exact (hP0.kept hg1 (by simp [Value.ownBlock])).kept (grownBy_set _ _ _ _) (by simp; omega)
      · exact hr1.kept (grownBy_set _ _ _ _) (.inr hv1)
      · exact (hb.trans (hb1.mono (by omega))).setCell (by simp; omega) _
    · go_wp2
      go_meet
      exact ⟨_, rfl, hP0, hP, hr, by simp [Value.ownBlock], hb⟩
  case rest =>
    clear hP0 hP hr hb c0 c1 f0 f1
    obtain ⟨v2, rfl, hP0, hP, hr2, hne, hb⟩ := hcut
    obtain ⟨A2, k2, rfl, hk2⟩ := hr2.slice
    have HB2 := Aside.mk (fun q hq => (hr2.blk q hq).2.1)
    have hlt := hP.lt
    have hlt0 := hb.size
    clear hk2
    generalize hlen2 : (parL b N).length = n2 at *
    have HL2 := Aside.mk hlen2
    clear hlen2
    obtain ⟨B1, hB1⟩ : ∃ B1, B1 = wc.heap.size := ⟨_, rfl⟩
    have hBg : g + 1 + 1 < B1 := by omega
    have HQ := Aside.mk hB1
    have hin := Aside.mk (And.intro hP0 (And.intro hP (And.intro hr2 (And.intro hb (show B1 ≤ wc.heap.size by omega)))))
    clear hP0 hP hr2 hb hlt hlt0 hB1
    go_wp2
    go_loopw [37] (fun s37 wr => ∃ (k : Nat) (A1 : Option Addr) (k1 : Nat), s37 = .int .i64 k ∧ k ≤ N - 3 ∧ PlanAt wr g (.slice none 0 0) (.slice none 0 0) ∧ PlanAt wr (g + 1 + 1) (.slice A1 (dataL b k).length k1) (.slice A2 n2 k2) ∧ Aside (Row wr (g + 1) 3 1 (.slice A2 n2 k2) n2 (intsV (parL b N)) ∧ Row wr B1 3 1 (.slice A1 (dataL b k).length k1) (dataL b k).length (intsV (dataL b k)) ∧ Below g w wr ∧ B1 ≤ wr.heap.size)) (fun s37 _ => N - (intOf s37).toNat)
    case atStart =>
      obtain ⟨q1, q2, q3, q4, q5⟩ := hin.out
      exact ⟨0, none, 0, rfl, by omega, q1, q2, ⟨q3, Row.nil _ _ _ _, q4, q5⟩⟩
    case round =>
      obtain ⟨k, A1, k1, rfl, hk, hP0, hP, hI⟩ := hrel
      clear hin
      have c0 := hP.c0
      have f0 := hP.free 0
      by_cases hlt : k < N - 3
      · have hk1 : IntKind.i64.wrap ((k : Int) + 1) = (k : Int) + 1 := by rw [IntKind.wrap_i64]; omega
        have hlt2 : (k : Int) < (N : Int) - 3 := by omega
        have hdl := dataL_len b k
        cases hs : (upB k && b)
        · have HD := Aside.mk (dataL_more hs)
          generalize hln : (dataL b k).length = ln at *
          have HLN := Aside.mk hln
          clear hln
          have hcs : (upB k = false) ∨ (upB k = true ∧ b = false) := by
            cases h : upB k <;> simp_all
          clear hs
          rcases hcs with hu | ⟨hu, rfl⟩
          all_goals
            go_wp2_with (first | (go_at_call 15; refine (nand_pair k _ (by omega)).mono ?_; rintro e w5 ⟨rfl, rfl⟩) | (at_builtin; refine wpList_append_one (w0 := wr) B1 rfl _ _ 28 3 1 8 (.int .i64 0) rfl Try.underlying28 infoInt rfl (by decide) (.slice A1 ln k1) ln _ #[.int .i64 (k : Int)] rfl rfl rfl hI.out.2.1 (by simp [Value.oneCell']) (Below.refl B1 wr) hI.out.2.2.2 (by omega) (by simp only [maxLen]; omega) ?_; intro v1 w1 hr1 hb1 hg1 hat1; obtain ⟨A3, k3, rfl, hk3⟩ := hr1.slice; have hPk := hP.below hb1 hBg; have d1 := hPk.c0; have d2 := hPk.free 0; have HC := Aside.mk (And.intro hr1 (And.intro hb1 (And.intro hg1 (And.intro hat1 hPk)))); clear hr1 hb1 hg1 hat1 hPk))
            go_roundw
            case rel =>
              obtain ⟨q1, q2, q3, q4⟩ := hI.out
              obtain ⟨hr1, hb1, hg1, hat1, hPk⟩ := HC.out
              have hne3 : (Value.slice A3 (ln + 1) k3).ownBlock ≠ some (g + 1 + 1) := fun h => by
                have := (hr1.blk _ h).1
                omega
              have hll := congrArg List.length HD.out
              rw [List.length_append, HLN.out] at hll
              have hll : _ = ln + 1 := hll
              refine ⟨k + 1, A3, k3, by go_num, by omega, (hP0.below hb1 (by omega)).kept (grownBy_set _ _ _ _) (by simp; omega), ?_, ⟨?_, ?_, ?_, ?_⟩⟩
              · rw [hll]; exact hPk.set0 _
              · exact (q1.belowAt hb1 (fun q hq => by have := HB2.out q hq; have := HQ.out; omega)).kept (grownBy_set _ _ _ _) (.inr hne)
              · rw [hll, HD.out, intsV_append]
                exact hr1.kept (grownBy_set _ _ _ _) (.inr hne3)
              · exact (q3.trans (hb1.mono (by omega))).setCell (by simp; omega) _
              · exact Nat.le_trans (Nat.le_trans q4 hb1.size) (grownBy_set _ _ _ _).size
            case measure => simp [intOf]; omega
        · obtain ⟨hu, hbt⟩ : upB k = true ∧ b = true := by simpa using hs
          have HD := Aside.mk (dataL_skip hs)
          clear hs
          subst hbt
          go_wp2_with (go_at_call 15; refine (nand_pair k _ (by omega)).mono ?_; rintro e w5 ⟨rfl, rfl⟩)
          go_roundw
          case rel => exact ⟨k + 1, A1, k1, by go_num, by omega, hP0, by rw [HD.out]; exact hP, by rw [HD.out]; exact hI⟩
          case measure => simp [intOf]; omega
      · obtain rfl : k = N - 3 := by omega
        have hkc : ((N - 3 : Nat) : Int) = (N : Int) - 3 := by omega
        have hge : ¬ ((N - 3 : Nat) : Int) < (N : Int) - 3 := by omega
        have c1 := hP.c1
        have f1 := hP.free 1
        have e0 := hP0.c0
        have e1 := hP0.c1
        have e2 := hP0.free 0
        have e3 := hP0.free 1
        go_wp2
        obtain ⟨q1, q2, q3, q4⟩ := hI.out
        have hgl : g < B1 := by omega
        have hne2 : (Value.slice A2 n2 k2).ownBlock ≠ some g := fun h => by
          have := (q1.blk _ h).1
          omega
        have hne1 : (Value.slice A1 (dataL b (N - 3)).length k1).ownBlock ≠ some g := fun h => by
          have := (q2.blk _ h).1
          omega
        have hPf := (hP0.set0 (.slice A1 (dataL b (N - 3)).length k1)).set1 (.slice A2 n2 k2)
        have q1 := (q1.kept (grownBy_set _ g 0 (.slice A1 (dataL b (N - 3)).length k1)) (.inr hne2)).kept (grownBy_set _ g 1 (.slice A2 n2 k2)) (.inr hne2)
        have q2 := (q2.kept (grownBy_set _ g 0 (.slice A1 (dataL b (N - 3)).length k1)) (.inr hne1)).kept (grownBy_set _ g 1 (.slice A2 n2 k2)) (.inr hne1)
        have q3 := (q3.setCell (p := ⟨g, 0, none⟩) (Nat.le_refl g) (.slice A1 (dataL b (N - 3)).length k1)).setCell (p := ⟨g, 1, none⟩) (Nat.le_refl g) (.slice A2 n2 k2)
        have z0 := hPf.c0
        have z1 := hPf.c1
        clear c0 c1 f0 f1 e0 e1 e2 e3 hP hP0 hPf hI
        generalize (wr.setCell ⟨g, 0, none⟩ (.slice A1 (dataL b (N - 3)).length k1)).setCell ⟨g, 1, none⟩ (.slice A2 n2 k2) = Wf at *
        rw [HG.out.1] at q3
        have r1 : Row Wf (g + 1) 3 1 (.slice A2 n2 k2) (parL b N).length (intsV (parL b N)) := by rw [HL2.out]; exact q1
        exact bodyPost_ret (v := .tuple #[.agg #[.slice A1 (dataL b (N - 3)).length k1, .slice A2 n2 k2], .bool true]) (by simp [results, Try.results10, go_sem, z0, z1]) rfl ⟨⟨_, _, q2.mono (show w.heap.size ≤ B1 by have := HG.out.1; omega), r1.mono (show w.heap.size ≤ g + 1 by have := HG.out.1; omega), rfl⟩, q3⟩

set_option maxHeartbeats 1000000 in
theorem parity_of_not (n : Int) (b : Bool) (w : World) (h : ¬ (4 ≤ n ∧ n ≤ 64 ∧ n % 4 = 0)) :
    Calls Try.prog 10 #[.int .i64 n, .bool b] w fun e w' => e = .returned (.tuple #[.agg #[.slice none 0 0, .slice none 0 0], .bool false]) ∧ Below w.heap.size w w' := by
  have hcas : n < 4 ∨ (¬ n < 4 ∧ 64 < n) ∨ (¬ n < 4 ∧ ¬ 64 < n ∧ n % 4 ≠ 0) := by omega
  clear h
  have hb := (Below.refl w.heap.size w).alloc (Nat.le_refl _) (.cells #[.slice none 0 0, .slice none 0 0] 30)
  have hP : PlanAt (w.alloc (.cells #[.slice none 0 0, .slice none 0 0] 30)) w.heap.size (.slice none 0 0) (.slice none 0 0) := heap_alloc_new w _
  have z0 := hP.c0
  have z1 := hP.c1
  have HZ := Aside.mk (And.intro hb (And.intro z0 z1))
  clear hb hP z0 z1
  have ht : ¬ n < 4 → n.tmod 4 = n % 4 := fun h => tmod4 (by omega)
  rcases hcas with h | ⟨h, h2⟩ | ⟨h, h2, h3⟩
  all_goals
    have hw : ¬ n < 4 → IntKind.i64.wrap (n.tmod 4) = n % 4 := fun h => by rw [ht h, IntKind.wrap_i64]; omega
  case' inr.inr => have hw := hw h; have h4 : (n % 4 == 0) = false := by simp; exact h3
  all_goals
    clear ht
    go_enter Try.func10, Try.ntmps10
    go_wp2
    obtain ⟨hb, z0, z1⟩ := HZ.out
    generalize w.alloc (.cells #[.slice none 0 0, .slice none 0 0] 30) = Wf at *
    exact bodyPost_ret (v := .tuple #[.agg #[.slice none 0 0, .slice none 0 0], .bool false]) (by simp [results, Try.results10, go_sem, z0, z1]) rfl ⟨rfl, hb⟩
end Go.Proofs.Ytehiijgfhanjfaa
