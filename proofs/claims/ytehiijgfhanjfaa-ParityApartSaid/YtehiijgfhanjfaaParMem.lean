/-
  The members of a group; the document's plan; eight pages.
-/
import Derived.Test.YtehiijgfhanjfaaParOf
namespace Go.Proofs.Ytehiijgfhanjfaa
open Go.RowKit

def membL (l : List Int) (gr : Int) : List Int := l.filter fun p => grp p == gr
theorem memb_take {l : List Int} {gr : Int} {k : Nat} (hk : k < l.length) (h : grp (l.getD k 0) = gr) : membL (l.take (k + 1)) gr = membL (l.take k) gr ++ [l.getD k 0] := by
  rw [List.take_succ_eq_append_getElem hk]
  simp only [membL, List.filter_append]
  have : l.getD k 0 = l[k] := by simp [List.getD_eq_getElem?_getD, List.getElem?_eq_getElem hk]
  rw [this] at h ⊢
  simp [h]
theorem memb_skip {l : List Int} {gr : Int} {k : Nat} (hk : k < l.length) (h : ¬ grp (l.getD k 0) = gr) : membL (l.take (k + 1)) gr = membL (l.take k) gr := by
  rw [List.take_succ_eq_append_getElem hk]
  simp only [membL, List.filter_append]
  have : l.getD k 0 = l[k] := by simp [List.getD_eq_getElem?_getD, List.getElem?_eq_getElem hk]
  rw [this] at h
  simp [h]
theorem memb_len (l : List Int) (gr : Int) : (membL l gr).length ≤ l.length := List.length_filter_le ..

set_option maxHeartbeats 2000000 in
theorem plan_members (A : Option Addr) (n c : Nat) (l : List Int) (v2 : Value) (gr : Int) (w : World) (hl : n = l.length) (hn : n ≤ 1000) (hc : n ≤ c) (hcm : c ≤ 9223372036854775807) (hall : ∀ x ∈ l, x ≤ 9223372036854775805) (hR : Rd w A n (fun i => .int .i64 (l.getD i 0))) (hv2 : ∃ A2 n2 c2, v2 = .slice A2 n2 c2) :
    Calls Try.prog 14 #[.agg #[.slice A n c, v2], .int .i64 gr] w fun e w' => (∃ v, Row w' w.heap.size 3 1 v (membL l gr).length (intsV (membL l gr)) ∧ e = .returned v) ∧ Below w.heap.size w w' := by
  obtain ⟨A2, n2, c2, rfl⟩ := hv2
  have HR := Aside.mk hR
  have HA := Aside.mk hall
  have HL := Aside.mk hl
  clear hR hall hl
  go_enter Try.func14, Try.ntmps14
  go_wp2
  have hb0 := (Below.refl w.heap.size w).alloc (Nat.le_refl _) (.cells #[.slice A n c, .slice A2 n2 c2] 30)
  generalize w.alloc (.cells #[.slice A n c, .slice A2 n2 c2] 30) = W at *
  go_loopw [5, 11] (fun s5 s11 wr => ∃ (k : Nat), s11 = .int .i64 k ∧ k ≤ n ∧ Row wr w.heap.size 3 1 s5 (membL (l.take k) gr).length (intsV (membL (l.take k) gr)) ∧ Below w.heap.size w wr) (fun _ s11 _ => n - (intOf s11).toNat)
  case atStart => exact ⟨0, rfl, by omega, Row.nil _ _ _ _, hb0⟩
  case round =>
    obtain ⟨k, rfl, hk, hr, hb⟩ := hrel
    clear hb0
    by_cases hlt : k < n
    · obtain ⟨b, off, rfl, hcell⟩ := HR.out.cells hlt
      have hcr := hcell w.heap.size wr (Nat.le_refl _) hb
      clear hcell
      have hk1 : IntKind.i64.wrap ((k : Int) + 1) = (k : Int) + 1 := by rw [IntKind.wrap_i64]; omega
      have hkl : k < l.length := by rw [← HL.out]; exact hlt
      have hx : l.getD k 0 ≤ 9223372036854775805 := HA.out _ (by
        rw [List.getD_eq_getElem?_getD, List.getElem?_eq_getElem hkl]
        exact List.getElem_mem _)
      have H1 := Aside.mk (fun h => memb_take (gr := gr) hkl h)
      have H2 := Aside.mk (fun h => memb_skip (gr := gr) hkl h)
      have h3 := memb_len (l.take k) gr
      rw [List.length_take] at h3
      have h4 : (membL (l.take k) gr).length ≤ 1000 := by omega
      clear h3 hkl
      generalize l.getD k 0 = xk at *
      generalize hmm : membL (l.take k) gr = mm at *
      clear hmm
      by_cases hg : grp xk = gr
      · have H3 := Aside.mk (H1.out hg)
        have hbase := hb.size
        clear H1 H2
        go_wp2_with (first | (go_at_call 16; refine (parity_group xk _ hx).mono ?_; rintro e w5 ⟨rfl, rfl⟩) | (at_builtin; refine wpList_append_one (w0 := w) w.heap.size rfl _ _ 28 3 1 8 (.int .i64 0) rfl Try.underlying28 infoInt rfl (by decide) u5 mm.length _ #[.int .i64 xk] rfl rfl rfl hr (by simp [Value.oneCell']) hb hbase (by omega) (by simp only [maxLen]; omega) ?_; intro v1 w1 hr1 hb1 hg1 hat1))
        go_roundw
        case rel => exact ⟨k + 1, by go_num, by omega, by rw [H3.out, List.length_append, intsV_append]; exact hr1, hb1⟩
        case measure => simp [intOf]; omega
      · have H3 := Aside.mk (H2.out hg)
        have hgb : (grp xk == gr) = false := by simpa using hg
        clear H1 H2 hg
        go_wp2_with (first | (go_at_call 16; refine (parity_group xk _ hx).mono ?_; rintro e w5 ⟨rfl, rfl⟩))
        go_roundw
        case rel => exact ⟨k + 1, by go_num, by omega, by rw [H3.out]; exact hr, hb⟩
        case measure => simp [intOf]; omega
    · obtain rfl : k = n := by omega
      have ht : l.take k = l := by rw [HL.out]; exact List.take_length ..
      rw [ht] at hr
      clear ht
      go_wp2
      go_ret
      exact ⟨⟨_, hr, rfl⟩, hb⟩

/-- The last lower one of the first k pages. -/
def lowL : Nat → Int
  | 0 => -1
  | k + 1 => if upB k = true then lowL k else (k : Int)
theorem lowL_skip {k : Nat} (h : upB k = true) : lowL (k + 1) = lowL k := by rw [lowL, if_pos h]
theorem lowL_more {k : Nat} (h : upB k = false) : lowL (k + 1) = k := by rw [lowL, if_neg (by simp [h])]
theorem lowL_end {N : Nat} (h1 : 4 ≤ N) (h3 : N % 4 = 0) : lowL N = (N : Int) - 3 := by
  obtain ⟨m, rfl⟩ : ∃ m, N = m + 1 + 1 + 1 := ⟨N - 3, by omega⟩
  rw [lowL_skip (by unfold upB; simp; omega), lowL_skip (by unfold upB; simp; omega), lowL_more (by unfold upB; simp; omega)]
  omega

def RefEnd (N : Nat) (b : Bool) (base : Nat) (e : Ending) (w : World) : Prop :=
  ∃ v1 v2, Row w base 3 1 v1 (dataL b (N - 3)).length (intsV (dataL b (N - 3))) ∧ Row w base 3 1 v2 (parL b N).length (intsV (parL b N)) ∧ e = .returned (.tuple #[v1, v2, .bool true])

set_option maxHeartbeats 4000000 in
theorem ref_of (N : Nat) (b : Bool) (w : World) (h1 : 4 ≤ N) (h2 : N ≤ 64) (h3 : N % 4 = 0) :
    Calls Try.prog 11 #[.int .i64 N, .bool b] w fun e w' => RefEnd N b w.heap.size e w' ∧ Below w.heap.size w w' := by
  have ht : ((N : Int).tmod 4) = 0 := by rw [tmod4 (by omega)]; omega
  have hw : IntKind.i64.wrap ((N : Int).tmod 4) = 0 := by rw [ht]; rfl
  have hw2 : IntKind.i64.wrap ((N : Int) - 1) = (N : Int) - 1 := by rw [IntKind.wrap_i64]; omega
  have g1 : ¬ (N : Int) < 4 := by omega
  have g2 : ¬ 64 < (N : Int) := by omega
  have HN := Aside.mk (lowL_end h1 h3)
  go_enter Try.func11, Try.ntmps11
  go_wp2
  clear ht hw h3
  go_loopw [7, 9] (fun s7 s9 wr => ∃ (k : Nat), s9 = .int .i64 k ∧ k ≤ N ∧ s7 = .int .i64 (lowL k) ∧ w = wr) (fun _ s9 _ => N - (intOf s9).toNat)
  case atStart => exact ⟨0, rfl, by omega, rfl, rfl⟩
  case round =>
    obtain ⟨k, rfl, hk, rfl, rfl⟩ := hrel
    have hk1 : IntKind.i64.wrap ((k : Int) + 1) = (k : Int) + 1 := by rw [IntKind.wrap_i64]; omega
    by_cases hlt : k < N
    · cases hu : upB k
      · have H1 := Aside.mk (lowL_more hu)
        go_wp2_with (go_at_call 13; refine (ref_lower k _ (by omega) (by omega)).mono ?_; rintro e w5 ⟨rfl, rfl⟩)
        go_roundw
        case rel => exact ⟨k + 1, by go_num, by omega, by rw [H1.out], trivial⟩
        case measure => simp [intOf]; omega
      · have H1 := Aside.mk (lowL_skip hu)
        go_wp2_with (go_at_call 13; refine (ref_lower k _ (by omega) (by omega)).mono ?_; rintro e w5 ⟨rfl, rfl⟩)
        go_roundw
        case rel => exact ⟨k + 1, by go_num, by omega, by rw [H1.out], trivial⟩
        case measure => simp [intOf]; omega
    · obtain rfl : N = k := by omega
      rw [HN.out]
      clear hk1 hlt hk HN
      go_wp2
      go_loopw [10, 11] (fun s10 s11 wr => ∃ (k : Nat), s11 = .int .i64 k ∧ k ≤ N ∧ Row wr w.heap.size 3 1 s10 (dataL b (min k (N - 3))).length (intsV (dataL b (min k (N - 3)))) ∧ Below w.heap.size w wr) (fun _ s11 _ => N - (intOf s11).toNat)
      case atStart => exact ⟨0, rfl, by omega, by rw [Nat.zero_min]; exact Row.nil _ _ _ _, Below.refl _ _⟩
      case round =>
        obtain ⟨k, rfl, hk, hr, hb⟩ := hrel
        have hk1 : IntKind.i64.wrap ((k : Int) + 1) = (k : Int) + 1 := by rw [IntKind.wrap_i64]; omega
        by_cases hlt : k < N
        · by_cases hlow : k < N - 3
          · have e1 : min k (N - 3) = k := by omega
            have e2 : min (k + 1) (N - 3) = k + 1 := by omega
            have hin : (k : Int) < (N : Int) - 3 := by omega
            rw [e1] at hr
            have E2 := Aside.mk e2
            clear e1 e2
            have hdl := dataL_len b k
            cases hs : (upB k && b)
            · have HD := Aside.mk (dataL_more hs)
              generalize hmm : dataL b k = mm at *
              clear hmm
              have hbase := hb.size
              have hcs : (upB k = false) ∨ (upB k = true ∧ b = false) := by
                cases h : upB k <;> simp_all
              clear hs
              rcases hcs with hu | ⟨hu, rfl⟩
              all_goals
                go_wp2_with (first | (go_at_call 13; refine (ref_lower k _ (by omega) (by omega)).mono ?_; rintro e w5 ⟨rfl, rfl⟩) | (at_builtin; refine wpList_append_one (w0 := w) w.heap.size rfl _ _ 28 3 1 8 (.int .i64 0) rfl Try.underlying28 infoInt rfl (by decide) u10 mm.length _ #[.int .i64 (k : Int)] rfl rfl rfl hr (by simp [Value.oneCell']) hb hbase (by omega) (by simp only [maxLen]; omega) ?_; intro v1 w1 hr1 hb1 hg1 hat1))
                go_roundw
                case rel => exact ⟨k + 1, by go_num, by omega, by rw [E2.out, HD.out, List.length_append, intsV_append]; exact hr1, hb1⟩
                case measure => simp [intOf]; omega
            · obtain ⟨hu, hbt⟩ : upB k = true ∧ b = true := by simpa using hs
              have HD := Aside.mk (dataL_skip hs)
              clear hs
              subst hbt
              go_wp2_with (first | (go_at_call 13; refine (ref_lower k _ (by omega) (by omega)).mono ?_; rintro e w5 ⟨rfl, rfl⟩))
              go_roundw
              case rel => exact ⟨k + 1, by go_num, by omega, by rw [E2.out, HD.out]; exact hr, hb⟩
              case measure => simp [intOf]; omega
          · have e1 : min k (N - 3) = N - 3 := by omega
            have e2 : min (k + 1) (N - 3) = N - 3 := by omega
            have hin : ¬ (k : Int) < (N : Int) - 3 := by omega
            rw [e1] at hr
            have E2 := Aside.mk e2
            clear e1 e2
            go_wp2
            go_roundw
            case rel => exact ⟨k + 1, by go_num, by omega, by rw [E2.out]; exact hr, hb⟩
            case measure => simp [intOf]; omega
        · have e1 : min k (N - 3) = N - 3 := by omega
          rw [e1] at hr
          have hbase := hb.size
          clear e1
          have hge : ¬ (k : Int) < (N : Int) := by omega
          cases b
          · have hp := Row.lit wr w.heap.size 3 1 #[.int .i64 ((N : Int) - 3), .int .i64 ((N : Int) - 1)] 2 hbase (by decide) rfl
            go_wp2
            go_ret3
            exact ⟨⟨_, _, hr.alloc _, hp, rfl⟩, hb.alloc hbase _⟩
          · have hp := Row.lit wr w.heap.size 3 1 #[.int .i64 ((N : Int) - 3)] 1 hbase (by decide) rfl
            go_wp2
            go_ret3
            exact ⟨⟨_, _, hr.alloc _, hp, rfl⟩, hb.alloc hbase _⟩

set_option maxHeartbeats 1000000 in
theorem ref_of_not (n : Int) (b : Bool) (w : World) (h : ¬ (4 ≤ n ∧ n ≤ 64 ∧ n % 4 = 0)) :
    Calls Try.prog 11 #[.int .i64 n, .bool b] w fun e w' => e = .returned (.tuple #[.slice none 0 0, .slice none 0 0, .bool false]) ∧ w = w' := by
  have hcas : n < 4 ∨ (¬ n < 4 ∧ 64 < n) ∨ (¬ n < 4 ∧ ¬ 64 < n ∧ n % 4 ≠ 0) := by omega
  clear h
  have ht : ¬ n < 4 → n.tmod 4 = n % 4 := fun h => tmod4 (by omega)
  rcases hcas with h | ⟨h, h2⟩ | ⟨h, h2, h3⟩
  all_goals
    have hw : ¬ n < 4 → IntKind.i64.wrap (n.tmod 4) = n % 4 := fun h => by rw [ht h, IntKind.wrap_i64]; omega
  case' inr.inr => have hw := hw h; have h4 : (n % 4 == 0) = false := by simp; exact h3
  all_goals
    clear ht
    go_enter Try.func11, Try.ntmps11
    go_wp2
    go_ret3
    exact ⟨rfl, rfl⟩

theorem data8 : dataL true 5 = [0, 1, 4] := by decide
theorem par8 : parL true 8 = [5] := by decide
theorem Rd.litInts (W : World) (l : List Int) (cs : Array Value) (n : Nat) (h : cs.toList = intsV l) (hn : n = l.length) : Rd (W.alloc (.cells cs 3)) (some ⟨W.heap.size, 0, none⟩) n (fun i => .int .i64 (l.getD i 0)) := by
  intro k hk
  refine ⟨W.heap.size, 0, rfl, by simp, ?_⟩
  rw [cell_of_row _ W.heap.size (0 + k) cs 3 (0, 0) (heap_alloc_new W _)]
  rw [Nat.zero_add, ← Array.getElem?_toList, h]
  simp [intsV, List.getD_eq_getElem?_getD, List.getElem?_eq_getElem (show k < l.length by omega)]
theorem ints_same (A B : Option Addr) (n c d : Nat) (x : List Int) (w : World) (hx : n = x.length) (hn : n ≤ c) (hc : c ≤ 9223372036854775807) (hm : n ≤ d) (hd : d ≤ 9223372036854775807) (hA : Rd w A n (fun i => .int .i64 (x.getD i 0))) (hB : Rd w B n (fun i => .int .i64 (x.getD i 0))) :
    Calls Try.prog 12 #[.slice A n c, .slice B n d] w fun e w' => e = .returned (.bool true) ∧ Below w.heap.size w w' :=
  (ints_eq A B n n c d x x w hx hx hn hc hm hd hA hB).mono fun e w' ⟨he, hb⟩ => ⟨by rw [he, decide_eq_true rfl], hb⟩
set_option maxHeartbeats 1000000 in
theorem parity_speaks (w : World) :
    Calls Try.prog 7 #[] w fun e w' => e = .returned (.bool true) ∧ Below w.heap.size w w' := by
  go_enter Try.func7, Try.ntmps7
  go_upto_region 2 with (first | (go_at_call 10; refine (parity_of 8 true _ (by omega) (by omega) (by omega)).mono ?_; rintro e w1 ⟨⟨v1, v2, hr1, hr2, rfl⟩, hb1⟩; rw [show dataL true (8 - 3) = [0, 1, 4] from data8] at hr1; rw [par8] at hr2; obtain ⟨A1, c1, rfl, _, hc1, hm1, hR1⟩ := hr1.readInts; obtain ⟨A2, c2, rfl, _, hc2, hm2, hR2⟩ := hr2.readInts; clear hr1 hr2; have HR1 := Aside.mk hR1; have HR2 := Aside.mk hR2; clear hR1 hR2))
  have hP : PlanAt (w1.alloc (.cells #[.slice A1 [0, 1, 4].length c1, .slice A2 [5].length c2] 30)) w1.heap.size (.slice A1 [0, 1, 4].length c1) (.slice A2 [5].length c2) := heap_alloc_new w1 _
  have d0 := hP.c0
  have hba := (Below.refl w1.heap.size w1).alloc (Nat.le_refl _) (.cells #[.slice A1 [0, 1, 4].length c1, .slice A2 [5].length c2] 30)
  have hb2 := hb1.trans (hba.mono hb1.size)
  have hsz : (w1.alloc (.cells #[.slice A1 [0, 1, 4].length c1, .slice A2 [5].length c2] 30)).heap.size = w1.heap.size + 1 := by simp
  generalize hW : w1.alloc (.cells #[.slice A1 [0, 1, 4].length c1, .slice A2 [5].length c2] 30) = W at *
  have HH := Aside.mk (And.intro hba (And.intro hb2 hsz))
  clear hba hb2 hsz hW
  have hlt := hP.lt
  have hP2 : PlanAt W w1.heap.size (.slice A1 3 c1) (.slice A2 1 c2) := hP
  have HP := Aside.mk hP2
  have d0 := hP2.c0
  clear hP hP2
  have hba : Below w1.heap.size w1 (W.alloc (.cells #[.int .i64 0, .int .i64 1, .int .i64 4] 3)) := HH.out.1.alloc (by have := HH.out.2.2; omega) _
  have hbb : Below w.heap.size w (W.alloc (.cells #[.int .i64 0, .int .i64 1, .int .i64 4] 3)) := HH.out.2.1.alloc HH.out.2.1.size _
  have hbl := Rd.litInts W [0, 1, 4] #[.int .i64 0, .int .i64 1, .int .i64 4] 3 (by simp [intsV]) (by simp)
  have hpp : PlanAt (W.alloc (.cells #[.int .i64 0, .int .i64 1, .int .i64 4] 3)) w1.heap.size (.slice A1 3 c1) (.slice A2 1 c2) := HP.out.kept (World.grownBy_alloc _ _ none) (by simp)
  have hlt2 : w1.heap.size < (W.alloc (.cells #[.int .i64 0, .int .i64 1, .int .i64 4] 3)).heap.size := hpp.lt
  have HPP := Aside.mk (And.intro hpp hlt2)
  clear hpp hlt2
  have HBA := Aside.mk (And.intro hba (And.intro hbb hbl))
  have hc3 : 3 ≤ c1 := hc1
  have hc4 : 1 ≤ c2 := hc2
  have HR3 : Aside (Rd w1 A1 3 (fun k => .int .i64 ([0, 1, 4].getD k 0))) := HR1
  have HR4 : Aside (Rd w1 A2 1 (fun k => .int .i64 ([5].getD k 0))) := HR2
  generalize hx3 : ([0, 1, 4] : List Int) = x3 at *
  generalize hx1 : ([5] : List Int) = x1 at *
  have HX := Aside.mk (And.intro hx3 hx1)
  clear hc1 hc2 HR1 HR2 hx3 hx1
  clear hba hbb hbl
  go_wp2_with (first | (go_at_call 12; obtain ⟨⟨hpp1, hpp2⟩⟩ := HPP; go_loud (refine (ints_same A1 (some ⟨W.heap.size, 0, none⟩) 3 c1 3 x3 _ (by rw [← HX.out.1]; rfl) hc3 hm1 (by decide) (by decide) (HR3.out.below (Nat.le_refl _) HBA.out.1) HBA.out.2.2).mono ?_); rintro e w2 ⟨rfl, hb3⟩; have hb4 := HBA.out.1.trans (hb3.mono HBA.out.1.size); have hb5 := HBA.out.2.1.trans (hb3.mono HBA.out.2.1.size); have hb6 := hpp1.below hb3 hpp2; have d1 := hb6.c1; clear hpp1 hpp2; have HC := Aside.mk (And.intro hb4 hb5); clear hb4 hb5 hb6) | (go_at_call 12; go_loud (refine (ints_same A2 (some ⟨w2.heap.size, 0, none⟩) 1 c2 1 x1 _ (by rw [← HX.out.2]; rfl) hc4 hm2 (by decide) (by decide) (HR4.out.below (Nat.le_refl _) (HC.out.1.alloc HC.out.1.size _)) (Rd.litInts w2 x1 #[.int .i64 5] 1 (by rw [← HX.out.2]; rfl) (by rw [← HX.out.2]; rfl))).mono ?_); rintro e w3 ⟨rfl, hb7⟩; have hb8 := (HC.out.2.alloc HC.out.2.size _).trans (hb7.mono (HC.out.2.alloc HC.out.2.size _).size)))
  go_ret
  exact ⟨rfl, hb8⟩
end Go.Proofs.Ytehiijgfhanjfaa
