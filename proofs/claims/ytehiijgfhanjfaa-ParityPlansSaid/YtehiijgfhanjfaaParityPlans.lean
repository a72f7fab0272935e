/-
  How every block is used, as new memory each time, and which pages a group has.
-/
import Derived.Test.YtehiijgfhanjfaaParAny
import Derived.Test.YtehiijgfhanjfaaArgs
namespace Go.Proofs.Ytehiijgfhanjfaa
open Go.RowKit

structure PKept (w : World) (g2 g3 b3 b5 b7 : Nat) (V1 V2 V3 V4 V5 V7 : Value) (L M : List Int) (wz : World) : Prop where
  p1 : PlanAt wz g2 V1 V2
  p2 : PlanAt wz g3 V3 V4
  r3 : Row wz b3 3 1 V3 L.length (intsV L)
  r5 : Row wz b5 3 1 V5 L.length (intsV L)
  r7 : Row wz b7 3 1 V7 M.length (intsV M)
  hb : Below w.heap.size w wz
theorem PKept.store {w wz : World} {g2 g3 b3 b5 b7 : Nat} {V1 V2 V3 V4 V5 V7 : Value} {L M : List Int} (h : PKept w g2 g3 b3 b5 b7 V1 V2 V3 V4 V5 V7 L M wz) {g : Nat} (i : Nat) (x : Value) (hg : w.heap.size ≤ g) (n1 : g2 ≠ g) (n2 : g3 ≠ g) (n3 : V3.ownBlock ≠ some g) (n5 : V5.ownBlock ≠ some g) (n7 : V7.ownBlock ≠ some g) :
    PKept w g2 g3 b3 b5 b7 V1 V2 V3 V4 V5 V7 L M (wz.setCell ⟨g, i, none⟩ x) :=
  ⟨h.p1.kept (grownBy_set _ _ _ _) (by simpa using n1), h.p2.kept (grownBy_set _ _ _ _) (by simpa using n2), h.r3.kept (grownBy_set _ _ _ _) (.inr n3), h.r5.kept (grownBy_set _ _ _ _) (.inr n5), h.r7.kept (grownBy_set _ _ _ _) (.inr n7), h.hb.setCell (p := ⟨g, i, none⟩) hg _⟩
theorem PlanAt.news {w2 : World} {V1 V2 : Value} : PlanAt (w2.alloc (.cells #[V1, V2] 30)) w2.heap.size V1 V2 := heap_alloc_new w2 _

set_option maxRecDepth 20000 in
set_option maxHeartbeats 8000000 in
theorem parityPlans_walk (n : Int) (b : Bool) (gr : Int) (w : World) (_hn : (Lit.int .i64 n).wf = true) (_hg : (Lit.int .i64 gr).wf = true) :
    Calls Try.prog 5 #[.int .i64 n, .bool b, .int .i64 gr] w fun e w' => e = .returned (.bool true) ∧ Below w.heap.size w w' := by
  go_enter Try.func5, Try.ntmps5
  have hL := dataN_len n b
  have hM := fun x (h : x ∈ dataN n b) => dataN_mem h
  have HLM := Aside.mk (And.intro hL hM)
  clear hL hM
  obtain ⟨L, hLe⟩ : ∃ L, L = dataN n b := ⟨_, rfl⟩
  obtain ⟨Pa, hPe⟩ : ∃ P, P = parN n b := ⟨_, rfl⟩
  rw [← hLe] at HLM
  have HE := Aside.mk (And.intro hLe hPe)
  clear hLe hPe
  go_upto_region 4 with (first | (go_at_call 7; refine (parity_speaks _).mono ?_; rintro e w1 ⟨rfl, hb1⟩) | (go_at_call 10; refine (parity_of_any n b _).mono ?_; rintro e w2 ⟨⟨v1, v2, r1, r2, rfl⟩, hb2⟩; rw [← HE.out.1] at r1; rw [← HE.out.2] at r2; obtain ⟨A1, c1, rfl, hc1⟩ := r1.slice; obtain ⟨A2, c2, rfl, hc2⟩ := r2.slice))
  have hbA : Below w.heap.size w (w2.alloc (.cells #[.slice A1 L.length c1, .slice A2 Pa.length c2] 30)) := (hb1.trans (hb2.mono hb1.size)).alloc (hb1.trans (hb2.mono hb1.size)).size _
  have hz12 := hb2.size
  have hz1 := hb1.size
  have hlo : ∀ q, (Value.slice A1 L.length c1).ownBlock = some q → q < w2.heap.size := fun q hq => (r1.blk q hq).2.1
  have r1 := r1.alloc (.cells #[.slice A1 L.length c1, .slice A2 Pa.length c2] 30)
  have r2 := r2.alloc (.cells #[.slice A1 L.length c1, .slice A2 Pa.length c2] 30)
  have p1 : PlanAt (w2.alloc (.cells #[.slice A1 L.length c1, .slice A2 Pa.length c2] 30)) w2.heap.size (.slice A1 L.length c1) (.slice A2 Pa.length c2) := heap_alloc_new w2 _
  have hsz : (w2.alloc (.cells #[.slice A1 L.length c1, .slice A2 Pa.length c2] 30)).heap.size = w2.heap.size + 1 := by simp
  generalize w2.alloc (.cells #[.slice A1 L.length c1, .slice A2 Pa.length c2] 30) = W2 at *
  generalize w2.heap.size = g2 at *
  generalize w1.heap.size = b1 at *
  clear hb1 hb2
  have HA := Aside.mk (And.intro r1 (And.intro r2 (And.intro p1 (And.intro hsz (And.intro hlo (And.intro hbA (And.intro hz12 hz1)))))))
  clear r1 r2 p1 hsz hlo hbA hz12 hz1
  go_upto_region 5 with (go_at_call 10; refine (parity_of_any n b _).mono ?_; rintro e w3 ⟨⟨v3, v4, r3, r4, rfl⟩, hb3⟩; rw [← HE.out.1] at r3; rw [← HE.out.2] at r4; obtain ⟨A3, c3, rfl, hc3⟩ := r3.slice; obtain ⟨A4, c4, rfl, hc4⟩ := r4.slice)
  obtain ⟨r1, r2, p1, hsz, hlo, hbA, hz12, hz1⟩ := HA.out
  clear HA
  have hz3 := hb3.size
  have r1 := (r1.below hb3).alloc (.cells #[.slice A3 L.length c3, .slice A4 Pa.length c4] 30)
  have r2 := (r2.below hb3).alloc (.cells #[.slice A3 L.length c3, .slice A4 Pa.length c4] 30)
  have r3 := r3.alloc (.cells #[.slice A3 L.length c3, .slice A4 Pa.length c4] 30)
  have p1 : PlanAt (w3.alloc (.cells #[.slice A3 L.length c3, .slice A4 Pa.length c4] 30)) g2 (.slice A1 L.length c1) (.slice A2 Pa.length c2) := (p1.below hb3 (by omega)).kept (World.grownBy_alloc _ _ none) (by simp)
  have p2 : PlanAt (w3.alloc (.cells #[.slice A3 L.length c3, .slice A4 Pa.length c4] 30)) w3.heap.size (.slice A3 L.length c3) (.slice A4 Pa.length c4) := heap_alloc_new w3 _
  have hbB : Below w.heap.size w (w3.alloc (.cells #[.slice A3 L.length c3, .slice A4 Pa.length c4] 30)) := (hbA.trans (hb3.mono hbA.size)).alloc (hbA.trans (hb3.mono hbA.size)).size _
  have hsz3 : (w3.alloc (.cells #[.slice A3 L.length c3, .slice A4 Pa.length c4] 30)).heap.size = w3.heap.size + 1 := by simp
  generalize w3.alloc (.cells #[.slice A3 L.length c3, .slice A4 Pa.length c4] 30) = W4 at *
  generalize w3.heap.size = g3 at *
  rw [hsz] at hz3
  have r3 : Row W4 (g2 + 1) 3 1 (.slice A3 L.length c3) L.length (intsV L) := by rw [← hsz]; exact r3
  have HA := Aside.mk (And.intro r1 (And.intro r2 (And.intro r3 (And.intro p1 (And.intro p2 (And.intro hlo (And.intro hbB (And.intro hz12 (And.intro hz1 (And.intro hz3 hsz3))))))))))
  clear r1 r2 r3 p1 p2 hsz hlo hbA hbB hz12 hz1 hz3 hsz3 r4 hb3
  go_upto_region 6 with (go_at_call 11; refine (ref_of_any n b _).mono ?_; rintro e w5 ⟨⟨v5, v6, r5, r6, rfl⟩, hb5⟩; rw [← HE.out.1] at r5; rw [← HE.out.2] at r6; obtain ⟨A5, c5, rfl, hc5⟩ := r5.slice; obtain ⟨A6, c6, rfl, hc6⟩ := r6.slice)
  obtain ⟨r1, r2, r3, p1, p2, hlo, hbB, hz12, hz1, hz3, hsz3⟩ := HA.out
  clear HA
  have hz5 := hb5.size
  have r1 := r1.below hb5
  have r2 := r2.below hb5
  have r3 := r3.below hb5
  have p1 := p1.below hb5 (by omega)
  have p2 := p2.below hb5 (by omega)
  have hbC := hbB.trans (hb5.mono hbB.size)
  rw [hsz3] at r5 r6 hz5
  have hx1 : b1 ≤ g2 := hz12
  have hx2 : g2 < g3 := by omega
  have hx3 : g3 < w5.heap.size := by omega
  have HA := Aside.mk (And.intro r1 (And.intro r2 (And.intro r3 (And.intro p1 (And.intro p2 (And.intro r5 (And.intro r6 (And.intro hbC (And.intro hz1 hlo)))))))))
  have d0 := p1.c0
  have HI1 := Aside.mk (ints_rows r1 r5)
  clear r1 r2 r3 p1 p2 hsz3 hlo hbB hbC hz12 hz1 hz3 r5 r6 hb5 hz5
  have hx4 : g2 < w5.heap.size := by omega
  go_upto_region 8 with (first
    | (obtain ⟨HI⟩ := HI1; go_at_call 12; refine HI.mono ?_; clear HI; rintro e w6 ⟨rfl, hb6⟩; obtain ⟨q1, q2, q3, q4, q5, q6, q7, q8, q9, q10⟩ := HA.out; have d1 := (q4.below hb6 hx4).c1; have HI2 := Aside.mk (ints_rows (q2.below hb6) (q7.below hb6)); have H6 := Aside.mk hb6; clear q1 q2 q3 q4 q5 q6 q7 q8 q9 q10 hb6)
    | (obtain ⟨HI⟩ := HI2; go_at_call 12; refine HI.mono ?_; clear HI; rintro e w7 ⟨rfl, hb7⟩; have H7 := Aside.mk (H6.out.trans (hb7.mono H6.out.size)); clear hb7 d1))
  obtain ⟨q1, q2, q3, q4, q5, q6, q7, q8, q9, q10⟩ := HA.out
  have q1 := q1.below H7.out
  have q3 := q3.below H7.out
  have q4 := q4.below H7.out hx4
  have q5 := q5.below H7.out hx3
  have q6 := q6.below H7.out
  have q8 := q8.trans (H7.out.mono q8.size)
  have hs7 := H7.out.size
  have hx5 : g3 < w7.heap.size := by omega
  have HLX := HLM.out.1
  obtain ⟨A5', c5', e5, n5, h5, m5, R5⟩ := q6.readInts
  injection e5 with e5 _ e6
  subst e5; subst e6
  have HR5 := Aside.mk R5
  have HQ := Aside.mk (And.intro q1 (And.intro q3 (And.intro q4 (And.intro q5 (And.intro q6 (And.intro q8 (And.intro q9 q10)))))))
  clear q1 q2 q3 q4 q5 q6 q7 q8 q9 q10 HA H7 d0 R5 hs7 n5
  go_wp2
  go_loopw [14, 15] (fun s14 s15 wr => ∃ k : Nat, k ≤ L.length ∧ s15 = .int .i64 k ∧ Row wr w7.heap.size 3 1 s14 (membL (L.take k) gr).length (intsV (membL (L.take k) gr)) ∧ Below w7.heap.size w7 wr) (fun _ s15 _ => L.length - (intOf s15).toNat)
  case atStart => exact ⟨0, by omega, rfl, Row.nil _ _ _ _, Below.refl _ _⟩
  case round =>
    obtain ⟨k, hk, rfl, hr, hb⟩ := hrel
    by_cases hlt : k < L.length
    · obtain ⟨gb, off, rfl, hcell⟩ := HR5.out.cells hlt
      have hcr := hcell w7.heap.size wr (Nat.le_refl _) hb
      clear hcell
      have hk1 : IntKind.i64.wrap ((k : Int) + 1) = (k : Int) + 1 := by rw [IntKind.wrap_i64]; omega
      have hx := HLM.out.2 (L.getD k 0) (by
        rw [List.getD_eq_getElem?_getD, List.getElem?_eq_getElem hlt]
        exact List.getElem_mem _)
      have H1 := Aside.mk (fun h => memb_take (gr := gr) hlt h)
      have H2 := Aside.mk (fun h => memb_skip (gr := gr) hlt h)
      have h3 := memb_len (L.take k) gr
      rw [List.length_take] at h3
      have h4 : (membL (L.take k) gr).length ≤ 1000 := by omega
      clear h3
      generalize L.getD k 0 = xk at *
      generalize hmm : membL (L.take k) gr = mm at *
      clear hmm
      have hbase := hb.size
      have hcg : gr = 0 ∨ gr = 1 ∨ ((gr == 0) = false ∧ (gr == 1) = false) := by
        by_cases h0 : gr = 0
        · exact .inl h0
        · by_cases h1 : gr = 1
          · exact .inr (.inl h1)
          · exact .inr (.inr ⟨by simpa using h0, by simpa using h1⟩)
      have HG := Aside.mk (show (upB xk = true → grp xk = 1) ∧ (upB xk = false → grp xk = 0) by unfold grp; exact ⟨fun h => by rw [if_pos h], fun h => by rw [if_neg (by simp [h])]⟩)
      cases hu : upB xk <;> rcases hcg with rfl | rfl | ⟨hg0, hg1⟩
      all_goals
        go_wp2_with (first | (go_at_call 13; refine (ref_lower xk _ hx.1 (by omega)).mono ?_; rintro e w8 ⟨rfl, rfl⟩) | (at_builtin; refine wpList_append_one (w0 := w7) w7.heap.size rfl _ _ 28 3 1 8 (.int .i64 0) rfl Try.underlying28 infoInt rfl (by decide) u14 mm.length _ #[.int .i64 xk] rfl rfl rfl hr (by simp [Value.oneCell']) hb hbase (by omega) (by simp only [maxLen]; omega) ?_; intro v1 w8 hr1 hb1 hg1 hat1))
        go_roundw
        case measure => simp [intOf]; omega
        case rel =>
          first
          | exact ⟨k + 1, by omega, by go_num, by rw [H1.out (HG.out.2 hu), List.length_append, intsV_append]; exact hr1, hb1⟩
          | exact ⟨k + 1, by omega, by go_num, by rw [H1.out (HG.out.1 hu), List.length_append, intsV_append]; exact hr1, hb1⟩
          | exact ⟨k + 1, by omega, by go_num, by rw [H2.out (by rw [HG.out.2 hu]; first | decide | (simp at hg0 hg1; omega))]; exact hr, hb⟩
          | exact ⟨k + 1, by omega, by go_num, by rw [H2.out (by rw [HG.out.1 hu]; first | decide | (simp at hg0 hg1; omega))]; exact hr, hb⟩
    · obtain rfl : k = L.length := by omega
      rw [List.take_length] at hr
      have hml := memb_len L gr
      obtain ⟨M, hMe⟩ : ∃ M, M = membL L gr := ⟨_, rfl⟩
      rw [← hMe] at hr hml
      have HM := Aside.mk hMe
      clear hMe
      obtain ⟨q1, q3, q4, q5, q6, q8, q9, q10⟩ := HQ.out
      obtain ⟨A7, c7, rfl, hc7⟩ := hr.slice
      have q1 := q1.below hb
      have q3 := q3.below hb
      have q4 := q4.below hb (by omega)
      have q5 := q5.below hb (by omega)
      have q6 := q6.below hb
      have q8 := q8.trans (hb.mono q8.size)
      have d0 := q4.c0
      have d1 := q4.c1
      have hbs := hb.size
      have HI1 := Aside.mk (members_row (gr := gr) q1 HLM.out.1 HLM.out.2 ⟨A2, Pa.length, c2, rfl⟩)
      have HA := Aside.mk (And.intro q1 (And.intro q3 (And.intro q4 (And.intro q5 (And.intro q6 (And.intro q8 (And.intro hr (And.intro q9 q10))))))))
      clear q1 q3 q4 q5 q6 q8 hr q9 q10 HQ
      have hx6 : g2 < wr.heap.size := by omega
      have hx7 : g3 < wr.heap.size := by omega
      have HX := Aside.mk hbs
      clear hbs hb
      rw [← HM.out] at HI1
      go_upto_if 92 with (first
        | (obtain ⟨HI⟩ := HI1; go_at_call 14; refine HI.mono ?_; clear HI; rintro e w8 ⟨⟨v8, r8, rfl⟩, hb8⟩; obtain ⟨A8, c8, rfl, hc8⟩ := r8.slice; have HI2 := Aside.mk (ints_rows r8 (HA.out.2.2.2.2.2.2.1.below hb8)); have H8 := Aside.mk (And.intro r8 hb8); clear r8 hb8)
        | (obtain ⟨HI⟩ := HI2; go_at_call 12; refine HI.mono ?_; clear HI; rintro e w9 ⟨rfl, hb9⟩; have H9 := Aside.mk (And.intro (H8.out.1.below hb9) (H8.out.2.trans (hb9.mono H8.out.2.size))); clear hb9 d0 d1))
      obtain ⟨q1, q3, q4, q5, q6, q8, q7, q9, q10⟩ := HA.out
      obtain ⟨h8, hb9⟩ := H9.out
      have hbs := HX.out
      have n3 : ∀ q, (Value.slice A3 L.length c3).ownBlock = some q → q < wr.heap.size := fun q hq => (q3.blk q hq).2.1
      have n5 : ∀ q, (Value.slice A5 L.length c5).ownBlock = some q → q < wr.heap.size := fun q hq => (q6.blk q hq).2.1
      have n7 : ∀ q, (Value.slice A7 M.length c7).ownBlock = some q → q < wr.heap.size := fun q hq => (q7.blk q hq).2.1
      have hPK : PKept w g2 g3 (g2 + 1) (g3 + 1) w7.heap.size (.slice A1 L.length c1) (.slice A2 Pa.length c2) (.slice A3 L.length c3) (.slice A4 Pa.length c4) (.slice A5 L.length c5) (.slice A7 M.length c7) L M w9 :=
        ⟨q4.below hb9 (by omega), q5.below hb9 (by omega), q3.below hb9, q6.below hb9, q7.below hb9, q8.trans (hb9.mono q8.size)⟩
      have hr1 := q1.below hb9
      have HN := Aside.mk (And.intro n3 (And.intro n5 n7))
      have HLO := Aside.mk (And.intro q9 q10)
      clear q1 q3 q4 q5 q6 q8 q7 q9 q10 n3 n5 n7 hb9 H9 HA hbs
      have hx8 : g2 < wr.heap.size := hx6
      have hx9 : w7.heap.size ≤ wr.heap.size := HX.out
      generalize wr.heap.size = b8 at *
      generalize w7.heap.size = b7 at *
      go_wp2
      go_loopw [17] (fun s17 wz => ∃ (k : Nat) (xs : List Value), k ≤ L.length ∧ s17 = .int .i64 k ∧ PKept w g2 g3 (g2 + 1) (g3 + 1) b7 (.slice A1 L.length c1) (.slice A2 Pa.length c2) (.slice A3 L.length c3) (.slice A4 Pa.length c4) (.slice A5 L.length c5) (.slice A7 M.length c7) L M wz ∧ Row wz b1 3 1 (.slice A1 L.length c1) L.length xs ∧ Row wz b8 3 1 (.slice A8 M.length c8) M.length (intsV M)) (fun s17 _ => L.length - (intOf s17).toNat)
      case atStart => exact ⟨0, _, by omega, rfl, hPK, hr1, h8⟩
      case round =>
        obtain ⟨k, xs, hk, rfl, pk, hr1, hr8⟩ := hrel
        clear hPK h8
        have d0 := pk.p1.c0
        have hk1 : IntKind.i64.wrap ((k : Int) + 1) = (k : Int) + 1 := by rw [IntKind.wrap_i64]; omega
        by_cases hlt : k < L.length
        · obtain ⟨g, off, cp, hv, hgb, _, _, _⟩ := hr1.form (by omega)
          injection hv with hv _ _
          subst hv
          obtain ⟨y1, y2⟩ := hr1.at_ rfl k hlt
          have hgl := HLO.out.2 g rfl
          have hwg := HLO.out.1
          have hne : ∀ {base : Nat} {v : Value} {m : Nat} {ys : List Value}, Row wr b8 3 1 v m ys → v.ownBlock ≠ some g := fun h hq => by have := (h.blk _ hq).1; omega
          have hne3 : (Value.slice A3 L.length c3).ownBlock ≠ some g := fun hq => by have := (pk.r3.blk _ hq).1; omega
          have hne5 : (Value.slice A5 L.length c5).ownBlock ≠ some g := fun hq => by have := (pk.r5.blk _ hq).1; omega
          have hne7 : (Value.slice A7 M.length c7).ownBlock ≠ some g := fun hq => by have := (pk.r7.blk _ hq).1; omega
          have hne8 : (Value.slice A8 M.length c8).ownBlock ≠ some g := fun hq => by have := (hr8.blk _ hq).1; omega
          have HH := Aside.mk (And.intro (pk.store (off + k) (.int .i64 (-8)) (by omega) (by omega) (by omega) hne3 hne5 hne7) (And.intro (hr1.store rfl k (by omega) (.int .i64 (-8))).1 (hr8.kept (grownBy_set wr g (off + k) (.int .i64 (-8))) (.inr hne8))))
          clear hne hne3 hne5 hne7 hne8 pk hr1 hr8 hgl hwg
          go_wp2
          go_roundw
          case measure => simp [intOf]; omega
          case rel => exact ⟨k + 1, _, by omega, by go_num, HH.out.1, HH.out.2.1, HH.out.2.2⟩
        · have HP := Aside.mk (And.intro pk hr8)
          clear pk hr1 hr8
          go_wp2
          go_loopw [18] (fun s18 wz => ∃ (k : Nat) (xs : List Value), k ≤ M.length ∧ s18 = .int .i64 k ∧ PKept w g2 g3 (g2 + 1) (g3 + 1) b7 (.slice A1 L.length c1) (.slice A2 Pa.length c2) (.slice A3 L.length c3) (.slice A4 Pa.length c4) (.slice A5 L.length c5) (.slice A7 M.length c7) L M wz ∧ Row wz b8 3 1 (.slice A8 M.length c8) M.length xs) (fun s18 _ => M.length - (intOf s18).toNat)
          case atStart => exact ⟨0, _, by omega, rfl, HP.out.1, HP.out.2⟩
          case round =>
            obtain ⟨j, xs, hj, rfl, pk, hr8⟩ := hrel
            clear HP
            have hj1 : IntKind.i64.wrap ((j : Int) + 1) = (j : Int) + 1 := by rw [IntKind.wrap_i64]; omega
            by_cases hjt : j < M.length
            · obtain ⟨g, off, cp, hv, hgb, _, _, _⟩ := hr8.form (by omega)
              injection hv with hv _ _
              subst hv
              obtain ⟨y1, y2⟩ := hr8.at_ rfl j hjt
              have hwb := HLO.out.1
              have hne3 : (Value.slice A3 L.length c3).ownBlock ≠ some g := fun hq => by have := HN.out.1 _ hq; omega
              have hne5 : (Value.slice A5 L.length c5).ownBlock ≠ some g := fun hq => by have := HN.out.2.1 _ hq; omega
              have hne7 : (Value.slice A7 M.length c7).ownBlock ≠ some g := fun hq => by have := HN.out.2.2 _ hq; omega
              have HH := Aside.mk (And.intro (pk.store (off + j) (.int .i64 (-9)) (by omega) (by omega) (by omega) hne3 hne5 hne7) (hr8.store rfl j (by omega) (.int .i64 (-9))).1)
              clear hne3 hne5 hne7 pk hr8 hwb
              go_wp2
              go_roundw
              case measure => simp [intOf]; omega
              case rel => exact ⟨j + 1, _, by omega, by go_num, HH.out.1, HH.out.2⟩
            · have d0 := pk.p2.c0
              have d1 := pk.p2.c1
              have hlt3 := pk.p2.lt
              have HI1 := Aside.mk (ints_rows pk.r3 pk.r5)
              have HP := Aside.mk pk
              clear pk hr8
              go_wp2_with (first
                | (obtain ⟨HI⟩ := HI1; go_at_call 12; refine HI.mono ?_; clear HI; rintro e wA ⟨rfl, hbA⟩; have d2 := (HP.out.p2.below hbA hlt3).c0; have d3 := (HP.out.p2.below hbA hlt3).c1; have HI2 := Aside.mk (members_row (gr := gr) (HP.out.r3.below hbA) HLM.out.1 HLM.out.2 ⟨A4, Pa.length, c4, rfl⟩); rw [← HM.out] at HI2; have HA := Aside.mk (And.intro (HP.out.r7.below hbA) (HP.out.hb.trans (hbA.mono HP.out.hb.size))); clear hbA)
                | (obtain ⟨HI⟩ := HI2; go_at_call 14; refine HI.mono ?_; clear HI; rintro e wB ⟨⟨v9, r9, rfl⟩, hbB⟩; obtain ⟨A9, c9, rfl, hc9⟩ := r9.slice; have HI3 := Aside.mk (ints_rows r9 (HA.out.1.below hbB)); have HB := Aside.mk (HA.out.2.trans (hbB.mono HA.out.2.size)); clear r9 hbB)
                | (obtain ⟨HI⟩ := HI3; go_at_call 12; refine HI.mono ?_; clear HI; rintro e wC ⟨rfl, hbC⟩; have HC := Aside.mk (HB.out.trans (hbC.mono HB.out.size)); clear hbC))
              go_ret
              exact ⟨rfl, HC.out⟩
end Go.Proofs.Ytehiijgfhanjfaa
