/-
  Who always uses the block that is picked, and gives back what stands longest, never lets two blocks be erased more than once apart.
-/
import Derived.Test.YtaganococolodaaWearBlks
namespace Go.Proofs.Ytaganococolodaa
open Go.RowKit

def spkF : Nat → Blk
  | 0 => ⟨3, 0, false, false⟩
  | 1 => ⟨1, 0, true, false⟩
  | _ => ⟨2, 0, false, false⟩
theorem spkF_least : least spkF 3 = 2 := by decide
set_option maxHeartbeats 800000 in
theorem wear_speaks (w : World) :
    Calls Try.prog 6 #[] w fun e w' => e = .returned (.bool true) ∧ Below w.heap.size w w' := by
  have hlit : BRd (w.alloc (.cells #[.int .i64 3, .int .i64 0, .bool false, .bool false, .int .i64 1, .int .i64 0, .bool true, .bool false, .int .i64 2, .int .i64 0, .bool false, .bool false] 27)) (some ⟨w.heap.size, 0, none⟩) 3 spkF := by
    intro k hk
    have hc := fun i => cell_of_row _ w.heap.size i _ _ _ (heap_alloc_new w (.cells #[.int .i64 3, .int .i64 0, .bool false, .bool false, .int .i64 1, .int .i64 0, .bool true, .bool false, .int .i64 2, .int .i64 0, .bool false, .bool false] 27))
    refine ⟨_, _, rfl, by simp, ?_⟩
    match k, hk with
    | 0, _ => exact ⟨hc _, hc _, hc _, hc _⟩
    | 1, _ => exact ⟨hc _, hc _, hc _, hc _⟩
    | 2, _ => exact ⟨hc _, hc _, hc _, hc _⟩
  have HL := Aside.mk hlit
  have hb := (Below.refl w.heap.size w).alloc (Nat.le_refl _) (.cells #[.int .i64 3, .int .i64 0, .bool false, .bool false, .int .i64 1, .int .i64 0, .bool true, .bool false, .int .i64 2, .int .i64 0, .bool false, .bool false] 27)
  clear hlit
  go_enter Try.func6, Try.ntmps6
  go_wp2_with (go_at_call 7; refine (wear_pick _ 3 3 spkF _ (by omega) (by omega) (by omega) HL.out).mono ?_; rw [spkF_least]; rintro e w1 ⟨rfl, hb1⟩)
  go_ret
  exact ⟨rfl, hb.trans (hb1.mono hb.size)⟩

structure EInv (w : World) (g n u i : Nat) (E : Nat → Nat) (Q : List Nat) (L : Nat) (v : Value) (wr : World) : Prop where
  ev : Even n u E Q L
  le : ∀ j, j < n → E j ≤ i
  blk : Blks wr w.heap.size g n E (fun i => decide (i ∈ Q))
  ord : Row wr (g + 1) 3 1 v Q.length (intsV (Q.map fun q : Nat => (q : Int)))
  bel : Below w.heap.size w wr
theorem EInv.below {w : World} {g n u i : Nat} {E : Nat → Nat} {Q : List Nat} {L : Nat} {v : Value} {wr wx : World} (h : EInv w g n u i E Q L v wr) (hb : Below wr.heap.size wr wx) : EInv w g n u i E Q L v wx :=
  ⟨h.ev, h.le, Row.below h.blk hb, h.ord.below hb, h.bel.trans (hb.mono h.bel.size)⟩

theorem EInv.drewN {w : World} {g n u i : Nat} {E : Nat → Nat} {Q : List Nat} {L : Nat} {v : Value} {wr : World} (h : EInv w g n u i E Q L v wr) (m : Nat) : EInv w g n u i E Q L v (wr.drewN m) := h.below ⟨rfl, rfl, rfl, Nat.le_refl _, fun _ _ => rfl⟩

set_option maxRecDepth 20000 in
set_option maxHeartbeats 4000000 in
theorem wearEven_walk (a0 a1 a2 : Int) (w : World) (_h0 : (Lit.int .i64 a0).wf = true) (_h1 : (Lit.int .i64 a1).wf = true) (_h2 : (Lit.int .i64 a2).wf = true) :
    Calls Try.prog 3 #[.int .i64 a0, .int .i64 a1, .int .i64 a2] w fun e w' => e = .returned (.bool true) ∧ Below w.heap.size w w' := by
  go_enter Try.func3, Try.ntmps3
  go_upto_region 3 with (go_at_call 6; refine (wear_speaks _).mono ?_; rintro e w1 ⟨rfl, hb1⟩)
  go_cut [38] (fun s38 wx => s38 = .bool (!decide (2 ≤ a0 ∧ a0 ≤ 40 ∧ 0 ≤ a1 ∧ a1 < a0 ∧ 0 ≤ a2 ∧ a2 ≤ 500)) ∧ w1 = wx)
  case first =>
    by_cases c1 : a0 < 2
    · go_wp2; go_meet; exact ⟨by rw [decide_eq_false (by omega)]; rfl, rfl⟩
    · by_cases c2 : 40 < a0
      · go_wp2; go_meet; exact ⟨by rw [decide_eq_false (by omega)]; rfl, rfl⟩
      · by_cases c3 : a1 < 0
        · go_wp2; go_meet; exact ⟨by rw [decide_eq_false (by omega)]; rfl, rfl⟩
        · by_cases c4 : a0 ≤ a1
          · go_wp2; go_meet; exact ⟨by rw [decide_eq_false (by omega)]; rfl, rfl⟩
          · by_cases c5 : a2 < 0
            · go_wp2; go_meet; exact ⟨by rw [decide_eq_false (by omega)]; rfl, rfl⟩
            · by_cases c6 : 500 < a2
              · go_wp2; go_meet; exact ⟨by rw [decide_eq_false (by omega)]; rfl, rfl⟩
              · go_wp2; go_meet; exact ⟨by rw [decide_eq_true (by omega)]; rfl, rfl⟩
  case rest =>
    obtain ⟨rfl, rfl⟩ := hcut
    go_upto_if 38 with fail
    go_cut [0, 1, 2] (fun s0 s1 s2 wx => ∃ n u s : Nat, 2 ≤ n ∧ n ≤ 40 ∧ u < n ∧ s ≤ 500 ∧ s0 = .int .i64 n ∧ s1 = .int .i64 u ∧ s2 = .int .i64 s ∧ w1 = wx)
    case first =>
      by_cases hok : 2 ≤ a0 ∧ a0 ≤ 40 ∧ 0 ≤ a1 ∧ a1 < a0 ∧ 0 ≤ a2 ∧ a2 ≤ 500
      · rw [decide_eq_true hok]
        obtain ⟨n, rfl⟩ := Int.eq_ofNat_of_zero_le (show 0 ≤ a0 by omega)
        obtain ⟨u, rfl⟩ := Int.eq_ofNat_of_zero_le (show 0 ≤ a1 by omega)
        obtain ⟨s, rfl⟩ := Int.eq_ofNat_of_zero_le (show 0 ≤ a2 by omega)
        have HO := Aside.mk hok
        clear hok
        go_wp2
        go_meet
        exact ⟨n, u, s, by have := HO.out; omega, by have := HO.out; omega, by have := HO.out; omega, by have := HO.out; omega, rfl, rfl, rfl, rfl⟩
      · rw [decide_eq_false hok]
        clear hok
        go_wp2
        go_meet
        exact ⟨5, 0, 20, by omega, by omega, by omega, by omega, rfl, rfl, rfl, rfl⟩
    case rest =>
      obtain ⟨n, u, s, hn1, hn2, hu, hs, rfl, rfl, rfl, rfl⟩ := hcut
      have hmk := make_blks n (by omega)
      have hbm := hb1.alloc hb1.size (.cells (madeCells #[.int .i64 0, .int .i64 0, .bool false, .bool false] (n * 4)) 27)
      have hB := Blks.made w1 w.heap.size n hb1.size (by omega)
      have hI : EInv w w1.heap.size n u 0 (fun _ => 0) [] 0 (.slice none 0 0) (w1.alloc (.cells (madeCells #[.int .i64 0, .int .i64 0, .bool false, .bool false] (n * 4)) 27)) :=
        ⟨Even.start (by omega), fun _ _ => Nat.le_refl _, hB, Row.nil _ _ _ _, hbm⟩
      have hg : w.heap.size ≤ w1.heap.size := hb1.size
      have HI := Aside.mk hI
      clear hI hB hbm hb1
      go_wp2
      generalize w1.alloc (.cells (madeCells #[.int .i64 0, .int .i64 0, .bool false, .bool false] (n * 4)) 27) = wm at *
      generalize w1.heap.size = g at *
      clear hmk
      go_loopw [8, 9] (fun s8 s9 wr => ∃ (i : Nat) (E : Nat → Nat) (Q : List Nat) (L : Nat), i ≤ s ∧ s9 = .int .i64 i ∧ EInv w g n u i E Q L s8 wr) (fun _ s9 _ => s - (intOf s9).toNat)
      case atStart => exact ⟨0, _, _, 0, by omega, rfl, HI.out⟩
      case round =>
        obtain ⟨i, E, Q, L, hi, rfl, hJ⟩ := hrel
        clear HI
        have hi1 : IntKind.i64.wrap ((i : Int) + 1) = (i : Int) + 1 := by rw [IntKind.wrap_i64]; omega
        by_cases hlt : i < s
        · -- what is picked
          obtain ⟨k, hkn, hkQ, hmin, hk⟩ : ∃ k : Nat, k < n ∧ k ∉ Q ∧ (∀ j, j < n → j ∉ Q → E k ≤ E j) ∧ least (fun i => ⟨(E i : Nat), 0, decide (i ∈ Q), false⟩) n = (k : Int) := by
            rcases least_spec (fun i => ⟨(E i : Nat), 0, decide (i ∈ Q), false⟩) n with ⟨_, h2⟩ | ⟨q, h1, h2, h3, h4⟩
            · obtain ⟨f, hf, hfQ, _⟩ := hJ.ev.free
              have := h2 f hf
              simp [Blk.free, hfQ] at this
            · simp [Blk.free] at h3 h4
              exact ⟨q, h2, h3, h4, h1⟩
          obtain ⟨L', hev⟩ := hJ.ev.step hu hkn hkQ hmin
          have HK := Aside.mk hk
          have HE := Aside.mk hev
          have HJ := Aside.mk hJ
          have hkn1 : ¬ (n : Int) ≤ (k : Int) := by omega
          have hkn2 : (k : Int) < (n : Int) := by omega
          have hQl := hJ.ev.len
          obtain ⟨A8, c8, hv, hc8⟩ := hJ.ord.slice
          subst hv
          clear hk hev hmin hJ
          go_upto_region 13 with (go_at_call 7; refine (wear_pick _ n n _ _ (by omega) (by omega) (by omega) HJ.out.blk.read).mono ?_; rw [HK.out]; rintro e w2 ⟨rfl, hb2⟩; have hJ2 := HJ.out.below hb2; have x2 := (hJ2.blk.at_ hkn).2.2.1; rw [decide_eq_false hkQ] at x2; have z2 := hJ2.blk.free (j := k * 4 + 2) (by omega))
          have hU := hJ2.blk.use hkn (fun i => decide (i ∈ Q ++ [k])) true (fun i hi => by simp [hi]) (by simp)
          have HU := Aside.mk (And.intro hJ2 hU)
          clear hU hJ2
          go_upto_region 14 with fail
          clear x2 z2
          generalize w2.setCell ⟨g, k * 4 + 2, none⟩ (.bool true) = w3 at *
          have x3 := (HU.out.2.1.at_ hkn).1
          have z3 := HU.out.2.1.free (j := k * 4) (by omega)
          have hEk : (E k : Int) ≤ 500 := by have := HJ.out.le k hkn; omega
          have hE := HU.out.2.1.erase hkn (bumped E k) (fun i hi => by simp [bumped, hi])
          rw [show ((bumped E k k : Nat) : Int) = (E k : Int) + 1 by simp [bumped]] at hE
          have HE2 := Aside.mk hE
          clear hE
          go_upto_region 15 with fail
          clear x3 z3
          generalize w3.setCell ⟨g, k * 4, none⟩ (.int .i64 ((E k : Int) + 1)) = w4 at *
          have hne : (Value.slice A8 Q.length c8).ownBlock ≠ some g := fun h => by have := HU.out.1.ord.blk g h; omega
          have hgr := World.grownBy.trans HU.out.2.2 HE2.out.2
          have ho : Row w4 (g + 1) 3 1 (.slice A8 Q.length c8) Q.length (intsV (Q.map fun q : Nat => (q : Int))) := HU.out.1.ord.kept hgr (.inr hne)
          have hbel : Below w.heap.size w w4 := HU.out.1.bel.grown hgr (HU.out.1.bel.size) (fun k hk => by injection hk with hk; omega)
          have hlt4 := HE2.out.1.lt
          have HO := Aside.mk (And.intro hbel HE2.out.1)
          clear hgr hne HU HE2 hbel
          go_upto_region 16 with (at_builtin; refine wpList_append_one (w0 := w4) (g + 1) rfl _ _ 24 3 1 8 (.int .i64 0) rfl Try.underlying24 infoInt rfl (by decide) (.slice A8 Q.length c8) Q.length _ #[.int .i64 (k : Int)] rfl rfl rfl ho (by simp [Value.oneCell']) (Below.refl _ _) (by omega) (by omega) (by simp only [maxLen]; omega) ?_; intro v5 w5 hr5 hb5 hg5 hat5; obtain ⟨A5, c5, hv5, hc5⟩ := hr5.slice; subst hv5)
          have hl : intsV (Q.map fun q : Nat => (q : Int)) ++ [Value.int .i64 (k : Int)] = intsV ((Q ++ [k]).map fun q : Nat => (q : Int)) := by simp [intsV]
          have hr6 : Row w5 (g + 1) 3 1 (.slice A5 (Q.length + 1) c5) (Q.length + 1) (intsV ((Q ++ [k]).map fun q : Nat => (q : Int))) := by rw [← hl]; exact hr5
          have hB5 := HO.out.2.far hb5
          have hbel5 : Below w.heap.size w w5 := HO.out.1.trans (hb5.mono (by omega))
          have hle : ∀ j, j < n → bumped E k j ≤ i + 1 := fun j hj => by
            have h1 := HJ.out.le j hj
            have h2 := HJ.out.le k hkn
            unfold bumped
            split <;> omega
          have hnd : (Q ++ [k]).Nodup := by
            rw [List.nodup_append]
            exact ⟨HJ.out.ev.nd, by simp, fun a ha b hb => by
              rw [List.mem_singleton] at hb
              subst hb
              intro e
              subst e
              exact hkQ ha⟩
          have hql : (queued u Q k) = if u < Q.length + 1 then (Q ++ [k]).tail else Q ++ [k] := by simp [queued]
          have hqn : ∀ q, q ∈ Q ++ [k] → q < n := fun q hq => by
            rcases List.mem_append.1 hq with h | h
            · exact HJ.out.ev.lt q h
            · rw [List.mem_singleton] at h; omega
          have HN := Aside.mk hqn
          clear hqn
          have HS := Aside.mk (And.intro hr6 (And.intro hB5 (And.intro hbel5 (And.intro hle (And.intro hnd hql)))))
          clear hl hr5 hr6 hB5 hbel5 hle hnd hql hb5 hg5 hat5 ho HO HJ hkQ hlt4 hEk
          go_upto_if 81 with fail
          go_cut [8] (fun s8 wx => EInv w g n u (i + 1) (bumped E k) (queued u Q k) L' s8 wx)
          case first =>
            by_cases hf : u < Q.length + 1
            · obtain ⟨g5, o5, cp, hv, hgb, hlt5, _, hmx⟩ := HS.out.1.form (by omega)
              injection hv with hv hv2 hv3
              subst hv
              clear hv2 hv3
              obtain ⟨q, rest, hqr⟩ : ∃ q rest, Q ++ [k] = q :: rest := by
                cases h : Q ++ [k] with
                | nil => simp at h
                | cons q rest => exact ⟨q, rest, rfl⟩
              have hr6 := HS.out.1
              rw [hqr] at hr6
              have hqn : q < n := HN.out q (by rw [hqr]; simp)
              have hnd := HS.out.2.2.2.2.1
              rw [hqr, List.nodup_cons] at hnd
              have hqu : queued u Q k = rest := by rw [HS.out.2.2.2.2.2, if_pos hf, hqr]; rfl
              have hrl : Q.length = rest.length := by
                have := congrArg List.length hqr
                simpa using this
              have y5 := hr6.at_ rfl 0 (by omega)
              have y6 : w5.cell? ⟨g5, o5, none⟩ = some (.int .i64 (q : Int)) := y5.1
              clear y5
              have hBq := HS.out.2.1.use hqn (fun i => decide (i ∈ rest)) false (fun i hi => by rw [hqr]; simp [hi]) (by simp [hnd.1])
              have x5 := (HS.out.2.1.at_ hqn).2.2.1
              have z5 := HS.out.2.1.free (j := q * 4 + 2) (by omega)
              have hti := hr6.tail
              obtain ⟨A6, hA6⟩ : ∃ A6 : Option Addr, A6 = if c5 = 1 then some ⟨g5, o5, none⟩ else some ⟨g5, o5 + 1, none⟩ := ⟨_, rfl⟩
              have hs2 : ∀ W, (Instr.slice 24 (.slice (some ⟨g5, o5, none⟩) (Q.length + 1) c5) (some (.int .i64 1)) none none).run Try.prog W = .ok (.slice A6 Q.length (c5 - 1)) W := fun W => by
                have := cut_from (P := Try.prog) 24 3 Try.underlying24 (by kernel_rfl) g5 o5 (Q.length + 1) c5 1 (by omega) W
                rw [hA6]
                exact this
              rw [← hA6] at hti
              have hne5 : g5 ≠ g := by omega
              have HT := Aside.mk (And.intro hti (And.intro hBq (And.intro hqu hrl)))
              have hqn2 : (q : Int) < (n : Int) := by omega
              clear hti hBq hqu hrl hnd hA6 hr6 hqr
              have hfd : u ≤ Q.length := by omega
              go_wp2
              go_meet
              have hgb6 : (Value.slice A6 Q.length (c5 - 1)).ownBlock ≠ some g := fun h => by have := HT.out.1.blk g h; omega
              refine ⟨HE.out, HS.out.2.2.2.1, ?_, ?_, HS.out.2.2.1.setCell (by simp; omega) _⟩
              · rw [HT.out.2.2.1]; exact HT.out.2.1.1
              · rw [HT.out.2.2.1, ← HT.out.2.2.2]
                exact (HT.out.1).kept HT.out.2.1.2 (.inr hgb6)
            · have hfd : ¬ u ≤ Q.length := by omega
              have hfe : ¬ (u : Int) < (Q.length : Int) + 1 := by omega
              have hqu : queued u Q k = Q ++ [k] := by rw [HS.out.2.2.2.2.2, if_neg hf]
              have HF := Aside.mk hf
              have HQ := Aside.mk hqu
              clear hf hqu
              go_wp2
              go_meet
              refine ⟨HE.out, HS.out.2.2.2.1, ?_, ?_, HS.out.2.2.1⟩
              · rw [HQ.out]; exact HS.out.2.1
              · rw [HQ.out]; simpa using HS.out.1
          case rest =>
            have HJ := Aside.mk hcut
            have x0 := (hcut.blk.at_ (show 0 < n by omega)).1
            rw [Nat.zero_mul] at x0
            clear hcut HS HE HN
            go_upto_region 19 with fail
            obtain ⟨e, he⟩ : ∃ e, e = bumped E k 0 := ⟨_, rfl⟩
            rw [← he] at x0
            have HE := Aside.mk he
            clear he
            go_quiet (fail)
            go_wp2
            go_loopw [11, 12, 13] (fun s11 s12 s13 wx => ∃ j a b : Nat, 1 ≤ j ∧ j ≤ n ∧ s13 = .int .i64 j ∧ s11 = .int .i64 (a : Int) ∧ s12 = .int .i64 (b : Int) ∧ Aside ((∃ x, x < n ∧ bumped E k x = a) ∧ (∃ y, y < n ∧ bumped E k y = b) ∧ EInv w g n u (i + 1) (bumped E k) (queued u Q k) L' u8 wx)) (fun _ _ s13 _ => n - (intOf s13).toNat)
            case atStart => exact ⟨1, e, e, by omega, by omega, rfl, rfl, rfl, ⟨⟨0, by omega, HE.out.symm⟩, ⟨0, by omega, HE.out.symm⟩, HJ.out.drewN _⟩⟩
            case round =>
              obtain ⟨j, a, b, hj1, hjn, rfl, rfl, rfl, HX⟩ := hrel
              clear x0 HJ HE
              have hj2 : IntKind.i64.wrap ((j : Int) + 1) = (j : Int) + 1 := by rw [IntKind.wrap_i64]; omega
              by_cases hjl : j < n
              · have x1 := (HX.out.2.2.blk.at_ hjl).1
                obtain ⟨e, he⟩ : ∃ e, e = bumped E k j := ⟨_, rfl⟩
                rw [← he] at x1
                have HE := Aside.mk he
                clear he
                have hjl2 : (j : Int) < (n : Int) := by omega
                have hj0 : (0 : Int) ≤ (j : Int) := by omega
                go_upto_region 23 with fail
                by_cases h1 : e < a
                · have h1' : (e : Int) < (a : Int) := by omega
                  by_cases h2 : b < e
                  · have h2' : (b : Int) < (e : Int) := by omega
                    go_quiet (fail)
                    go_wp2
                    go_roundw
                    case rel => exact ⟨j + 1, e, e, by omega, by omega, by go_num, rfl, rfl, ⟨⟨j, hjl, HE.out.symm⟩, ⟨j, hjl, HE.out.symm⟩, HX.out.2.2.drewN _⟩⟩
                    case measure => simp [intOf]; omega
                  · have h2' : (e : Int) ≤ (b : Int) := by omega
                    go_quiet (fail)
                    go_wp2
                    go_roundw
                    case rel => exact ⟨j + 1, e, b, by omega, by omega, by go_num, rfl, rfl, ⟨⟨j, hjl, HE.out.symm⟩, HX.out.2.1, HX.out.2.2.drewN _⟩⟩
                    case measure => simp [intOf]; omega
                · have h1' : (a : Int) ≤ (e : Int) := by omega
                  by_cases h2 : b < e
                  · have h2' : (b : Int) < (e : Int) := by omega
                    go_quiet (fail)
                    go_wp2
                    go_roundw
                    case rel => exact ⟨j + 1, a, e, by omega, by omega, by go_num, rfl, rfl, ⟨HX.out.1, ⟨j, hjl, HE.out.symm⟩, HX.out.2.2.drewN _⟩⟩
                    case measure => simp [intOf]; omega
                  · have h2' : (e : Int) ≤ (b : Int) := by omega
                    go_quiet (fail)
                    go_wp2
                    go_roundw
                    case rel => exact ⟨j + 1, a, b, by omega, by omega, by go_num, rfl, rfl, ⟨HX.out.1, HX.out.2.1, HX.out.2.2.drewN _⟩⟩
                    case measure => simp [intOf]; omega
              · have hab : b ≤ a + 1 ∧ a ≤ 501 := by
                  obtain ⟨⟨x, hx, hxa⟩, ⟨y, hy, hyb⟩, hJ⟩ := HX.out
                  have h1 := hJ.ev.apart hy hx
                  have h2 := hJ.le x hx
                  omega
                have hab1 : (b : Int) ≤ (a : Int) + 1 := by omega
                have hab2 : (a : Int) ≤ 501 := by omega
                have hsub : IntKind.i64.wrap ((b : Int) - (a : Int)) = (b : Int) - (a : Int) := by rw [IntKind.wrap_i64]; omega
                have hnot : ¬ 1 < (b : Int) - (a : Int) := by omega
                clear hab
                go_wp2
                go_roundw
                case rel => exact ⟨i + 1, _, _, _, by omega, by go_num, HX.out.2.2⟩
                case measure => simp [intOf]; omega
        · go_wp2
          go_ret
          exact ⟨rfl, hJ.bel⟩
end Go.Proofs.Ytaganococolodaa
