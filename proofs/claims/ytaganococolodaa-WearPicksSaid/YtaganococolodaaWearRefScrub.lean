/-
  What the document says of the blocks that were read too often.
-/
import Derived.Test.YtaganococolodaaWearScrub
import Derived.Test.YtaganococolodaaIntCut
namespace Go.Proofs.Ytaganococolodaa
open Go.RowKit Go.Sort

/-- A list in order, of the numbers that count among the first k. -/
structure RS (f : Nat → Blk) (most : Int) (k : Nat) (l : List Nat) : Prop where
  srt : l.Pairwise (Ahead fun x => (f x).rd)
  mem : ∀ x, x ∈ l ↔ x ∈ scrubL f most k
theorem RS.nil (f : Nat → Blk) (most : Int) : RS f most 0 [] := ⟨List.Pairwise.nil, fun x => by simp [scrubL]⟩
theorem RS.lt {f : Nat → Blk} {most : Int} {k : Nat} {l : List Nat} (h : RS f most k l) {x : Nat} (hx : x ∈ l) : x < k := scrubL_lt ((h.mem x).1 hx)
theorem RS.len {f : Nat → Blk} {most : Int} {k : Nat} {l : List Nat} (h : RS f most k l) : l.length ≤ k := by
  have hnd : l.Nodup := h.srt.imp (fun hab e => by subst e; exact hab.irrefl)
  have : l.length ≤ (scrubL f most k).length := List.Nodup.length_le_of_subset hnd (fun x hx => (h.mem x).1 hx)
  exact Nat.le_trans this (scrubL_le f most k)
theorem RS.skip {f : Nat → Blk} {most : Int} {k : Nat} {l : List Nat} (h : RS f most k l) (hk : ((f k).us && decide (most < (f k).rd)) = false) : RS f most (k + 1) l :=
  ⟨h.srt, fun x => by rw [scrubL_succ, hk]; simpa using h.mem x⟩
theorem RS.insert {f : Nat → Blk} {most : Int} {k j : Nat} {l : List Nat} (h : RS f most k l) (hk : ((f k).us && decide (most < (f k).rd)) = true) (_hj : j ≤ l.length) (hlo : ∀ x ∈ l.take j, (f k).rd ≤ (f x).rd) (hhi : ∀ x ∈ l.drop j, (f x).rd < (f k).rd) : RS f most (k + 1) (l.take j ++ [k] ++ l.drop j) := by
  refine ⟨?_, fun x => ?_⟩
  · have hs := h.srt
    rw [← List.take_append_drop j l] at hs
    obtain ⟨h1, h2, h3⟩ := List.pairwise_append.1 hs
    rw [List.append_assoc, List.pairwise_append]
    refine ⟨h1, ?_, fun a ha b hb => ?_⟩
    · rw [List.singleton_append, List.pairwise_cons]
      exact ⟨fun b hb => Or.inl (hhi b hb), h2⟩
    · rcases List.mem_append.1 hb with hb | hb
      · obtain rfl : b = k := by simpa using hb
        exact ahead_of_lt (h.lt (List.mem_of_mem_take ha)) (by have := hlo a ha; omega)
      · exact h3 a ha b hb
  · rw [scrubL_succ, hk, if_pos rfl, List.mem_append, List.mem_append, List.mem_append, ← h.mem x]
    have ht : x ∈ l ↔ x ∈ l.take j ∨ x ∈ l.drop j := by
      rw [← List.mem_append, List.take_append_drop]
    rw [ht]
    simp only [List.mem_singleton]
    constructor
    · rintro ((h1 | h1) | h1)
      · exact .inl (.inl h1)
      · exact .inr h1
      · exact .inl (.inr h1)
    · rintro ((h1 | h1) | h1)
      · exact .inl (.inl h1)
      · exact .inr h1
      · exact .inl (.inr h1)
/-- Where the greater ones end. -/
theorem RS.drop_lt {f : Nat → Blk} {most : Int} {k j : Nat} {l : List Nat} (h : RS f most k l) (r : Int) (hj : ∀ y, l[j]? = some y → (f y).rd < r) : ∀ x ∈ l.drop j, (f x).rd < r := by
  intro x hx
  obtain ⟨i, hi, rfl⟩ := List.getElem_of_mem hx
  rw [List.length_drop] at hi
  have hjl : j < l.length := by omega
  have h0 := hj _ (List.getElem?_eq_getElem hjl)
  rw [List.getElem_drop]
  rcases Nat.eq_zero_or_pos i with e | e
  · subst e; exact h0
  · have := List.pairwise_iff_getElem.1 h.srt j (j + i) hjl (by omega) (by omega)
    unfold Ahead at this
    simp only at this
    omega
theorem natsL_one (l : List Nat) : ∀ u ∈ natsL l, u.oneCell' = true := by
  intro u hu
  obtain ⟨x, _, rfl⟩ := List.mem_map.1 hu
  rfl
theorem natsL_at {l : List Nat} {i : Nat} (h : i < l.length) : (natsL l).getD i undef = .int .i64 ((l.getD i 0 : Nat) : Int) := by simp [natsL, h]
set_option maxRecDepth 20000 in
set_option maxHeartbeats 4000000 in
theorem ref_scrub (A : Option Addr) (n c : Nat) (f : Nat → Blk) (most : Int) (w : World) (hn : n ≤ 10000000000000) (hc : n ≤ c) (hcm : c ≤ 9223372036854775807) (hR : BRd w A n f) :
    Calls Try.prog 10 #[.slice A n c, .int .i64 most] w (ScrubPost f most n w) := by
  have HR := Aside.mk hR
  clear hR
  go_enter Try.func10, Try.ntmps10
  go_wp2
  go_loopw [5, 6, 7, 8] (fun s5 s6 _ _ wr => ∃ (i : Nat) (l : List Nat), i ≤ n ∧ s6 = .int .i64 i ∧ Aside (Below w.heap.size w wr ∧ Row wr w.heap.size 3 1 s5 l.length (natsL l) ∧ RS f most i l)) (fun _ s6 _ _ _ => n - (intOf s6).toNat)
  case atStart => exact ⟨0, [], Nat.zero_le _, rfl, ⟨Below.refl _ _, Row.nil w w.heap.size 3 1, RS.nil f most⟩⟩
  case round =>
    obtain ⟨i, l, hi, rfl, HI⟩ := hrel
    obtain ⟨A5, c5, rfl, hc5⟩ := HI.out.2.1.slice
    by_cases hlt : i < n
    · obtain ⟨g, off, rfl, hcell⟩ := HR.out.cells hlt
      have hk1 : IntKind.i64.wrap ((i : Int) + 1) = (i : Int) + 1 := by rw [IntKind.wrap_i64]; omega
      obtain ⟨c0, c1, c2, c3⟩ := hcell w.heap.size wr (Nat.le_refl _) HI.out.1
      have hrs := HI.out.2.2
      have hll := hrs.len
      have HNO : Aside (((f i).us && decide (most < (f i).rd)) = false → RS f most (i + 1) l) := ⟨fun h => hrs.skip h⟩
      have HYES : Aside (((f i).us && decide (most < (f i).rd)) = true → ∀ j, j ≤ l.length → (∀ x ∈ l.take j, (f i).rd ≤ (f x).rd) → (∀ x ∈ l.drop j, (f x).rd < (f i).rd) → RS f most (i + 1) (l.take j ++ [i] ++ l.drop j)) := ⟨fun h j h1 h2 h3 => hrs.insert h h1 h2 h3⟩
      have hin : (i : Int) < (n : Int) := by omega
      have hi0 : (0 : Int) ≤ (i : Int) := by omega
      have HRD : Aside (∀ wz, Below w.heap.size w wz → wz.cell? ⟨g, off + i * 4 + 1, none⟩ = some (.int .i64 (f i).rd)) := ⟨fun wz hz => (hcell _ wz (Nat.le_refl _) hz).2.1⟩
      cases hU : (f i).us
      · rw [hU] at c2
        have HN := Aside.mk (HNO.out (by rw [hU]; rfl))
        clear hcell hrs hU
        go_wp2
        go_roundw
        case rel => exact ⟨i + 1, l, by omega, by go_num, ⟨HI.out.1, HI.out.2.1, HN.out⟩⟩
        case measure => simp [intOf]; omega
      · rw [hU] at c2
        by_cases hm : (f i).rd ≤ most
        · have HN := Aside.mk (HNO.out (by simp; omega))
          clear hcell hrs hU
          generalize (f i).rd = xr at *
          go_wp2
          go_roundw
          case rel => exact ⟨i + 1, l, by omega, by go_num, ⟨HI.out.1, HI.out.2.1, HN.out⟩⟩
          case measure => simp [intOf]; omega
        · have HY := Aside.mk (HYES.out (by rw [hU]; simp; omega))
          clear hcell hrs hU HNO HYES
          go_wp2
          go_loopw [7] (fun s7 wx => ∃ k : Nat, k ≤ l.length ∧ s7 = .int .i64 k ∧ Aside ((Below w.heap.size w wx ∧ Row wx w.heap.size 3 1 (.slice A5 l.length c5) l.length (natsL l)) ∧ ∀ x ∈ l.take k, (f i).rd ≤ (f x).rd)) (fun s7 _ => l.length - (intOf s7).toNat)
          case atStart => exact ⟨0, Nat.zero_le _, rfl, ⟨⟨HI.out.1, HI.out.2.1⟩, fun x hx => by simp at hx⟩⟩
          case round =>
            clear c0 c1 c2 c3
            obtain ⟨k, hk, rfl, HK⟩ := hrel
            have HWI : Aside (∀ x ∈ l, x < i) := ⟨fun x hx => HI.out.2.2.lt hx⟩
            have hlb : l.length ≤ 10000000000000 := by omega
            go_upto_region 7 with fail
            go_cut [49] (fun s49 wx => s49 = .bool (decide (k < l.length) && decide ((f i).rd ≤ (f (l.getD k 0)).rd)) ∧ Aside (Below w.heap.size w wx ∧ Row wx w.heap.size 3 1 (.slice A5 l.length c5) l.length (natsL l)))
            case first =>
              as_aux_lemma =>
                by_cases hkl : k < l.length
                · have hrow := HK.out.1.2
                  obtain ⟨g5, o5, cap5, e5, hg1, hg2, hcap, hcm2⟩ := hrow.form (by omega)
                  injection e5 with e5 _ e6
                  subst e5; subst e6
                  have hat := hrow.at_ rfl k hkl
                  rw [natsL_at hkl] at hat
                  obtain ⟨a1, _⟩ := hat
                  obtain ⟨y, hy⟩ : ∃ y, y = l.getD k 0 := ⟨_, rfl⟩
                  rw [← hy] at a1
                  have hyi : y < i := by
                    have : l.getD k 0 ∈ l := by simp [hkl]
                    rw [hy]; exact HWI.out _ this
                  obtain ⟨g2, o2, e2, hce⟩ := HR.out.cells (show y < n by omega)
                  injection e2 with e2
                  injection e2 with e2 e3
                  subst e2; subst e3
                  have r1 := (hce w.heap.size wr (Nat.le_refl _) HK.out.1.1).2.1
                  have r2 := HRD.out wr HK.out.1.1
                  have hyn : (y : Int) < (n : Int) := by omega
                  have hy0 : (0 : Int) ≤ (y : Int) := by omega
                  have hk0 : (0 : Int) ≤ (k : Int) := by omega
                  have hkl2 : (k : Int) < (l.length : Int) := by omega
                  have HVAL : Aside ((decide (k < l.length) && decide ((f i).rd ≤ (f (l.getD k 0)).rd)) = decide ((f i).rd ≤ (f y).rd)) := ⟨by rw [← hy]; simp [hkl]⟩
                  generalize (f i).rd = ri at *
                  generalize (f y).rd = ry at *
                  generalize l.length = len at *
                  clear hce hrow hy hyi hk hkl
                  go_quiet (fail)
                  simp only [Exit.then]
                  apply_assumption
                  go_meet
                  exact ⟨by rw [HVAL.out], ⟨below_drewN HK.out.1.1 _, HK.out.1.2.drewN _⟩⟩
                · obtain rfl : k = l.length := by omega
                  have hkl2 : decide ((l.length : Int) < (l.length : Int)) = false := by simp
                  go_quiet (fail)
                  simp only [Exit.then]
                  apply_assumption
                  go_meet
                  exact ⟨by simp, ⟨below_drewN HK.out.1.1 _, HK.out.1.2.drewN _⟩⟩
            case rest =>
            obtain ⟨rfl, HB2⟩ := hcut
            apply_assumption
            have hkk : IntKind.i64.wrap ((k : Int) + 1) = (k : Int) + 1 := by rw [IntKind.wrap_i64]; omega
            cases hT : (decide (k < l.length) && decide ((f i).rd ≤ (f (l.getD k 0)).rd))
            · have HNEW := Aside.mk (HY.out k hk HK.out.2 (HI.out.2.2.drop_lt (f i).rd (fun y hy => by
                have hkl : k < l.length := (List.getElem?_eq_some_iff.1 hy).1
                have hg : l.getD k 0 = y := by rw [List.getD_eq_getElem?_getD, hy]; rfl
                rw [hg] at hT
                have h1 : decide (k < l.length) = true := by simpa using hkl
                rw [h1, Bool.true_and] at hT
                have := of_decide_eq_false hT
                omega)))
              have HRW := Aside.mk HB2.out.2
              clear hT
              have hto := run_to HRW.out hk
              have hfrom := run_from HRW.out hk
              have HDD := Aside.mk (And.intro hk hlb)
              have hlen1 : l.length ≤ 9223372036854775807 := by omega
              generalize hln : l.length = len at *
              have HLN := Aside.mk hln
              clear hln
              go_upto_region 11 with (at_builtin; refine wpList_append_row (w0 := wc) wc.heap.size rfl _ _ 24 3 1 8 (.int .i64 0) rfl Try.underlying24 infoInt rfl (by decide) (.slice none 0 0) 0 [] (toV (.slice A5 len c5) k) k ((natsL l).take k) rfl rfl (Row.nil wc wc.heap.size 3 1) (row_to HRW.out HDD.out.1).src (fun u hu => natsL_one _ u (List.mem_of_mem_take hu)) (Below.refl _ _) (Nat.le_refl _) (by have := HDD.out; omega) (by have := HDD.out; simp only [maxLen]; omega) ?_; intro v6 w6 hr6 hb6 hg6 hat6; have H6 := Aside.mk (And.intro hr6 hb6); clear hr6 hb6 hg6 hat6)
              clear hto
              go_upto_region 12 with (at_builtin; refine wpList_append_one (w0 := wc) wc.heap.size rfl _ _ 24 3 1 8 (.int .i64 0) rfl Try.underlying24 infoInt rfl (by decide) v6 (0 + k) ([] ++ (natsL l).take k) #[.int .i64 (i : Int)] rfl rfl rfl H6.out.1 (by simp [Value.oneCell']) H6.out.2 H6.out.2.size (by have := HDD.out; omega) (by have := HDD.out; simp only [maxLen]; omega) ?_; intro v7 w7 hr7 hb7 hg7 hat7; have H7 := Aside.mk (And.intro hr7 hb7); clear hr7 hb7 hg7 hat7)
              go_wp2_with (at_builtin; refine wpList_append_row (w0 := wc) wc.heap.size rfl _ _ 24 3 1 8 (.int .i64 0) rfl Try.underlying24 infoInt rfl (by decide) v7 (0 + k + 1) ([] ++ (natsL l).take k ++ #[.int .i64 (i : Int)].toList) (fromV (.slice A5 len c5) k) (len - k) ((natsL l).drop k) rfl rfl H7.out.1 (src_from (HRW.out.below H7.out.2) HDD.out.1) (fun u hu => natsL_one _ u (List.mem_of_mem_drop hu)) H7.out.2 H7.out.2.size (by have := HDD.out; omega) (by have := HDD.out; simp only [maxLen]; omega) ?_; intro v8 w8 hr8 hb8 hg8 hat8; have H8 := Aside.mk (And.intro hr8 hb8); clear hr8 hb8 hg8 hat8)
              go_roundw
              case rel =>
                refine ⟨i + 1, _, by omega, by go_num, ⟨HB2.out.1.trans (H8.out.2.mono HB2.out.1.size), ?_, HNEW.out⟩⟩
                have hr := H8.out.1.mono HB2.out.1.size
                have e1 : 0 + k + 1 + (len - k) = (l.take k ++ [i] ++ l.drop k).length := by
                  have := HDD.out.1; have := HLN.out
                  simp; omega
                have e2 : [] ++ (natsL l).take k ++ #[Value.int .i64 (i : Int)].toList ++ (natsL l).drop k = natsL (l.take k ++ [i] ++ l.drop k) := by simp [natsL]
                rw [e1, e2] at hr
                exact hr
              case measure => simp [intOf]; omega
            · have hT2 := Bool.and_eq_true_iff.1 hT
              have hkl : k < l.length := of_decide_eq_true hT2.1
              have hle : (f i).rd ≤ (f (l.getD k 0)).rd := of_decide_eq_true hT2.2
              have HN : Aside (∀ x ∈ l.take (k + 1), (f i).rd ≤ (f x).rd) := ⟨fun x hx => by
                rw [List.take_succ_eq_append_getElem hkl] at hx
                rcases List.mem_append.1 hx with hx | hx
                · exact HK.out.2 x hx
                · obtain rfl : x = l[k] := by simpa using hx
                  simpa [hkl] using hle⟩
              clear hT hT2 hle
              go_wp2
              go_roundw
              case rel => exact ⟨k + 1, by omega, by go_num, ⟨HB2.out, HN.out⟩⟩
              case measure => simp [intOf]; omega
    · obtain rfl : i = n := by omega
      go_wp2
      go_ret
      exact ⟨_, l, rfl, HI.out.2.1, HI.out.1, HI.out.2.2.srt, HI.out.2.2.mem⟩
end Go.Proofs.Ytaganococolodaa
