/-
  Two nodes that aren't the same have other bytes, and neither is the beginning of the other.
-/
import Derived.Test.YtmomphjhlbampaaDoorNodeEncodes
namespace Go.Proofs.YtmomphjhlbampaaDoor
open Go.RowKit

/-- Whose bytes begin alike are the same. -/
theorem enc_apart {q1 q2 : Int} {g1 l1 g2 l2 : Bool} {k1 v1 k2 v2 : ByteArray} (h1 : goodN q1 g1 k1 v1 = true) (h2 : goodN q2 g2 k2 v2 = true) (n : Nat) (hn : n = min (encB q1 g1 l1 k1 v1).size (encB q2 g2 l2 k2 v2).size)
    (h : (encB q1 g1 l1 k1 v1).extract 0 n = (encB q2 g2 l2 k2 v2).extract 0 n) : q1 = q2 ∧ g1 = g2 ∧ l1 = l2 ∧ k1 = k2 ∧ v1 = v2 := by
  have key : ∀ {q1 q2 : Int} {g1 l1 g2 l2 : Bool} {k1 v1 k2 v2 : ByteArray}, goodN q1 g1 k1 v1 = true → goodN q2 g2 k2 v2 = true → (encB q1 g1 l1 k1 v1).size ≤ (encB q2 g2 l2 k2 v2).size →
      (encB q1 g1 l1 k1 v1) = (encB q2 g2 l2 k2 v2).extract 0 (encB q1 g1 l1 k1 v1).size → q1 = q2 ∧ g1 = g2 ∧ l1 = l2 ∧ k1 = k2 ∧ v1 = v2 := by
    intro q1 q2 g1 l1 g2 l2 k1 v1 k2 v2 h1 h2 hle he
    have d2 := decV_enc ⟨#[]⟩ ⟨#[]⟩ q2 g2 l2 k2 v2 h2
    rw [empty_app, app_empty] at d2
    have d1 := decV_enc ⟨#[]⟩ ((encB q2 g2 l2 k2 v2).extract (encB q1 g1 l1 k1 v1).size (encB q2 g2 l2 k2 v2).size) q1 g1 l1 k1 v1 h1
    rw [empty_app] at d1
    have e : encB q1 g1 l1 k1 v1 ++ (encB q2 g2 l2 k2 v2).extract (encB q1 g1 l1 k1 v1).size (encB q2 g2 l2 k2 v2).size = encB q2 g2 l2 k2 v2 := by
      have e2 : (encB q2 g2 l2 k2 v2).extract 0 (encB q1 g1 l1 k1 v1).size ++ (encB q2 g2 l2 k2 v2).extract (encB q1 g1 l1 k1 v1).size (encB q2 g2 l2 k2 v2).size = encB q2 g2 l2 k2 v2 := by
        apply bytes_ext
        rw [cat_list, extract_list2, extract_list2, List.drop_zero, Nat.sub_zero]
        conv => rhs; rw [← List.take_append_drop (encB q1 g1 l1 k1 v1).size (encB q2 g2 l2 k2 v2).data.toList]
        congr 1
        exact List.take_of_length_le (by rw [List.length_drop, data_len]; omega)
      rw [← he] at e2
      exact e2
    rw [e, d2] at d1
    injection d1 with d1
    simp only [Array.mk.injEq, List.cons.injEq, Value.agg.injEq, Value.int.injEq, Value.bool.injEq, Value.string.injEq, true_and] at d1
    obtain ⟨⟨a, b, c, d, e, _⟩, _⟩ := d1
    exact ⟨a.symm, b.symm, c.symm, d.symm, e.symm⟩
  have self : ∀ E : ByteArray, E.extract 0 E.size = E := fun E => bytes_ext (by rw [extract_list2, List.drop_zero]; exact List.take_of_length_le (by rw [data_len]; omega))
  rcases Nat.le_total (encB q1 g1 l1 k1 v1).size (encB q2 g2 l2 k2 v2).size with hle | hle
  · refine key h1 h2 hle ?_
    rw [hn, Nat.min_eq_left hle, self] at h
    exact h
  · obtain ⟨a, b, c, d, e⟩ := key h2 h1 hle (by rw [hn, Nat.min_eq_right hle, self] at h; exact h.symm)
    exact ⟨a.symm, b.symm, c.symm, d.symm, e.symm⟩

theorem enc_call (q : Int) (l : Bool) (k v : ByteArray) (W : World) (h : Nib W) : Calls Tryd.prog 10 #[nodeV q false l k v] W fun e w' => e = .returned (.tuple #[.string (encB q false l k v), .bool (goodN q false k v)]) ∧ Below W.heap.size W w' :=
  node_encode q false l k v W h

set_option maxHeartbeats 8000000 in
theorem nodeApart_walk (q1 q2 : Int) (k1 v1 k2 v2 : ByteArray) (w : World) (_wq : (Lit.int .i64 q1).wf = true ∧ (Lit.int .i64 q2).wf = true) (_ws : k1.size ≤ 140737488351232 ∧ v1.size ≤ 140737488351232) (_wt : k2.size ≤ 140737488351232 ∧ v2.size ≤ 140737488351232) (hnib : Nib w) :
    Calls Tryd.prog 6 #[.agg #[.int .i64 q1, .int .i64 q2], .agg #[.string k1, .string v1], .agg #[.string k2, .string v2]] w fun e w' => e = .returned (.bool true) ∧ Below w.heap.size w w' := by
  clear _wq _ws _wt
  have HE := Aside.mk enc_call
  go_enter Tryd.func6, Tryd.ntmps6
  go_upto_region 1 with fail
  have HA : Aside ((((w.alloc (.cells #[.int .i64 q1, .int .i64 q2] 41)).alloc (.cells #[.string k1, .string v1] 23)).alloc (.cells #[.string k2, .string v2] 23)).heap[w.heap.size]? = some (.cells #[.int .i64 q1, .int .i64 q2] 41 (0, 0)) ∧ (((w.alloc (.cells #[.int .i64 q1, .int .i64 q2] 41)).alloc (.cells #[.string k1, .string v1] 23)).alloc (.cells #[.string k2, .string v2] 23)).heap[w.heap.size + 1]? = some (.cells #[.string k1, .string v1] 23 (0, 0)) ∧ (((w.alloc (.cells #[.int .i64 q1, .int .i64 q2] 41)).alloc (.cells #[.string k1, .string v1] 23)).alloc (.cells #[.string k2, .string v2] 23)).heap[w.heap.size + 1 + 1]? = some (.cells #[.string k2, .string v2] 23 (0, 0)) ∧ Below w.heap.size w (((w.alloc (.cells #[.int .i64 q1, .int .i64 q2] 41)).alloc (.cells #[.string k1, .string v1] 23)).alloc (.cells #[.string k2, .string v2] 23)) ∧ Nib (((w.alloc (.cells #[.int .i64 q1, .int .i64 q2] 41)).alloc (.cells #[.string k1, .string v1] 23)).alloc (.cells #[.string k2, .string v2] 23))) :=
    ⟨row_alloc (row_alloc (heap_alloc_new _ _) _) _, row_alloc (new_two _ _ _) _, (by have := new_two (w.alloc (.cells #[.int .i64 q1, .int .i64 q2] 41)) (.cells #[.string k1, .string v1] 23) (.cells #[.string k2, .string v2] 23); rwa [World.size_alloc] at this), (((Below.refl _ _).alloc (Nat.le_refl _) _).alloc (by simp) _).alloc (by simp; omega) _, ((hnib.alloc _).alloc _).alloc _⟩
  generalize ((w.alloc (.cells #[.int .i64 q1, .int .i64 q2] 41)).alloc (.cells #[.string k1, .string v1] 23)).alloc (.cells #[.string k2, .string v2] 23) = w0 at *
  generalize w.heap.size + 1 = p1 at *
  generalize p1 + 1 = p2 at *
  go_upto_region 3 with (go_at_call 9; refine (node_speaks _ HA.out.2.2.2.2).mono ?_; rintro e w1 ⟨rfl, hb1⟩)
  have HB : Aside (w1.heap[w.heap.size]? = some (.cells #[.int .i64 q1, .int .i64 q2] 41 (0, 0)) ∧ w1.heap[p1]? = some (.cells #[.string k1, .string v1] 23 (0, 0)) ∧ w1.heap[p2]? = some (.cells #[.string k2, .string v2] 23 (0, 0)) ∧ Below w.heap.size w w1 ∧ Nib w1) :=
    ⟨below_blk HA.out.1 hb1, below_blk HA.out.2.1 hb1, below_blk HA.out.2.2.1 hb1, below_trans HA.out.2.2.2.1 HA.out.2.2.2.1.size hb1, HA.out.2.2.2.2.below hb1⟩
  clear HA hb1
  have c0 := (row_cell HB.out.1 0 (v := .int .i64 q1) rfl).1
  have c1 := (row_cell HB.out.1 1 (v := .int .i64 q2) rfl).1
  have c2 := (row_cell HB.out.2.1 0 (v := .string k1) rfl).1
  have c3 := (row_cell HB.out.2.1 1 (v := .string v1) rfl).1
  go_upto_region 4 with fail
  clear c0 c1 c2 c3
  generalize (q1.tmod 2 == 0) = l1 at *
  have HC : Aside ((w1.alloc (.cells (nodeC q1 false l1 k1 v1) 26)).heap[w.heap.size]? = some (.cells #[.int .i64 q1, .int .i64 q2] 41 (0, 0)) ∧ (w1.alloc (.cells (nodeC q1 false l1 k1 v1) 26)).heap[p2]? = some (.cells #[.string k2, .string v2] 23 (0, 0)) ∧ (w1.alloc (.cells (nodeC q1 false l1 k1 v1) 26)).heap[w1.heap.size]? = some (.cells (nodeC q1 false l1 k1 v1) 26 (0, 0)) ∧ Below w.heap.size w (w1.alloc (.cells (nodeC q1 false l1 k1 v1) 26)) ∧ Nib (w1.alloc (.cells (nodeC q1 false l1 k1 v1) 26))) :=
    ⟨row_alloc HB.out.1 _, row_alloc HB.out.2.2.1 _, heap_alloc_new _ _, HB.out.2.2.2.1.alloc HB.out.2.2.2.1.size _, HB.out.2.2.2.2.alloc _⟩
  clear HB
  generalize w1.alloc (.cells (nodeC q1 false l1 k1 v1) 26) = w2 at *
  generalize w1.heap.size = p3 at *
  have c0 := (row_cell HC.out.1 0 (v := .int .i64 q1) rfl).1
  have c1 := (row_cell HC.out.1 1 (v := .int .i64 q2) rfl).1
  have c2 := (row_cell HC.out.2.1 0 (v := .string k2) rfl).1
  have c3 := (row_cell HC.out.2.1 1 (v := .string v2) rfl).1
  go_upto_region 5 with fail
  clear c0 c1 c2 c3
  generalize (q2.tmod 2 == 0) = l2 at *
  have HD : Aside ((w2.alloc (.cells (nodeC q2 false l2 k2 v2) 26)).heap[p3]? = some (.cells (nodeC q1 false l1 k1 v1) 26 (0, 0)) ∧ (w2.alloc (.cells (nodeC q2 false l2 k2 v2) 26)).heap[w2.heap.size]? = some (.cells (nodeC q2 false l2 k2 v2) 26 (0, 0)) ∧ Below w.heap.size w (w2.alloc (.cells (nodeC q2 false l2 k2 v2) 26)) ∧ Nib (w2.alloc (.cells (nodeC q2 false l2 k2 v2) 26))) :=
    ⟨row_alloc HC.out.2.2.1 _, heap_alloc_new _ _, HC.out.2.2.2.1.alloc HC.out.2.2.2.1.size _, HC.out.2.2.2.2.alloc _⟩
  clear HC
  generalize w2.alloc (.cells (nodeC q2 false l2 k2 v2) 26) = w3 at *
  generalize w2.heap.size = p4 at *
  obtain ⟨c0, c1, c2, c3, c4⟩ := node_cells HD.out.1
  go_upto_region 6 with (go_at_call 10; refine (HE.out q1 l1 k1 v1 _ HD.out.2.2.2).mono ?_; rintro e w4 ⟨rfl, hb4⟩)
  have HF : Aside (w4.heap[p3]? = some (.cells (nodeC q1 false l1 k1 v1) 26 (0, 0)) ∧ w4.heap[p4]? = some (.cells (nodeC q2 false l2 k2 v2) 26 (0, 0)) ∧ Below w.heap.size w w4 ∧ Nib w4) :=
    ⟨below_blk HD.out.1 hb4, below_blk HD.out.2.1 hb4, below_trans HD.out.2.2.1 HD.out.2.2.1.size hb4, HD.out.2.2.2.below hb4⟩
  clear HD hb4 c0 c1 c2 c3 c4
  obtain ⟨c0, c1, c2, c3, c4⟩ := node_cells HF.out.2.1
  go_upto_region 7 with (go_at_call 10; refine (HE.out q2 l2 k2 v2 _ HF.out.2.2.2).mono ?_; rintro e w5 ⟨rfl, hb5⟩)
  have HG : Aside (w5.heap[p3]? = some (.cells (nodeC q1 false l1 k1 v1) 26 (0, 0)) ∧ w5.heap[p4]? = some (.cells (nodeC q2 false l2 k2 v2) 26 (0, 0)) ∧ Below w.heap.size w w5 ∧ Nib w5) :=
    ⟨below_blk HF.out.1 hb5, below_blk HF.out.2.1 hb5, below_trans HF.out.2.2.1 HF.out.2.2.1.size hb5, HF.out.2.2.2.below hb5⟩
  clear HF hb5 c0 c1 c2 c3 c4
  cases h1 : goodN q1 false k1 v1
  · clear h1
    go_wp2
    go_ret
    exact ⟨rfl, HG.out.2.2.1⟩
  cases h2 : goodN q2 false k2 v2
  · clear h1 h2
    go_wp2
    go_ret
    exact ⟨rfl, HG.out.2.2.1⟩
  have hz1 : (encB q1 false l1 k1 v1).size ≤ 281 := by have := goodN_iff.1 h1; rw [encB_size h1]; omega
  have hz2 : (encB q2 false l2 k2 v2).size ≤ 281 := by have := goodN_iff.1 h2; rw [encB_size h2]; omega
  have hap := enc_apart (l1 := l1) (l2 := l2) h1 h2 _ rfl
  obtain ⟨c0, c1, c2, c3, c4⟩ := node_cells HG.out.1
  obtain ⟨d0, d1, d2, d3, d4⟩ := node_cells HG.out.2.1
  clear h1 h2
  have HAP := Aside.mk hap
  clear hap
  generalize hE1 : encB q1 false l1 k1 v1 = E1 at *
  generalize hE2 : encB q2 false l2 k2 v2 = E2 at *
  by_cases hsame : q1 = q2 ∧ l1 = l2 ∧ k1 = k2 ∧ v1 = v2
  · have hE : E1 = E2 := by obtain ⟨rfl, rfl, rfl, rfl⟩ := hsame; rw [← hE1, ← hE2]
    obtain ⟨rfl, rfl, rfl, rfl⟩ := hsame
    clear hE1 hE2 hz2
    subst hE
    clear HAP
    go_upto_region 10 with fail
    go_quiet (fail)
    go_wp2
    go_ret
    exact ⟨rfl, HG.out.2.2.1.trans ⟨rfl, rfl, rfl, Nat.le_refl _, fun _ _ => rfl⟩⟩
  clear hE1 hE2
  rcases (Nat.lt_or_ge E2.size E1.size).symm with hle | hle
  · have hx : ((E1.extract 0 E1.size).toList == (E2.extract 0 E1.size).toList) = false := by
      rw [str_eq, decide_eq_false_iff_not]
      intro h
      obtain ⟨a, _, b, c, d⟩ := HAP.out (by rw [Nat.min_eq_left hle]; exact h)
      exact hsame ⟨a, b, c, d⟩
    have hx2 : (E1.toList == (E2.extract 0 E1.size).toList) = false := by
      rw [← hx]; congr 2; exact (ByteArray.extract_zero_size).symm
    go_upto_region 10 with fail
    have hd : ¬ q1 = q2 ∨ (q1 = q2 ∧ ¬ l1 = l2) ∨ (q1 = q2 ∧ l1 = l2 ∧ ¬ k1 = k2) ∨ (q1 = q2 ∧ l1 = l2 ∧ k1 = k2 ∧ ¬ v1 = v2) := by
      by_cases a : q1 = q2 <;> by_cases b : l1 = l2 <;> by_cases c : k1 = k2 <;> simp_all
    clear HAP hsame
    rcases hd with h | ⟨rfl, h⟩ | ⟨rfl, rfl, h⟩ | ⟨rfl, rfl, rfl, h⟩
    · have h' : (q1 == q2) = false := by simpa using h
      clear h
      go_quiet (fail)
      go_wp2
      go_ret
      exact ⟨rfl, HG.out.2.2.1.trans ⟨rfl, rfl, rfl, Nat.le_refl _, fun _ _ => rfl⟩⟩
    · have h' : (l1 == l2) = false := by simpa using h
      clear h
      go_quiet (fail)
      go_wp2
      go_ret
      exact ⟨rfl, HG.out.2.2.1.trans ⟨rfl, rfl, rfl, Nat.le_refl _, fun _ _ => rfl⟩⟩
    · have h' : (k1.toList == k2.toList) = false := by rw [str_eq]; simpa using h
      clear h
      go_quiet (fail)
      go_wp2
      go_ret
      exact ⟨rfl, HG.out.2.2.1.trans ⟨rfl, rfl, rfl, Nat.le_refl _, fun _ _ => rfl⟩⟩
    · have h' : (v1.toList == v2.toList) = false := by rw [str_eq]; simpa using h
      clear h
      go_quiet (fail)
      go_wp2
      go_ret
      exact ⟨rfl, HG.out.2.2.1.trans ⟨rfl, rfl, rfl, Nat.le_refl _, fun _ _ => rfl⟩⟩
  · have hx : ((E1.extract 0 E2.size).toList == (E2.extract 0 E2.size).toList) = false := by
      rw [str_eq, decide_eq_false_iff_not]
      intro h
      obtain ⟨a, _, b, c, d⟩ := HAP.out (by rw [Nat.min_eq_right (Nat.le_of_lt hle)]; exact h)
      exact hsame ⟨a, b, c, d⟩
    have hx2 : ((E1.extract 0 E2.size).toList == E2.toList) = false := by
      rw [← hx]; congr 2; exact (ByteArray.extract_zero_size).symm
    go_upto_region 10 with fail
    have hd : ¬ q1 = q2 ∨ (q1 = q2 ∧ ¬ l1 = l2) ∨ (q1 = q2 ∧ l1 = l2 ∧ ¬ k1 = k2) ∨ (q1 = q2 ∧ l1 = l2 ∧ k1 = k2 ∧ ¬ v1 = v2) := by
      by_cases a : q1 = q2 <;> by_cases b : l1 = l2 <;> by_cases c : k1 = k2 <;> simp_all
    clear HAP hsame
    rcases hd with h | ⟨rfl, h⟩ | ⟨rfl, rfl, h⟩ | ⟨rfl, rfl, rfl, h⟩
    · have h' : (q1 == q2) = false := by simpa using h
      clear h
      go_quiet (fail)
      go_wp2
      go_ret
      exact ⟨rfl, HG.out.2.2.1.trans ⟨rfl, rfl, rfl, Nat.le_refl _, fun _ _ => rfl⟩⟩
    · have h' : (l1 == l2) = false := by simpa using h
      clear h
      go_quiet (fail)
      go_wp2
      go_ret
      exact ⟨rfl, HG.out.2.2.1.trans ⟨rfl, rfl, rfl, Nat.le_refl _, fun _ _ => rfl⟩⟩
    · have h' : (k1.toList == k2.toList) = false := by rw [str_eq]; simpa using h
      clear h
      go_quiet (fail)
      go_wp2
      go_ret
      exact ⟨rfl, HG.out.2.2.1.trans ⟨rfl, rfl, rfl, Nat.le_refl _, fun _ _ => rfl⟩⟩
    · have h' : (v1.toList == v2.toList) = false := by rw [str_eq]; simpa using h
      clear h
      go_quiet (fail)
      go_wp2
      go_ret
      exact ⟨rfl, HG.out.2.2.1.trans ⟨rfl, rfl, rfl, Nat.le_refl _, fun _ _ => rfl⟩⟩
end Go.Proofs.YtmomphjhlbampaaDoor
