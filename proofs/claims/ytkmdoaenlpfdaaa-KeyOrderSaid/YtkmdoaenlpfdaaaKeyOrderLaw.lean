/-
  The texts stand as the keys do; a range holds just its own.
-/
import Derived.Test.YtkmdoaenlpfdaaaKeyOrd
namespace Go.Proofs.Ytkmdoaenlpfdaaa
open Go.RowKit

/-- The blocks that the law laid. -/
abbrev ordBs (w2 w3 : Nat) (g : Nat) (n k p m j q : Int) (s t : ByteArray) : List (Nat × Obj) :=
  [(w3 + 1, .cells #[.int .i64 m, .int .i64 j, .string t, .int .i64 q] 30), (w3, .cells #[.int .i64 m, .int .i64 j, .string t, .int .i64 q] 27),
   (w2 + 1, .cells #[.int .i64 n, .int .i64 k, .string s, .int .i64 p] 30), (w2, .cells #[.int .i64 n, .int .i64 k, .string s, .int .i64 p] 27),
   (g + 1 + 1, .cells #[.string s, .string t] 22), (g + 1, .cells #[.int .i64 m, .int .i64 j, .int .i64 q] 29), (g, .cells #[.int .i64 n, .int .i64 k, .int .i64 p] 29)]

abbrev Four (W : World) (g : Nat) (n k : Int) (s : ByteArray) (p : Int) : Prop := W.cell? ⟨g, 0, none⟩ = some (.int .i64 n) ∧ W.cell? ⟨g, 1, none⟩ = some (.int .i64 k) ∧ W.cell? ⟨g, 2, none⟩ = some (.string s) ∧ W.cell? ⟨g, 3, none⟩ = some (.int .i64 p)
theorem eqKey (n k : Int) (s : ByteArray) (p m j : Int) (t : ByteArray) (q : Int) (W : World) :
    (Op.equalIn 10000 27 (keyV n k s p) (keyV m j t q)).run Try.prog W = .ok (decide (n = m ∧ k = j ∧ s = t ∧ p = q)) W := by
  have hst : (s.toList == t.toList) = decide (s = t) := by
    rw [Bool.eq_iff_iff]; simp only [beq_iff_eq, decide_eq_true_eq]; rw [toList_inj]
  have h := run_equalIn_struct W 9999 27 #[.int .i64 n, .int .i64 k, .string s, .int .i64 p] #[.int .i64 m, .int .i64 j, .string t, .int .i64 q] (P := Try.prog) (by kernel_rfl) (by kernel_rfl)
  refine h.trans ?_
  have q1 : ∀ (a b : Int) (W : World), (Op.equalIn 9999 3 (.int .i64 a) (.int .i64 b)).run Try.prog W = .ok (a == b) W := fun a b W => run_equalIn_int W 9998 3 .i64 .i64 a b Try.underlying3
  have q2 : ∀ (a b : ByteArray) (W : World), (Op.equalIn 9999 9 (.string a) (.string b)).run Try.prog W = .ok (a.toList == b.toList) W := fun a b W => run_equalIn_string W 9998 9 a b Try.underlying9
  clear h
  go_simp
  by_cases a1 : n = m <;> by_cases a2 : k = j <;> by_cases a3 : s = t <;> by_cases a4 : p = q <;> simp [a1, a2, a3, a4]
section
variable {w W : World} {w2 w3 g : Nat} {n k p m j q : Int} {s t : ByteArray}
theorem ord0 (h : Held w (ordBs w2 w3 g n k p m j q s t) W) : W.cell? ⟨g, 0, none⟩ = some (.int .i64 n) ∧ W.cell? ⟨g, 1, none⟩ = some (.int .i64 k) :=
  ⟨h.cells (t := 29) (fr := (0, 0)) (cs := #[.int .i64 n, .int .i64 k, .int .i64 p]) (by simp [ordBs]) 0 rfl, h.cells (t := 29) (fr := (0, 0)) (cs := #[.int .i64 n, .int .i64 k, .int .i64 p]) (by simp [ordBs]) 1 rfl⟩
theorem ordA (h : Held w (ordBs w2 w3 g n k p m j q s t) W) : Four W w2 n k s p := h.four (g := w2) (n := n) (k := k) (p := p) (s := s) (t := 27) (by simp [ordBs])
theorem ordB (h : Held w (ordBs w2 w3 g n k p m j q s t) W) : Four W (w2 + 1) n k s p := h.four (g := w2 + 1) (n := n) (k := k) (p := p) (s := s) (t := 30) (by simp [ordBs])
theorem ordC (h : Held w (ordBs w2 w3 g n k p m j q s t) W) : Four W w3 m j t q := h.four (g := w3) (n := m) (k := j) (p := q) (s := t) (t := 27) (by simp [ordBs])
theorem ordD (h : Held w (ordBs w2 w3 g n k p m j q s t) W) : Four W (w3 + 1) m j t q := h.four (g := w3 + 1) (n := m) (k := j) (p := q) (s := t) (t := 30) (by simp [ordBs])
end

set_option maxRecDepth 20000 in
set_option maxHeartbeats 8000000 in
theorem keyOrder_walk (n k p m j q : Int) (s t : ByteArray) (w : World) (_wn : (Lit.int .i64 n).wf = true ∧ (Lit.int .i64 k).wf = true ∧ (Lit.int .i64 p).wf = true) (_wm : (Lit.int .i64 m).wf = true ∧ (Lit.int .i64 j).wf = true ∧ (Lit.int .i64 q).wf = true)
    (_ws : s.size ≤ 140737488351232 ∧ t.size ≤ 140737488351232) :
    Calls Try.prog 4 #[.agg #[.int .i64 n, .int .i64 k, .int .i64 p], .agg #[.int .i64 m, .int .i64 j, .int .i64 q], .agg #[.string s, .string t]] w fun e w' => e = .returned (.bool true) ∧ Below w.heap.size w w' := by
  clear _wn _wm _ws
  go_enter Try.func4, Try.ntmps4
  go_upto_region 3 with (go_at_call 8; refine (key_speaks _).mono ?_; rintro e w1 ⟨rfl, hb1⟩)
  have hH := ((((Held.refl w).lay _).lay _).lay _).step hb1
  simp only [World.size_alloc] at hH
  clear hb1
  obtain ⟨c0, c1, c2, d0⟩ : w1.cell? ⟨w.heap.size, 0, none⟩ = some (.int .i64 n) ∧ w1.cell? ⟨w.heap.size, 1, none⟩ = some (.int .i64 k) ∧ w1.cell? ⟨w.heap.size, 2, none⟩ = some (.int .i64 p) ∧ w1.cell? ⟨w.heap.size + 1 + 1, 0, none⟩ = some (.string s) :=
    ⟨hH.cells (List.mem_cons_of_mem _ (List.mem_cons_of_mem _ (List.mem_cons_self ..))) 0 rfl, hH.cells (List.mem_cons_of_mem _ (List.mem_cons_of_mem _ (List.mem_cons_self ..))) 1 rfl, hH.cells (List.mem_cons_of_mem _ (List.mem_cons_of_mem _ (List.mem_cons_self ..))) 2 rfl, hH.cells (List.mem_cons_self ..) 0 rfl⟩
  go_upto_region 4 with (go_at_call 10; refine (key_made n k p s _).mono ?_; rintro e w2 ⟨rfl, hb2⟩; have hH2 := hH.step hb2; clear hb2 hH c0 c1 c2 d0)
  have hH3 := (hH2.lay (.cells #[.int .i64 n, .int .i64 k, .string s, .int .i64 p] 27)).lay (.cells #[.int .i64 n, .int .i64 k, .string s, .int .i64 p] 30)
  simp only [World.size_alloc] at hH3
  clear hH2
  generalize (w2.alloc (.cells #[.int .i64 n, .int .i64 k, .string s, .int .i64 p] 27)).alloc (.cells #[.int .i64 n, .int .i64 k, .string s, .int .i64 p] 30) = W at hH3
  obtain ⟨c0, c1, c2, d0⟩ : W.cell? ⟨w.heap.size + 1, 0, none⟩ = some (.int .i64 m) ∧ W.cell? ⟨w.heap.size + 1, 1, none⟩ = some (.int .i64 j) ∧ W.cell? ⟨w.heap.size + 1, 2, none⟩ = some (.int .i64 q) ∧ W.cell? ⟨w.heap.size + 1 + 1, 1, none⟩ = some (.string t) :=
    ⟨hH3.cells (t := 29) (fr := (0, 0)) (cs := #[.int .i64 m, .int .i64 j, .int .i64 q]) (by simp) 0 rfl, hH3.cells (t := 29) (fr := (0, 0)) (cs := #[.int .i64 m, .int .i64 j, .int .i64 q]) (by simp) 1 rfl, hH3.cells (t := 29) (fr := (0, 0)) (cs := #[.int .i64 m, .int .i64 j, .int .i64 q]) (by simp) 2 rfl, hH3.cells (t := 22) (fr := (0, 0)) (cs := #[.string s, .string t]) (by simp) 1 rfl⟩
  go_upto_region 5 with (go_at_call 10; refine (key_made m j q t _).mono ?_; rintro e w3 ⟨rfl, hb2⟩; have hH4 := hH3.step hb2; clear hb2 hH3 c0 c1 c2 d0)
  have hH5 : Held w (ordBs w2.heap.size w3.heap.size w.heap.size n k p m j q s t) ((w3.alloc (.cells #[.int .i64 m, .int .i64 j, .string t, .int .i64 q] 27)).alloc (.cells #[.int .i64 m, .int .i64 j, .string t, .int .i64 q] 30)) := by
    have h := (hH4.lay (.cells #[.int .i64 m, .int .i64 j, .string t, .int .i64 q] 27)).lay (.cells #[.int .i64 m, .int .i64 j, .string t, .int .i64 q] 30)
    simp only [World.size_alloc] at h
    exact h
  clear hH4
  generalize (w3.alloc (.cells #[.int .i64 m, .int .i64 j, .string t, .int .i64 q] 27)).alloc (.cells #[.int .i64 m, .int .i64 j, .string t, .int .i64 q] 30) = W2 at hH5
  generalize w2.heap.size = g2 at *
  generalize w3.heap.size = g3 at *
  obtain ⟨c0, c1, c2, c3⟩ := ordA hH5
  go_upto_region 6 with (go_at_call 9; refine (key_encode n k s p _).mono ?_; rintro e w4 ⟨rfl, hb⟩; have hH6 := hH5.step hb; clear hb hH5 c0 c1 c2 c3)
  obtain ⟨c0, c1, c2, c3⟩ := ordC hH6
  go_upto_region 7 with (go_at_call 9; refine (key_encode m j t q _).mono ?_; rintro e w5 ⟨rfl, hb⟩; have hH7 := hH6.step hb; clear hb hH6 c0 c1 c2 c3)
  go_cut [12, 14, 65] (fun s12 s14 s65 wx => s12 = .bool (goodB n k s p) ∧ s14 = .bool (goodB m j t q) ∧ s65 = .bool false ∧ Held w (ordBs g2 g3 w.heap.size n k p m j q s t) wx)
  case first =>
    cases hA : goodB n k s p
    · go_wp2_with fail
      go_meet
      exact ⟨by rw [hA], rfl, rfl, hH7⟩
    · cases hB : goodB m j t q
      · go_wp2_with fail
        go_meet
        exact ⟨by rw [hA], by rw [hB], rfl, hH7⟩
      · have hl := enc_less hA hB
        have hE : ∃ E : Bool, ((encT n k s p).toList == (encT m j t q).toList) = E ∧ ∀ W, (Op.equalIn 10000 27 (keyV n k s p) (keyV m j t q)).run Try.prog W = .ok E W :=
          ⟨decide (n = m ∧ k = j ∧ s = t ∧ p = q), by rw [Bool.eq_iff_iff]; simp only [beq_iff_eq, decide_eq_true_eq]; rw [enc_eq hA hB], eqKey n k s p m j t q⟩
        obtain ⟨E, he, keq⟩ := hE
        obtain ⟨b0, b1, b2, b3⟩ := ordB hH7
        obtain ⟨d0, d1, d2, d3⟩ := ordD hH7
        go_wp2_with (go_at_call 11; refine (ref_less n k s p m j t q _).mono ?_; rintro e w6 ⟨rfl, hb⟩; have hH8 := hH7.step hb; clear hb hH7 b0 b1 b2 b3 d0 d1 d2 d3; obtain ⟨b0, b1, b2, b3⟩ := ordA hH8; obtain ⟨d0, d1, d2, d3⟩ := ordC hH8)
        go_meet
        exact ⟨by rw [hA], by rw [hB], by simp, hH8⟩
  case rest =>
    obtain ⟨rfl, rfl, rfl, hH8⟩ := hcut
    clear hH7
    obtain ⟨r0, r1⟩ := ord0 hH8
    by_cases hR : 0 ≤ n ∧ n ≤ 1099511627776 ∧ 1 ≤ k ∧ k ≤ 3
    · obtain ⟨a, rfl⟩ := Int.eq_ofNat_of_zero_le hR.1
      obtain ⟨c, rfl⟩ := Int.eq_ofNat_of_zero_le (show 0 ≤ k by omega)
      go_upto_if 94 with (go_at_call 12; refine (key_range a c _ (by omega) (by omega) (by omega)).mono ?_; rintro e w7 ⟨rfl, hb⟩; have hH9 := hH8.step hb; clear hb hH8 r0 r1; obtain ⟨r0, r1⟩ := ord0 hH9)
      have ha4 : (a : Int) ≤ 1099511627776 := hR.2.1
      have hc1 : (1 : Int) ≤ c := hR.2.2.1
      have hc3 : (c : Int) ≤ 3 := hR.2.2.2
      clear hR
      go_upto_region 14 with fail
      go_cut [123] (fun s123 wx => s123 = .bool false ∧ Held w (ordBs g2 g3 w.heap.size a c p m j q s t) wx)
      case first =>
        have hz1 := be_size 8 a
        have hz2 := be_size 1 c
        have hz3 := be_size 1 (c + 1)
        have hx1 := hd_be a c
        have hx2 := hd_be a (c + 1)
        have hw1 : IntKind.i64.wrap ((c : Int) + 1) = (c : Int) + 1 := by rw [IntKind.wrap_i64]; omega
        go_region_with ((first | (go_at_call 13; refine (ref_bytes_at a 8 _ _ _ (by omega) (by omega) (by omega) (by omega)).mono ?_; rintro e wn ⟨rfl, hbn⟩; have hHn : Held w (ordBs g2 g3 w.heap.size a c p m j q s t) wn := Held.step (by first | assumption | (refine Held.drew ?_; assumption)) hbn; obtain ⟨r0, r1⟩ := ord0 hHn; clear hbn) | (go_at_call 13; refine (ref_bytes_at c 1 _ _ _ (by omega) (by omega) (by omega) (by omega)).mono ?_; rintro e wn ⟨rfl, hbn⟩; have hHn : Held w (ordBs g2 g3 w.heap.size a c p m j q s t) wn := Held.step (by first | assumption | (refine Held.drew ?_; assumption)) hbn; obtain ⟨r0, r1⟩ := ord0 hHn; clear hbn) | (go_at_call 13; refine (ref_bytes_at (c + 1) 1 _ _ _ (by omega) (by omega) (by omega) (by omega)).mono ?_; rintro e wn ⟨rfl, hbn⟩; have hHn : Held w (ordBs g2 g3 w.heap.size a c p m j q s t) wn := Held.step (by first | assumption | (refine Held.drew ?_; assumption)) hbn; obtain ⟨r0, r1⟩ := ord0 hHn; clear hbn)))
        all_goals (go_wp2; go_meet; exact ⟨rfl, by assumption⟩)
      case rest =>
        obtain ⟨rfl, hH10⟩ := hcut
        clear hH9 r0 r1
        obtain ⟨r0, r1⟩ := ord0 hH10
        obtain ⟨b0, b1, b2, b3⟩ := ordC hH10
        have HB := Aside.mk hH10.bel
        clear hH10
        cases hB : goodB m j t q
        · go_wp2_with fail
          go_ret
          exact ⟨rfl, HB.out⟩
        · have e1 := enc_from hB (n := a) (k := c) (by omega) (by omega)
          have e2 := enc_from hB (n := a) (k := c + 1) (by omega) (by omega)
          have hcas : m < (a : Int) ∨ (m = (a : Int) ∧ j < (c : Int)) ∨ (m = (a : Int) ∧ j = (c : Int)) ∨ (m = (a : Int) ∧ (c : Int) < j) ∨ (a : Int) < m := by omega
          rcases hcas with h | ⟨rfl, h⟩ | ⟨rfl, rfl⟩ | ⟨rfl, h⟩ | h
          · have h2 : ¬ m = (a : Int) := by omega
            rw [decide_eq_true (by omega)] at e1 e2
            go_wp2_with fail
            all_goals (go_ret; exact ⟨rfl, HB.out⟩)
          · have h2 : (j == (c : Int)) = false := by simp; omega
            rw [decide_eq_true (by omega)] at e1 e2
            go_wp2_with fail
            all_goals (go_ret; exact ⟨rfl, HB.out⟩)
          · rw [decide_eq_false (by omega)] at e1
            rw [decide_eq_true (by omega)] at e2
            go_wp2_with fail
            all_goals (go_ret; exact ⟨rfl, HB.out⟩)
          · have h2 : (j == (c : Int)) = false := by simp; omega
            rw [decide_eq_false (by omega)] at e1 e2
            go_wp2_with fail
            all_goals (go_ret; exact ⟨rfl, HB.out⟩)
          · have h2 : ¬ m = (a : Int) := by omega
            rw [decide_eq_false (by omega)] at e1 e2
            go_wp2_with fail
            all_goals (go_ret; exact ⟨rfl, HB.out⟩)
    · have HR := Aside.mk hR
      have HB := Aside.mk hH8.bel
      have hd1 : (decide (0 ≤ n) && (decide (n ≤ 1099511627776) && (decide (1 ≤ k) && decide (k ≤ 3)))) = false := by
        rw [← Bool.not_eq_true]; simp only [Bool.and_eq_true, decide_eq_true_eq]; exact hR
      go_wp2_with (go_at_call 12; refine (key_range_not n k _ HR.out).mono ?_; rintro e w7 ⟨rfl, rfl⟩)
      all_goals (go_ret; exact ⟨rfl, HB.out⟩)
end Go.Proofs.Ytkmdoaenlpfdaaa
