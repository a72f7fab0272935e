/-
  What the document says: which block is picked.
-/
import Derived.Test.YtaganococolodaaWearRef
namespace Go.Proofs.Ytaganococolodaa
open Go.RowKit Go.Sort

/-- None of the first m beats block i. -/
def beats (f : Nat → Blk) (i m : Nat) : Bool := (f m).free && (decide ((f m).er < (f i).er) || (decide ((f m).er = (f i).er) && decide (m < i)))
def bestB (f : Nat → Blk) (i : Nat) : Nat → Bool
  | 0 => true
  | m + 1 => bestB f i m && !beats f i m
theorem bestB_true {f : Nat → Blk} {i : Nat} : ∀ {n : Nat}, (∀ m, m < n → beats f i m = false) → bestB f i n = true
  | 0, _ => rfl
  | n + 1, h => by
    show (bestB f i n && !beats f i n) = true
    rw [bestB_true (fun m hm => h m (by omega)), h n (by omega)]
    rfl
theorem bestB_false {f : Nat → Blk} {i m : Nat} : ∀ {n : Nat}, m < n → beats f i m = true → bestB f i n = false
  | n + 1, h, hb => by
    by_cases e : m = n
    · subst e; simp only [bestB, hb, Bool.not_true, Bool.and_false]
    · simp only [bestB, bestB_false (show m < n by omega) hb, Bool.false_and]
theorem least_first (f : Nat → Blk) : ∀ k (q : Nat), least f k = (q : Int) → ∀ i, i < q → (f i).free = true → (f q).er < (f i).er
  | 0, q, h => by simp [least] at h
  | k + 1, q, h => by
    cases hc : ((f k).free && (decide (least f k < 0) || decide ((f k).er < (f (least f k).toNat).er)))
    · rw [least_skip hc] at h
      exact least_first f k q h
    · rw [least_take hc] at h
      obtain rfl : k = q := by omega
      intro i hi hf
      simp only [Bool.and_eq_true, Bool.or_eq_true, decide_eq_true_eq] at hc
      rcases least_spec f k with ⟨_, h2⟩ | ⟨q2, h1, h2, h3, h4⟩
      · have := h2 i hi
        rw [hf] at this
        cases this
      · have h5 := h4 i hi hf
        rcases hc.2 with h6 | h6
        · omega
        · rw [h1, Int.toNat_natCast] at h6
          omega
/-- The picked one is the first that none beats. -/
theorem pick_law (f : Nat → Blk) (n : Nat) : (least f n = -1 ∧ ∀ i, i < n → (f i).free = false) ∨ ∃ q : Nat, least f n = (q : Int) ∧ q < n ∧ (f q).free = true ∧ bestB f q n = true ∧ ∀ i, i < n → i ≠ q → (f i).free = true → bestB f i n = false := by
  rcases least_spec f n with h | ⟨q, h1, h2, h3, h4⟩
  · exact .inl h
  · have h5 := least_first f n q h1
    refine .inr ⟨q, h1, h2, h3, bestB_true fun m hm => ?_, fun i hi hne hf => bestB_false h2 ?_⟩
    · unfold beats
      cases hf : (f m).free
      · rfl
      · have h6 := h4 m hm hf
        by_cases hmq : m < q
        · have h7 := h5 m hmq hf
          simp; omega
        · simp; omega
    · unfold beats
      rw [h3]
      have h6 := h4 i hi hf
      by_cases hiq : i < q
      · have h7 := h5 i hiq hf
        simp; omega
      · simp; omega
set_option maxRecDepth 20000 in
set_option maxHeartbeats 4000000 in
theorem ref_pick (A : Option Addr) (n c : Nat) (f : Nat → Blk) (w : World) (hn : n ≤ 10000000000000) (hc : n ≤ c) (hcm : c ≤ 9223372036854775807) (hR : BRd w A n f) :
    Calls Try.prog 11 #[.slice A n c] w fun e w' => e = .returned (.int .i64 (least f n)) ∧ Below w.heap.size w w' := by
  have HR := Aside.mk hR
  have HL := Aside.mk (pick_law f n)
  clear hR
  go_enter Try.func11, Try.ntmps11
  go_wp2
  go_loopw [3, 4, 5] (fun s3 _ _ wr => ∃ i : Nat, i ≤ n ∧ s3 = .int .i64 i ∧ Aside (Below w.heap.size w wr ∧ ∀ j, j < i → (f j).free = true → bestB f j n = false)) (fun s3 _ _ _ => n - (intOf s3).toNat)
  case atStart => exact ⟨0, Nat.zero_le _, rfl, ⟨Below.refl _ _, fun j h _ => by omega⟩⟩
  case round =>
    obtain ⟨i, hi, rfl, HI⟩ := hrel
    by_cases hlt : i < n
    · obtain ⟨g, off, rfl, hcell⟩ := HR.out.cells hlt
      obtain ⟨c0, c1, c2, c3⟩ := hcell w.heap.size wr (Nat.le_refl _) HI.out.1
      have hk1 : IntKind.i64.wrap ((i : Int) + 1) = (i : Int) + 1 := by rw [IntKind.wrap_i64]; omega
      have hin : (i : Int) < (n : Int) := by omega
      have hi0 : (0 : Int) ≤ (i : Int) := by omega
      have hce : ∀ wz, Below w.heap.size w wz → wz.cell? ⟨g, off + i * 4, none⟩ = some (.int .i64 (f i).er) := fun wz hz => (hcell _ wz (Nat.le_refl _) hz).1
      have HCE := Aside.mk hce
      cases hF : (f i).free
      · have HN : Aside (∀ j, j < i + 1 → (f j).free = true → bestB f j n = false) := ⟨fun j hj hf => by
          by_cases e : j = i
          · subst e; rw [hF] at hf; cases hf
          · exact HI.out.2 j (by omega) hf⟩
        have hus : (f i).us = true ∨ (f i).us = false ∧ (f i).wo = true := by
          unfold Blk.free at hF
          cases h1 : (f i).us
          · rw [h1] at hF; right; exact ⟨rfl, by simpa using hF⟩
          · exact .inl rfl
        clear hF hcell hce
        rcases hus with h | ⟨h, h'⟩
        · rw [h] at c2
          clear h
          go_wp2
          go_roundw
          case rel => exact ⟨i + 1, by omega, by go_num, ⟨HI.out.1, HN.out⟩⟩
          case measure => simp [intOf]; omega
        · rw [h] at c2
          rw [h'] at c3
          clear h h'
          go_wp2
          go_roundw
          case rel => exact ⟨i + 1, by omega, by go_num, ⟨HI.out.1, HN.out⟩⟩
          case measure => simp [intOf]; omega
      · have hus : (f i).us = false ∧ (f i).wo = false := by
          unfold Blk.free at hF
          simpa using hF
        have HF := Aside.mk hF
        rw [hus.1] at c2
        rw [hus.2] at c3
        clear hus hcell hF hce
        go_wp2
        go_loopw [4, 5] (fun s4 s5 wr => ∃ k : Nat, k ≤ n ∧ s5 = .int .i64 k ∧ s4 = .bool (bestB f i k) ∧ Aside (Below w.heap.size w wr)) (fun _ s5 _ => n - (intOf s5).toNat)
        case atStart => exact ⟨0, Nat.zero_le _, rfl, rfl, ⟨HI.out.1⟩⟩
        case round =>
          obtain ⟨k, hk, rfl, rfl, HB⟩ := hrel
          by_cases hkn : k < n
          · obtain ⟨g2, off2, e1, hcell⟩ := HR.out.cells hkn
            injection e1 with e1
            injection e1 with e1 e2
            subst e1; subst e2
            clear c0 c1 c2 c3
            obtain ⟨d0, d1, d2, d3⟩ := hcell w.heap.size wr (Nat.le_refl _) HB.out
            have c0 := HCE.out wr HB.out
            have hk2 : IntKind.i64.wrap ((k : Int) + 1) = (k : Int) + 1 := by rw [IntKind.wrap_i64]; omega
            have hkl : (k : Int) < (n : Int) := by omega
            have hk0 : (0 : Int) ≤ (k : Int) := by omega
            clear hcell d1
            have hbt : beats f i k = ((!(f k).us && !(f k).wo) && (decide ((f k).er < (f i).er) || (decide ((f k).er = (f i).er) && decide (k < i)))) := rfl
            have HBT := Aside.mk hbt
            have hnx : bestB f i (k + 1) = (bestB f i k && !beats f i k) := rfl
            have HNX := Aside.mk hnx
            clear hbt hnx
            generalize bestB f i k = bb at *
            generalize beats f i k = bt at *
            generalize (f k).er = ek at *
            generalize (f k).us = uk at *
            generalize (f k).wo = wk at *
            generalize (f i).er = ei at *
            go_upto_region 9 with fail
            go_cut [74] (fun s74 wx => s74 = .bool bt ∧ Aside (Below w.heap.size w wx))
            case first =>
              as_aux_lemma =>
                cases uk with
                | true =>
                  go_quiet (fail)
                  simp only [Exit.then]
                  apply_assumption
                  go_meet
                  exact ⟨by rw [HBT.out]; simp, ⟨below_drewN HB.out _⟩⟩
                | false =>
                  cases wk with
                  | true =>
                    go_quiet (fail)
                    simp only [Exit.then]
                    apply_assumption
                    go_meet
                    exact ⟨by rw [HBT.out]; simp, ⟨below_drewN HB.out _⟩⟩
                  | false =>
                    by_cases h1 : ek < ei
                    · go_quiet (fail)
                      simp only [Exit.then]
                      apply_assumption
                      go_meet
                      exact ⟨by rw [HBT.out]; simp [h1], ⟨below_drewN HB.out _⟩⟩
                    · have h1' : decide (ek < ei) = false := by simp; omega
                      by_cases h2 : ek = ei
                      · subst h2
                        have h2' : (ek == ek) = true := by simp
                        by_cases h3 : k < i
                        · have h3' : (k : Int) < (i : Int) := by omega
                          go_quiet (fail)
                          simp only [Exit.then]
                          apply_assumption
                          go_meet
                          exact ⟨by rw [HBT.out]; simp [h3], ⟨below_drewN HB.out _⟩⟩
                        · have h3' : decide ((k : Int) < (i : Int)) = false := by simp; omega
                          go_quiet (fail)
                          simp only [Exit.then]
                          apply_assumption
                          go_meet
                          exact ⟨by rw [HBT.out]; simp [h3], ⟨below_drewN HB.out _⟩⟩
                      · have h2' : (ek == ei) = false := by simp [h2]
                        go_quiet (fail)
                        simp only [Exit.then]
                        apply_assumption
                        go_meet
                        exact ⟨by rw [HBT.out]; simp [h2]; omega, ⟨below_drewN HB.out _⟩⟩
            case rest =>
              obtain ⟨rfl, HB2⟩ := hcut
              apply_assumption
              clear c0 d0 d2 d3
              cases bt with
              | true =>
                have HN : Aside (bestB f i (k + 1) = false) := ⟨by rw [HNX.out]; simp⟩
                go_wp2
                go_roundw
                case rel => exact ⟨k + 1, by omega, by go_num, by rw [HN.out], HB2⟩
                case measure => simp [intOf]; omega
              | false =>
                have HN : Aside (bestB f i (k + 1) = bb) := ⟨by rw [HNX.out]; simp⟩
                go_wp2
                go_roundw
                case rel => exact ⟨k + 1, by omega, by go_num, by rw [HN.out], HB2⟩
                case measure => simp [intOf]; omega
          · obtain rfl : k = n := by omega
            have HFR : Aside (bestB f i k = true → least f k = (i : Int)) := ⟨fun hb => by
              rcases HL.out with ⟨_, h2⟩ | ⟨q, h1, h2, h3, h4, h5⟩
              · have := h2 i hlt
                rw [HF.out] at this; cases this
              · by_cases e : i = q
                · rw [h1, e]
                · have := h5 i hlt e HF.out
                  rw [hb] at this; cases this⟩
            clear c0 c1 c2 c3
            cases hbb : bestB f i k
            · have HN : Aside (∀ j, j < i + 1 → (f j).free = true → bestB f j k = false) := ⟨fun j hj hf => by
                by_cases e : j = i
                · rw [e]; exact hbb
                · exact HI.out.2 j (by omega) hf⟩
              clear hbb
              go_wp2
              go_roundw
              case rel => exact ⟨i + 1, by omega, by go_num, ⟨HB.out, HN.out⟩⟩
              case measure => simp [intOf]; omega
            · have HLE := Aside.mk (HFR.out hbb)
              clear hbb
              go_wp2
              go_ret
              exact ⟨by rw [HLE.out]; rfl, HB.out⟩
    · obtain rfl : i = n := by omega
      have hle : least f i = -1 := by
        rcases HL.out with ⟨h1, _⟩ | ⟨q, h1, h2, h3, h4, h5⟩
        · exact h1
        · have := HI.out.2 q h2 h3
          rw [h4] at this; cases this
      have HLE := Aside.mk hle
      clear hle
      go_wp2
      go_ret
      exact ⟨by rw [HLE.out]; rfl, HI.out.1⟩
end Go.Proofs.Ytaganococolodaa
