/-
  A packed text that is cut short; a text of one byte.
-/
import Derived.Test.YtdjkcmjhknabnaaDoorLzPackLaw
namespace Go.Proofs.YtdjkcmjhknabnaaDoor
open Go.RowKit

theorem unp_prefix (m : Nat) (L o : List UInt8) : ∀ S : ByteArray, unp m L o = (S, 0) → o <+: S.data.toList := by
  induction L, o using unp.induct m with
  | case1 out => intro S h; rw [unp_nil] at h; injection h with h _; subst h; exact List.prefix_rfl
  | case2 n rest out h h1 => intro S hS; rw [unp_short h h1] at hS; injection hS with _ hS; exact absurd hS (by decide)
  | case3 n rest out h h1 h2 => intro S hS; rw [unp_long h h1 h2] at hS; injection hS with _ hS; exact absurd hS (by decide)
  | case4 n rest out h h1 h2 ih => intro S hS; rw [unp_lit h h1 h2] at hS; exact (List.prefix_append _ _).trans (ih S hS)
  | case5 n rest out h h1 => intro S hS; rw [unp_short2 h h1] at hS; injection hS with _ hS; exact absurd hS (by decide)
  | case6 n rest out h h1 h2 => intro S hS; rw [unp_far h h1 h2] at hS; injection hS with _ hS; exact absurd hS (by decide)
  | case7 n rest out h h1 h2 h3 => intro S hS; rw [unp_long2 h h1 h2 h3] at hS; injection hS with _ hS; exact absurd hS (by decide)
  | case8 n rest out h h1 h2 h3 ih =>
    intro S hS
    rw [unp_copy h h1 h2 h3] at hS
    refine List.IsPrefix.trans ?_ (ih S hS)
    generalize n.toNat - 125 = j
    clear ih hS h3
    induction j with
    | zero => exact List.prefix_rfl
    | succ j ih => exact ih.trans (List.prefix_append _ _)
/-- What a beginning of the tokens gives. -/
def CutAns (m : Nat) (L o : List UInt8) (S : ByteArray) (k : Nat) : Prop :=
  unp m (L.take k) o = (⟨#[]⟩, 4) ∨ ∃ r, unp m (L.take k) o = (⟨r.toArray⟩, 0) ∧ r <+: S.data.toList ∧ (k < L.length → r.length < S.data.toList.length)
theorem unp_cut (m : Nat) (L o : List UInt8) : ∀ (S : ByteArray) (k : Nat), unp m L o = (S, 0) → CutAns m L o S k := by
  induction L, o using unp.induct m with
  | case1 out => intro S k h; rw [unp_nil] at h; injection h with h _; subst h; exact .inr ⟨out, by rw [List.take_nil, unp_nil], List.prefix_rfl, fun h => by simp at h⟩
  | case2 n rest out h h1 => intro S k hS; rw [unp_short h h1] at hS; injection hS with _ hS; exact absurd hS (by decide)
  | case3 n rest out h h1 h2 => intro S k hS; rw [unp_long h h1 h2] at hS; injection hS with _ hS; exact absurd hS (by decide)
  | case4 n rest out h h1 h2 ih =>
    intro S k hS
    rw [unp_lit h h1 h2] at hS
    have hp := unp_prefix m _ _ S hS
    cases k with
    | zero =>
      refine .inr ⟨out, by rw [List.take_zero, unp_nil], (List.prefix_append _ _).trans hp, fun _ => ?_⟩
      have := hp.length_le
      rw [List.length_append, List.length_take] at this
      omega
    | succ k =>
      unfold CutAns
      rw [List.take_succ_cons]
      by_cases hk : (rest.take k).length < n.toNat + 1
      · exact .inl (unp_short h hk)
      · have hk2 : n.toNat + 1 ≤ k := by rw [List.length_take] at hk; omega
        rw [unp_lit h hk h2, List.drop_take, List.take_take, Nat.min_eq_left hk2]
        rcases ih S (k - (n.toNat + 1)) hS with hc | ⟨r, hc, hr, hl⟩
        · exact .inl hc
        · exact .inr ⟨r, hc, hr, fun hlt => hl (by rw [List.length_drop]; simp only [List.length_cons] at hlt; omega)⟩
  | case5 n rest out h h1 => intro S k hS; rw [unp_short2 h h1] at hS; injection hS with _ hS; exact absurd hS (by decide)
  | case6 n rest out h h1 h2 => intro S k hS; rw [unp_far h h1 h2] at hS; injection hS with _ hS; exact absurd hS (by decide)
  | case7 n rest out h h1 h2 h3 => intro S k hS; rw [unp_long2 h h1 h2 h3] at hS; injection hS with _ hS; exact absurd hS (by decide)
  | case8 n rest out h h1 h2 h3 ih =>
    intro S k hS
    have hfull := hS
    rw [unp_copy h h1 h2 h3] at hS
    have hp := unp_prefix m _ _ S hS
    cases k with
    | zero =>
      refine .inr ⟨out, by rw [List.take_zero, unp_nil], unp_prefix m _ _ S hfull, fun _ => ?_⟩
      have := hp.length_le
      rw [copyL_len] at this
      omega
    | succ k =>
      unfold CutAns
      rw [List.take_succ_cons]
      by_cases hk : (rest.take k).length < 2
      · exact .inl (unp_short2 h hk)
      · have hk2 : 2 ≤ k := by rw [List.length_take] at hk; omega
        have hb : backOf (rest.take k) = backOf rest := by
          unfold backOf
          simp only [List.getD_eq_getElem?_getD, List.getElem?_take]
          rw [if_pos (by omega), if_pos (by omega)]
        rw [unp_copy h hk (by rw [hb]; exact h2) h3, hb, List.drop_take]
        rcases ih S (k - 2) hS with hc | ⟨r, hc, hr, hl⟩
        · exact .inl hc
        · exact .inr ⟨r, hc, hr, fun hlt => hl (by rw [List.length_drop]; simp only [List.length_cons] at hlt; omega)⟩
/-- A packed text that is cut short: none, or the beginning of the text. -/
theorem unpack_cut (t : List UInt8) (ht : t.length ≤ 65536) (k : Nat) (hk : k < (packF t).length) :
    unpack ((packF t).take k) (t.length : Int) = (⟨#[]⟩, 4) ∨ ∃ r, unpack ((packF t).take k) (t.length : Int) = (⟨r.toArray⟩, 0) ∧ r <+: t ∧ r.length < t.length := by
  have hI := unpack_pack t ht
  have hp0 : packF t ≠ [] := by
    intro h0; rw [h0] at hk; simp at hk
  cases k with
  | zero => exact .inl rfl
  | succ k =>
    by_cases hf : packF t = 0 :: t
    · rw [hf] at hk ⊢
      simp only [List.length_cons] at hk
      rw [List.take_succ_cons]
      simp only [unpack]
      rw [if_neg (by decide), if_pos (by decide), if_neg (by rw [mostN_of ht, List.length_take]; omega)]
      exact .inr ⟨t.take k, rfl, List.take_prefix _ _, by rw [List.length_take]; omega⟩
    · obtain ⟨L, hL⟩ : ∃ L, packF t = 1 :: L := by
        unfold packF at hf ⊢
        split at hf
        · exact absurd rfl hf
        · rename_i h1
          rw [if_neg h1]
          split at hf
          · rename_i h2; rw [if_pos h2]; exact ⟨_, rfl⟩
          · exact absurd rfl hf
      rw [hL] at hI hk ⊢
      simp only [List.length_cons] at hk
      rw [List.take_succ_cons]
      simp only [unpack] at hI ⊢
      rw [if_neg (by decide), if_neg (by decide)] at hI ⊢
      rcases unp_cut _ L [] _ k hI with h | ⟨r, hr, hpre, hlt⟩
      · exact .inl h
      · exact .inr ⟨r, hr, hpre, hlt (by omega)⟩

/-! a text of one byte -/
theorem common_rep (b : UInt8) : ∀ k a c, c ≤ a → common k (List.replicate a b) (List.replicate c b) = min k c
  | 0, a, c, _ => by simp [common]
  | k + 1, 0, c, h => by obtain rfl : c = 0 := by omega
                         simp [common]
  | k + 1, a + 1, 0, h => by simp [List.replicate_succ, common]
  | k + 1, a + 1, c + 1, h => by
    rw [List.replicate_succ, List.replicate_succ]
    simp only [common, if_pos]
    rw [common_rep b k a c (by omega)]
    omega
theorem tok_one {l : List UInt8} (h0 : l.length ≠ 0) (h : l.length ≤ 128) : (tok l).length = l.length + 1 := by
  rw [tok_cons h0, List.drop_of_length_le h, tok_nil]
  simp only [List.length_cons, List.length_append, List.length_take, List.length_nil]
  omega
theorem litsTo_self (t : List UInt8) (a : Nat) : litsTo t a a = [] := by unfold litsTo; rw [Nat.sub_self, List.take_zero, tok_nil]
theorem run_tail {t : List UInt8} (f : Nat) : ∀ σ : PS, t.length - σ.place ≤ f → t.length < σ.place + 3 → (runP t σ).out = σ.out ∧ (runP t σ).plain = σ.plain := by
  induction f with
  | zero => intro σ h _; rw [runP_end (by omega)]; exact ⟨rfl, rfl⟩
  | succ f ih =>
    intro σ h h3
    by_cases hp : σ.place < t.length
    · have hs : step t σ = { σ with place := σ.place + 1 } := by unfold step; rw [if_pos h3]
      rw [runP_step hp, hs]
      exact ih _ (by simp only; omega) (by simp only; omega)
    · rw [runP_end hp]; exact ⟨rfl, rfl⟩
def outAll (t : List UInt8) (σ : PS) : Nat := ((runP t σ).out ++ litsTo t (runP t σ).plain t.length).length
theorem outAll_step {t : List UInt8} {σ : PS} (h : σ.place < t.length) : outAll t σ = outAll t (step t σ) := by unfold outAll; rw [runP_step h]
theorem outAll_end {t : List UInt8} {σ : PS} (h : ¬ σ.place < t.length) : outAll t σ = (σ.out ++ litsTo t σ.plain t.length).length := by unfold outAll; rw [runP_end h]
theorem keyAt_rep (b : UInt8) (n i : Nat) (h : i + 3 ≤ n) : keyAt (List.replicate n b) i = List.replicate 3 b := by
  unfold keyAt
  rw [List.drop_replicate, List.take_replicate]
  congr 1
  omega
theorem seenAt_self (f : List UInt8 → Option Nat) (k : List UInt8) (i : Nat) : seenAt f k i k = some i := by unfold seenAt; rw [if_pos rfl]
theorem step_rep (b : UInt8) (n o : Nat) (σ : PS) (hn : n ≤ 65536) (h3 : σ.place + 3 ≤ n) (ho : σ.seen (List.replicate 3 b) = some o) (hlt : o < σ.place) :
    step (List.replicate n b) σ = ⟨σ.place + min 130 (n - σ.place), σ.place + min 130 (n - σ.place), σ.out ++ litsTo (List.replicate n b) σ.plain σ.place ++ copyTok (min 130 (n - σ.place)) (σ.place - o - 1), seenAt σ.seen (List.replicate 3 b) σ.place⟩ := by
  have hc : common 130 ((List.replicate n b).drop o) ((List.replicate n b).drop σ.place) = min 130 (n - σ.place) := by
    rw [List.drop_replicate, List.drop_replicate, common_rep b _ _ _ (by omega)]
  unfold step
  rw [if_neg (by rw [List.length_replicate]; omega), keyAt_rep b n _ h3, ho]
  simp only [hc]
  rw [if_pos (by omega), if_pos (by omega)]
theorem rep_fin (b : UInt8) (n : Nat) (hn : n ≤ 65536) (f : Nat) : ∀ (σ : PS) (o : Nat), n - σ.place ≤ f → σ.plain = σ.place → σ.place ≤ n → σ.seen (List.replicate 3 b) = some o → o < σ.place →
    outAll (List.replicate n b) σ ≤ σ.out.length + 3 * ((n - σ.place + 129) / 130) := by
  induction f with
  | zero =>
    intro σ o h hpl hle _ _
    rw [outAll_end (by rw [List.length_replicate]; omega), hpl, List.length_replicate, show n = σ.place by omega, litsTo_self, List.append_nil]
    exact Nat.le_add_right _ _
  | succ f ih =>
    intro σ o h hpl hle ho hlt
    by_cases hp : σ.place < n
    · by_cases h3 : σ.place + 3 ≤ n
      · rw [outAll_step (by rw [List.length_replicate]; exact hp), step_rep b n o σ hn h3 ho hlt]
        refine Nat.le_trans (ih _ σ.place ?_ rfl ?_ (seenAt_self _ _ _) ?_) ?_
        · simp only; omega
        · simp only; omega
        · simp only; omega
        · rw [hpl, litsTo_self]
          simp only [List.length_append, copyTok, List.length_cons, List.length_nil]
          omega
      · have ht := run_tail (t := List.replicate n b) n σ (by rw [List.length_replicate]; omega) (by rw [List.length_replicate]; omega)
        unfold outAll
        rw [ht.1, ht.2, hpl, List.length_append, List.length_replicate]
        unfold litsTo
        rw [tok_one (by rw [List.length_take, List.length_drop, List.length_replicate]; omega) (by rw [List.length_take]; omega), List.length_take, List.length_drop, List.length_replicate]
        omega
    · rw [outAll_end (by rw [List.length_replicate]; exact hp), hpl, List.length_replicate, show n = σ.place by omega, litsTo_self, List.append_nil]
      exact Nat.le_add_right _ _
theorem pack_rep (b : UInt8) (n : Nat) (h8 : 8 ≤ n) (hn : n ≤ 65536) : (packF (List.replicate n b)).length ≤ 6 + n / 30 := by
  have h1 : step (List.replicate n b) ps0 = ⟨1, 0, [], seenAt (fun _ => none) (List.replicate 3 b) 0⟩ := by
    unfold step
    rw [if_neg (by rw [List.length_replicate]; simp only [ps0]; omega), keyAt_rep b n _ (by simp only [ps0]; omega)]
    rfl
  obtain ⟨f1, hf1⟩ : ∃ f : List UInt8 → Option Nat, f = seenAt (fun _ => none) (List.replicate 3 b) 0 := ⟨_, rfl⟩
  have hf0 : f1 (List.replicate 3 b) = some 0 := by rw [hf1, seenAt_self]
  rw [← hf1] at h1
  have h2 : step (List.replicate n b) ⟨1, 0, [], f1⟩ = ⟨1 + min 130 (n - 1), 1 + min 130 (n - 1), [] ++ litsTo (List.replicate n b) 0 1 ++ copyTok (min 130 (n - 1)) (1 - 0 - 1), seenAt f1 (List.replicate 3 b) 1⟩ :=
    step_rep b n 0 ⟨1, 0, [], f1⟩ hn (show 1 + 3 ≤ n by omega) hf0 (show 0 < 1 by omega)
  have hO : (packO (List.replicate n b)).length = 1 + outAll (List.replicate n b) ps0 := by unfold packO outAll; rw [List.length_cons]; omega
  have hl : (litsTo (List.replicate n b) 0 1).length = 2 := by
    unfold litsTo
    rw [tok_one (by rw [List.length_take, List.length_drop, List.length_replicate]; omega) (by rw [List.length_take]; omega), List.length_take, List.length_drop, List.length_replicate]
    omega
  rw [outAll_step (by rw [List.length_replicate]; simp only [ps0]; omega), h1, outAll_step (by rw [List.length_replicate]; simp only; omega), h2] at hO
  have h3 : outAll (List.replicate n b) ⟨1 + min 130 (n - 1), 1 + min 130 (n - 1), [] ++ litsTo (List.replicate n b) 0 1 ++ copyTok (min 130 (n - 1)) (1 - 0 - 1), seenAt f1 (List.replicate 3 b) 1⟩ ≤ ([] ++ litsTo (List.replicate n b) 0 1 ++ copyTok (min 130 (n - 1)) (1 - 0 - 1)).length + 3 * ((n - (1 + min 130 (n - 1)) + 129) / 130) :=
    rep_fin b n hn n ⟨1 + min 130 (n - 1), 1 + min 130 (n - 1), [] ++ litsTo (List.replicate n b) 0 1 ++ copyTok (min 130 (n - 1)) (1 - 0 - 1), seenAt f1 (List.replicate 3 b) 1⟩ 1 (show n - (1 + min 130 (n - 1)) ≤ n by omega) rfl (show 1 + min 130 (n - 1) ≤ n by omega) (seenAt_self _ _ _) (show 1 < 1 + min 130 (n - 1) by omega)
  generalize outAll (List.replicate n b) ⟨1 + min 130 (n - 1), 1 + min 130 (n - 1), [] ++ litsTo (List.replicate n b) 0 1 ++ copyTok (min 130 (n - 1)) (1 - 0 - 1), seenAt f1 (List.replicate 3 b) 1⟩ = X at h3 hO
  simp only [List.length_append, hl, copyTok, List.length_cons, List.length_nil] at h3
  have hle : (packF (List.replicate n b)).length ≤ (packO (List.replicate n b)).length := by
    unfold packF
    rw [if_neg (by rw [List.length_replicate]; omega)]
    split
    · exact Nat.le_refl _
    · rename_i h; simp only [List.length_cons, List.length_replicate] at h ⊢; omega
  omega
end Go.Proofs.YtdjkcmjhknabnaaDoor
