/-
  Who always uses a free block that was erased least, and gives back what stands longest, never lets two blocks be erased more than once apart.
-/
import Derived.Test.YtaganococolodaaMem
namespace Go.Proofs.Ytaganococolodaa

theorem all_in : ∀ (n : Nat) (Q : List Nat), (∀ i, i < n → i ∈ Q) → n ≤ Q.length
  | 0, _, _ => Nat.zero_le _
  | n + 1, Q, h => by
    have hn := h n (by omega)
    have ih := all_in n (Q.erase n) (fun i hi => (List.mem_erase_of_ne (by omega)).2 (h i (by omega)))
    rw [List.length_erase_of_mem hn] at ih
    have := List.length_pos_of_mem hn
    omega
theorem some_out {n : Nat} {Q : List Nat} (h : Q.length < n) : ∃ i, i < n ∧ i ∉ Q := by
  apply Classical.byContradiction
  intro hc
  have := all_in n Q (fun i hi => by
    apply Classical.byContradiction
    intro hq
    exact hc ⟨i, hi, hq⟩)
  omega

/-- All blocks were erased L or L + 1 times; those in use stand in a queue, first those at L, then those at L + 1. -/
structure Even (n u : Nat) (E : Nat → Nat) (Q : List Nat) (L : Nat) : Prop where
  e : ∀ i, i < n → E i = L ∨ E i = L + 1
  nd : Q.Nodup
  lt : ∀ i, i ∈ Q → i < n
  len : Q.length ≤ u
  split : ∃ A B, Q = A ++ B ∧ (∀ a, a ∈ A → E a = L) ∧ (∀ b, b ∈ B → E b = L + 1) ∧ (Q.length < u → A = [] ∧ ∀ i, i < n → E i = L + 1 → i ∈ Q)
  free : ∃ i, i < n ∧ i ∉ Q ∧ E i = L

def bumped (E : Nat → Nat) (k : Nat) : Nat → Nat := fun i => if i = k then E k + 1 else E i
def queued (u : Nat) (Q : List Nat) (k : Nat) : List Nat := if u < (Q ++ [k]).length then (Q ++ [k]).tail else Q ++ [k]

theorem Even.start {n u : Nat} (hn : 0 < n) : Even n u (fun _ => 0) [] 0 :=
  ⟨fun _ _ => .inl rfl, List.nodup_nil, fun _ h => (List.not_mem_nil h).elim, Nat.zero_le _, ⟨[], [], rfl, fun _ h => (List.not_mem_nil h).elim, fun _ h => (List.not_mem_nil h).elim, fun _ => ⟨rfl, fun _ _ h => by simp at h⟩⟩, ⟨0, hn, List.not_mem_nil, rfl⟩⟩

theorem Even.step {n u L k : Nat} {E : Nat → Nat} {Q : List Nat} (h : Even n u E Q L) (hu : u < n) (hk : k < n) (hkQ : k ∉ Q) (hmin : ∀ i, i < n → i ∉ Q → E k ≤ E i) :
    ∃ L', Even n u (bumped E k) (queued u Q k) L' := by
  obtain ⟨f, hf, hfQ, hfL⟩ := h.free
  have hkL : E k = L := by
    have h1 := hmin f hf hfQ
    rcases h.e k hk with h2 | h2 <;> omega
  have hbk : bumped E k k = L + 1 := by simp [bumped, hkL]
  have hbo : ∀ i, i ≠ k → bumped E k i = E i := fun i hi => by simp [bumped, hi]
  have he : ∀ i, i < n → bumped E k i = L ∨ bumped E k i = L + 1 := fun i hi => by
    by_cases hik : i = k
    · subst hik; exact .inr hbk
    · rw [hbo i hik]; exact h.e i hi
  have hnd1 : (Q ++ [k]).Nodup := by
    rw [List.nodup_append]
    exact ⟨h.nd, by simp, fun a ha b hb => by
      rw [List.mem_singleton] at hb
      subst hb
      intro e
      subst e
      exact hkQ ha⟩
  have hlt1 : ∀ i, i ∈ Q ++ [k] → i < n := fun i hi => by
    rcases List.mem_append.1 hi with hi | hi
    · exact h.lt i hi
    · rw [List.mem_singleton] at hi; subst hi; exact hk
  obtain ⟨A, B, hQ, hA, hB, hfull⟩ := h.split
  have hA1 : ∀ a, a ∈ A → bumped E k a = L := fun a ha => by
    rw [hbo a (fun e => hkQ (by rw [← e, hQ]; exact List.mem_append_left _ ha))]
    exact hA a ha
  have hB1 : ∀ b, b ∈ B ++ [k] → bumped E k b = L + 1 := fun b hb => by
    rcases List.mem_append.1 hb with hb | hb
    · rw [hbo b (fun e => hkQ (by rw [← e, hQ]; exact List.mem_append_right _ hb))]
      exact hB b hb
    · rw [List.mem_singleton] at hb; subst hb; exact hbk
  have hlen1 : (Q ++ [k]).length = Q.length + 1 := by simp
  have hle := h.len
  -- the queue behind the step: its parts, and that it is free of L ahead where it is not full
  have hS : ∃ A' B', queued u Q k = A' ++ B' ∧ (∀ a, a ∈ A' → bumped E k a = L) ∧ (∀ b, b ∈ B' → bumped E k b = L + 1) ∧
      ((queued u Q k).length < u → A' = [] ∧ ∀ i, i < n → bumped E k i = L + 1 → i ∈ queued u Q k) ∧
      ((∃ i, i < n ∧ i ∉ queued u Q k ∧ bumped E k i = L) ∨ A' = []) := by
    by_cases hp : u < (Q ++ [k]).length
    · have hq : queued u Q k = (Q ++ [k]).tail := by simp only [queued]; rw [if_pos hp]
      have hfl : ¬ (queued u Q k).length < u := by rw [hq, List.length_tail, hlen1]; omega
      cases A with
      | nil =>
        refine ⟨[], (Q ++ [k]).tail, by rw [hq]; rfl, fun _ h => (List.not_mem_nil h).elim, fun b hb => hB1 b ?_, fun h => absurd h hfl, .inr rfl⟩
        have := List.mem_of_mem_tail hb
        rwa [hQ, List.nil_append] at this
      | cons x A2 =>
        have hq2 : queued u Q k = A2 ++ (B ++ [k]) := by rw [hq, hQ]; simp
        have hxQ : x ∈ Q := by rw [hQ]; simp
        refine ⟨A2, B ++ [k], hq2, fun a ha => hA1 a (List.mem_cons_of_mem _ ha), hB1, fun h => absurd h hfl, .inl ⟨x, h.lt x hxQ, ?_, hA1 x (List.mem_cons_self ..)⟩⟩
        rw [hq2]
        have h3 := hnd1
        rw [hQ, List.cons_append, List.cons_append, List.nodup_cons, List.append_assoc] at h3
        exact h3.1
    · have hq : queued u Q k = Q ++ [k] := by simp only [queued]; rw [if_neg hp]
      have hnf : Q.length < u := by omega
      obtain ⟨rfl, hall⟩ := hfull hnf
      refine ⟨[], Q ++ [k], by rw [hq]; rfl, fun _ h => (List.not_mem_nil h).elim, fun b hb => hB1 b (by rwa [hQ, List.nil_append] at hb), fun _ => ⟨rfl, fun i hi hiL => ?_⟩, .inr rfl⟩
      rw [hq]
      by_cases hik : i = k
      · subst hik; simp
      · rw [hbo i hik] at hiL
        exact List.mem_append_left _ (hall i hi hiL)
  have hnd : (queued u Q k).Nodup := by
    simp only [queued]
    split
    · exact hnd1.sublist (List.tail_sublist _)
    · exact hnd1
  have hlt : ∀ i, i ∈ queued u Q k → i < n := fun i hi => by
    simp only [queued] at hi
    split at hi
    · exact hlt1 i (List.mem_of_mem_tail hi)
    · exact hlt1 i hi
  have hlen : (queued u Q k).length ≤ u := by
    simp only [queued]
    split
    · rw [List.length_tail, hlen1]; omega
    · omega
  obtain ⟨A', B', hQ', hA', hB', hfull', hfree⟩ := hS
  by_cases hex : ∃ i, i < n ∧ i ∉ queued u Q k ∧ bumped E k i = L
  · exact ⟨L, he, hnd, hlt, hlen, ⟨A', B', hQ', hA', hB', hfull'⟩, hex⟩
  · have hA0 : A' = [] := by
      rcases hfree with h | h
      · exact absurd h hex
      · exact h
    have hall : ∀ i, i < n → bumped E k i = L + 1 := fun i hi => by
      rcases he i hi with h1 | h1
      · exfalso
        by_cases hiq : i ∈ queued u Q k
        · rw [hQ', hA0, List.nil_append] at hiq
          have := hB' i hiq
          omega
        · exact hex ⟨i, hi, hiq, h1⟩
      · exact h1
    obtain ⟨i, hi, hiq⟩ := some_out (n := n) (Q := queued u Q k) (by omega)
    refine ⟨L + 1, fun i hi => .inl (hall i hi), hnd, hlt, hlen, ⟨queued u Q k, [], by simp, fun a ha => hall a (hlt a ha), fun _ h => (List.not_mem_nil h).elim, fun hnf => ?_⟩, ⟨i, hi, hiq, hall i hi⟩⟩
    exfalso
    exact hiq ((hfull' hnf).2 i hi (hall i hi))
/-- No two are more than once apart. -/
theorem Even.apart {n u L : Nat} {E : Nat → Nat} {Q : List Nat} (h : Even n u E Q L) {i j : Nat} (hi : i < n) (hj : j < n) : E i ≤ E j + 1 := by
  rcases h.e i hi with h1 | h1 <;> rcases h.e j hj with h2 | h2 <;> omega
end Go.Proofs.Ytaganococolodaa
