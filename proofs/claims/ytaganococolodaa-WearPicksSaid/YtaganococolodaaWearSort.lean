/-
  The plain law of a stable sort by blocks and merges: contents as functions of the place, sorted by a strict order that puts the greater key first and breaks ties by the number.
-/
import Derived.WalkKit
namespace Go.Proofs.Ytaganococolodaa

/-- x stands ahead of y. -/
def Ahead (rd : Nat → Int) (x y : Nat) : Prop := rd y < rd x ∨ (rd x = rd y ∧ x < y)
theorem Ahead.trans {rd : Nat → Int} {x y z : Nat} (h : Ahead rd x y) (h' : Ahead rd y z) : Ahead rd x z := by
  unfold Ahead at *; omega
theorem Ahead.irrefl {rd : Nat → Int} {x : Nat} (h : Ahead rd x x) : False := by
  unfold Ahead at h; omega
/-- Among numbers that rise, the key decides. -/
theorem ahead_of_lt {rd : Nat → Int} {x y : Nat} (h : x < y) (hr : ¬ rd x < rd y) : Ahead rd x y := by
  unfold Ahead; omega

def Srt (rd : Nat → Int) (F : Nat → Nat) (a b : Nat) : Prop := ∀ i j, a ≤ i → i < j → j < b → Ahead rd (F i) (F j)
def Same (a b : Nat) (F G : Nat → Nat) : Prop := (∀ i, a ≤ i → i < b → ∃ j, a ≤ j ∧ j < b ∧ G i = F j) ∧ (∀ i, a ≤ i → i < b → ∃ j, a ≤ j ∧ j < b ∧ F i = G j)
def Out (a b : Nat) (F G : Nat → Nat) : Prop := ∀ i, i < a ∨ b ≤ i → G i = F i
variable {rd : Nat → Int} {F G H : Nat → Nat} {a b : Nat}
theorem Same.refl (a b : Nat) (F : Nat → Nat) : Same a b F F := ⟨fun i h1 h2 => ⟨i, h1, h2, rfl⟩, fun i h1 h2 => ⟨i, h1, h2, rfl⟩⟩
theorem Same.trans (h : Same a b F G) (h' : Same a b G H) : Same a b F H := by
  refine ⟨fun i h1 h2 => ?_, fun i h1 h2 => ?_⟩
  · obtain ⟨j, j1, j2, e⟩ := h'.1 i h1 h2
    obtain ⟨k, k1, k2, e'⟩ := h.1 j j1 j2
    exact ⟨k, k1, k2, e.trans e'⟩
  · obtain ⟨j, j1, j2, e⟩ := h.2 i h1 h2
    obtain ⟨k, k1, k2, e'⟩ := h'.2 j j1 j2
    exact ⟨k, k1, k2, e.trans e'⟩
theorem Out.trans (h : Out a b F G) (h' : Out a b G H) : Out a b F H := fun i hi => (h' i hi).trans (h i hi)
theorem Out.mono {a' b' : Nat} (h : Out a b F G) (ha : a' ≤ a) (hb : b ≤ b') : Out a' b' F G := fun i hi => h i (by omega)
theorem Out.refl (a b : Nat) (F : Nat → Nat) : Out a b F F := fun _ _ => rfl
/-- Within a greater part. -/
theorem Same.wide {a' b' : Nat} (h : Same a b F G) (ho : Out a b F G) (ha : a' ≤ a) (hb : b ≤ b') : Same a' b' F G := by
  refine ⟨fun i h1 h2 => ?_, fun i h1 h2 => ?_⟩
  · by_cases hi : a ≤ i ∧ i < b
    · obtain ⟨j, j1, j2, e⟩ := h.1 i hi.1 hi.2
      exact ⟨j, by omega, by omega, e⟩
    · exact ⟨i, h1, h2, ho i (by omega)⟩
  · by_cases hi : a ≤ i ∧ i < b
    · obtain ⟨j, j1, j2, e⟩ := h.2 i hi.1 hi.2
      exact ⟨j, by omega, by omega, e⟩
    · exact ⟨i, h1, h2, (ho i (by omega)).symm⟩
theorem Srt.of_out {a' b' : Nat} (h : Srt rd F a b) (ho : Out a' b' F G) (hd : b ≤ a' ∨ b' ≤ a) : Srt rd G a b := fun i j h1 h2 h3 => by
  rw [ho i (by omega), ho j (by omega)]; exact h i j h1 h2 h3
theorem Same.of_out {a' b' : Nat} (ho : Out a' b' F G) (hd : b ≤ a' ∨ b' ≤ a) : Same a b F G :=
  ⟨fun i h1 h2 => ⟨i, h1, h2, ho i (by omega)⟩, fun i h1 h2 => ⟨i, h1, h2, (ho i (by omega)).symm⟩⟩

/-- What stands at i is moved down to j. -/
def mv (F : Nat → Nat) (i j p : Nat) : Nat := if p = j then F i else if j < p ∧ p ≤ i then F (p - 1) else F p
/-- What stands at a is moved up to k. -/
def mvUp (F : Nat → Nat) (a k p : Nat) : Nat := if p = k then F a else if a ≤ p ∧ p < k then F (p + 1) else F p
def swp (F : Nat → Nat) (i j p : Nat) : Nat := if p = i then F j else if p = j then F i else F p
theorem mv_self (F : Nat → Nat) (i : Nat) : mv F i i = F := by
  funext p; unfold mv
  split
  · subst p; rfl
  · rw [if_neg (by omega)]
theorem mvUp_self (F : Nat → Nat) (i : Nat) : mvUp F i i = F := by
  funext p; unfold mvUp
  split
  · subst p; rfl
  · rw [if_neg (by omega)]
theorem mv_swp (F : Nat → Nat) {i j : Nat} (h : j < i) : swp (mv F i (j + 1)) (j + 1) j = mv F i j := by
  funext p; unfold swp mv
  by_cases h1 : p = j + 1
  · subst h1
    rw [if_pos rfl, if_neg (by omega), if_neg (by omega), if_neg (by omega), if_pos (by omega)]
    rfl
  · rw [if_neg h1]
    by_cases h2 : p = j
    · subst h2; simp
    · rw [if_neg h2, if_neg h1, if_neg h2]
      by_cases h3 : j < p ∧ p ≤ i
      · rw [if_pos (by omega), if_pos h3]
      · rw [if_neg (by omega), if_neg h3]
theorem mvUp_swp (F : Nat → Nat) {a k : Nat} (h : a ≤ k) : swp (mvUp F a k) k (k + 1) = mvUp F a (k + 1) := by
  funext p; unfold swp mvUp
  by_cases h1 : p = k + 1
  · subst h1
    rw [if_neg (by omega), if_pos rfl, if_pos rfl, if_pos rfl]
  · by_cases h2 : p = k
    · subst h2
      rw [if_pos rfl, if_neg (by omega), if_neg (by omega), if_neg (by omega), if_pos (by omega)]
    · rw [if_neg h2, if_neg h1, if_neg h2, if_neg h1]
      by_cases h3 : a ≤ p ∧ p < k
      · rw [if_pos h3, if_pos (by omega)]
      · rw [if_neg h3, if_neg (by omega)]
theorem out_mv {i j : Nat} (ha : a ≤ j) (hj : j ≤ i) (hb : i < b) : Out a b F (mv F i j) := fun p hp => by
  unfold mv; rw [if_neg (by omega), if_neg (by omega)]
theorem out_mvUp {k : Nat} (hk : a ≤ k) (hb : k < b) : Out a b F (mvUp F a k) := fun p hp => by
  unfold mvUp; rw [if_neg (by omega), if_neg (by omega)]
theorem same_mv {i j : Nat} (ha : a ≤ j) (hj : j ≤ i) (hb : i < b) : Same a b F (mv F i j) := by
  refine ⟨fun p h1 h2 => ?_, fun p h1 h2 => ?_⟩
  · unfold mv
    by_cases e : p = j
    · exact ⟨i, by omega, hb, by rw [if_pos e]⟩
    · by_cases e2 : j < p ∧ p ≤ i
      · exact ⟨p - 1, by omega, by omega, by rw [if_neg e, if_pos e2]⟩
      · exact ⟨p, h1, h2, by rw [if_neg e, if_neg e2]⟩
  · by_cases e : p = i
    · exact ⟨j, ha, by omega, by unfold mv; rw [if_pos rfl, e]⟩
    · by_cases e2 : j ≤ p ∧ p < i
      · exact ⟨p + 1, by omega, by omega, by unfold mv; rw [if_neg (by omega), if_pos (by omega)]; rfl⟩
      · exact ⟨p, h1, h2, by unfold mv; rw [if_neg (by omega), if_neg (by omega)]⟩
theorem same_mvUp {k : Nat} (hk : a ≤ k) (hb : k < b) : Same a b F (mvUp F a k) := by
  refine ⟨fun p h1 h2 => ?_, fun p h1 h2 => ?_⟩
  · unfold mvUp
    by_cases e : p = k
    · exact ⟨a, by omega, by omega, by rw [if_pos e]⟩
    · by_cases e2 : a ≤ p ∧ p < k
      · exact ⟨p + 1, by omega, by omega, by rw [if_neg e, if_pos e2]⟩
      · exact ⟨p, h1, h2, by rw [if_neg e, if_neg e2]⟩
  · by_cases e : p = a
    · exact ⟨k, hk, hb, by unfold mvUp; rw [if_pos rfl, e]⟩
    · by_cases e2 : a < p ∧ p ≤ k
      · refine ⟨p - 1, by omega, by omega, ?_⟩
        unfold mvUp; rw [if_neg (by omega), if_pos (by omega), Nat.sub_add_cancel (by omega)]
      · exact ⟨p, h1, h2, by unfold mvUp; rw [if_neg (by omega), if_neg (by omega)]⟩
theorem srt_mv {i j : Nat} (hs : Srt rd F a i) (ha : a ≤ j) (hj : j ≤ i) (hup : ∀ p, j ≤ p → p < i → Ahead rd (F i) (F p)) (hdn : ∀ p, a ≤ p → p < j → Ahead rd (F p) (F i)) : Srt rd (mv F i j) a (i + 1) := by
  intro p q h1 h2 h3
  unfold mv
  by_cases e1 : p = j
  · rw [if_pos e1, if_neg (by omega), if_pos (by omega)]
    exact hup _ (by omega) (by omega)
  · rw [if_neg e1]
    by_cases e2 : j < p ∧ p ≤ i
    · rw [if_pos e2, if_neg (by omega), if_pos (by omega)]
      exact hs _ _ (by omega) (by omega) (by omega)
    · rw [if_neg e2]
      by_cases e3 : q = j
      · rw [if_pos e3]; exact hdn _ h1 (by omega)
      · rw [if_neg e3]
        split
        · exact hs _ _ (by omega) (by omega) (by omega)
        · exact hs _ _ (by omega) (by omega) (by omega)
theorem srt_mvUp {k : Nat} (hs : Srt rd F (a + 1) b) (hk : a ≤ k) (hb : k < b) (hdn : ∀ p, a < p → p ≤ k → Ahead rd (F p) (F a)) (hup : ∀ p, k < p → p < b → Ahead rd (F a) (F p)) : Srt rd (mvUp F a k) a b := by
  intro p q h1 h2 h3
  unfold mvUp
  by_cases e1 : p = k
  · rw [if_pos e1, if_neg (by omega), if_neg (by omega)]
    exact hup _ (by omega) h3
  · rw [if_neg e1]
    by_cases e2 : a ≤ p ∧ p < k
    · rw [if_pos e2]
      by_cases e3 : q = k
      · rw [if_pos e3]; exact hdn _ (by omega) (by omega)
      · rw [if_neg e3]
        split
        · exact hs _ _ (by omega) (by omega) (by omega)
        · exact hs _ _ (by omega) (by omega) (by omega)
    · rw [if_neg e2, if_neg (by omega), if_neg (by omega)]
      exact hs _ _ (by omega) (by omega) (by omega)

/-- The first n places behind a change with those behind b. -/
def swapR (F : Nat → Nat) (a b : Nat) : Nat → Nat → Nat
  | 0 => F
  | n + 1 => swp (swapR F a b n) (a + n) (b + n)
theorem swapR_at (F : Nat → Nat) {a b : Nat} : ∀ {n : Nat}, a + n ≤ b → ∀ p, swapR F a b n p = if a ≤ p ∧ p < a + n then F (b + (p - a)) else if b ≤ p ∧ p < b + n then F (a + (p - b)) else F p
  | 0, _, p => by
    rw [if_neg (by omega), if_neg (by omega)]; rfl
  | n + 1, h, p => by
    have ih := fun p => swapR_at F (a := a) (b := b) (n := n) (by omega) p
    show swp (swapR F a b n) (a + n) (b + n) p = _
    unfold swp
    by_cases e1 : p = a + n
    · rw [if_pos e1, if_pos (by omega), ih, if_neg (by omega), if_neg (by omega), e1]
      congr 1; omega
    · rw [if_neg e1]
      by_cases e2 : p = b + n
      · rw [if_pos e2, if_neg (by omega), if_pos (by omega), ih, if_neg (by omega), if_neg (by omega), e2]
        congr 1; omega
      · rw [if_neg e2, ih]
        repeat' split
        all_goals first | rfl | (exfalso; omega)
/-- What stands from m to b comes ahead of what stands from a to m. -/
def rotF (F : Nat → Nat) (a m b p : Nat) : Nat := if a ≤ p ∧ p < a + (b - m) then F (p + (m - a)) else if a + (b - m) ≤ p ∧ p < b then F (p - (b - m)) else F p
theorem rotF_left (F : Nat → Nat) {m i j : Nat} (hi : i ≤ m) (h : j < i) : rotF F (m - i) m (m + j) = rotF (swapR F (m - i) m j) (m - (i - j)) m (m + j) := by
  funext p
  have hs := fun q => swapR_at F (a := m - i) (b := m) (n := j) (by omega) q
  unfold rotF
  simp only [hs]
  by_cases e1 : m - i ≤ p ∧ p < m - i + (m + j - m)
  · rw [if_pos e1, if_neg (by omega), if_neg (by omega), if_pos (by omega)]
    congr 1; omega
  · rw [if_neg e1]
    by_cases e2 : m - i + (m + j - m) ≤ p ∧ p < m + j
    · rw [if_pos e2]
      by_cases e3 : m - (i - j) ≤ p ∧ p < m - (i - j) + (m + j - m)
      · rw [if_pos e3, if_neg (by omega)]
        rw [if_pos (by omega)]
        congr 1; omega
      · rw [if_neg e3, if_pos (by omega), if_neg (by omega), if_neg (by omega)]
    · rw [if_neg e2, if_neg (by omega), if_neg (by omega), if_neg (by omega), if_neg (by omega)]
theorem rotF_right (F : Nat → Nat) {m i j : Nat} (hi : i ≤ m) (h : i < j) : rotF F (m - i) m (m + j) = rotF (swapR F (m - i) (m + j - i) i) (m - i) m (m + (j - i)) := by
  funext p
  have hs := fun q => swapR_at F (a := m - i) (b := m + j - i) (n := i) (by omega) q
  unfold rotF
  simp only [hs]
  by_cases e1 : m - i ≤ p ∧ p < m - i + (m + j - m)
  · rw [if_pos e1]
    by_cases e2 : m - i ≤ p ∧ p < m - i + (m + (j - i) - m)
    · rw [if_pos e2, if_neg (by omega), if_neg (by omega)]
    · rw [if_neg e2, ]
      by_cases e3 : m - i + (m + (j - i) - m) ≤ p ∧ p < m + (j - i)
      · rw [if_pos e3, if_pos (by omega)]
        congr 1; omega
      · exfalso; omega
  · rw [if_neg e1]
    by_cases e2 : m - i + (m + j - m) ≤ p ∧ p < m + j
    · rw [if_pos e2, if_neg (by omega), if_neg (by omega), if_neg (by omega), if_pos (by omega)]
      congr 1; omega
    · rw [if_neg e2, if_neg (by omega), if_neg (by omega), if_neg (by omega), if_neg (by omega)]
theorem rotF_even (F : Nat → Nat) {m i : Nat} (hi : i ≤ m) : rotF F (m - i) m (m + i) = swapR F (m - i) m i := by
  funext p
  rw [swapR_at F (by omega)]
  unfold rotF
  by_cases e1 : m - i ≤ p ∧ p < m - i + i
  · rw [if_pos (by omega), if_pos e1]
    congr 1; omega
  · rw [if_neg (by omega), if_neg e1]
    by_cases e2 : m ≤ p ∧ p < m + i
    · rw [if_pos (by omega), if_pos e2]
      congr 1; omega
    · rw [if_neg (by omega), if_neg e2]
theorem rotF_none (F : Nat → Nat) {a m b : Nat} (h1 : a ≤ m) (h2 : m ≤ b) (h : a = m ∨ m = b) : rotF F a m b = F := by
  funext p
  unfold rotF
  rcases h with rfl | rfl
  · split
    · simp
    · rw [if_neg (by omega)]
  · rw [if_neg (by omega)]
    split
    · simp
    · rfl

/-- What a merge of two sorted parts is given, and what it gives. -/
structure MIn (rd : Nat → Int) (F : Nat → Nat) (a m b : Nat) : Prop where
  am : a < m
  mb : m < b
  left : Srt rd F a m
  right : Srt rd F m b
  rise : ∀ i j, a ≤ i → i < m → m ≤ j → j < b → F i < F j
structure MOut (rd : Nat → Int) (F : Nat → Nat) (a b : Nat) (G : Nat → Nat) : Prop where
  srt : Srt rd G a b
  same : Same a b F G
  out : Out a b F G
theorem MIn.more {m : Nat} (h : MIn rd F a m b) {i j : Nat} (h1 : a ≤ i) (h2 : i < m) (h3 : m ≤ j) (h4 : j < b) (hc : ¬ rd (F i) < rd (F j)) : Ahead rd (F i) (F j) := ahead_of_lt (h.rise i j h1 h2 h3 h4) hc
/-- One on the left: moved up to k. -/
theorem MIn.one_left {k : Nat} (h : MIn rd F a (a + 1) b) (hk : a ≤ k) (hb : k < b) (hdn : ∀ p, a < p → p ≤ k → rd (F a) < rd (F p)) (hup : ∀ p, k < p → p < b → ¬ rd (F a) < rd (F p)) : MOut rd F a b (mvUp F a k) :=
  ⟨srt_mvUp h.right hk hb (fun p h1 h2 => Or.inl (hdn p h1 h2)) (fun p h1 h2 => h.more (Nat.le_refl _) (by omega) (by omega) h2 (hup p h1 h2)), same_mvUp hk hb, out_mvUp hk hb⟩
/-- One on the right: moved down to k. -/
theorem MIn.one_right {m k : Nat} (h : MIn rd F a m (m + 1)) (hk : a ≤ k) (hb : k ≤ m) (hdn : ∀ p, a ≤ p → p < k → ¬ rd (F p) < rd (F m)) (hup : ∀ p, k ≤ p → p < m → rd (F p) < rd (F m)) : MOut rd F a (m + 1) (mv F m k) :=
  ⟨srt_mv h.left hk hb (fun p h1 h2 => Or.inl (hup p h1 h2)) (fun p h1 h2 => h.more h1 (by omega) (Nat.le_refl _) (by omega) (hdn p h1 h2)), same_mv hk hb (by omega), out_mv hk hb (by omega)⟩

/-- Where the merge parts: start on the left, fin on the right. -/
structure Parts (rd : Nat → Int) (F : Nat → Nat) (a m b mid s e : Nat) : Prop where
  sas : a ≤ s
  sm : s ≤ m
  me : m ≤ e
  eb : e ≤ b
  mid : s + (e - m) = mid
  low : a < s → e < b → Ahead rd (F (s - 1)) (F e)
  high : m < e → s < m → Ahead rd (F (e - 1)) (F s)
theorem srt_le {i j : Nat} (h : Srt rd F a b) (h1 : a ≤ i) (h2 : i ≤ j) (h3 : j < b) : F i = F j ∨ Ahead rd (F i) (F j) := by
  rcases Nat.lt_or_ge i j with h | h'
  · exact .inr (by rename Srt rd F a b => hs; exact hs i j h1 h h3)
  · obtain rfl : i = j := by omega
    exact .inl rfl
theorem ahead_le {x y z t : Nat} (h1 : x = y ∨ Ahead rd x y) (h2 : Ahead rd y z) (h3 : z = t ∨ Ahead rd z t) : Ahead rd x t := by
  rcases h1 with rfl | h1 <;> rcases h3 with rfl | h3
  · exact h2
  · exact h2.trans h3
  · exact h1.trans h2
  · exact (h1.trans h2).trans h3
/-- The two halves behind the turn, and that all of the first stands ahead of all of the second. -/
theorem Parts.turned {m mid s e : Nat} (h : MIn rd F a m b) (hp : Parts rd F a m b mid s e) :
    Same a b F (rotF F s m e) ∧ Out a b F (rotF F s m e) ∧ Srt rd (rotF F s m e) a s ∧ Srt rd (rotF F s m e) s mid ∧ Srt rd (rotF F s m e) mid e ∧ Srt rd (rotF F s m e) e b ∧
    (∀ i j, a ≤ i → i < s → s ≤ j → j < mid → rotF F s m e i < rotF F s m e j) ∧ (∀ i j, mid ≤ i → i < e → e ≤ j → j < b → rotF F s m e i < rotF F s m e j) ∧
    (∀ i j, a ≤ i → i < mid → mid ≤ j → j < b → Ahead rd (rotF F s m e i) (rotF F s m e j)) := by
  obtain ⟨sas, sm, me, eb, hmid, low, high⟩ := hp
  obtain ⟨am, mb, hl, hr, hrise⟩ := h
  have r1 : ∀ p, s ≤ p → p < mid → rotF F s m e p = F (p + (m - s)) := fun p h1 h2 => by unfold rotF; rw [if_pos (by omega)]
  have r2 : ∀ p, mid ≤ p → p < e → rotF F s m e p = F (p - (e - m)) := fun p h1 h2 => by unfold rotF; rw [if_neg (by omega), if_pos (by omega)]
  have r0 : ∀ p, p < s ∨ e ≤ p → rotF F s m e p = F p := fun p h1 => by unfold rotF; rw [if_neg (by omega), if_neg (by omega)]
  refine ⟨⟨fun i h1 h2 => ?_, fun i h1 h2 => ?_⟩, fun i hi => r0 i (by omega), ?_, ?_, ?_, ?_, ?_, ?_, ?_⟩
  · by_cases c1 : i < s ∨ e ≤ i
    · exact ⟨i, h1, h2, r0 i c1⟩
    · by_cases c2 : i < mid
      · exact ⟨i + (m - s), by omega, by omega, r1 i (by omega) c2⟩
      · exact ⟨i - (e - m), by omega, by omega, r2 i (by omega) (by omega)⟩
  · by_cases c1 : i < s ∨ e ≤ i
    · exact ⟨i, h1, h2, (r0 i c1).symm⟩
    · by_cases c2 : i < m
      · exact ⟨i + (e - m), by omega, by omega, by rw [r2 _ (by omega) (by omega)]; congr 1; omega⟩
      · exact ⟨i - (m - s), by omega, by omega, by rw [r1 _ (by omega) (by omega)]; congr 1; omega⟩
  · intro i j h1 h2 h3
    rw [r0 i (by omega), r0 j (by omega)]; exact hl i j h1 h2 (by omega)
  · intro i j h1 h2 h3
    rw [r1 i (by omega) (by omega), r1 j (by omega) (by omega)]; exact hr _ _ (by omega) (by omega) (by omega)
  · intro i j h1 h2 h3
    rw [r2 i (by omega) (by omega), r2 j (by omega) (by omega)]; exact hl _ _ (by omega) (by omega) (by omega)
  · intro i j h1 h2 h3
    rw [r0 i (by omega), r0 j (by omega)]; exact hr i j (by omega) h2 h3
  · intro i j h1 h2 h3 h4
    rw [r0 i (by omega), r1 j h3 h4]; exact hrise _ _ h1 (by omega) (by omega) (by omega)
  · intro i j h1 h2 h3 h4
    rw [r2 i h1 h2, r0 j (by omega)]; exact hrise _ _ (by omega) (by omega) (by omega) h4
  · intro i j h1 h2 h3 h4
    by_cases c1 : i < s
    · rw [r0 i (by omega)]
      by_cases c2 : j < e
      · rw [r2 j h3 c2]; exact hl _ _ h1 (by omega) (by omega)
      · rw [r0 j (by omega)]
        exact ahead_le (srt_le hl h1 (by omega : i ≤ s - 1) (by omega)) (low (by omega) (by omega)) (srt_le hr (by omega) (by omega) h4)
    · rw [r1 i (by omega) h2]
      by_cases c2 : j < e
      · rw [r2 j h3 c2]
        exact ahead_le (srt_le hr (by omega) (by omega : i + (m - s) ≤ e - 1) (by omega)) (high (by omega) (by omega)) (srt_le hl (by omega) (by omega) (by omega))
      · rw [r0 j (by omega)]; exact hr _ _ (by omega) (by omega) h4
/-- The halves merged, the whole is. -/
theorem halves {F1 F2 F3 : Nat → Nat} {mid : Nat} (hm : a ≤ mid) (hb : mid ≤ b) (hs : Same a b F F1) (ho : Out a b F F1) (hx : ∀ i j, a ≤ i → i < mid → mid ≤ j → j < b → Ahead rd (F1 i) (F1 j)) (h2 : MOut rd F1 a mid F2) (h3 : MOut rd F2 mid b F3) : MOut rd F a b F3 := by
  have o2 : Out a b F1 F2 := h2.out.mono (Nat.le_refl _) hb
  have o3 : Out a b F2 F3 := h3.out.mono hm (Nat.le_refl _)
  refine ⟨fun i j h1 hij hj => ?_, (hs.trans (h2.same.wide h2.out (Nat.le_refl _) hb)).trans (h3.same.wide h3.out hm (Nat.le_refl _)), (ho.trans o2).trans o3⟩
  by_cases c1 : j < mid
  · rw [h3.out i (by omega), h3.out j (by omega)]; exact h2.srt i j h1 hij c1
  · by_cases c2 : mid ≤ i
    · exact h3.srt i j c2 hij hj
    · rw [h3.out i (by omega)]
      obtain ⟨p, p1, p2, e1⟩ := h2.same.1 i h1 (by omega)
      obtain ⟨q, q1, q2, e2⟩ := h3.same.1 j (by omega) hj
      rw [e1, e2, h2.out q (by omega)]
      exact hx p q p1 p2 q1 q2
theorem MOut.none (h : Srt rd F a b) : MOut rd F a b F := ⟨h, Same.refl _ _ _, Out.refl _ _ _⟩

/-- A block of a sort by blocks: sorted, of the same numbers. -/
structure Good (rd : Nat → Int) (F0 G : Nat → Nat) (a b : Nat) : Prop where
  srt : Srt rd G a b
  same : Same a b F0 G
theorem Good.of_out {F0 : Nat → Nat} {a' b' : Nat} (h : Good rd F0 G a b) (ho : Out a' b' G H) (hd : b ≤ a' ∨ b' ≤ a) : Good rd F0 H a b := ⟨h.srt.of_out ho hd, h.same.trans (Same.of_out ho hd)⟩
/-- Two neighbours of a list that rose may be merged. -/
theorem Good.merge {F0 : Nat → Nat} {m n : Nat} (hF : ∀ i j, i < j → j < n → F0 i < F0 j) (am : a < m) (mb : m < b) (hn : b ≤ n) (h1 : Good rd F0 G a m) (h2 : Good rd F0 G m b) : MIn rd G a m b :=
  ⟨am, mb, h1.srt, h2.srt, fun i j i1 i2 j1 j2 => by
    obtain ⟨p, p1, p2, e1⟩ := h1.same.1 i i1 i2
    obtain ⟨q, q1, q2, e2⟩ := h2.same.1 j j1 j2
    rw [e1, e2]; exact hF p q (by omega) (by omega)⟩
theorem Good.merged {F0 : Nat → Nat} {m : Nat} (am : a ≤ m) (mb : m ≤ b) (h1 : Good rd F0 G a m) (h2 : Good rd F0 G m b) (h : MOut rd G a b H) : Good rd F0 H a b := by
  refine ⟨h.srt, Same.trans ⟨fun i i1 i2 => ?_, fun i i1 i2 => ?_⟩ h.same⟩
  · by_cases c : i < m
    · obtain ⟨p, p1, p2, e⟩ := h1.same.1 i i1 c
      exact ⟨p, p1, by omega, e⟩
    · obtain ⟨p, p1, p2, e⟩ := h2.same.1 i (by omega) i2
      exact ⟨p, by omega, p2, e⟩
  · by_cases c : i < m
    · obtain ⟨p, p1, p2, e⟩ := h1.same.2 i i1 c
      exact ⟨p, p1, by omega, e⟩
    · obtain ⟨p, p1, p2, e⟩ := h2.same.2 i (by omega) i2
      exact ⟨p, by omega, p2, e⟩

/-- Two lists that are sorted and have the same members are the same. -/
theorem sorted_unique : ∀ {l m : List Nat}, l.Pairwise (Ahead rd) → m.Pairwise (Ahead rd) → (∀ x, x ∈ l ↔ x ∈ m) → l = m
  | [], [], _, _, _ => rfl
  | [], y :: m, _, _, h => absurd ((h y).2 (List.mem_cons_self ..)) (List.not_mem_nil)
  | x :: l, [], _, _, h => absurd ((h x).1 (List.mem_cons_self ..)) (List.not_mem_nil)
  | x :: l, y :: m, hl, hm, h => by
    obtain ⟨hx, hl'⟩ := List.pairwise_cons.1 hl
    obtain ⟨hy, hm'⟩ := List.pairwise_cons.1 hm
    have hxy : x = y := by
      rcases List.mem_cons.1 ((h x).1 (List.mem_cons_self ..)) with e | e
      · exact e
      · rcases List.mem_cons.1 ((h y).2 (List.mem_cons_self ..)) with e' | e'
        · exact e'.symm
        · exact absurd ((hx y e').trans (hy x e)) fun h => h.irrefl
    subst hxy
    congr 1
    refine sorted_unique hl' hm' fun z => ⟨fun hz => ?_, fun hz => ?_⟩
    · rcases List.mem_cons.1 ((h z).1 (List.mem_cons_of_mem _ hz)) with e | e
      · subst e; exact absurd (hx z hz) fun h => h.irrefl
      · exact e
    · rcases List.mem_cons.1 ((h z).2 (List.mem_cons_of_mem _ hz)) with e | e
      · subst e; exact absurd (hy z hz) fun h => h.irrefl
      · exact e
end Go.Proofs.Ytaganococolodaa
