/-
  What packing answers, as a function of the text; that unpacking brings the text back; how long it is; what a packed text that is cut short gives.
-/
import Derived.Test.YtdjkcmjhknabnaaDoorLzPlain
namespace Go.Proofs.YtdjkcmjhknabnaaDoor
open Go.RowKit

/-- Bytes told as they are. -/
def tok (l : List UInt8) : List UInt8 :=
  if _h : l.length = 0 then [] else UInt8.ofNat (min l.length 128 - 1) :: (l.take 128 ++ tok (l.drop 128))
termination_by l.length
decreasing_by rw [List.length_drop]; omega
theorem tok_nil : tok [] = [] := by rw [tok]; rfl
theorem tok_cons {l : List UInt8} (h : l.length ≠ 0) : tok l = UInt8.ofNat (min l.length 128 - 1) :: (l.take 128 ++ tok (l.drop 128)) := by rw [tok, dif_neg h]
/-- How many bytes stand alike, up to so many. -/
def common : Nat → List UInt8 → List UInt8 → Nat
  | 0, _, _ => 0
  | k + 1, x :: xs, y :: ys => if x = y then common k xs ys + 1 else 0
  | _ + 1, _, _ => 0
structure PS where
  place : Nat
  plain : Nat
  out : List UInt8
  seen : List UInt8 → Option Nat
def keyAt (t : List UInt8) (i : Nat) : List UInt8 := (t.drop i).take 3
def seenAt (f : List UInt8 → Option Nat) (k : List UInt8) (i : Nat) : List UInt8 → Option Nat := fun x => if x = k then some i else f x
def copyTok (n d : Nat) : List UInt8 := [UInt8.ofNat (n + 125), UInt8.ofNat (d % 256), UInt8.ofNat (d / 256)]
def litsTo (t : List UInt8) (a b : Nat) : List UInt8 := tok ((t.drop a).take (b - a))
def step (t : List UInt8) (σ : PS) : PS :=
  if t.length < σ.place + 3 then { σ with place := σ.place + 1 }
  else match σ.seen (keyAt t σ.place) with
    | none => ⟨σ.place + 1, σ.plain, σ.out, seenAt σ.seen (keyAt t σ.place) σ.place⟩
    | some o =>
      if σ.place - o ≤ 65536 then
        if 3 ≤ common 130 (t.drop o) (t.drop σ.place) then
          ⟨σ.place + common 130 (t.drop o) (t.drop σ.place), σ.place + common 130 (t.drop o) (t.drop σ.place), σ.out ++ litsTo t σ.plain σ.place ++ copyTok (common 130 (t.drop o) (t.drop σ.place)) (σ.place - o - 1), seenAt σ.seen (keyAt t σ.place) σ.place⟩
        else ⟨σ.place + max (common 130 (t.drop o) (t.drop σ.place)) 1, σ.plain, σ.out, seenAt σ.seen (keyAt t σ.place) σ.place⟩
      else ⟨σ.place + 1, σ.plain, σ.out, seenAt σ.seen (keyAt t σ.place) σ.place⟩
theorem step_lt (t : List UInt8) (σ : PS) : σ.place < (step t σ).place := by
  unfold step
  split
  · exact Nat.lt_succ_self _
  · split
    · exact Nat.lt_succ_self _
    · split
      · split
        · simp only; omega
        · simp only; omega
      · exact Nat.lt_succ_self _
def runP (t : List UInt8) (σ : PS) : PS := if σ.place < t.length then runP t (step t σ) else σ
termination_by t.length - σ.place
decreasing_by have := step_lt t σ; omega
theorem runP_step {t : List UInt8} {σ : PS} (h : σ.place < t.length) : runP t σ = runP t (step t σ) := by rw [runP, if_pos h]
theorem runP_end {t : List UInt8} {σ : PS} (h : ¬ σ.place < t.length) : runP t σ = σ := by rw [runP, if_neg h]
theorem runP_ind {t : List UInt8} {P : PS → Prop} (hs : ∀ σ, P σ → σ.place < t.length → P (step t σ)) (n : Nat) : ∀ σ, t.length - σ.place ≤ n → P σ → P (runP t σ) ∧ ¬ (runP t σ).place < t.length := by
  induction n with
  | zero => intro σ hn h; rw [runP_end (by omega)]; exact ⟨h, by omega⟩
  | succ n ih =>
    intro σ hn h
    by_cases hp : σ.place < t.length
    · rw [runP_step hp]
      exact ih _ (by have := step_lt t σ; omega) (hs σ h hp)
    · rw [runP_end hp]; exact ⟨h, hp⟩
def ps0 : PS := ⟨0, 0, [], fun _ => none⟩
def packO (t : List UInt8) : List UInt8 := 1 :: ((runP t ps0).out ++ litsTo t (runP t ps0).plain t.length)
def packF (t : List UInt8) : List UInt8 := if 65536 < t.length then 0 :: t else if (packO t).length < t.length + 1 then packO t else 0 :: t
theorem packF_le (t : List UInt8) : (packF t).length ≤ t.length + 1 := by
  unfold packF
  split
  · simp
  · split
    · omega
    · simp
theorem common_le : ∀ (k : Nat) (a b : List UInt8), common k a b ≤ k ∧ common k a b ≤ a.length ∧ common k a b ≤ b.length
  | 0, _, _ => by simp [common]
  | k + 1, [], _ => by simp [common]
  | k + 1, _ :: _, [] => by simp [common]
  | k + 1, x :: xs, y :: ys => by
    have := common_le k xs ys
    simp only [common]
    split
    · simp only [List.length_cons]; omega
    · simp
theorem common_eq : ∀ (k : Nat) (a b : List UInt8) (i : Nat), i < common k a b → a.getD i 0 = b.getD i 0
  | 0, _, _, i, h => by simp [common] at h
  | k + 1, [], _, i, h => by simp [common] at h
  | k + 1, _ :: _, [], i, h => by simp [common] at h
  | k + 1, x :: xs, y :: ys, i, h => by
    simp only [common] at h
    split at h
    · rename_i hxy
      cases i with
      | zero => simpa using hxy
      | succ i =>
        have := common_eq k xs ys i (by omega)
        simpa using this
    · omega
theorem tok_len (n : Nat) : ∀ l : List UInt8, l.length ≤ n → (tok l).length ≤ 2 * l.length := by
  induction n with
  | zero => intro l h; rw [List.eq_nil_of_length_eq_zero (Nat.le_zero.1 h), tok_nil]; simp
  | succ n ih =>
    intro l h
    by_cases h0 : l.length = 0
    · rw [List.eq_nil_of_length_eq_zero h0, tok_nil]; simp
    · rw [tok_cons h0]
      have := ih (l.drop 128) (by rw [List.length_drop]; omega)
      rw [List.length_drop] at this
      simp only [List.length_cons, List.length_append, List.length_take]
      omega
theorem toNat_of (n : Nat) (h : n < 256) : (UInt8.ofNat n).toNat = n := by simp; omega
theorem unp_tok (m n : Nat) : ∀ (l rest o : List UInt8), l.length ≤ n → o.length + l.length ≤ m → unp m (tok l ++ rest) o = unp m rest (o ++ l) := by
  induction n with
  | zero => intro l rest o h _; rw [List.eq_nil_of_length_eq_zero (Nat.le_zero.1 h), tok_nil]; simp
  | succ n ih =>
    intro l rest o h hm
    by_cases h0 : l.length = 0
    · rw [List.eq_nil_of_length_eq_zero h0, tok_nil]; simp
    · rw [tok_cons h0, List.cons_append, List.append_assoc]
      have hc : (UInt8.ofNat (min l.length 128 - 1)).toNat = min l.length 128 - 1 := toNat_of _ (by omega)
      have ht : (l.take 128).length = min l.length 128 := by rw [List.length_take, Nat.min_comm]
      rw [unp_lit (by rw [hc]; omega) (by rw [hc, List.length_append, ht]; omega) (by rw [hc]; omega), hc, show min l.length 128 - 1 + 1 = (l.take 128).length by rw [ht]; omega]
      rw [List.drop_left, List.take_left, ih (l.drop 128) rest _ (by rw [List.length_drop]; omega) (by rw [List.length_append, ht, List.length_drop]; omega), List.append_assoc, List.take_append_drop]
theorem copyL_take (t : List UInt8) (p o : Nat) (ho : o < p) : ∀ n, p + n ≤ t.length → (∀ i, i < n → (t.drop o).getD i 0 = (t.drop p).getD i 0) → copyL (t.take p) (p - o - 1) n = t.take (p + n)
  | 0, _, _ => rfl
  | n + 1, hn, he => by
    have ih := copyL_take t p o ho n (by omega) (fun i hi => he i (by omega))
    simp only [copyL, ih]
    have hl : (t.take (p + n)).length = p + n := by rw [List.length_take]; omega
    rw [hl, show p + n - 1 - (p - o - 1) = o + n by omega]
    have h1 := he n (by omega)
    have e1 : (t.take (p + n)).getD (o + n) 0 = (t.drop o).getD n 0 := by
      simp only [List.getD_eq_getElem?_getD, List.getElem?_take, List.getElem?_drop]
      rw [if_pos (by omega)]
    have e2 : (t.drop p).getD n 0 = t[p + n]'(by omega) := by
      simp only [List.getD_eq_getElem?_getD, List.getElem?_drop]
      rw [List.getElem?_eq_getElem (by omega)]; rfl
    rw [e1, h1, e2, show p + (n + 1) = p + n + 1 by omega, List.take_add_one, List.getElem?_eq_getElem (by omega)]
    rfl
/-- What holds at each place. -/
structure Inv (t : List UInt8) (σ : PS) : Prop where
  le : σ.plain ≤ σ.place
  len : σ.place ≤ t.length
  short : σ.out.length ≤ 2 * σ.plain
  old : ∀ k o, σ.seen k = some o → o < σ.place
  back : ∀ m rest, t.length ≤ m → unp m (σ.out ++ rest) [] = unp m rest (t.take σ.plain)
theorem inv0 (t : List UInt8) : Inv t ps0 := ⟨Nat.le_refl _, Nat.zero_le _, Nat.zero_le _, by simp [ps0], fun m rest _ => by simp [ps0]⟩
theorem seenAt_old {f : List UInt8 → Option Nat} {k : List UInt8} {p : Nat} (h : ∀ k o, f k = some o → o < p) (q : Nat) (hq : p < q) : ∀ k' o, seenAt f k p k' = some o → o < q := by
  intro k' o ho
  unfold seenAt at ho
  split at ho
  · injection ho with ho; omega
  · have := h k' o ho; omega
theorem unp_lits {t : List UInt8} {m a b : Nat} {rest : List UInt8} (hab : a ≤ b) (hb : b ≤ t.length) (hm : t.length ≤ m) : unp m (litsTo t a b ++ rest) (t.take a) = unp m rest (t.take b) := by
  unfold litsTo
  rw [unp_tok m t.length _ rest _ (by rw [List.length_take, List.length_drop]; omega) (by rw [List.length_take, List.length_take, List.length_drop]; omega)]
  congr 1
  have := List.take_add (l := t) (i := a) (j := b - a)
  rw [show a + (b - a) = b by omega] at this
  exact this.symm
theorem unp_copyTok {t : List UInt8} {m p o n : Nat} {rest : List UInt8} (h3 : 3 ≤ n) (h130 : n ≤ 130) (ho : o < p) (hw : p - o ≤ 65536) (hp : p + n ≤ t.length) (hm : t.length ≤ m) (he : ∀ i, i < n → (t.drop o).getD i 0 = (t.drop p).getD i 0) :
    unp m (copyTok n (p - o - 1) ++ rest) (t.take p) = unp m rest (t.take (p + n)) := by
  have hc : (UInt8.ofNat (n + 125)).toNat = n + 125 := toNat_of _ (by omega)
  have hb : backOf (UInt8.ofNat ((p - o - 1) % 256) :: UInt8.ofNat ((p - o - 1) / 256) :: rest) = p - o - 1 := by
    unfold backOf
    simp only [List.getD_eq_getElem?_getD, List.getElem?_cons_zero, List.getElem?_cons_succ, Option.getD_some]
    rw [toNat_of _ (by omega), toNat_of _ (by omega)]
    omega
  have hl : (t.take p).length = p := by rw [List.length_take]; omega
  show unp m (UInt8.ofNat (n + 125) :: UInt8.ofNat ((p - o - 1) % 256) :: UInt8.ofNat ((p - o - 1) / 256) :: rest) (t.take p) = _
  rw [unp_copy (by rw [hc]; omega) (by simp) (by rw [hb, hl]; omega) (by rw [hc, hl]; omega), hb, hc, show n + 125 - 125 = n by omega, copyL_take t p o ho n hp he]
  rfl
theorem Inv.lits {t : List UInt8} {σ : PS} (_h : Inv t σ) : (litsTo t σ.plain σ.place).length ≤ 2 * (σ.place - σ.plain) := by
  have := tok_len t.length ((t.drop σ.plain).take (σ.place - σ.plain)) (by rw [List.length_take, List.length_drop]; omega)
  rw [List.length_take, List.length_drop] at this
  unfold litsTo
  omega
theorem inv_step {t : List UInt8} {σ : PS} (h : Inv t σ) (hp : σ.place < t.length) : Inv t (step t σ) := by
  obtain ⟨h1, h2, h3, h4, h5⟩ := h
  have hl := Inv.lits ⟨h1, h2, h3, h4, h5⟩
  unfold step
  split
  · exact ⟨by simp only; omega, by simp only; omega, h3, fun k o ho => by have := h4 k o ho; simp only; omega, h5⟩
  · split
    · exact ⟨by simp only; omega, by simp only; omega, h3, seenAt_old h4 _ (Nat.lt_succ_self _), h5⟩
    · rename_i o ho
      have hoo := h4 _ o ho
      split
      · rename_i hw
        have hc := common_le 130 (t.drop o) (t.drop σ.place)
        have he := common_eq 130 (t.drop o) (t.drop σ.place)
        generalize common 130 (t.drop o) (t.drop σ.place) = n at hc he
        rw [List.length_drop, List.length_drop] at hc
        split
        · rename_i hn
          refine ⟨Nat.le_refl _, by simp only; omega, ?_, seenAt_old h4 _ (by simp only; omega), fun m rest hm => ?_⟩
          · simp only [List.length_append, copyTok, List.length_cons, List.length_nil]; omega
          · simp only [List.append_assoc]
            rw [h5 m _ hm, unp_lits h1 h2 hm, unp_copyTok hn hc.1 hoo hw (by omega) hm he]
        · exact ⟨by simp only; omega, by simp only; omega, h3, seenAt_old h4 _ (by simp only; omega), h5⟩
      · exact ⟨by simp only; omega, by simp only; omega, h3, seenAt_old h4 _ (Nat.lt_succ_self _), h5⟩
theorem inv_run (t : List UInt8) : Inv t (runP t ps0) := (runP_ind (P := Inv t) (fun _ h hp => inv_step h hp) t.length ps0 (Nat.sub_le _ _) (inv0 t)).1
theorem mostN_of {n : Nat} (h : n ≤ 65536) : mostN (n : Int) = n := by unfold mostN; omega
/-- Packed, and unpacked: the text again. -/
theorem unpack_pack (t : List UInt8) (h : t.length ≤ 65536) : unpack (packF t) (t.length : Int) = (⟨t.toArray⟩, 0) := by
  have hI := inv_run t
  have hplain : unpack (0 :: t) (t.length : Int) = (⟨t.toArray⟩, 0) := by
    simp only [unpack]
    rw [if_neg (by decide), if_pos (by decide), if_neg (by rw [mostN_of h]; omega)]
  unfold packF
  rw [if_neg (by omega)]
  split
  · unfold packO
    simp only [unpack]
    rw [if_neg (by decide), if_neg (by decide), mostN_of h, hI.back _ _ (Nat.le_refl _)]
    have := unp_lits (t := t) (rest := []) (Nat.le_trans hI.le hI.len) (Nat.le_refl _) (Nat.le_refl _)
    rw [List.append_nil] at this
    rw [this, unp_nil, List.take_length]
  · exact hplain
end Go.Proofs.YtdjkcmjhknabnaaDoor
