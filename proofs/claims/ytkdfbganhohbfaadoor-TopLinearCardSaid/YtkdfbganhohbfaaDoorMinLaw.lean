/-
  The least polynomial of a power, as a product over the roots: its coefficients, its values, its degree.
-/
import Derived.Test.YtkdfbganhohbfaaDoorGfPlain
namespace Go.Proofs.YtkdfbganhohbfaaDoor.Gf

theorem mul_eq_zero {a b : Nat} (ha : a < 8192) (hb : b < 8192) (h : mul a b = 0) : a = 0 ∨ b = 0 := by
  rcases Nat.eq_zero_or_pos a with h0 | h0
  · exact .inl h0
  · rcases Nat.eq_zero_or_pos b with h1 | h1
    · exact .inr h1
    · have := mul_pos h0 ha h1 hb; omega
theorem xor_eq_zero {a b : Nat} (h : a ^^^ b = 0) : a = b := by
  have := xor_cancel a b
  rw [h, Nat.zero_xor] at this
  exact this.symm
theorem mul_right_comm {a b c : Nat} (ha : a < 8192) (hb : b < 8192) (hc : c < 8192) : mul (mul a b) c = mul (mul a c) b := by
  rw [mul_assoc ha hb hc, mul_comm hb hc, ← mul_assoc ha hc hb]
theorem sq_xor {a b : Nat} (ha : a < 8192) (hb : b < 8192) : mul (a ^^^ b) (a ^^^ b) = mul a a ^^^ mul b b := by
  rw [mul_xor_left _ ha hb, mul_xor_right _ _ ha, mul_xor_right _ _ hb, mul_comm hb ha]
  rw [show mul a a ^^^ mul a b ^^^ (mul a b ^^^ mul b b) = mul a a ^^^ mul b b ^^^ mul a b ^^^ mul a b by ac_rfl, xor_cancel]
theorem sq_mul {a b : Nat} (ha : a < 8192) (hb : b < 8192) : mul (mul a b) (mul a b) = mul (mul a a) (mul b b) := by
  rw [mul_assoc ha hb (mul_lt _ ha), ← mul_assoc hb ha hb, mul_comm hb ha, mul_assoc ha hb hb, ← mul_assoc ha ha (mul_lt _ hb)]
theorem sq_inj {a b : Nat} (ha : a < 8192) (hb : b < 8192) (h : mul a a = mul b b) : a = b := by
  have h1 := sq_xor ha hb
  rw [h, Nat.xor_self] at h1
  rcases mul_eq_zero (xor_lt ha hb) (xor_lt ha hb) h1 with h2 | h2 <;> exact xor_eq_zero h2
theorem sq_fix {a : Nat} (ha : a < 8192) (h : mul a a = a) : a = 0 ∨ a = 1 := by
  have h1 : mul a (a ^^^ 1) = 0 := by rw [mul_xor_right _ _ ha, h, mul_one ha, Nat.xor_self]
  rcases mul_eq_zero ha (xor_lt ha (by omega)) h1 with h2 | h2
  · exact .inl h2
  · exact .inr (xor_eq_zero h2)

def AllF (c : List Nat) : Prop := ∀ v ∈ c, v < 8192
theorem AllF.head {v : Nat} {c : List Nat} (h : AllF (v :: c)) : v < 8192 := h v (by simp)
theorem AllF.tail {v : Nat} {c : List Nat} (h : AllF (v :: c)) : AllF c := fun x hx => h x (by simp [hx])
theorem AllF.getD {c : List Nat} (h : AllF c) (i : Nat) : c.getD i 0 < 8192 := by
  rw [List.getD_eq_getElem?_getD]
  cases hc : c[i]? with
  | none => simp
  | some v => exact h v (List.mem_of_getElem? hc)
/-- The value at x; the lowest coefficient first. -/
def ev : List Nat → Nat → Nat
  | [], _ => 0
  | c :: cs, x => c ^^^ mul (ev cs x) x
theorem ev_lt {x : Nat} : ∀ {c : List Nat}, AllF c → ev c x < 8192
  | [], _ => by simp [ev]
  | _ :: _, h => xor_lt h.head (mul_lt _ (ev_lt h.tail))
def mulAux (a : Nat) : Nat → List Nat → List Nat
  | p, [] => [p]
  | p, v :: vs => (p ^^^ mul v a) :: mulAux a v vs
/-- Times x + a. -/
def mulx (c : List Nat) (a : Nat) : List Nat := mulAux a 0 c
theorem mulAux_len (a : Nat) : ∀ (c : List Nat) (p : Nat), (mulAux a p c).length = c.length + 1
  | [], _ => rfl
  | v :: vs, _ => by simp [mulAux, mulAux_len a vs v]
theorem mulAux_lt {a : Nat} : ∀ {c : List Nat} {p : Nat}, AllF c → p < 8192 → AllF (mulAux a p c)
  | [], p, _, hp => by intro v hv; simp [mulAux] at hv; omega
  | v :: vs, p, h, hp => by
    intro x hx
    simp only [mulAux, List.mem_cons] at hx
    rcases hx with rfl | hx
    · exact xor_lt hp (mul_lt _ h.head)
    · exact mulAux_lt h.tail h.head x hx
theorem mulx_len (c : List Nat) (a : Nat) : (mulx c a).length = c.length + 1 := mulAux_len a c 0
theorem mulx_lt {c : List Nat} {a : Nat} (h : AllF c) : AllF (mulx c a) := mulAux_lt h (by omega)
theorem ev_mulAux {a x : Nat} (ha : a < 8192) (hx : x < 8192) : ∀ {c : List Nat} {p : Nat}, AllF c → p < 8192 → ev (mulAux a p c) x = p ^^^ mul (ev c x) (x ^^^ a)
  | [], p, _, _ => by simp [mulAux, ev, mul_zero_left]
  | v :: vs, p, h, hp => by
    have he := ev_lt (x := x) h.tail
    simp only [mulAux, ev]
    rw [ev_mulAux ha hx h.tail h.head, mul_xor_left _ h.head (mul_lt _ he), mul_xor_left _ h.head (mul_lt _ he), mul_xor_right _ _ h.head, mul_right_comm he hx (xor_lt hx ha)]
    ac_rfl
theorem ev_mulx {a x : Nat} {c : List Nat} (ha : a < 8192) (hx : x < 8192) (h : AllF c) : ev (mulx c a) x = mul (ev c x) (x ^^^ a) := by
  unfold mulx
  rw [ev_mulAux ha hx h (by omega), Nat.zero_xor]
theorem mulAux_zero (a : Nat) : ∀ (c : List Nat) (p : Nat), (mulAux a p c).getD 0 0 = p ^^^ mul (c.getD 0 0) a
  | [], p => by simp [mulAux, mul_zero_left]
  | v :: vs, p => by simp [mulAux]
theorem mulAux_succ (a : Nat) : ∀ (c : List Nat) (p i : Nat), (mulAux a p c).getD (i + 1) 0 = c.getD i 0 ^^^ mul (c.getD (i + 1) 0) a
  | [], p, i => by simp [mulAux, mul_zero_left]
  | v :: vs, p, 0 => by
    have := mulAux_zero a vs v
    simp only [mulAux, List.getD_cons_succ, List.getD_cons_zero]
    exact this
  | v :: vs, p, i + 1 => by
    have := mulAux_succ a vs v i
    simp only [mulAux, List.getD_cons_succ]
    exact this
theorem list_ext {a b : List Nat} (hl : a.length = b.length) (h : ∀ i, a.getD i 0 = b.getD i 0) : a = b := by
  apply List.ext_getElem hl
  intro i h1 h2
  have := h i
  simpa [List.getD_eq_getElem?_getD, List.getElem?_eq_getElem h1, List.getElem?_eq_getElem h2] using this
theorem mulx_comm {c : List Nat} {a b : Nat} (h : AllF c) (ha : a < 8192) (hb : b < 8192) : mulx (mulx c a) b = mulx (mulx c b) a := by
  refine list_ext (by simp [mulx_len]) fun i => ?_
  unfold mulx
  match i with
  | 0 =>
    rw [mulAux_zero, mulAux_zero, mulAux_zero, mulAux_zero, Nat.zero_xor, Nat.zero_xor, Nat.zero_xor, Nat.zero_xor, mul_right_comm (h.getD 0) ha hb]
  | 1 =>
    rw [mulAux_succ, mulAux_succ, mulAux_succ, mulAux_succ, mulAux_zero, mulAux_zero, Nat.zero_xor, Nat.zero_xor]
    rw [mul_xor_left _ (h.getD 0) (mul_lt _ (h.getD _)), mul_xor_left _ (h.getD 0) (mul_lt _ (h.getD _)), mul_right_comm (h.getD _) ha hb]
    ac_rfl
  | i + 2 =>
    rw [mulAux_succ, mulAux_succ, mulAux_succ, mulAux_succ, mulAux_succ, mulAux_succ]
    rw [mul_xor_left _ (h.getD _) (mul_lt _ (h.getD _)), mul_xor_left _ (h.getD _) (mul_lt _ (h.getD _)), mul_right_comm (h.getD (i + 1 + 1)) ha hb]
    ac_rfl
/-- The product of x + a over a list. -/
def prodL (c : List Nat) (L : List Nat) : List Nat := L.foldl mulx c
theorem prodL_lt : ∀ (L : List Nat) {c : List Nat}, AllF c → AllF (prodL c L)
  | [], _, h => h
  | _ :: L, _, h => prodL_lt L (mulx_lt h)
theorem prodL_len : ∀ (L c : List Nat), (prodL c L).length = c.length + L.length
  | [], c => rfl
  | a :: L, c => by
    have := prodL_len L (mulx c a)
    rw [mulx_len] at this
    simp only [prodL, List.foldl_cons, List.length_cons] at this ⊢
    omega
theorem prodL_front : ∀ (L : List Nat) {c : List Nat} {a : Nat}, AllF c → a < 8192 → AllF L → prodL (mulx c a) L = mulx (prodL c L) a
  | [], _, _, _, _, _ => rfl
  | b :: L, c, a, h, ha, hL => by
    have := prodL_front L (c := mulx c b) (a := a) (mulx_lt h) ha hL.tail
    simp only [prodL, List.foldl_cons] at this ⊢
    rw [mulx_comm h ha hL.head, this]
theorem prodL_zero {x : Nat} (hx : x < 8192) : ∀ (L : List Nat) {c : List Nat}, AllF c → AllF L → (ev (prodL c L) x = 0 ↔ ev c x = 0 ∨ x ∈ L)
  | [], c, _, _ => by simp [prodL]
  | a :: L, c, h, hL => by
    have := prodL_zero hx L (c := mulx c a) (mulx_lt h) hL.tail
    show ev (prodL (mulx c a) L) x = 0 ↔ _
    rw [this, ev_mulx hL.head hx h, List.mem_cons]
    constructor
    · rintro (h1 | h1)
      · rcases mul_eq_zero (ev_lt h) (xor_lt hx hL.head) h1 with h2 | h2
        · exact .inl h2
        · exact .inr (.inl (xor_eq_zero h2))
      · exact .inr (.inr h1)
    · rintro (h1 | rfl | h1)
      · exact .inl (by rw [h1, mul_zero_left])
      · exact .inl (by rw [Nat.xor_self, mul_zero_right])
      · exact .inr h1
theorem prodL_top : ∀ (L : List Nat) {c : List Nat}, c ≠ [] → c.getD (c.length - 1) 0 = 1 → (prodL c L).getD (c.length - 1 + L.length) 0 = 1
  | [], c, _, h => h
  | a :: L, c, h0, h => by
    have hl : 0 < c.length := List.length_pos_iff.2 h0
    have h2 : (mulx c a).getD ((mulx c a).length - 1) 0 = 1 := by
      rw [mulx_len, show c.length + 1 - 1 = (c.length - 1) + 1 by omega]
      unfold mulx
      rw [mulAux_succ, h, show c.getD (c.length - 1 + 1) 0 = 0 by rw [List.getD_eq_getElem?_getD, List.getElem?_eq_none (by omega)]; rfl, mul_zero_left, Nat.xor_zero]
    have := prodL_top L (c := mulx c a) (by intro e; have := mulx_len c a; rw [e] at this; simp at this) h2
    rw [mulx_len] at this
    show (prodL (mulx c a) L).getD (c.length - 1 + (L.length + 1)) 0 = 1
    rw [show c.length - 1 + (L.length + 1) = c.length + 1 - 1 + L.length by omega]
    exact this
def sqL (c : List Nat) : List Nat := c.map fun v => mul v v
theorem sqL_mulAux {a : Nat} (ha : a < 8192) : ∀ {c : List Nat} {p : Nat}, AllF c → p < 8192 → sqL (mulAux a p c) = mulAux (mul a a) (mul p p) (sqL c)
  | [], _, _, _ => rfl
  | v :: vs, p, h, hp => by
    have := sqL_mulAux ha h.tail h.head
    simp only [sqL, mulAux, List.map_cons] at this ⊢
    rw [this, sq_xor hp (mul_lt _ h.head), sq_mul h.head ha]
theorem sqL_prod : ∀ (L : List Nat) {c : List Nat}, AllF c → AllF L → sqL (prodL c L) = prodL (sqL c) (sqL L)
  | [], _, _, _ => rfl
  | a :: L, c, h, hL => by
    have := sqL_prod L (c := mulx c a) (mulx_lt h) hL.tail
    show sqL (prodL (mulx c a) L) = prodL (mulx (sqL c) (mul a a)) (sqL L)
    rw [this]
    congr 1
    unfold mulx
    rw [sqL_mulAux hL.head h (by omega), mul_zero_left]

/-! squares of squares -/
def sqs (r : Nat) : Nat → Nat
  | 0 => r
  | j + 1 => mul (sqs r j) (sqs r j)
theorem sqs_lt {r : Nat} (h : r < 8192) : ∀ j, sqs r j < 8192
  | 0 => h
  | j + 1 => mul_lt _ (sqs_lt h j)
theorem sqs_pw (i : Nat) : ∀ j, sqs (pw i) j = pw (i * 2 ^ j)
  | 0 => by simp [sqs]
  | j + 1 => by rw [sqs, sqs_pw i j, mul_pw]; congr 1; rw [Nat.pow_succ, ← Nat.mul_assoc]; omega
theorem sqs_13 {r : Nat} (h0 : 0 < r) (h : r < 8192) : sqs r 13 = r := by
  obtain ⟨i, _, rfl⟩ := pw_surj h0 h
  rw [sqs_pw, show i * 2 ^ 13 = i + 8191 * i by omega, pw_mul_order]
theorem sqs_inj {r : Nat} (h : r < 8192) : ∀ i k, sqs r i = sqs r (i + k) → r = sqs r k
  | 0, k, e => by rw [Nat.zero_add] at e; exact e
  | i + 1, k, e => by
    rw [show i + 1 + k = (i + k) + 1 by omega] at e
    exact sqs_inj h i k (sq_inj (sqs_lt h i) (sqs_lt h _) e)
def rootsAux : Nat → List Nat → Nat → List Nat
  | 0, l, _ => l
  | n + 1, l, r => if r ∈ l then l else rootsAux n (l ++ [r]) (mul r r)
/-- All the roots: the element and its squares, until one comes again. -/
def rootsF (r : Nat) : List Nat := rootsAux 14 [] r
def sqsL (r n : Nat) : List Nat := (List.range n).map (sqs r)
theorem sqsL_succ (r n : Nat) : sqsL r (n + 1) = sqsL r n ++ [sqs r n] := by simp [sqsL, List.range_succ]
theorem sqsL_mem {r n x : Nat} : x ∈ sqsL r n ↔ ∃ j, j < n ∧ sqs r j = x := by simp [sqsL]
theorem sqsL_lt {r : Nat} (h : r < 8192) (n : Nat) : AllF (sqsL r n) := by
  intro v hv
  obtain ⟨j, _, rfl⟩ := sqsL_mem.1 hv
  exact sqs_lt h j
structure Round (r n : Nat) : Prop where
  pos : 0 < n
  le : n ≤ 13
  nodup : (sqsL r n).Nodup
  back : sqs r n = r
theorem round_of {r n : Nat} (h : r < 8192) (hn : n ≤ 13) (hd : (sqsL r n).Nodup) (hm : sqs r n ∈ sqsL r n) : Round r n := by
  obtain ⟨j, hj, he⟩ := sqsL_mem.1 hm
  have hb := sqs_inj h j (n - j) (by rw [show j + (n - j) = n by omega]; exact he)
  refine ⟨by omega, hn, hd, ?_⟩
  by_cases h0 : j = 0
  · rw [h0, Nat.sub_zero] at hb; exact hb.symm
  · exfalso
    have hp := List.pairwise_iff_getElem.1 hd 0 (n - j) (by simp [sqsL]; omega) (by simp [sqsL]; omega) (by omega)
    simp only [sqsL, List.getElem_map, List.getElem_range] at hp
    exact hp hb
theorem rootsAux_round {r : Nat} (h0 : 0 < r) (h : r < 8192) : ∀ (f j : Nat), f + j = 14 → (sqsL r j).Nodup → ∃ n, rootsAux f (sqsL r j) (sqs r j) = sqsL r n ∧ Round r n
  | 0, j, hf, hd => by
    exfalso
    have hp := List.pairwise_iff_getElem.1 hd 0 13 (by simp [sqsL]; omega) (by simp [sqsL]; omega) (by omega)
    simp only [sqsL, List.getElem_map, List.getElem_range] at hp
    exact hp (sqs_13 h0 h).symm
  | f + 1, j, hf, hd => by
    by_cases hm : sqs r j ∈ sqsL r j
    · have hj : j ≤ 13 := by omega
      exact ⟨j, by rw [rootsAux, if_pos hm], round_of h hj hd hm⟩
    · obtain ⟨n, h1, h2⟩ := rootsAux_round h0 h f (j + 1) (by omega) (by
        rw [sqsL_succ, List.nodup_append]
        exact ⟨hd, by simp, by intro a ha b hb; simp at hb; subst hb; intro e; subst e; exact hm ha⟩)
      exact ⟨n, by rw [rootsAux, if_neg hm, ← sqsL_succ]; exact h1, h2⟩
theorem roots_round {r : Nat} (h0 : 0 < r) (h : r < 8192) : ∃ n, rootsF r = sqsL r n ∧ Round r n := rootsAux_round h0 h 14 0 rfl (by simp [sqsL])
/-- The coefficients. -/
def coefs (r : Nat) : List Nat := prodL [1] (rootsF r)
theorem one_lt : AllF [1] := by intro v hv; simp at hv; omega
theorem roots_lt {r : Nat} (h0 : 0 < r) (h : r < 8192) : AllF (rootsF r) := by
  obtain ⟨n, e, _⟩ := roots_round h0 h
  rw [e]; exact sqsL_lt h n
theorem coefs_lt {r : Nat} : AllF (coefs r) := prodL_lt _ one_lt
theorem coefs_sq {r : Nat} (h0 : 0 < r) (h : r < 8192) : sqL (coefs r) = coefs r := by
  obtain ⟨n, e, hR⟩ := roots_round h0 h
  obtain ⟨m, rfl⟩ : ∃ m, n = m + 1 := ⟨n - 1, by have := hR.pos; omega⟩
  have hl := sqsL_lt h (m + 1)
  have e1 : sqsL r (m + 1) = r :: (List.range m).map fun j => sqs r (j + 1) := by
    simp [sqsL, List.range_succ_eq_map, Function.comp_def, sqs]
  have e2 : sqL (sqsL r (m + 1)) = ((List.range m).map fun j => sqs r (j + 1)) ++ [r] := by
    have : sqL (sqsL r (m + 1)) = (List.range (m + 1)).map fun j => sqs r (j + 1) := by simp [sqL, sqsL, Function.comp_def, sqs]
    rw [this, List.range_succ, List.map_append]
    simp [hR.back]
  unfold coefs
  rw [e, sqL_prod _ one_lt hl, e2, show sqL [1] = [1] by decide, e1]
  rw [e1] at hl
  show prodL [1] (_ ++ [r]) = prodL (mulx [1] r) _
  rw [prodL_front _ one_lt h hl.tail]
  simp [prodL]
theorem coefs_bin {r : Nat} (h0 : 0 < r) (h : r < 8192) : ∀ v ∈ coefs r, v = 0 ∨ v = 1 := by
  intro v hv
  obtain ⟨i, hi, rfl⟩ := List.getElem_of_mem hv
  have h1 : (sqL (coefs r))[i]? = (coefs r)[i]? := by rw [coefs_sq h0 h]
  simp only [sqL, List.getElem?_map, List.getElem?_eq_getElem hi, Option.map_some, Option.some.injEq] at h1
  exact sq_fix (coefs_lt _ (List.getElem_mem hi)) h1
theorem coefs_zero {r x : Nat} (h0 : 0 < r) (h : r < 8192) (hx : x < 8192) : ev (coefs r) x = 0 ↔ x ∈ rootsF r := by
  unfold coefs
  rw [prodL_zero hx _ one_lt (roots_lt h0 h)]
  simp [ev, mul_zero_left]
theorem coefs_len (r : Nat) : (coefs r).length = (rootsF r).length + 1 := by unfold coefs; rw [prodL_len]; simp; omega
theorem coefs_top (r : Nat) : (coefs r).getD (rootsF r).length 0 = 1 := by
  have := prodL_top (rootsF r) (c := [1]) (by simp) (by simp)
  simpa [coefs] using this

/-! a polynomial over two numbers as a number -/
def mask : List Nat → Nat
  | [] => 0
  | v :: vs => 2 * mask vs + if v = 1 then 1 else 0
def evN : Nat → Nat → Nat → Nat
  | 0, _, _ => 0
  | n + 1, M, x => (M % 2) ^^^ mul (evN n (M / 2) x) x
theorem mod2_lt (M : Nat) : M % 2 < 8192 := by omega
theorem evN_lt {x : Nat} : ∀ (n M : Nat), evN n M x < 8192
  | 0, _ => by simp [evN]
  | n + 1, M => xor_lt (mod2_lt M) (mul_lt _ (evN_lt n _))
theorem evN_mask {x : Nat} : ∀ {c : List Nat}, (∀ v ∈ c, v = 0 ∨ v = 1) → evN c.length (mask c) x = ev c x
  | [], _ => rfl
  | v :: vs, h => by
    have ih := evN_mask (x := x) (c := vs) (fun w hw => h w (by simp [hw]))
    have hv := h v (by simp)
    simp only [List.length_cons, evN, ev, mask]
    rw [← ih]
    rcases hv with rfl | rfl
    · rw [if_neg (by omega), show (2 * mask vs + 0) % 2 = 0 by omega, show (2 * mask vs + 0) / 2 = mask vs by omega]
    · rw [if_pos rfl, show (2 * mask vs + 1) % 2 = 1 by omega, show (2 * mask vs + 1) / 2 = mask vs by omega]
theorem mask_lt : ∀ c : List Nat, mask c < 2 ^ c.length
  | [] => by simp [mask]
  | v :: vs => by
    have := mask_lt vs
    simp only [mask, List.length_cons, Nat.pow_succ]
    split <;> omega
theorem mask_bit : ∀ (c : List Nat) (i : Nat), (mask c).testBit i = decide (c.getD i 0 = 1)
  | [], i => by simp [mask]
  | v :: vs, 0 => by
    simp only [mask, Nat.testBit_zero, List.getD_cons_zero]
    split <;> simp_all
  | v :: vs, i + 1 => by
    rw [Nat.testBit_succ, List.getD_cons_succ, ← mask_bit vs i]
    congr 1
    simp only [mask]
    split <;> omega
theorem xor_par (A C : Nat) : (A ^^^ C) % 2 = (A % 2) ^^^ (C % 2) := by
  have := xor_bit A C 0
  simp only [Nat.pow_zero, Nat.div_one] at this
  rw [this]
  have h1 : A % 2 < 2 := Nat.mod_lt _ (by omega)
  have h2 : C % 2 < 2 := Nat.mod_lt _ (by omega)
  generalize A % 2 = a at *
  generalize C % 2 = c at *
  match a, c, h1, h2 with
  | 0, 0, _, _ => rfl
  | 0, 1, _, _ => rfl
  | 1, 0, _, _ => rfl
  | 1, 1, _, _ => rfl
theorem xor_half (A C : Nat) : (A ^^^ C) / 2 = A / 2 ^^^ C / 2 := by
  apply Nat.eq_of_testBit_eq
  intro i
  rw [← Nat.testBit_succ, Nat.testBit_xor, Nat.testBit_xor, ← Nat.testBit_succ, ← Nat.testBit_succ]
theorem evN_xor {x : Nat} : ∀ (n A C : Nat), evN n (A ^^^ C) x = evN n A x ^^^ evN n C x
  | 0, _, _ => by simp [evN]
  | n + 1, A, C => by
    simp only [evN]
    rw [xor_par, xor_half, evN_xor n, mul_xor_left _ (evN_lt n _) (evN_lt n _)]
    ac_rfl
theorem evN_zero {x : Nat} : ∀ n, evN n 0 x = 0
  | 0 => rfl
  | n + 1 => by simp [evN, evN_zero n, mul_zero_left]
theorem evN_pow {x : Nat} : ∀ (n d : Nat), d < n → evN n (2 ^ d) x = pow x d
  | 0, _, h => by omega
  | n + 1, 0, _ => by simp [evN, evN_zero, mul_zero_left, pow]
  | n + 1, d + 1, h => by
    simp only [evN, pow]
    rw [show (2 ^ (d + 1)) % 2 = 0 by rw [Nat.pow_succ]; omega, show (2 ^ (d + 1)) / 2 = 2 ^ d by rw [Nat.pow_succ]; omega, evN_pow n d (by omega), Nat.zero_xor]
theorem evN_sq {x : Nat} (hx : x < 8192) : ∀ (n M : Nat), evN n M (mul x x) = mul (evN n M x) (evN n M x)
  | 0, _ => by simp [evN, mul_zero_left]
  | n + 1, M => by
    have hm : mul (M % 2) (M % 2) = M % 2 := by
      have : M % 2 < 2 := Nat.mod_lt _ (by omega)
      generalize M % 2 = m at *
      match m, this with
      | 0, _ => decide
      | 1, _ => decide
    simp only [evN]
    rw [evN_sq hx n, sq_xor (mod2_lt M) (mul_lt _ (evN_lt n _)), hm, sq_mul (evN_lt n _) hx]
theorem evN_sqs {r : Nat} (h : r < 8192) {n M : Nat} (h0 : evN n M r = 0) : ∀ j, evN n M (sqs r j) = 0
  | 0 => h0
  | j + 1 => by rw [sqs, evN_sq (sqs_lt h j), evN_sqs h h0 j, mul_zero_left]
theorem evN_more {x : Nat} : ∀ (n m M : Nat), n ≤ m → M < 2 ^ n → evN m M x = evN n M x
  | 0, m, M, _, h => by
    have : M = 0 := by simpa using h
    rw [this, evN_zero, evN_zero]
  | n + 1, 0, M, h, _ => by omega
  | n + 1, m + 1, M, h, hM => by
    simp only [evN]
    rw [evN_more n m (M / 2) (by omega) (by rw [Nat.pow_succ] at hM; omega)]

/-! no more roots than the degree -/
def bitl : Nat → Nat → List Nat
  | 0, _ => []
  | n + 1, M => (M % 2) :: bitl n (M / 2)
theorem bitl_len : ∀ n M, (bitl n M).length = n
  | 0, _ => rfl
  | n + 1, M => by simp [bitl, bitl_len n]
theorem bitl_lt : ∀ n M, AllF (bitl n M)
  | 0, _ => by intro v hv; simp [bitl] at hv
  | n + 1, M => by
    intro v hv
    simp only [bitl, List.mem_cons] at hv
    rcases hv with rfl | hv
    · exact mod2_lt M
    · exact bitl_lt n _ v hv
theorem ev_bitl {x : Nat} : ∀ n M, ev (bitl n M) x = evN n M x
  | 0, _ => rfl
  | n + 1, M => by simp [bitl, ev, evN, ev_bitl n]
theorem bitl_zero : ∀ n M, M < 2 ^ n → (∀ v ∈ bitl n M, v = 0) → M = 0
  | 0, M, h, _ => by simpa using h
  | n + 1, M, h, hz => by
    have h1 := bitl_zero n (M / 2) (by rw [Nat.pow_succ] at h; omega) (fun v hv => hz v (by simp [bitl, hv]))
    have h2 := hz (M % 2) (by simp [bitl])
    omega
def quot (a : Nat) : List Nat → List Nat
  | [] => []
  | [_] => []
  | _ :: c :: cs => ev (c :: cs) a :: quot a (c :: cs)
theorem quot_len (a : Nat) : ∀ c : List Nat, (quot a c).length = c.length - 1
  | [] => rfl
  | [_] => rfl
  | _ :: c :: cs => by
    have := quot_len a (c :: cs)
    simp only [quot, List.length_cons] at this ⊢
    omega
theorem quot_lt {a : Nat} : ∀ {c : List Nat}, AllF c → AllF (quot a c)
  | [], _ => by intro v hv; simp [quot] at hv
  | [_], _ => by intro v hv; simp [quot] at hv
  | _ :: c :: cs, h => by
    intro v hv
    simp only [quot, List.mem_cons] at hv
    rcases hv with rfl | hv
    · exact ev_lt h.tail
    · exact quot_lt h.tail v hv
theorem ev_quot {a x : Nat} (ha : a < 8192) (hx : x < 8192) : ∀ {c : List Nat}, AllF c → ev c x = mul (ev (quot a c) x) (x ^^^ a) ^^^ ev c a
  | [], _ => by simp [quot, ev, mul_zero_left]
  | [c0], h => by simp [quot, ev, mul_zero_left]
  | c0 :: c :: cs, h => by
    have ih := ev_quot ha hx (c := c :: cs) h.tail
    have hq := ev_lt (x := x) (quot_lt (a := a) h.tail)
    have hs := ev_lt (x := a) h.tail
    have e1 : ev (c0 :: c :: cs) x = c0 ^^^ mul (ev (c :: cs) x) x := rfl
    have e2 : ev (c0 :: c :: cs) a = c0 ^^^ mul (ev (c :: cs) a) a := rfl
    have e3 : ev (quot a (c0 :: c :: cs)) x = ev (c :: cs) a ^^^ mul (ev (quot a (c :: cs)) x) x := rfl
    rw [e1, e2, e3, ih]
    generalize ev (c :: cs) a = s at *
    generalize ev (quot a (c :: cs)) x = q at *
    have hxa := xor_lt hx ha
    rw [mul_xor_left _ (mul_lt _ hq) hs, mul_xor_left _ hs (mul_lt _ hq), mul_right_comm hq hx hxa, mul_xor_right _ _ hs]
    rw [show mul s x ^^^ mul s a ^^^ mul (mul q (x ^^^ a)) x ^^^ (c0 ^^^ mul s a) = c0 ^^^ (mul (mul q (x ^^^ a)) x ^^^ mul s x) ^^^ mul s a ^^^ mul s a by ac_rfl, xor_cancel]
theorem quot_zero {a : Nat} : ∀ {c : List Nat}, AllF c → ev c a = 0 → (∀ v ∈ quot a c, v = 0) → ∀ v ∈ c, v = 0
  | [], _, _, _ => by intro v hv; simp at hv
  | [c0], _, h0, _ => by
    intro v hv
    simp [ev, mul_zero_left] at h0
    simp at hv
    omega
  | c0 :: c :: cs, h, h0, hq => by
    have h1 : ev (c :: cs) a = 0 := hq _ (by simp [quot])
    have h2 := quot_zero (c := c :: cs) h.tail h1 (fun v hv => hq v (by simp [quot, hv]))
    have e2 : ev (c0 :: c :: cs) a = c0 ^^^ mul (ev (c :: cs) a) a := rfl
    rw [e2, h1, mul_zero_left, Nat.xor_zero] at h0
    intro v hv
    rcases List.mem_cons.1 hv with rfl | hv
    · exact h0
    · exact h2 v hv
theorem few_roots : ∀ (L : List Nat) {c : List Nat}, AllF c → AllF L → L.Nodup → c.length ≤ L.length → (∀ a ∈ L, ev c a = 0) → ∀ v ∈ c, v = 0
  | [], c, _, _, _, hl, _ => by
    intro v hv
    have hc : c = [] := List.eq_nil_of_length_eq_zero (by simpa using hl)
    rw [hc] at hv
    simp at hv
  | a :: L, c, h, hL, hd, hl, hz => by
    have hd2 := List.nodup_cons.1 hd
    refine quot_zero h (hz a (by simp)) (few_roots L (quot_lt h) hL.tail hd2.2 (by rw [quot_len]; simp at hl; omega) fun b hb => ?_)
    have hb8 := hL.tail b hb
    have h1 := ev_quot hL.head hb8 h
    rw [hz b (by simp [hb]), hz a (by simp), Nat.xor_zero] at h1
    rcases mul_eq_zero (ev_lt (quot_lt h)) (xor_lt hb8 hL.head) h1.symm with h2 | h2
    · exact h2
    · exact absurd (xor_eq_zero h2 ▸ hb) hd2.1
end Go.Proofs.YtkdfbganhohbfaaDoor.Gf
