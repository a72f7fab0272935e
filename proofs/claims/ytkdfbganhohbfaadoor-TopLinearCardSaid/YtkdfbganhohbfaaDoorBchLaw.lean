/-
  The division by the generator, and that it adds up as the bits do.
-/
import Derived.Test.YtkdfbganhohbfaaDoorBchLeft
namespace Go.Proofs.YtkdfbganhohbfaaDoor
open Go.RowKit

def xorL (a b : List UInt8) : List UInt8 := List.zipWith (· ^^^ ·) a b
def stepB (low r : List UInt8) (b : UInt8) : List UInt8 := if (leftL r).2 = b then (leftL r).1 else xorL (leftL r).1 low
def bitAt (x : UInt8) (k : Nat) : UInt8 := (x >>> UInt8.ofNat k) &&& 1
def bitsD (low : List UInt8) (x : UInt8) (r : List UInt8) : Nat → List UInt8
  | 0 => r
  | k + 1 => bitsD low x (stepB low r (bitAt x k)) k
@[irreducible] def byteD (low : List UInt8) (x : UInt8) (r : List UInt8) : List UInt8 := bitsD low x r 8
def divD (low : List UInt8) (r : List UInt8) : List UInt8 → List UInt8
  | [] => r
  | x :: t => divD low (byteD low x r) t
theorem xorL_len {a b : List UInt8} (h : a.length = b.length) : (xorL a b).length = a.length := by simp [xorL, h]
theorem stepB_len {low r : List UInt8} (h : low.length = r.length) (b : UInt8) : (stepB low r b).length = r.length := by
  unfold stepB
  split
  · exact leftL_len r
  · rw [xorL_len (by rw [leftL_len, h]), leftL_len]
theorem leftL_bit (l : List UInt8) : (leftL l).2 = 0 ∨ (leftL l).2 = 1 := by
  cases l with
  | nil => exact .inl rfl
  | cons x r =>
    have h : (x >>> 7).toNat = x.toNat / 128 := shr_seven x
    have := x.toNat_lt
    have h2 : (x >>> 7).toNat = 0 ∨ (x >>> 7).toNat = 1 := by omega
    rcases h2 with h2 | h2
    · exact .inl (UInt8.toNat_inj.1 h2)
    · exact .inr (UInt8.toNat_inj.1 h2)
theorem or_one_all : ∀ n : Nat, n < 256 → (UInt8.ofNat n <<< 1) ||| (1 : UInt8) = (UInt8.ofNat n <<< 1) ^^^ (1 : UInt8) := by decide +kernel
theorem or_bit1 (x o : UInt8) (h : o = 0 ∨ o = 1) : (x <<< 1) ||| o = (x <<< 1) ^^^ o := by
  rcases h with rfl | rfl
  · simp
  · have := or_one_all x.toNat x.toNat_lt
    rwa [UInt8.ofNat_toNat] at this
theorem leftL_xor : ∀ {a b : List UInt8}, a.length = b.length → leftL (xorL a b) = (xorL (leftL a).1 (leftL b).1, (leftL a).2 ^^^ (leftL b).2)
  | [], [], _ => rfl
  | x :: a, y :: b, h => by
    have ih := leftL_xor (a := a) (b := b) (by simpa using h)
    have e1 : xorL (x :: a) (y :: b) = (x ^^^ y) :: xorL a b := rfl
    rw [e1]
    simp only [leftL]
    rw [ih]
    have ha := leftL_bit a
    have hb := leftL_bit b
    have hab : (leftL a).2 ^^^ (leftL b).2 = 0 ∨ (leftL a).2 ^^^ (leftL b).2 = 1 := by
      rcases ha with ha | ha <;> rcases hb with hb | hb <;> rw [ha, hb] <;> decide
    rw [or_bit1 _ _ hab, or_bit1 _ _ ha, or_bit1 _ _ hb, UInt8.shiftLeft_xor, UInt8.shiftRight_xor]
    have e2 : x <<< 1 ^^^ y <<< 1 ^^^ ((leftL a).2 ^^^ (leftL b).2) = (x <<< 1 ^^^ (leftL a).2) ^^^ (y <<< 1 ^^^ (leftL b).2) := by
      rw [UInt8.xor_assoc, UInt8.xor_assoc]
      congr 1
      rw [← UInt8.xor_assoc, ← UInt8.xor_assoc, UInt8.xor_comm (y <<< 1)]
    rw [e2]
    rfl
theorem xorL_self_cancel : ∀ {a b c : List UInt8}, a.length = b.length → b.length = c.length → xorL (xorL a c) (xorL b c) = xorL a b
  | [], [], [], _, _ => rfl
  | x :: a, y :: b, z :: c, h1, h2 => by
    have ih := xorL_self_cancel (a := a) (b := b) (c := c) (by simpa using h1) (by simpa using h2)
    have e : (x ^^^ z) ^^^ (y ^^^ z) = x ^^^ y := by
      rw [UInt8.xor_assoc, ← UInt8.xor_assoc z, UInt8.xor_comm z y, UInt8.xor_assoc y, UInt8.xor_self, UInt8.xor_zero]
    have e1 : xorL (xorL (x :: a) (z :: c)) (xorL (y :: b) (z :: c)) = ((x ^^^ z) ^^^ (y ^^^ z)) :: xorL (xorL a c) (xorL b c) := rfl
    rw [e1, e, ih]
    rfl
theorem xorL_left : ∀ {a b c : List UInt8}, a.length = b.length → b.length = c.length → xorL (xorL a c) b = xorL (xorL a b) c
  | [], [], [], _, _ => rfl
  | x :: a, y :: b, z :: c, h1, h2 => by
    have ih := xorL_left (a := a) (b := b) (c := c) (by simpa using h1) (by simpa using h2)
    have e : (x ^^^ z) ^^^ y = (x ^^^ y) ^^^ z := by rw [UInt8.xor_assoc, UInt8.xor_comm z y, ← UInt8.xor_assoc]
    have e1 : xorL (xorL (x :: a) (z :: c)) (y :: b) = ((x ^^^ z) ^^^ y) :: xorL (xorL a c) b := rfl
    rw [e1, e, ih]
    rfl
theorem xorL_right {a b c : List UInt8} (h1 : a.length = b.length) (h2 : b.length = c.length) : xorL a (xorL b c) = xorL (xorL a b) c := by
  induction a generalizing b c with
  | nil => rfl
  | cons x a ih =>
    cases b with
    | nil => cases h1
    | cons y b =>
      cases c with
      | nil => cases h2
      | cons z c =>
        have e1 : xorL (x :: a) (xorL (y :: b) (z :: c)) = (x ^^^ (y ^^^ z)) :: xorL a (xorL b c) := rfl
        rw [e1, ← UInt8.xor_assoc, ih (by simpa using h1) (by simpa using h2)]
        rfl
theorem bitAt_bit (x : UInt8) (k : Nat) : bitAt x k = 0 ∨ bitAt x k = 1 := by
  have h : (bitAt x k).toNat = (x >>> UInt8.ofNat k).toNat % 2 := by
    unfold bitAt
    rw [UInt8.toNat_and]
    exact Nat.and_one_is_mod _
  have h2 : (bitAt x k).toNat = 0 ∨ (bitAt x k).toNat = 1 := by omega
  rcases h2 with h2 | h2
  · exact .inl (UInt8.toNat_inj.1 h2)
  · exact .inr (UInt8.toNat_inj.1 h2)
theorem bitAt_xor (x y : UInt8) (k : Nat) : bitAt (x ^^^ y) k = bitAt x k ^^^ bitAt y k := by
  unfold bitAt
  rw [UInt8.shiftRight_xor]
  generalize x >>> UInt8.ofNat k = p
  generalize y >>> UInt8.ofNat k = q
  apply UInt8.toNat_inj.1
  rw [UInt8.toNat_and, UInt8.toNat_xor, UInt8.toNat_xor, UInt8.toNat_and, UInt8.toNat_and]
  show (p.toNat ^^^ q.toNat) &&& 1 = (p.toNat &&& 1) ^^^ (q.toNat &&& 1)
  rw [Nat.and_one_is_mod, Nat.and_one_is_mod, Nat.and_one_is_mod]
  exact xor_mod p.toNat q.toNat 1
theorem stepB_xor {low r s : List UInt8} (h : low.length = r.length) (hs : r.length = s.length) {b d : UInt8} (hb : b = 0 ∨ b = 1) (hd : d = 0 ∨ d = 1) :
    stepB low (xorL r s) (b ^^^ d) = xorL (stepB low r b) (stepB low s d) := by
  have l1 : (leftL r).1.length = (leftL s).1.length := by rw [leftL_len, leftL_len, hs]
  have l2 : (leftL s).1.length = low.length := by rw [leftL_len, h, hs]
  unfold stepB
  rw [leftL_xor hs]
  rcases leftL_bit r with e1 | e1 <;> rcases leftL_bit s with e2 | e2 <;> rcases hb with rfl | rfl <;> rcases hd with rfl | rfl <;> simp only [e1, e2] <;>
    first
    | rfl
    | exact (xorL_self_cancel l1 l2).symm
    | exact (xorL_left l1 l2).symm
    | exact (xorL_right l1 l2).symm
theorem bitsD_len {low : List UInt8} (x : UInt8) : ∀ {r : List UInt8} (k : Nat), low.length = r.length → (bitsD low x r k).length = r.length
  | _, 0, _ => rfl
  | r, k + 1, h => by
    have h1 := stepB_len h (bitAt x k)
    rw [bitsD, bitsD_len x k (by rw [h1, h]), h1]
theorem bitsD_xor {low : List UInt8} (x y : UInt8) : ∀ {r s : List UInt8} (k : Nat), low.length = r.length → r.length = s.length → bitsD low (x ^^^ y) (xorL r s) k = xorL (bitsD low x r k) (bitsD low y s k)
  | _, _, 0, _, _ => rfl
  | r, s, k + 1, h, hs => by
    have h1 := stepB_len h (bitAt x k)
    have h2 := stepB_len (h.trans hs) (bitAt y k)
    rw [bitsD, bitsD, bitsD, bitAt_xor, stepB_xor h hs (bitAt_bit x k) (bitAt_bit y k), bitsD_xor x y k (by rw [h1, h]) (by rw [h1, h2, hs])]
theorem divD_cons (low r : List UInt8) (x : UInt8) (t : List UInt8) : divD low r (x :: t) = divD low (byteD low x r) t := rfl
theorem byteD_len {low : List UInt8} (x : UInt8) {r : List UInt8} (h : low.length = r.length) : (byteD low x r).length = r.length := by
  unfold byteD
  exact bitsD_len x 8 h
theorem byteD_xor {low : List UInt8} (x y : UInt8) {r s : List UInt8} (h : low.length = r.length) (hs : r.length = s.length) : byteD low (x ^^^ y) (xorL r s) = xorL (byteD low x r) (byteD low y s) := by
  unfold byteD
  exact bitsD_xor x y 8 h hs
theorem divD_len {low : List UInt8} (t : List UInt8) : ∀ {r : List UInt8}, low.length = r.length → (divD low r t).length = r.length := by
  induction t with
  | nil => intro r _; rfl
  | cons x t ih =>
    intro r h
    have h1 := byteD_len x h
    rw [divD_cons]
    generalize byteD low x r = r2 at *
    rw [ih (by rw [h1, h]), h1]
/-- What is added up bit by bit leaves remainders that are added up likewise. -/
theorem divD_xor {low : List UInt8} (a : List UInt8) : ∀ {r s : List UInt8} (b : List UInt8), low.length = r.length → r.length = s.length → a.length = b.length → divD low (xorL r s) (xorL a b) = xorL (divD low r a) (divD low s b) := by
  induction a with
  | nil =>
    intro r s b _ _ hab
    cases b with
    | nil => rfl
    | cons y b => cases hab
  | cons x a ih =>
    intro r s b h hs hab
    cases b with
    | nil => cases hab
    | cons y b =>
      have h1 := byteD_len x h
      have h2 := byteD_len y (h.trans hs)
      have h3 := byteD_xor x y h hs
      have e : xorL (x :: a) (y :: b) = (x ^^^ y) :: xorL a b := rfl
      rw [e, divD_cons, divD_cons, divD_cons, h3]
      generalize byteD low x r = r2 at *
      generalize byteD low y s = s2 at *
      exact ih b (by rw [h1, h]) (by rw [h1, h2, hs]) (by simpa using hab)
theorem xorL_zero (n : Nat) : xorL (List.replicate n 0) (List.replicate n 0) = List.replicate n 0 := by
  induction n with
  | zero => rfl
  | succ n ih =>
    have e : xorL (List.replicate (n + 1) 0) (List.replicate (n + 1) 0) = (0 ^^^ 0) :: xorL (List.replicate n 0) (List.replicate n 0) := rfl
    rw [e, ih]
    rfl
end Go.Proofs.YtkdfbganhohbfaaDoor
