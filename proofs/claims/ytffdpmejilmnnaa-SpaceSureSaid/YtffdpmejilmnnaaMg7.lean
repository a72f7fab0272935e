/-
  The division by the generator, and that it adds up as the bits do.
  The generator's bits are laid, once.
  A code is made ready once; the length of its parity.
  The division walked.
  A new code; the parity of a chunk, and its length.
  Which geometries are good; the bytes of a page and of its payload.
  A region that draws its order: each operation shown alone, from what the operations that it looks at have left; every order at once.
-/
import Derived.Test.YtffdpmejilmnnaaMg6
import Derived.Test.YtffdpmejilmnnaaMg2
import Derived.WalkKit
import Derived.Still
namespace Go.Proofs.Ytffdpmejilmnnaa
open Go.RowKit

def xorL (a b : List UInt8) : List UInt8 := List.zipWith (· ^^^ ·) a b
def stepB (low r : List UInt8) (b : UInt8) : List UInt8 := if (leftL r).2 = b then (leftL r).1 else xorL (leftL r).1 low
def bitAt (x : UInt8) (k : Nat) : UInt8 := (x >>> UInt8.ofNat k) &&& 1
def bitsD (low : List UInt8) (x : UInt8) (r : List UInt8) : Nat → List UInt8
  | 0 => r
  | k + 1 => bitsD low x (stepB low r (bitAt x k)) k
@[irreducible] def byteD (low : List UInt8) (x : UInt8) (r : List UInt8) : List UInt8 := bitsD low x r 8
def divD (low : List UInt8) (r : List UInt8) : List UInt8 → List UInt8
  | [] => r
  | x :: t => divD low (byteD low x r) t
theorem xorL_len {a b : List UInt8} (h : a.length = b.length) : (xorL a b).length = a.length := by simp [xorL, h]
theorem stepB_len {low r : List UInt8} (h : low.length = r.length) (b : UInt8) : (stepB low r b).length = r.length := by
  unfold stepB
  split
  · exact leftL_len r
  · rw [xorL_len (by rw [leftL_len, h]), leftL_len]
theorem leftL_bit (l : List UInt8) : (leftL l).2 = 0 ∨ (leftL l).2 = 1 := by
  cases l with
  | nil => exact .inl rfl
  | cons x r =>
    have h : (x >>> 7).toNat = x.toNat / 128 := shr_seven x
    have := x.toNat_lt
    have h2 : (x >>> 7).toNat = 0 ∨ (x >>> 7).toNat = 1 := by omega
    rcases h2 with h2 | h2
    · exact .inl (UInt8.toNat_inj.1 h2)
    · exact .inr (UInt8.toNat_inj.1 h2)
theorem or_one_all : ∀ n : Nat, n < 256 → (UInt8.ofNat n <<< 1) ||| (1 : UInt8) = (UInt8.ofNat n <<< 1) ^^^ (1 : UInt8) := by decide +kernel
theorem or_bit1 (x o : UInt8) (h : o = 0 ∨ o = 1) : (x <<< 1) ||| o = (x <<< 1) ^^^ o := by
  rcases h with rfl | rfl
  · simp
  · have := or_one_all x.toNat x.toNat_lt
    rwa [UInt8.ofNat_toNat] at this
theorem leftL_xor : ∀ {a b : List UInt8}, a.length = b.length → leftL (xorL a b) = (xorL (leftL a).1 (leftL b).1, (leftL a).2 ^^^ (leftL b).2)
  | [], [], _ => rfl
  | x :: a, y :: b, h => by
    have ih := leftL_xor (a := a) (b := b) (by simpa using h)
    have e1 : xorL (x :: a) (y :: b) = (x ^^^ y) :: xorL a b := rfl
    rw [e1]
    simp only [leftL]
    rw [ih]
    have ha := leftL_bit a
    have hb := leftL_bit b
    have hab : (leftL a).2 ^^^ (leftL b).2 = 0 ∨ (leftL a).2 ^^^ (leftL b).2 = 1 := by
      rcases ha with ha | ha <;> rcases hb with hb | hb <;> rw [ha, hb] <;> decide
    rw [or_bit1 _ _ hab, or_bit1 _ _ ha, or_bit1 _ _ hb, UInt8.shiftLeft_xor, UInt8.shiftRight_xor]
    have e2 : x <<< 1 ^^^ y <<< 1 ^^^ ((leftL a).2 ^^^ (leftL b).2) = (x <<< 1 ^^^ (leftL a).2) ^^^ (y <<< 1 ^^^ (leftL b).2) := by
      rw [UInt8.xor_assoc, UInt8.xor_assoc]
      congr 1
      rw [← UInt8.xor_assoc, ← UInt8.xor_assoc, UInt8.xor_comm (y <<< 1)]
    rw [e2]
    rfl
theorem xorL_self_cancel : ∀ {a b c : List UInt8}, a.length = b.length → b.length = c.length → xorL (xorL a c) (xorL b c) = xorL a b
  | [], [], [], _, _ => rfl
  | x :: a, y :: b, z :: c, h1, h2 => by
    have ih := xorL_self_cancel (a := a) (b := b) (c := c) (by simpa using h1) (by simpa using h2)
    have e : (x ^^^ z) ^^^ (y ^^^ z) = x ^^^ y := by
      rw [UInt8.xor_assoc, ← UInt8.xor_assoc z, UInt8.xor_comm z y, UInt8.xor_assoc y, UInt8.xor_self, UInt8.xor_zero]
    have e1 : xorL (xorL (x :: a) (z :: c)) (xorL (y :: b) (z :: c)) = ((x ^^^ z) ^^^ (y ^^^ z)) :: xorL (xorL a c) (xorL b c) := rfl
    rw [e1, e, ih]
    rfl
theorem xorL_left : ∀ {a b c : List UInt8}, a.length = b.length → b.length = c.length → xorL (xorL a c) b = xorL (xorL a b) c
  | [], [], [], _, _ => rfl
  | x :: a, y :: b, z :: c, h1, h2 => by
    have ih := xorL_left (a := a) (b := b) (c := c) (by simpa using h1) (by simpa using h2)
    have e : (x ^^^ z) ^^^ y = (x ^^^ y) ^^^ z := by rw [UInt8.xor_assoc, UInt8.xor_comm z y, ← UInt8.xor_assoc]
    have e1 : xorL (xorL (x :: a) (z :: c)) (y :: b) = ((x ^^^ z) ^^^ y) :: xorL (xorL a c) b := rfl
    rw [e1, e, ih]
    rfl
theorem xorL_right {a b c : List UInt8} (h1 : a.length = b.length) (h2 : b.length = c.length) : xorL a (xorL b c) = xorL (xorL a b) c := by
  induction a generalizing b c with
  | nil => rfl
  | cons x a ih =>
    cases b with
    | nil => cases h1
    | cons y b =>
      cases c with
      | nil => cases h2
      | cons z c =>
        have e1 : xorL (x :: a) (xorL (y :: b) (z :: c)) = (x ^^^ (y ^^^ z)) :: xorL a (xorL b c) := rfl
        rw [e1, ← UInt8.xor_assoc, ih (by simpa using h1) (by simpa using h2)]
        rfl
theorem bitAt_bit (x : UInt8) (k : Nat) : bitAt x k = 0 ∨ bitAt x k = 1 := by
  have h : (bitAt x k).toNat = (x >>> UInt8.ofNat k).toNat % 2 := by
    unfold bitAt
    rw [UInt8.toNat_and]
    exact Nat.and_one_is_mod _
  have h2 : (bitAt x k).toNat = 0 ∨ (bitAt x k).toNat = 1 := by omega
  rcases h2 with h2 | h2
  · exact .inl (UInt8.toNat_inj.1 h2)
  · exact .inr (UInt8.toNat_inj.1 h2)
theorem bitAt_xor (x y : UInt8) (k : Nat) : bitAt (x ^^^ y) k = bitAt x k ^^^ bitAt y k := by
  unfold bitAt
  rw [UInt8.shiftRight_xor]
  generalize x >>> UInt8.ofNat k = p
  generalize y >>> UInt8.ofNat k = q
  apply UInt8.toNat_inj.1
  rw [UInt8.toNat_and, UInt8.toNat_xor, UInt8.toNat_xor, UInt8.toNat_and, UInt8.toNat_and]
  show (p.toNat ^^^ q.toNat) &&& 1 = (p.toNat &&& 1) ^^^ (q.toNat &&& 1)
  rw [Nat.and_one_is_mod, Nat.and_one_is_mod, Nat.and_one_is_mod]
  exact xor_mod p.toNat q.toNat 1
theorem stepB_xor {low r s : List UInt8} (h : low.length = r.length) (hs : r.length = s.length) {b d : UInt8} (hb : b = 0 ∨ b = 1) (hd : d = 0 ∨ d = 1) :
    stepB low (xorL r s) (b ^^^ d) = xorL (stepB low r b) (stepB low s d) := by
  have l1 : (leftL r).1.length = (leftL s).1.length := by rw [leftL_len, leftL_len, hs]
  have l2 : (leftL s).1.length = low.length := by rw [leftL_len, h, hs]
  unfold stepB
  rw [leftL_xor hs]
  rcases leftL_bit r with e1 | e1 <;> rcases leftL_bit s with e2 | e2 <;> rcases hb with rfl | rfl <;> rcases hd with rfl | rfl <;> simp only [e1, e2] <;>
    first
    | rfl
    | exact (xorL_self_cancel l1 l2).symm
    | exact (xorL_left l1 l2).symm
    | exact (xorL_right l1 l2).symm
theorem bitsD_len {low : List UInt8} (x : UInt8) : ∀ {r : List UInt8} (k : Nat), low.length = r.length → (bitsD low x r k).length = r.length
  | _, 0, _ => rfl
  | r, k + 1, h => by
    have h1 := stepB_len h (bitAt x k)
    rw [bitsD, bitsD_len x k (by rw [h1, h]), h1]
theorem bitsD_xor {low : List UInt8} (x y : UInt8) : ∀ {r s : List UInt8} (k : Nat), low.length = r.length → r.length = s.length → bitsD low (x ^^^ y) (xorL r s) k = xorL (bitsD low x r k) (bitsD low y s k)
  | _, _, 0, _, _ => rfl
  | r, s, k + 1, h, hs => by
    have h1 := stepB_len h (bitAt x k)
    have h2 := stepB_len (h.trans hs) (bitAt y k)
    rw [bitsD, bitsD, bitsD, bitAt_xor, stepB_xor h hs (bitAt_bit x k) (bitAt_bit y k), bitsD_xor x y k (by rw [h1, h]) (by rw [h1, h2, hs])]
theorem divD_cons (low r : List UInt8) (x : UInt8) (t : List UInt8) : divD low r (x :: t) = divD low (byteD low x r) t := rfl
theorem byteD_len {low : List UInt8} (x : UInt8) {r : List UInt8} (h : low.length = r.length) : (byteD low x r).length = r.length := by
  unfold byteD
  exact bitsD_len x 8 h
theorem byteD_xor {low : List UInt8} (x y : UInt8) {r s : List UInt8} (h : low.length = r.length) (hs : r.length = s.length) : byteD low (x ^^^ y) (xorL r s) = xorL (byteD low x r) (byteD low y s) := by
  unfold byteD
  exact bitsD_xor x y 8 h hs
theorem divD_len {low : List UInt8} (t : List UInt8) : ∀ {r : List UInt8}, low.length = r.length → (divD low r t).length = r.length := by
  induction t with
  | nil => intro r _; rfl
  | cons x t ih =>
    intro r h
    have h1 := byteD_len x h
    rw [divD_cons]
    generalize byteD low x r = r2 at *
    rw [ih (by rw [h1, h]), h1]
/-- What is added up bit by bit leaves remainders that are added up likewise. -/
theorem divD_xor {low : List UInt8} (a : List UInt8) : ∀ {r s : List UInt8} (b : List UInt8), low.length = r.length → r.length = s.length → a.length = b.length → divD low (xorL r s) (xorL a b) = xorL (divD low r a) (divD low s b) := by
  induction a with
  | nil =>
    intro r s b _ _ hab
    cases b with
    | nil => rfl
    | cons y b => cases hab
  | cons x a ih =>
    intro r s b h hs hab
    cases b with
    | nil => cases hab
    | cons y b =>
      have h1 := byteD_len x h
      have h2 := byteD_len y (h.trans hs)
      have h3 := byteD_xor x y h hs
      have e : xorL (x :: a) (y :: b) = (x ^^^ y) :: xorL a b := rfl
      rw [e, divD_cons, divD_cons, divD_cons, h3]
      generalize byteD low x r = r2 at *
      generalize byteD low y s = s2 at *
      exact ih b (by rw [h1, h]) (by rw [h1, h2, hs]) (by simpa using hab)
theorem xorL_zero (n : Nat) : xorL (List.replicate n 0) (List.replicate n 0) = List.replicate n 0 := by
  induction n with
  | zero => rfl
  | succ n ih =>
    have e : xorL (List.replicate (n + 1) 0) (List.replicate (n + 1) 0) = (0 ^^^ 0) :: xorL (List.replicate n 0) (List.replicate n 0) := rfl
    rw [e, ih]
    rfl
end Go.Proofs.Ytffdpmejilmnnaa
namespace Go.Proofs.Ytffdpmejilmnnaa
open Go.RowKit

def degN (t : Nat) : Nat := (genN t).log2
def lowN8 (t : Nat) : Nat := (degN t + 7) / 8
theorem degN_le : ∀ t, t < 9 → 1 ≤ t → 1 ≤ degN t ∧ degN t ≤ 13 * t := by decide +kernel
theorem make_bytes (m : Nat) (h : m ≤ 1000000) (W : World) :
    (Instr.makeSlice 85 (.int .i64 (m : Int)) (.int .i64 (m : Int))).run Try.prog W = .ok (.slice (some ⟨W.heap.size, 0, none⟩) m m) (W.alloc (.cells (madeCells #[.int .u8 0] m) 5)) :=
  run_make_row' 85 5 (.int .u8 0) 1 Try.underlying85 infoU8 rfl .i64 .i64 m (by omega) (by omega) W
/-- The other terms lie below the first one. -/
theorem gen_tail {t i : Nat} (ht : t ≤ 8) (hi : i + 1 < (listP (genN t)).length) : (listP (genN t)).getD (i + 1) 0 < degN t := by
  have h0 := (gen_lt t ht).2
  have hl := gen_lim ht
  have e : listP (genN t) = (genN t).log2 :: Poly.fall Poly.lim (genN t ^^^ 2 ^ (genN t).log2) := Poly.fall_top h0 hl
  rw [e] at hi ⊢
  simp only [List.length_cons] at hi
  have hm : (Poly.fall Poly.lim (genN t ^^^ 2 ^ (genN t).log2)).getD i 0 ∈ Poly.fall Poly.lim (genN t ^^^ 2 ^ (genN t).log2) := by
    rw [List.getD_eq_getElem?_getD, List.getElem?_eq_getElem (by omega)]
    exact List.getElem_mem _
  have h1 := (Poly.fall_mem.1 hm).2
  rw [List.getD_cons_succ]
  generalize (Poly.fall Poly.lim (genN t ^^^ 2 ^ (genN t).log2)).getD i 0 = x at *
  unfold degN
  rw [Nat.testBit_xor, Nat.testBit_two_pow] at h1
  rcases Nat.lt_trichotomy x (genN t).log2 with h2 | h2 | h2
  · exact h2
  · subst h2
    have h3 : (genN t).testBit (genN t).log2 = true := Poly.log2_tb h0
    rw [h3] at h1
    simp at h1
  · have h3 : (genN t).testBit x = false := Nat.testBit_lt_two_pow (Nat.lt_of_lt_of_le (Nat.lt_log2_self) (Nat.pow_le_pow_right (by omega) h2))
    rw [h3] at h1
    simp at h1
    omega

theorem gen_odd : ∀ t, t < 9 → 1 ≤ t → (genN t).testBit 0 = true := by decide +kernel
theorem gen_two {t : Nat} (ht : t ≤ 8) (h1 : 1 ≤ t) : 2 ≤ (listP (genN t)).length := by
  have h0 := (gen_lt t ht).2
  have hd := degN_le t (by omega) h1
  have e : listP (genN t) = (genN t).log2 :: Poly.fall Poly.lim (genN t ^^^ 2 ^ (genN t).log2) := Poly.fall_top h0 (gen_lim ht)
  have hm : 0 ∈ Poly.fall Poly.lim (genN t ^^^ 2 ^ (genN t).log2) := by
    refine Poly.fall_mem.2 ⟨by rw [Poly.lim_eq]; omega, ?_⟩
    rw [Nat.testBit_xor, Nat.testBit_two_pow, gen_odd t (by omega) h1]
    have : ¬ (genN t).log2 = 0 := by unfold degN at hd; omega
    simp [this]
  have := List.length_pos_of_mem hm
  rw [e, List.length_cons]
  omega
/-- A bit set. -/
def bitU (x : UInt8) (k : Nat) : UInt8 := UInt8.ofNat (x.toNat ||| 128 / 2 ^ k)
theorem or_bit (x : UInt8) {k : Nat} (_h : k < 8) : bits .or .u8 (x.toNat : Int) (128 / 2 ^ k) = ((bitU x k).toNat : Int) := by
  have hx := x.toNat_lt
  have h1 : 128 / 2 ^ k < 256 := Nat.lt_of_le_of_lt (Nat.div_le_self _ _) (by omega)
  have e : (128 / 2 ^ k : Int) = ((128 / 2 ^ k : Nat) : Int) := by push_cast; rfl
  rw [e, u8_or (by omega) h1]
  unfold bitU
  rw [UInt8.toNat_ofNat', Nat.mod_eq_of_lt]
  exact Nat.or_lt_two_pow (n := 8) (by omega) (by omega)
/-- While the bits are laid. -/
structure BchAt (w : World) (c bx t n : Nat) (A : Option Addr) (cap : Nat) (dg lo : Value) (wr : World) : Prop where
  code : ∃ q, CF wr c t n (.int .u32 0) (.int .i32 1) (.int .u32 0) dg lo q ∧ q ≤ 1600
  row : Row wr w.heap.size 3 1 (.slice A (listP (genN t)).length cap) (listP (genN t)).length (intsV (Poly.ints (listP (genN t))))
  box : wr.cell? ⟨bx, 0, none⟩ = some (.pointer (some ⟨c, 0, none⟩))
  gr : w.grownBy wr (some c)
  lt : bx < w.heap.size ∧ bx ≠ c ∧ c < w.heap.size
theorem BchAt.set11 {w W : World} {c bx t n cap : Nat} {A : Option Addr} {dg lo : Value} (h : BchAt w c bx t n A cap dg lo W) (v : Value) : BchAt w c bx t n A cap v lo (W.setCell ⟨c, 11, none⟩ v).drew := by
  obtain ⟨q, hc, hq⟩ := h.code
  have g1 := grownBy_setCell W c 11 v
  refine ⟨⟨q, (hc.set11 v).drew, hq⟩, (h.row.kept g1 (.inr (hc.off h.row (by decide)))).drew, ?_, grownBy_drew (World.grownBy.trans h.gr g1), h.lt⟩
  exact (cell_setCell_far W 11 0 v (Ne.symm h.lt.2.1)).trans h.box
/-- The bits that are laid. -/
structure LowAt (w : World) (c bx t n : Nat) (A : Option Addr) (cap g : Nat) (l : List UInt8) (wr : World) : Prop where
  b : BchAt w c bx t n A cap (.int .i64 (degN t : Int)) (.slice (some ⟨g, 0, none⟩) (lowN8 t) (lowN8 t)) wr
  low : Row wr w.heap.size 5 1 (.slice (some ⟨g, 0, none⟩) (lowN8 t) (lowN8 t)) (lowN8 t) (bytesV l)
  new : w.heap.size ≤ g
theorem LowAt.start {w W : World} {c bx t n cap : Nat} {A : Option Addr} {lo : Value} (h : BchAt w c bx t n A cap (.int .i64 (degN t : Int)) lo W) (hL : lowN8 t ≤ 1000000) :
    LowAt w c bx t n A cap W.heap.size (List.replicate (lowN8 t) 0) ((W.setCell ⟨c, 12, none⟩ (.slice (some ⟨W.heap.size, 0, none⟩) (lowN8 t) (lowN8 t))).alloc (.cells (madeCells #[.int .u8 0] (lowN8 t)) 5)).drew := by
  obtain ⟨q, hc, hq⟩ := h.code
  obtain ⟨v, hv⟩ : ∃ v, v = Value.slice (some ⟨W.heap.size, 0, none⟩) (lowN8 t) (lowN8 t) := ⟨_, rfl⟩
  rw [← hv]
  have g1 := grownBy_setCell W c 12 v
  have g2 := World.grownBy_alloc (W.setCell ⟨c, 12, none⟩ v) (.cells (madeCells #[.int .u8 0] (lowN8 t)) 5) (some c)
  have hb2 := (Below.refl (W.setCell ⟨c, 12, none⟩ v).heap.size (W.setCell ⟨c, 12, none⟩ v)).alloc (Nat.le_refl _) (.cells (madeCells #[.int .u8 0] (lowN8 t)) 5)
  have hz := Row.zeros (W.setCell ⟨c, 12, none⟩ v) w.heap.size 5 (.int .u8 0) (lowN8 t) (by rw [size_setCell']; exact h.gr.size) (by simp only [maxLen]; omega)
  rw [size_setCell'] at hz
  refine ⟨⟨⟨q, ?_, hq⟩, ((h.row.kept g1 (.inr (hc.off h.row (by decide)))).below hb2).drew, ?_, grownBy_drew (World.grownBy.trans (World.grownBy.trans h.gr g1) g2), h.lt⟩, ?_, h.gr.size⟩
  · rw [← hv]
    exact ((hc.set12 v).below hb2).drew
  · have e1 : (W.setCell ⟨c, 12, none⟩ v).cell? ⟨bx, 0, none⟩ = some (.pointer (some ⟨c, 0, none⟩)) := (cell_setCell_far W 12 0 v (Ne.symm h.lt.2.1)).trans h.box
    exact g2.cell e1 (by simp; exact h.lt.2.1)
  · have e2 : bytesV (List.replicate (lowN8 t) 0) = List.replicate (lowN8 t) (.int .u8 0) := by simp [bytesV]
    rw [e2]
    exact hz.drew
theorem LowAt.set {w W : World} {c bx t n cap g : Nat} {A : Option Addr} {l : List UInt8} (h : LowAt w c bx t n A cap g l W) (k : Nat) (hk : k < lowN8 t) (b : UInt8) :
    LowAt w c bx t n A cap g (l.set k b) (W.setCell ⟨g, k, none⟩ (.int .u8 (b.toNat : Int))).drew := by
  obtain ⟨q, hc, hq⟩ := h.b.code
  have hs := h.low.store rfl k (by omega) (.int .u8 (b.toNat : Int))
  rw [Nat.zero_add] at hs
  have hlt := h.b.lt
  have hnew := h.new
  refine ⟨⟨⟨q, (hc.bytes h.low hs.2).drew, hq⟩, (h.b.row.kept hs.2 (Row.other h.b.row h.low (by decide))).drew, ?_, grownBy_drew (World.grownBy.andThen h.b.gr hs.2 ?_), hlt⟩, ?_, hnew⟩
  · exact (cell_setCell_far W k 0 _ (by omega)).trans h.b.box
  · intro j hj; injection hj with hj; left; omega
  · have e : bytesV (l.set k b) = (bytesV l).set k (.int .u8 (b.toNat : Int)) := by simp [bytesV, List.map_set]
    rw [e]
    exact hs.1.drew
def FillPost (w : World) (c t n : Nat) (e : Ending) (w' : World) : Prop :=
  e = .returned (.tuple #[]) ∧ ∃ g l q, CF w' c t n (.int .u32 0) (.int .i32 1) (.int .u32 0) (.int .i64 (degN t : Int)) (.slice (some ⟨g, 0, none⟩) (lowN8 t) (lowN8 t)) q ∧ Row w' w.heap.size 5 1 (.slice (some ⟨g, 0, none⟩) (lowN8 t) (lowN8 t)) (lowN8 t) (bytesV l) ∧ w.grownBy w' (some c) ∧ q ≤ 1600

set_option maxRecDepth 100000 in
set_option maxHeartbeats 2000000 in
theorem bch_fill (c bx t n : Nat) (w : World) (ht1 : 1 ≤ t) (ht8 : t ≤ 8) (hF : CF w c t n (.int .u32 0) (.int .i32 1) (.int .u32 0) (.int .i64 0) (.slice none 0 0) 0)
    (hbx : w.cell? ⟨bx, 0, none⟩ = some (.pointer (some ⟨c, 0, none⟩))) (hne : bx ≠ c) (hlt : bx < w.heap.size) :
    Calls Try.prog 37 #[.pointer (some ⟨bx, 0, none⟩)] w (FillPost w c t n) := by
  have hcl := hF.lt
  have c0 := hF.c0
  have HG : Aside (Calls Try.prog 38 #[.pointer (some ⟨c, 5, none⟩), .int .i64 (t : Int)] w.drew fun e w1 => ∃ A cap, e = .returned (.tuple #[.slice A (listP (genN t)).length cap, .bool true]) ∧ Aside (BchAt w c bx t n A cap (.int .i64 0) (.slice none 0 0) w1)) := ⟨by
    letI := hst t n (.int .u32 0) (.int .i32 1) (.int .u32 0) (.int .i64 0) (.slice none 0 0)
    refine (poly_generator c 0 t w.drew (by omega) hF.drew ht8 ht1).mono ?_
    rintro e w1 ⟨v, q, rfl, hF1, _, hq, hg', hr⟩
    have hg := World.grownBy.trans (grownBy_drew (World.grownBy.refl w (some c))) hg'
    obtain ⟨A, cap, rfl, _⟩ := hr.slice
    exact ⟨A, cap, rfl, ⟨⟨q, hF1, by omega⟩, hr, hg.cell hbx (by simp; omega), hg, hlt, hne, hcl⟩⟩⟩
  have HT := Aside.mk (And.intro ht1 ht8)
  clear hF ht1 ht8
  go_enter Try.func37, Try.ntmps37
  go_upto_region 0 with fail
  go_cut [1, 2] (fun s1 s2 wx => ∃ A cap, s1 = .slice A (listP (genN t)).length cap ∧ s2 = .bool true ∧ Aside (BchAt w c bx t n A cap (.int .i64 0) (.slice none 0 0) wx))
  case first =>
    go_region_with ((go_at_call 38; refine HG.out.mono ?_; rintro e w1 ⟨A, cap, rfl, H1⟩))
    all_goals
      go_wp2
      go_meet
      exact ⟨A, cap, rfl, rfl, ⟨H1.out⟩⟩
  case rest =>
  obtain ⟨A, cap, rfl, rfl, H1⟩ := hcut
  obtain ⟨⟨q1, hc1, hq1⟩, hr1, hb1, hg1, hl1⟩ := H1.out
  obtain ⟨hpos, hhead⟩ := listP_head (gen_lt t HT.out.2).2 (gen_lim HT.out.2)
  obtain ⟨b0, o0, cap', e0, x1, x2, x3⟩ := hr1.form (by omega)
  injection e0 with e0 e1 e2
  subst e0; subst e2
  clear e1 x1 x2 x3
  obtain ⟨y0, _⟩ := hr1.at_ rfl 0 hpos
  obtain ⟨d, hd⟩ : ∃ d, d = degN t := ⟨_, rfl⟩
  replace y0 : wc.cell? ⟨b0, o0, none⟩ = some (.int .i64 (d : Int)) := by
    rw [Nat.add_zero] at y0
    rw [y0, hd]
    unfold degN
    rw [← hhead]
    simp [intsV, Poly.ints, List.getD_eq_getElem?_getD, hpos]
  have z11 := hc1.free 11
  have c11 := hc1.c11
  have hn0 : (0 : Int) < ((listP (genN t)).length : Int) := by omega
  obtain ⟨L, hL⟩ : ∃ L, L = lowN8 t := ⟨_, rfl⟩
  have hd2 := degN_le t (by have := HT.out; omega) HT.out.1
  have hLd : L = (d + 7) / 8 := by rw [hL, hd]; rfl
  have hd3 : 1 ≤ d ∧ d ≤ 104 := by have := HT.out; omega
  have HD := Aside.mk (And.intro hd (And.intro hL (And.intro hLd hd3)))
  clear hd hL hLd hd2 hhead hr1 hg1 hq1 hc1 hbx hne hlt hcl c0 HG hl1
  apply_assumption
  go_upto_region 1 with fail
  go_cut [1] (fun s1 wx => s1 = .slice (some ⟨b0, o0, none⟩) (listP (genN t)).length cap ∧ Aside (BchAt w c bx t n (some ⟨b0, o0, none⟩) cap (.int .i64 (d : Int)) (.slice none 0 0) wx))
  case first =>
    go_region
    all_goals
      go_wp2
      go_meet
      exact ⟨rfl, ⟨H1.out.set11 _⟩⟩
  case rest =>
  obtain ⟨rfl, H2⟩ := hcut
  clear H1 y0 hb1 z11 c11
  obtain ⟨⟨q1, hc1, hq1⟩, hr1, hb1, hg1, hl1⟩ := H2.out
  have z12 := hc1.free 12
  have c12 := hc1.c12
  have c11 := hc1.c11
  obtain ⟨d7, hd7⟩ : ∃ x, x = d + 7 := ⟨_, rfl⟩
  have w7 : IntKind.i64.wrap ((d : Int) + 7) = (d7 : Int) := by have := HD.out; rw [IntKind.wrap_i64]; omega
  have hq9 : (d7 : Int) / 8 = (L : Int) := by have := HD.out; omega
  have hq8 : (d7 : Int).tdiv 8 = (L : Int) := by rw [Int.tdiv_eq_ediv_of_nonneg (by omega)]; exact hq9
  have wL : IntKind.i64.wrap (L : Int) = (L : Int) := by have := HD.out; rw [IntKind.wrap_i64]; omega
  clear hd7
  have hmk := make_bytes L (by have := HD.out; omega)
  have hcl := hc1.lt
  have hbl : bx < wc.heap.size := by have := hg1.size; omega
  clear hq1 hr1 hg1 hl1 hc1
  apply_assumption
  go_upto_region 2 with fail
  go_cut [1] (fun s1 wx => s1 = .slice (some ⟨b0, o0, none⟩) (listP (genN t)).length cap ∧ ∃ g, Aside (LowAt w c bx t n (some ⟨b0, o0, none⟩) cap g (List.replicate L 0) wx))
  case first =>
    go_region
    all_goals
      go_wp2
      go_meet
      have h := LowAt.start (HD.out.1 ▸ H2.out) (by rw [← HD.out.2.1]; have := HD.out; omega)
      rw [← HD.out.2.1] at h
      exact ⟨rfl, _, ⟨h⟩⟩
  case rest =>
  obtain ⟨rfl, g, H3⟩ := hcut
  clear H2 hb1 z12 c12 c11 w7 hq9 hq8 wL hmk hcl hbl
  obtain ⟨m, hm⟩ : ∃ m, (listP (genN t)).length = m + 1 := ⟨(listP (genN t)).length - 1, by omega⟩
  have HM := Aside.mk hm
  rw [hm]
  have hm1 : 1 ≤ m := by have := gen_two HT.out.2 HT.out.1; omega
  obtain ⟨A', c', e5, x4, hcc, hcm, x5⟩ := H3.out.b.row.readInts
  injection e5 with e5 e6 e7
  subst e7
  have hcap : ¬ cap = 1 := by omega
  have hml := listP_le (genN t)
  have HM1 := Aside.mk (And.intro hm1 (show m ≤ 16384 by omega))
  clear hm hpos hn0 hd3 e5 e6 hcc hcm hm1 x4 x5 hml
  apply_assumption
  go_upto_region 4 with fail
  go_loopw [36] (fun s36 wr => ∃ i : Nat, s36 = .int .i64 (i : Int) ∧ i ≤ m ∧ ∃ l : List UInt8, l.length = L ∧ Aside (LowAt w c bx t n (some ⟨b0, o0, none⟩) cap g l wr)) (fun s36 _ => m - (intOf s36).toNat)
  case atStart => exact ⟨0, rfl, by omega, _, by simp, H3⟩
  case round =>
    obtain ⟨i, rfl, him, l, hll, HI⟩ := hrel
    have HLL := Aside.mk hll
    clear hll
    have hi1 : IntKind.i64.wrap ((i : Int) + 1) = ((i + 1 : Nat) : Int) := by have := HM1.out; rw [IntKind.wrap_i64]; omega
    by_cases hlt : i < m
    · obtain ⟨q, hc, hq⟩ := HI.out.b.code
      obtain ⟨y0, _⟩ := HI.out.b.row.at_ rfl (i + 1) (by have := HM.out; omega)
      obtain ⟨e, he⟩ : ∃ e, e = (listP (genN t)).getD (i + 1) 0 := ⟨_, rfl⟩
      have hed : e < d := by rw [he, HD.out.1]; exact gen_tail HT.out.2 (by have := HM.out; omega)
      replace y0 : wr.cell? ⟨b0, o0 + 1 + i, none⟩ = some (.int .i64 (e : Int)) := by
        have e1 : o0 + 1 + i = o0 + (i + 1) := by omega
        have hl : i + 1 < (listP (genN t)).length := by have := HM.out; omega
        rw [e1, y0, he]
        simp [intsV, Poly.ints, List.getD_eq_getElem?_getD, hl]
      have hbx := HI.out.b.box
      have c11 := hc.c11
      have c12 := hc.c12
      rw [← HD.out.1] at c11
      rw [← HD.out.2.1] at c12
      obtain ⟨d1, hd1⟩ : ∃ x, x = d - 1 := ⟨_, rfl⟩
      obtain ⟨k, hk⟩ : ∃ x, x = d1 - e := ⟨_, rfl⟩
      obtain ⟨kq, hkq⟩ : ∃ x, x = k / 8 := ⟨_, rfl⟩
      obtain ⟨kr, hkr⟩ : ∃ x, x = k % 8 := ⟨_, rfl⟩
      have hkL : kq < L := by have := HD.out; omega
      obtain ⟨y1, z1⟩ := HI.out.low.at_ rfl kq (by rw [← HD.out.2.1]; exact hkL)
      obtain ⟨x, hx⟩ : ∃ x, x = l.getD kq 0 := ⟨_, rfl⟩
      replace y1 : wr.cell? ⟨g, kq, none⟩ = some (.int .u8 (x.toNat : Int)) := by
        have := HLL.out
        rw [Nat.zero_add] at y1
        rw [y1, hx]
        simp [bytesV, List.getD_eq_getElem?_getD, show kq < l.length by omega]
      rw [Nat.zero_add] at z1
      have w1 : IntKind.i64.wrap ((d : Int) - 1) = (d1 : Int) := by have := HD.out; rw [IntKind.wrap_i64]; omega
      have w2 : IntKind.i64.wrap ((d1 : Int) - (e : Int)) = (k : Int) := by have := HD.out; rw [IntKind.wrap_i64]; omega
      have q1 : (k : Int).tdiv 8 = (kq : Int) := by rw [Int.tdiv_eq_ediv_of_nonneg (by omega)]; omega
      have q2 : (k : Int) / 8 = (kq : Int) := by omega
      have q3 : (k : Int).tmod 8 = (kr : Int) := by rw [Int.tmod_eq_emod_of_nonneg (by omega)]; omega
      have q4 : (k : Int) % 8 = (kr : Int) := by omega
      have q5 : IntKind.i64.wrap (kq : Int) = (kq : Int) := by have := HD.out; rw [IntKind.wrap_i64]; omega
      have q6 : IntKind.i64.wrap (kr : Int) = (kr : Int) := by rw [IntKind.wrap_i64]; omega
      have q7 : (kq : Int) < (L : Int) := by omega
      have q8 : (0 : Int) ≤ (kq : Int) := by omega
      have q9 : (0 : Int) ≤ (kr : Int) := by omega
      have hkr8 : kr < 8 := by omega
      have hlt2 : (i : Int) < (m : Int) := by omega
      have hi0 : (0 : Int) ≤ (i : Int) := by omega
      have HQ := Aside.mk (And.intro hkL (And.intro hkr8 hlt))
      clear hc hq he hed hd1 hk hkq hkr hx hlt hkL
      go_upto_region 7 with fail
      go_region
      all_goals
        go_wp2
        go_roundw
        case rel =>
          rw [or_bit x HQ.out.2.1]
          exact ⟨i + 1, rfl, HQ.out.2.2, _, by rw [List.length_set]; exact HLL.out, ⟨HI.out.set kq (by rw [← HD.out.2.1]; exact HQ.out.1) _⟩⟩
        case measure => have := HQ.out; simp [intOf]; omega
    · have hi2 : ¬ (i : Int) < (m : Int) := by omega
      clear hlt
      go_wp2
      go_end0
      obtain ⟨q, hc, hq⟩ := HI.out.b.code
      exact ⟨rfl, g, l, q, hc, HI.out.low, HI.out.b.gr, hq⟩
end Go.Proofs.Ytffdpmejilmnnaa
namespace Go.Proofs.Ytffdpmejilmnnaa
open Go.RowKit

/-- A code that is ready: its generator's bits. -/
structure BReady (w : World) (c t n g : Nat) (l : List UInt8) (q : Nat) : Prop where
  code : CF w c t n (.int .u32 1) (.int .i32 0) (.int .u32 0) (.int .i64 (degN t : Int)) (.slice (some ⟨g, 0, none⟩) (lowN8 t) (lowN8 t)) q
  low : Row w 0 5 1 (.slice (some ⟨g, 0, none⟩) (lowN8 t) (lowN8 t)) (lowN8 t) (bytesV l)
/-- A code that is new. -/
def BNew (w : World) (c t n : Nat) : Prop := CF w c t n (.int .u32 0) (.int .i32 0) (.int .u32 0) (.int .i64 0) (.slice none 0 0) 0
theorem BReady.below {w w' : World} {c t n g q : Nat} {l : List UInt8} (h : BReady w c t n g l q) (hb : Below w.heap.size w w') : BReady w' c t n g l q := ⟨h.code.below hb, h.low.below hb⟩
def ReadyPost (w : World) (c t n : Nat) (e : Ending) (w' : World) : Prop := e = .returned (.tuple #[]) ∧ (∃ g l q, BReady w' c t n g l q) ∧ w.grownBy w' (some c)
set_option maxRecDepth 100000 in
set_option maxHeartbeats 1600000 in
theorem bch_slow (c bx t n : Nat) (w : World) (ht1 : 1 ≤ t) (ht8 : t ≤ 8) (hF : BNew w c t n) (hbx : w.cell? ⟨bx, 0, none⟩ = some (.pointer (some ⟨c, 0, none⟩))) (hne : bx ≠ c) (hlt : bx < w.heap.size) :
    Calls Try.prog 43 #[.pointer (some ⟨c, 2, none⟩), .func (.func 37) #[] #[.pointer (some ⟨bx, 0, none⟩)]] w (ReadyPost w c t n) := by
  have h1 := CF.set3 hF (.int .i32 1)
  have c0 : (w.setCell ⟨c, 3, none⟩ (.int .i32 1)).cell? ⟨c, 2, none⟩ = some (.int .u32 0) := h1.c2
  have l0 : w.cell? ⟨c, 3, none⟩ = some (.int .i32 0) := CF.c3 hF
  have z0 : w.frozen? ⟨c, 3, none⟩ = false := CF.free hF 3
  have hb1 : (w.setCell ⟨c, 3, none⟩ (.int .i32 1)).cell? ⟨bx, 0, none⟩ = some (.pointer (some ⟨c, 0, none⟩)) := by rw [cell_setCell_far _ _ _ _ (Ne.symm hne)]; exact hbx
  have hg1 := grownBy_setCell w c 3 (.int .i32 1)
  have hs1 := size_setCell' w ⟨c, 3, none⟩ (.int .i32 1)
  have HA := Aside.mk (And.intro h1 (And.intro c0 (And.intro hb1 (And.intro hg1 (And.intro hs1 (And.intro l0 z0))))))
  have HT := Aside.mk (And.intro ht1 ht8)
  clear h1 c0 hb1 hg1 hs1 l0 z0 ht1 ht8
  go_enter_defers Try.func43, Try.ntmps43
  go_wp2_with (first | (go_at_call 54; refine (Once.lock_free ⟨c, 3, none⟩ _ HA.out.2.2.2.2.2.1 HA.out.2.2.2.2.2.2).mono ?_; rintro e w1 ⟨rfl, rfl⟩) | (go_at_call 42; refine (Once.bool_load ⟨c, 2, none⟩ 0 false _ HA.out.2.1 rfl).mono ?_; rintro e w1 ⟨rfl, rfl⟩) | (go_at_call 37; refine (bch_fill c bx t n _ HT.out.1 HT.out.2 HA.out.1 HA.out.2.2.1 hne (by rw [HA.out.2.2.2.2.1]; exact hlt)).mono ?_; rintro e w2 ⟨rfl, g, l, q, hT, hrow, hgr, hq⟩))
  refine leaves_cons (f := 56) (args := #[.pointer (some ⟨c, 2, none⟩), .bool true]) (by simp) (by simp [go_sem]) ?_
  refine (Once.store_deferred ⟨c, 2, none⟩ (.int .u32 0) .returning _ hT.c2 (hT.free 2)).mono ?_
  rintro e u' w3 ⟨rfl, rfl, rfl⟩
  have hF3 := CF.set2 hT.drew (.int .u32 1)
  refine leaves_cons (f := 55) (args := #[.pointer (some ⟨c, 3, none⟩)]) (by simp [settle]) (by simp [go_sem]) ?_
  refine (Once.unlock_deferred ⟨c, 3, none⟩ _ _ hF3.c3 (hF3.free 3)).mono ?_
  rintro e u' w4 ⟨rfl, rfl, rfl⟩
  have hF4 := CF.set3 hF3 (.int .i32 0)
  have g1 := grownBy_setCell w2.drew c 2 (.int .u32 1)
  have g2 := grownBy_setCell (w2.drew.setCell ⟨c, 2, none⟩ (.int .u32 1)) c 3 (.int .i32 0)
  have hoff := hT.off hrow (by decide)
  have hP : ReadyPost w c t n (.returned (.tuple #[])) ((w2.drew.setCell ⟨c, 2, none⟩ (.int .u32 1)).setCell ⟨c, 3, none⟩ (.int .i32 0)) := by
    refine ⟨rfl, ⟨g, l, q, hF4, (((hrow.mono (Nat.zero_le _)).drew.kept g1 (.inr hoff)).kept g2 (.inr hoff))⟩, ?_⟩
    exact World.grownBy.trans (World.grownBy.trans (World.grownBy.trans HA.out.2.2.2.1 hgr) (grownBy_drew (World.grownBy.refl _ _))) (World.grownBy.trans g1 g2)
  simp [Leaves, settle, results, Try.results43]
  exact hP
/-- Not yet done. -/
theorem bch_first (c bx t n : Nat) (w : World) (ht1 : 1 ≤ t) (ht8 : t ≤ 8) (hF : BNew w c t n) (hbx : w.cell? ⟨bx, 0, none⟩ = some (.pointer (some ⟨c, 0, none⟩))) (hne : bx ≠ c) (hlt : bx < w.heap.size) :
    Calls Try.prog 36 #[.pointer (some ⟨c, 2, none⟩), .func (.func 37) #[] #[.pointer (some ⟨bx, 0, none⟩)]] w (ReadyPost w c t n) := by
  have c0 : w.cell? ⟨c, 2, none⟩ = some (.int .u32 0) := CF.c2 hF
  have HT := Aside.mk (And.intro ht1 ht8)
  clear ht1 ht8
  go_enter Try.func36, Try.ntmps36
  go_wp2_with (first | (go_at_call 42; refine (Once.bool_load ⟨c, 2, none⟩ 0 false _ c0 rfl).mono ?_; rintro e w1 ⟨rfl, rfl⟩) | (go_at_call 43; refine (bch_slow c bx t n _ HT.out.1 HT.out.2 hF hbx hne hlt).mono ?_; rintro e w2 ⟨rfl, hM, hg⟩))
  go_end0
  exact ⟨rfl, hM, hg⟩
/-- Done already. -/
theorem bch_again (c : Nat) (fv : Value) (w : World) (hc : w.cell? ⟨c, 2, none⟩ = some (.int .u32 1)) :
    Calls Try.prog 36 #[.pointer (some ⟨c, 2, none⟩), fv] w fun e w' => e = .returned (.tuple #[]) ∧ w' = w := by
  go_enter Try.func36, Try.ntmps36
  go_wp2_with (go_at_call 42; refine (Once.bool_load ⟨c, 2, none⟩ 1 true _ hc rfl).mono ?_; rintro e w1 ⟨rfl, rfl⟩)
  go_end0
  exact ⟨rfl, rfl⟩
set_option maxHeartbeats 800000 in
/-- Ready, the first time. -/
theorem bch_ready (c t n : Nat) (w : World) (ht1 : 1 ≤ t) (ht8 : t ≤ 8) (hF : BNew w c t n) :
    Calls Try.prog 31 #[.pointer (some ⟨c, 0, none⟩)] w (ReadyPost w c t n) := by
  have hmf : ∀ (fn : Fn) (first cap : Array Value) (w : World), (Instr.makeFunc fn first cap).run Try.prog w = .ok (.func fn first cap) w := fun _ _ _ _ => rfl
  have hfl := CF.lt hF
  have g0 := World.grownBy_alloc w (.cells #[.pointer (some ⟨c, 0, none⟩)] 55) (some c)
  have b0 : (w.alloc (.cells #[.pointer (some ⟨c, 0, none⟩)] 55)).cell? ⟨w.heap.size, 0, none⟩ = some (.pointer (some ⟨c, 0, none⟩)) := by simp
  have hF1 : BNew (w.alloc (.cells #[.pointer (some ⟨c, 0, none⟩)] 55)) c t n := CF.below hF ((Below.refl w.heap.size w).alloc (Nat.le_refl _) (.cells #[.pointer (some ⟨c, 0, none⟩)] 55))
  have HA := Aside.mk (And.intro g0 (And.intro b0 hF1))
  have HT := Aside.mk (And.intro ht1 ht8)
  clear g0 b0 hF1 hF ht1 ht8
  go_enter Try.func31, Try.ntmps31
  go_wp2_with (go_at_call 36; refine (bch_first c w.heap.size t n _ HT.out.1 HT.out.2 HA.out.2.2 HA.out.2.1 (by omega) (by simp)).mono ?_; rintro e w2 ⟨rfl, hM, hg⟩)
  go_end0
  exact ⟨rfl, hM, World.grownBy.trans HA.out.1 hg⟩
/-- Ready already. -/
theorem bch_ready_at (c t n g q : Nat) (l : List UInt8) (w : World) (hF : BReady w c t n g l q) :
    Calls Try.prog 31 #[.pointer (some ⟨c, 0, none⟩)] w fun e w' => e = .returned (.tuple #[]) ∧ Below w.heap.size w w' := by
  have hmf : ∀ (fn : Fn) (first cap : Array Value) (w : World), (Instr.makeFunc fn first cap).run Try.prog w = .ok (.func fn first cap) w := fun _ _ _ _ => rfl
  have hb := (Below.refl w.heap.size w).alloc (Nat.le_refl _) (.cells #[.pointer (some ⟨c, 0, none⟩)] 55)
  have c0 := (hF.below hb).code.c2
  have HC := Aside.mk c0
  clear c0 hF
  go_enter Try.func31, Try.ntmps31
  go_wp2_with (go_at_call 36; refine (bch_again c _ _ HC.out).mono ?_; rintro e w2 ⟨rfl, rfl⟩)
  go_end0
  exact ⟨rfl, hb⟩
end Go.Proofs.Ytffdpmejilmnnaa
namespace Go.Proofs.Ytffdpmejilmnnaa
open Go.RowKit

/-- The remainder so far; what was there stays. -/
structure DivAt (w : World) (c t n g q : Nat) (l : List UInt8) (h : Nat) (r : List UInt8) (wr : World) : Prop where
  len : r.length = lowN8 t
  row : Row wr w.heap.size 5 1 (.slice (some ⟨h, 0, none⟩) (lowN8 t) (lowN8 t)) (lowN8 t) (bytesV r)
  new : w.heap.size ≤ h
  bel : Below w.heap.size w wr
theorem DivAt.code {w wr : World} {c t n g q h : Nat} {l r : List UInt8} (d : DivAt w c t n g q l h r wr) (hb : BReady w c t n g l q) : BReady wr c t n g l q := hb.below d.bel
theorem BReady.len {w : World} {c t n g q : Nat} {l : List UInt8} (h : BReady w c t n g l q) : l.length = lowN8 t := by
  have := h.low.1
  rw [bytesV_length] at this
  omega
theorem DivAt.start {w : World} {c t n g q : Nat} {l : List UInt8} (hL : lowN8 t ≤ 1000000) : DivAt w c t n g q l w.heap.size (List.replicate (lowN8 t) 0) (w.alloc (.cells (madeCells #[.int .u8 0] (lowN8 t)) 5)) := by
  refine ⟨by simp, ?_, Nat.le_refl _, (Below.refl _ _).alloc (Nat.le_refl _) _⟩
  have e2 : bytesV (List.replicate (lowN8 t) 0) = List.replicate (lowN8 t) (.int .u8 0) := by simp [bytesV]
  rw [e2]
  exact Row.zeros w w.heap.size 5 (.int .u8 0) (lowN8 t) (Nat.le_refl _) (by simp only [maxLen]; omega)
theorem DivAt.set {w wr : World} {c t n g q h : Nat} {l r : List UInt8} (d : DivAt w c t n g q l h r wr) (k : Nat) (hk : k < lowN8 t) (b : UInt8) :
    DivAt w c t n g q l h (r.set k b) (wr.setCell ⟨h, k, none⟩ (.int .u8 (b.toNat : Int))).drew := by
  have hs := d.row.store rfl k (by omega) (.int .u8 (b.toNat : Int))
  rw [Nat.zero_add] at hs
  refine ⟨by rw [List.length_set]; exact d.len, ?_, d.new, (d.bel.setCell d.new _).drew⟩
  have e : bytesV (r.set k b) = (bytesV r).set k (.int .u8 (b.toNat : Int)) := by simp only [bytesV, List.map_set]
  rw [e]
  exact hs.1.drew
theorem DivAt.left {w wr w' : World} {c t n g q h : Nat} {l r : List UInt8} {e : Ending} (d : DivAt w c t n g q l h r wr) (hp : LeftPost wr.drew w.heap.size h (lowN8 t) (lowN8 t) r e w') :
    e = .returned (.int .u8 ((leftL r).2.toNat : Int)) ∧ DivAt w c t n g q l h (leftL r).1 w' := by
  obtain ⟨he, hr, hg⟩ := hp
  exact ⟨he, ⟨by rw [leftL_len, d.len], hr, d.new, d.bel.drew.trans ((Below.refl w.heap.size wr.drew).grown hg d.bel.size (fun r hr => by injection hr with hr; have := d.new; omega))⟩⟩
def DivPost (w : World) (t : Nat) (l : List UInt8) (s : ByteArray) (e : Ending) (w' : World) : Prop :=
  ∃ h, e = .returned (.slice (some ⟨h, 0, none⟩) (lowN8 t) (lowN8 t)) ∧ Row w' w.heap.size 5 1 (.slice (some ⟨h, 0, none⟩) (lowN8 t) (lowN8 t)) (lowN8 t) (bytesV (divD l (List.replicate (lowN8 t) 0) s.data.toList)) ∧ Below w.heap.size w w'
theorem and_bit_all : ∀ n : Nat, n < 256 → ∀ j : Nat, j < 8 → bits .and .u8 ((n : Int) / 2 ^ j) 1 = ((bitAt (UInt8.ofNat n) j).toNat : Int) := by decide +kernel
theorem and_bit (x : UInt8) {j : Nat} (hj : j < 8) : bits .and .u8 ((x.toNat : Int) / 2 ^ j) 1 = ((bitAt x j).toNat : Int) := by
  have := and_bit_all x.toNat x.toNat_lt j hj
  rwa [UInt8.ofNat_toNat] at this
/-- The first k places changed. -/
def xorTo (r l : List UInt8) (k : Nat) : List UInt8 := xorL (r.take k) (l.take k) ++ r.drop k
theorem xorTo_all {r l : List UInt8} (h : r.length = l.length) : xorTo r l r.length = xorL r l := by
  unfold xorTo
  rw [List.take_length, h, List.take_length, ← h, List.drop_length, List.append_nil]
theorem xorTo_len {r l : List UInt8} (h : r.length = l.length) {k : Nat} (hk : k ≤ r.length) : (xorTo r l k).length = r.length := by
  unfold xorTo
  rw [List.length_append, xorL_len (by rw [List.length_take, List.length_take, h]), List.length_take, List.length_drop]
  omega
theorem xorTo_at {r l : List UInt8} (h : r.length = l.length) {k : Nat} (hk : k < r.length) : (xorTo r l k).getD k 0 = r.getD k 0 := by
  have h1 : (xorL (r.take k) (l.take k)).length = k := by rw [xorL_len (by rw [List.length_take, List.length_take, h]), List.length_take]; omega
  unfold xorTo
  rw [List.getD_eq_getElem?_getD, List.getElem?_append_right (by omega), h1, Nat.sub_self, List.getElem?_drop, Nat.add_zero, List.getD_eq_getElem?_getD]
theorem xorTo_set {r l : List UInt8} (h : r.length = l.length) {k : Nat} (hk : k < r.length) : (xorTo r l k).set k (r.getD k 0 ^^^ l.getD k 0) = xorTo r l (k + 1) := by
  have hl : k < l.length := by omega
  have h1 : (xorL (r.take k) (l.take k)).length = k := by rw [xorL_len (by rw [List.length_take, List.length_take, h]), List.length_take]; omega
  have e1 : r.take (k + 1) = r.take k ++ [r.getD k 0] := by rw [List.take_add_one, List.getElem?_eq_getElem hk, List.getD_eq_getElem?_getD, List.getElem?_eq_getElem hk]; rfl
  have e2 : l.take (k + 1) = l.take k ++ [l.getD k 0] := by rw [List.take_add_one, List.getElem?_eq_getElem hl, List.getD_eq_getElem?_getD, List.getElem?_eq_getElem hl]; rfl
  unfold xorTo
  rw [List.set_append_right _ _ (by omega), h1, Nat.sub_self, List.drop_eq_getElem_cons hk, e1, e2]
  have e3 : xorL (r.take k ++ [r.getD k 0]) (l.take k ++ [l.getD k 0]) = xorL (r.take k) (l.take k) ++ [r.getD k 0 ^^^ l.getD k 0] := by
    unfold xorL
    rw [List.zipWith_append (by rw [List.length_take, List.length_take, h])]
    rfl
  rw [e3, List.append_assoc]
  rfl
theorem u8_xorN {a b : Nat} (ha : a < 256) (hb : b < 256) : bits .xor .u8 (a : Int) (b : Int) = ((a ^^^ b : Nat) : Int) := by
  have hx : a ^^^ b < 2 ^ 8 := Nat.xor_lt_two_pow (by omega) (by omega)
  show IntKind.u8.wrap ((BitVec.ofInt 8 (a : Int) ^^^ BitVec.ofInt 8 (b : Int)).toNat : Int) = _
  rw [BitVec.toNat_xor, BitVec.toNat_ofInt, BitVec.toNat_ofInt]
  have e1 : ((a : Int) % ((2 ^ 8 : Nat) : Int)).toNat = a := by omega
  have e2 : ((b : Int) % ((2 ^ 8 : Nat) : Int)).toNat = b := by omega
  rw [e1, e2, IntKind.wrap_u8]
  omega
theorem divD_snoc (low : List UInt8) (t : List UInt8) (x : UInt8) : ∀ r, divD low r (t ++ [x]) = byteD low x (divD low r t) := by
  induction t with
  | nil => intro r; rfl
  | cons y t ih => intro r; exact ih _
theorem take_snoc_byte (s : ByteArray) {k : Nat} (h : k < s.size) : s.data.toList.take (k + 1) = s.data.toList.take k ++ [s[k]] := by
  rw [List.take_add_one, List.getElem?_eq_getElem (by rw [data_len]; exact h)]
  rfl
end Go.Proofs.Ytffdpmejilmnnaa
namespace Go.Proofs.Ytffdpmejilmnnaa
open Go.RowKit

/-- The parity of a chunk. -/
def encD (t : Nat) (l : List UInt8) (s : ByteArray) : ByteArray := ⟨(divD l (List.replicate (lowN8 t) 0) s.data.toList).toArray⟩
def EncPost (w : World) (c t n : Nat) (s : ByteArray) (e : Ending) (w' : World) : Prop :=
  ∃ g l q, e = .returned (.tuple #[.string (encD t l s), .int .i64 0]) ∧ BReady w' c t n g l q ∧ w.grownBy w' (some c)
def EncPostAt (w : World) (t : Nat) (l : List UInt8) (s : ByteArray) (e : Ending) (w' : World) : Prop :=
  e = .returned (.tuple #[.string (encD t l s), .int .i64 0]) ∧ Below w.heap.size w w'
set_option maxRecDepth 100000 in
theorem bch_parity_at (c t n g q : Nat) (l : List UInt8) (w : World) (hR : BReady w c t n g l q) :
    Calls Try.prog 20 #[.pointer (some ⟨c, 0, none⟩)] w fun e w' => e = .returned (.int .i64 (lowN8 t : Int)) ∧ Below w.heap.size w w' := by
  have HRD : Aside (Calls Try.prog 31 #[.pointer (some ⟨c, 0, none⟩)] w fun e w1 => e = .returned (.tuple #[]) ∧ w1.cell? ⟨c, 12, none⟩ = some (.slice (some ⟨g, 0, none⟩) (lowN8 t) (lowN8 t)) ∧ Aside (Below w.heap.size w w1)) := ⟨by
    refine (bch_ready_at c t n g q l w hR).mono ?_
    rintro e w1 ⟨rfl, hb⟩
    exact ⟨rfl, (hR.below hb).code.c12, ⟨hb⟩⟩⟩
  clear hR
  go_enter Try.func20, Try.ntmps20
  go_wp2_with (go_at_call 31; refine HRD.out.mono ?_; rintro e w1 ⟨rfl, c12, HB⟩)
  go_ret
  exact ⟨rfl, HB.out⟩
set_option maxRecDepth 100000 in
theorem bch_new (t n : Nat) (w : World) (ht8 : t ≤ 8) (ht1 : 1 ≤ t) (hn1 : 1 ≤ n) (hn : n ≤ 256) :
    Calls Try.prog 30 #[.int .i64 (t : Int), .int .i64 (n : Int)] w fun e w' => e = .returned (.tuple #[.pointer (some ⟨w.heap.size, 0, none⟩), .int .i64 0]) ∧ Aside (BNew w' w.heap.size t n ∧ Below w.heap.size w w') := by
  have h1 : ¬ (t : Int) < 1 := by omega
  have h2 : ¬ (8 : Int) < (t : Int) := by omega
  have h3 : ¬ (n : Int) < 1 := by omega
  have h4 : ¬ (256 : Int) < (n : Int) := by omega
  have HN := Aside.mk (And.intro (CF.new w t n) ((Below.refl w.heap.size w).alloc (Nat.le_refl _) (.cells #[.int .i64 (t : Int), .int .i64 (n : Int), .int .u32 0, .int .i32 0, .int .u32 0, .int .u32 0, .int .i32 0, .int .u32 0, .slice none 0 0, .slice none 0 0, .int .i64 0, .int .i64 0, .slice none 0 0] 87)))
  clear ht8 ht1 hn1 hn
  go_enter Try.func30, Try.ntmps30
  go_wp2
  go_ret2
  exact ⟨rfl, HN⟩
end Go.Proofs.Ytffdpmejilmnnaa
namespace Go.Proofs.Ytffdpmejilmnnaa
open Go.RowKit

def goodP (b p c ch t : Int) : Prop := 1 ≤ b ∧ b ≤ 64 ∧ 4 ≤ p ∧ p ≤ 64 ∧ p % 4 = 0 ∧ 1 ≤ c ∧ c ≤ 4 ∧ 16 ≤ ch ∧ ch ≤ 256 ∧ 1 ≤ t ∧ t ≤ 8
instance (b p c ch t : Int) : Decidable (goodP b p c ch t) := by unfold goodP; infer_instance
abbrev geoV (b p c ch t : Int) : Value := .agg #[.int .i64 b, .int .i64 p, .int .i64 c, .int .i64 ch, .int .i64 t]
theorem good_yes {b p c ch t : Int} (h : goodP b p c ch t) : decide (goodP b p c ch t) = true := by simpa using h
theorem good_no {b p c ch t : Int} (h : ¬ goodP b p c ch t) : decide (goodP b p c ch t) = false := by simpa using h
set_option maxRecDepth 20000 in
set_option maxHeartbeats 4000000 in
theorem page_good (b p c ch t : Int) (w : World) :
    Calls Try.prog 29 #[geoV b p c ch t] w fun e w' => e = .returned (.bool (decide (goodP b p c ch t))) ∧ Below w.heap.size w w' := by
  have hb := (Below.refl w.heap.size w).alloc (Nat.le_refl _) (.cells #[.int .i64 b, .int .i64 p, .int .i64 c, .int .i64 ch, .int .i64 t] 29)
  have HB := Aside.mk hb
  clear hb
  go_enter Try.func29, Try.ntmps29
  by_cases hg : goodP b p c ch t
  · rw [good_yes hg]
    obtain ⟨h0, h1, h2, h3, h4, h5, h6, h7, h8, h9, h10⟩ := hg
    have hm : p.tmod 4 = 0 := by rw [Int.tmod_eq_emod_of_nonneg (by omega)]; exact h4
    go_wp2
    go_ret
    exact ⟨rfl, HB.out⟩
  · rw [good_no hg]
    have HG := Aside.mk hg
    clear hg
    by_cases h0 : 1 ≤ b
    · by_cases h1 : b ≤ 64
      · by_cases h2 : 4 ≤ p
        · by_cases h3 : p ≤ 64
          · by_cases h4 : p % 4 = 0
            · have hm : p.tmod 4 = 0 := by rw [Int.tmod_eq_emod_of_nonneg (by omega)]; exact h4
              by_cases h5 : 1 ≤ c
              · by_cases h6 : c ≤ 4
                · by_cases h7 : 16 ≤ ch
                  · by_cases h8 : ch ≤ 256
                    · by_cases h9 : 1 ≤ t
                      · by_cases h10 : t ≤ 8
                        · exact absurd ⟨h0, h1, h2, h3, h4, h5, h6, h7, h8, h9, h10⟩ HG.out
                        · go_wp2
                          go_ret
                          exact ⟨rfl, HB.out⟩
                      · go_wp2
                        go_ret
                        exact ⟨rfl, HB.out⟩
                    · go_wp2
                      go_ret
                      exact ⟨rfl, HB.out⟩
                  · go_wp2
                    go_ret
                    exact ⟨rfl, HB.out⟩
                · go_wp2
                  go_ret
                  exact ⟨rfl, HB.out⟩
              · go_wp2
                go_ret
                exact ⟨rfl, HB.out⟩
            · have hm : ¬ p.tmod 4 = 0 := by rw [Int.tmod_eq_emod_of_nonneg (by omega)]; exact h4
              go_wp2
              go_ret
              exact ⟨rfl, HB.out⟩
          · go_wp2
            go_ret
            exact ⟨rfl, HB.out⟩
        · go_wp2
          go_ret
          exact ⟨rfl, HB.out⟩
      · go_wp2
        go_ret
        exact ⟨rfl, HB.out⟩
    · go_wp2
      go_ret
      exact ⟨rfl, HB.out⟩
set_option maxRecDepth 100000 in
/-- The parity's length of a new code. -/
theorem bch_parity (c t n : Nat) (w : World) (ht8 : t ≤ 8) (ht1 : 1 ≤ t) (hF : BNew w c t n) :
    Calls Try.prog 20 #[.pointer (some ⟨c, 0, none⟩)] w fun e w' => e = .returned (.int .i64 (lowN8 t : Int)) ∧ (∃ g l q, BReady w' c t n g l q) ∧ w.grownBy w' (some c) := by
  have HRD : Aside (Calls Try.prog 31 #[.pointer (some ⟨c, 0, none⟩)] w fun e w1 => e = .returned (.tuple #[]) ∧ ∃ g l q, w1.cell? ⟨c, 12, none⟩ = some (.slice (some ⟨g, 0, none⟩) (lowN8 t) (lowN8 t)) ∧ Aside (BReady w1 c t n g l q ∧ w.grownBy w1 (some c))) := ⟨by
    refine (bch_ready c t n w ht1 ht8 hF).mono ?_
    rintro e w1 ⟨rfl, ⟨g, l, q, hR⟩, hg⟩
    exact ⟨rfl, g, l, q, hR.code.c12, ⟨hR, hg⟩⟩⟩
  clear hF ht8 ht1
  go_enter Try.func20, Try.ntmps20
  go_wp2_with (go_at_call 31; refine HRD.out.mono ?_; rintro e w1 ⟨rfl, g, l, q, c12, HB⟩)
  go_ret
  exact ⟨rfl, ⟨g, l, q, HB.out.1⟩, HB.out.2⟩
/-- The code of a good geometry. -/
theorem code_of (b p c ch t : Int) (w : World) (hg : goodP b p c ch t) :
    Calls Try.prog 19 #[geoV b p c ch t] w fun e w' => ∃ k, e = .returned (.pointer (some ⟨k, 0, none⟩)) ∧ Aside (w.heap.size ≤ k ∧ BNew w' k t.toNat ch.toNat ∧ Below w.heap.size w w') := by
  have hb := (Below.refl w.heap.size w).alloc (Nat.le_refl _) (.cells #[.int .i64 b, .int .i64 p, .int .i64 c, .int .i64 ch, .int .i64 t] 29)
  have HB := Aside.mk hb
  have HG := Aside.mk hg
  have HGC := Aside.mk (page_good b p c ch t)
  rw [good_yes hg] at HGC
  obtain ⟨tn, htn⟩ : ∃ tn : Nat, (tn : Int) = t := ⟨t.toNat, by have := hg.2.2.2.2.2.2.2.2.2; omega⟩
  obtain ⟨cn, hcn⟩ : ∃ cn : Nat, (cn : Int) = ch := ⟨ch.toNat, by have := hg.2.2.2.2.2.2.2.1; omega⟩
  have HTC : Aside (tn = t.toNat ∧ cn = ch.toNat ∧ 1 ≤ tn ∧ tn ≤ 8 ∧ 1 ≤ cn ∧ cn ≤ 256) := ⟨by have h1 := hg.2.2.2.2.2.2.2; omega⟩
  clear hb hg
  go_enter Try.func19, Try.ntmps19
  go_upto_region 3 with (go_at_call 29; refine (HGC.out _).mono ?_; rintro e w1 ⟨rfl, hb1⟩)
  have hs : w.heap.size < (w.alloc (.cells #[.int .i64 b, .int .i64 p, .int .i64 c, .int .i64 ch, .int .i64 t] 29)).heap.size := by simp
  have hce : ∀ k, w1.cell? ⟨w.heap.size, k, none⟩ = (w.alloc (.cells #[.int .i64 b, .int .i64 p, .int .i64 c, .int .i64 ch, .int .i64 t] 29)).cell? ⟨w.heap.size, k, none⟩ := fun k => hb1.cell (p := ⟨w.heap.size, k, none⟩) hs
  have c3 := (hce 3).trans (cell_of_row _ w.heap.size 3 _ _ _ (heap_alloc_new w _))
  have c4 := (hce 4).trans (cell_of_row _ w.heap.size 4 _ _ _ (heap_alloc_new w _))
  have HB1 : Aside (Below w.heap.size w w1 ∧ w.heap.size ≤ w1.heap.size) := ⟨HB.out.trans (hb1.mono HB.out.size), (HB.out.trans (hb1.mono HB.out.size)).size⟩
  simp only [List.getElem?_cons_zero, List.getElem?_cons_succ, List.getElem?_toArray] at c3 c4
  rw [← htn] at c4
  rw [← hcn] at c3
  clear hce hs hb1 htn hcn
  go_wp2_with (go_at_call 30; refine (bch_new tn cn w1 HTC.out.2.2.2.1 HTC.out.2.2.1 HTC.out.2.2.2.2.1 HTC.out.2.2.2.2.2).mono ?_; rintro e w2 ⟨rfl, HN⟩)
  go_ret
  refine ⟨_, rfl, ⟨HB1.out.2, ?_, HB1.out.1.trans (HN.out.2.mono HB1.out.2)⟩⟩
  rw [← HTC.out.1, ← HTC.out.2.1]
  exact HN.out.1
theorem code_of_not (b p c ch t : Int) (w : World) (hg : ¬ goodP b p c ch t) :
    Calls Try.prog 19 #[geoV b p c ch t] w fun e w' => e = .returned (.pointer none) ∧ Below w.heap.size w w' := by
  have hb := (Below.refl w.heap.size w).alloc (Nat.le_refl _) (.cells #[.int .i64 b, .int .i64 p, .int .i64 c, .int .i64 ch, .int .i64 t] 29)
  have HB := Aside.mk hb
  have HGC := Aside.mk (page_good b p c ch t)
  rw [good_no hg] at HGC
  clear hb hg
  go_enter Try.func19, Try.ntmps19
  go_wp2_with (go_at_call 29; refine (HGC.out _).mono ?_; rintro e w1 ⟨rfl, hb1⟩)
  go_ret
  exact ⟨rfl, HB.out.trans (hb1.mono HB.out.size)⟩
end Go.Proofs.Ytffdpmejilmnnaa
namespace Go.Proofs.Ytffdpmejilmnnaa
open Go.RowKit

/-- Slot t is written by one of these operations. -/
def relWrites (l : List Oper) (t : Nat) : Bool := l.any fun o => o.dst == some t
/-- Every operation has a slot of its own and no guard, and waits for those whose slots it looks at. -/
def relB (l : List Oper) : Bool :=
  (List.range l.length).all fun i => match l[i]? with
    | none => false
    | some o => o.guard.isNone && o.dst.isSome && (o.after.toList.all fun e => e.on < i) &&
        ((List.range l.length).all fun j => match l[j]? with
          | none => false
          | some o' => (j == i || o'.dst != o.dst) && (match o'.dst with
            | none => false
            | some t => !((o.looksAt l.toArray).contains t) || o.after.toList.any fun e => Region.binds .any e && e.on == j))
/-- The way on. -/
def relQ (K : Act → World → Prop) (Q : Exit → Act → World → Prop) : Exit → Act → World → Prop
  | .normal => K
  | x => Q x
theorem relQ_lets {K : Act → World → Prop} {Q : Exit → Act → World → Prop} (h : LetsOut (relQ K Q)) : LetsOut Q := h

/-- What is asked of one operation. -/
def relStep (P : Program) (l : List Oper) (V : Nat → Value → World → Prop) (Q : Exit → Act → World → Prop) (w : World) (a0 : Act) (o : Oper) : Prop :=
  ∀ (f : Nat → Value) (W : World), Below w.heap.size w W → (∀ t, relWrites l t = false → f t = a0.tmps.getD t undef) → (∀ t, relWrites l t = true → (o.looksAt l.toArray).contains t = true → V t (f t) W) →
    ∀ K : Act → World → Prop, (∀ v W', Below W.heap.size W W' → V (o.dst.getD 0) v W' → K (({ tmps := ((List.range a0.tmps.size).map f).toArray, defers := a0.defers } : Act).put o.dst v) W') →
      wpList P #[o] (relQ K Q) [o] { tmps := ((List.range a0.tmps.size).map f).toArray, defers := a0.defers } W
def relAll (P : Program) (l : List Oper) (V : Nat → Value → World → Prop) (Q : Exit → Act → World → Prop) (w : World) (a0 : Act) : List Oper → Prop
  | [] => True
  | o :: r => relStep P l V Q w a0 o ∧ relAll P l V Q w a0 r
theorem relAll_mem {P : Program} {l : List Oper} {V : Nat → Value → World → Prop} {Q : Exit → Act → World → Prop} {w : World} {a0 : Act} {r : List Oper} (h : relAll P l V Q w a0 r) (o : Oper) (ho : o ∈ r) : relStep P l V Q w a0 o := by
  induction r with
  | nil => cases ho
  | cons x r ih =>
    unfold relAll at h
    rcases List.mem_cons.1 ho with rfl | ho
    · exact h.1
    · exact ih h.2 ho

/-- How it stands between two operations. -/
structure RelInv (l : List Oper) (V : Nat → Value → World → Prop) (w : World) (a0 : Act) (listed : Array Bool) (a : Act) (W : World) : Prop where
  bel : Below w.heap.size w W
  dfr : a.defers = a0.defers
  size : a.tmps.size = a0.tmps.size
  old : ∀ t, relWrites l t = false → a.tmps.getD t undef = a0.tmps.getD t undef
  new : ∀ (j : Nat) (o : Oper) (t : Nat), l[j]? = some o → o.dst = some t → listed.getD j false = true → V t (a.tmps.getD t undef) W

theorem rel_frame (a a0 : Act) (hd : a.defers = a0.defers) (hs : a.tmps.size = a0.tmps.size) : a = { tmps := ((List.range a0.tmps.size).map fun t => a.tmps.getD t undef).toArray, defers := a0.defers } := by
  obtain ⟨tmps, defers⟩ := a
  simp only at hd hs
  subst hd
  congr 1
  apply Array.ext'
  apply List.ext_getElem
  · simp [hs]
  · intro n h1 h2
    simp only [Array.length_toList] at h1
    simp [h1]

theorem relB_spec {l : List Oper} (h : relB l = true) {i : Nat} {o : Oper} (ho : l[i]? = some o) : o.guard = none ∧ (∃ t, o.dst = some t) ∧ (∀ e ∈ o.after, e.on < i) ∧ ∀ (j : Nat) (o' : Oper) (t : Nat), l[j]? = some o' → o'.dst = some t → (j ≠ i → o.dst ≠ some t) ∧ ((o.looksAt l.toArray).contains t = true → ∃ e ∈ o.after, Region.binds .any e = true ∧ e.on = j) := by
  have hi : i < l.length := (List.getElem?_eq_some_iff.1 ho).1
  unfold relB at h
  have h1 := List.all_eq_true.1 h i (List.mem_range.2 hi)
  simp only [ho, Bool.and_eq_true, Option.isNone_iff_eq_none] at h1
  obtain ⟨⟨⟨hg, hd⟩, hlt⟩, hall⟩ := h1
  refine ⟨hg, Option.isSome_iff_exists.1 hd, fun e he => by simpa using List.all_eq_true.1 hlt e (Array.mem_toList_iff.2 he), fun j o' t hj ht => ?_⟩
  have hjl : j < l.length := (List.getElem?_eq_some_iff.1 hj).1
  have h2 := List.all_eq_true.1 hall j (List.mem_range.2 hjl)
  simp only [hj, ht, Bool.and_eq_true, Bool.or_eq_true, beq_iff_eq, bne_iff_ne, ne_eq, Bool.not_eq_true', List.any_eq_true] at h2
  refine ⟨fun hne he => ?_, fun hc => ?_⟩
  · rcases h2.1 with h3 | h3
    · exact hne h3
    · exact h3 he.symm
  · rcases h2.2 with h3 | h3
    · rw [hc] at h3; cases h3
    · obtain ⟨e, he, hb, hon⟩ := h3
      exact ⟨e, Array.mem_toList_iff.1 he, hb, hon⟩

theorem getD_put (a : Act) (d : Nat) (v : Value) (t : Nat) (h : t ≠ d) : (a.put (some d) v).tmps.getD t undef = a.tmps.getD t undef := by
  simp only [Act.put, Array.getD_eq_getD_getElem?, Array.getElem?_setIfInBounds_ne (Ne.symm h)]
theorem getD_put_self (a : Act) (d : Nat) (v : Value) (h : d < a.tmps.size) : (a.put (some d) v).tmps.getD d undef = v := by
  simp [Act.put, h]

theorem writes_mem {l : List Oper} {t : Nat} (h : relWrites l t = true) : ∃ (j : Nat) (o : Oper), l[j]? = some o ∧ o.dst = some t := by
  obtain ⟨o, ho, hd⟩ := List.any_eq_true.1 h
  obtain ⟨j, hj⟩ := List.getElem?_of_mem ho
  exact ⟨j, o, hj, by simpa using hd⟩
theorem mem_writes {l : List Oper} {t j : Nat} {o : Oper} (hj : l[j]? = some o) (hd : o.dst = some t) : relWrites l t = true :=
  List.any_eq_true.2 ⟨o, List.mem_of_getElem? hj, by simp [hd]⟩

theorem all_listed {l : List Oper} (hB : relB l = true) {listed : Array Bool} (hr : Region.ready .any l.toArray listed = []) : ∀ (j : Nat), j < l.length → listed.getD j true = true
  | j, hj => by
    have ho : l[j]? = some l[j] := List.getElem?_eq_getElem hj
    obtain ⟨_, _, hlt, _⟩ := relB_spec hB ho
    cases hq : listed.getD j true with
    | true => rfl
    | false =>
      have hm : j ∈ Region.ready .any l.toArray listed := by
        rw [mem_ready]
        refine ⟨hq, l[j], by simp, fun e he _ => ?_⟩
        have hlte := hlt e he
        have ih := all_listed hB hr e.on (by omega)
        have hsz : j < listed.size := by
          rcases Nat.lt_or_ge j listed.size with h | h
          · exact h
          · simp [Array.getD_eq_getD_getElem?, Array.getElem?_eq_none h] at hq
        have hes : e.on < listed.size := by omega
        simpa [Array.getD_eq_getD_getElem?, hes] using ih
      rw [hr] at hm
      cases hm
termination_by j => j

theorem rel_any {P : Program} {l : List Oper} {V : Nat → Value → World → Prop} {Q : Exit → Act → World → Prop} {w : World} {a0 : Act} (hB : relB l = true)
    (hN : ∀ t, relWrites l t = true → t < a0.tmps.size)
    (hV : ∀ t v W W', V t v W → Below W.heap.size W W' → V t v W') (hop : relAll P l V Q w a0 l)
    (hend : ∀ (f : Nat → Value) (W : World), Below w.heap.size w W → (∀ t, relWrites l t = false → f t = a0.tmps.getD t undef) → (∀ t, relWrites l t = true → V t (f t) W) →
      Q .normal { tmps := ((List.range a0.tmps.size).map f).toArray, defers := a0.defers } W) : ∀ (fuel : Nat) (listed : Array Bool) (a : Act) (W : World),
    listed.size = l.length → listed.toList.countP (fun b => !b) ≤ fuel → RelInv l V w a0 listed a W → wpAny P .any l.toArray Q fuel listed a W := by
  have fin : ∀ (listed : Array Bool) (a : Act) (W : World), listed.size = l.length → RelInv l V w a0 listed a W → Region.ready .any l.toArray listed = [] → Q .normal a W := by
    intro listed a W hsz hI hr
    rw [rel_frame a a0 hI.dfr hI.size]
    refine hend _ W hI.bel hI.old fun t ht => ?_
    obtain ⟨j, o, hj, hd⟩ := writes_mem ht
    refine hI.new j o t hj hd ?_
    have hjl := (List.getElem?_eq_some_iff.1 hj).1
    have := all_listed hB hr j hjl
    have hjs : j < listed.size := by omega
    simpa [Array.getD_eq_getD_getElem?, hjs] using this
  intro fuel
  induction fuel with
  | zero =>
    intro listed a W hsz hc hI
    have hr : Region.ready .any l.toArray listed = [] := by
      rw [List.eq_nil_iff_forall_not_mem]
      intro i hi
      obtain ⟨h0, o, ho, _⟩ := mem_ready.1 hi
      have hil : i < l.length := (List.getElem?_eq_some_iff.1 (by simpa using ho)).1
      have his : i < listed.size := by omega
      have h0' : listed[i] = false := by simpa [Array.getD_eq_getD_getElem?, his] using h0
      have := List.countP_eq_zero.1 (Nat.le_zero.1 hc) listed[i] (by simp)
      rw [h0'] at this
      exact this rfl
    exact ⟨hr, fin listed a W hsz hI hr⟩
  | succ fuel ih =>
    intro listed a W hsz hc hI
    refine ⟨fin listed a W hsz hI, fun i hi => ?_⟩
    obtain ⟨h0, o, ho, hdep⟩ := mem_ready.1 hi
    have hol : l[i]? = some o := by simpa using ho
    have hil := (List.getElem?_eq_some_iff.1 hol).1
    have his : i < listed.size := by omega
    have h0' : listed[i] = false := by simpa [Array.getD_eq_getD_getElem?, his] using h0
    obtain ⟨hg, ⟨d, hd⟩, _, hdst⟩ := relB_spec hB hol
    have hstep := relAll_mem hop o (List.mem_of_getElem? hol) (fun t => a.tmps.getD t undef) W hI.bel hI.old (fun t ht hl => by
      obtain ⟨j, o', hj, hd'⟩ := writes_mem ht
      obtain ⟨e, he, hb, hon⟩ := (hdst j o' t hj hd').2 hl
      refine hI.new j o' t hj hd' ?_
      rw [← hon]
      exact hdep e he hb) (wpAny P .any l.toArray Q fuel (listed.setIfInBounds i true)) (by
      intro v W' hb hv
      rw [← rel_frame a a0 hI.dfr hI.size, hd]
      rw [hd] at hv
      have hda : d < a.tmps.size := by rw [hI.size]; exact hN d (mem_writes hol hd)
      refine ih _ _ _ (by simpa using hsz) ?_ ⟨hI.bel.trans (hb.mono hI.bel.size), hI.dfr, by simpa [Act.put] using hI.size, fun t ht => ?_, fun j o' t hj hd' hl => ?_⟩
      · rw [Array.toList_setIfInBounds, List.countP_set (by simpa using his)]
        simp only [Array.getElem_toList, h0', Bool.not_false, Bool.not_true, if_true, Bool.false_eq_true, if_false]
        have := List.countP_pos_iff (p := fun b => !b) (l := listed.toList) |>.2 ⟨listed[i], by simp, by rw [h0']; rfl⟩
        omega
      · have htd : t ≠ d := by rintro rfl; rw [mem_writes hol hd] at ht; cases ht
        rw [getD_put a d v t htd]
        exact hI.old t ht
      · by_cases hji : j = i
        · subst hji
          obtain rfl : o' = o := by rw [hol] at hj; exact (Option.some.inj hj).symm
          obtain rfl : t = d := by rw [hd] at hd'; exact (Option.some.inj hd').symm
          rw [getD_put_self a t v hda]
          exact hv
        · have htd : t ≠ d := by
            rintro rfl
            exact (hdst j o' t hj hd').1 hji hd
          rw [getD_put a d v t htd]
          rw [getD_set_ne false (Ne.symm hji)] at hl
          exact hV t _ W W' (hI.new j o' t hj hd' hl) hb)
    rw [← rel_frame a a0 hI.dfr hI.size] at hstep
    unfold wpOp
    simp only [ho]
    have hw : ∀ (y : Nat → Option Bool), Region.wanted o y = true := fun y => by simp [Region.wanted, hg]
    unfold wpList at hstep
    rw [if_pos (hw _)] at hstep
    rw [if_pos (hw _)]
    rcases hstep with hs | ⟨hs1, hs2⟩
    · left
      unfold Oper.wp at *
      generalize (execOp a.eval o).run P W = r at *
      cases r with
      | ok n w' =>
        cases n <;> simp only [Oper.upon] at hs ⊢ <;> first | exact hs | exact Calls.mono hs (fun e w'' he => by cases e <;> exact he) | exact Rows.mono hs (fun _ _ he => he)
      | halt x w' => cases x <;> simp only [Oper.upon] at hs ⊢ <;> exact hs
    · exact .inr ⟨hs1, hs2⟩

/-- THE LAW. -/
theorem wp_region_rel {P : Program} {id : Nat} {Q : Exit → Act → World → Prop} {a : Act} {w : World} {l : List Oper} (hm : P.follows .mixedOrders = true) (hB : relB l = true)
    (hN : ∀ t, relWrites l t = true → t < a.tmps.size) (V : Nat → Value → World → Prop)
    (hV : ∀ t v W W', V t v W → Below W.heap.size W W' → V t v W') (hop : relAll P l V Q w a l)
    (hend : ∀ (f : Nat → Value) (W : World), Below w.heap.size w W → (∀ t, relWrites l t = false → f t = a.tmps.getD t undef) → (∀ t, relWrites l t = true → V t (f t) W) →
      ∀ a', a' = ({ tmps := ((List.range a.tmps.size).map f).toArray, defers := a.defers } : Act) → Q .normal a' W) : (Code.region id l.toArray true).wp P Q a w := by
  refine wp_region_any hm ?_
  refine rel_any (w := w) (a0 := a) hB hN hV hop (fun f W h1 h2 h3 => hend f W h1 h2 h3 _ rfl) _ _ a _ (by simp) ?_ ⟨(Below.refl _ w).drew, rfl, rfl, fun _ _ => rfl, fun j o t hj hd hl => ?_⟩
  · rw [show l.toArray.size = l.length by simp]
    exact Nat.le_trans (List.countP_le_length) (by simp)
  · simp [Array.getD_eq_getD_getElem?, Array.getElem?_replicate] at hl
    split at hl <;> simp at hl

theorem rel_small {l : List Oper} {n : Nat} (h : (l.all fun o => (o.dst.map fun d => decide (d < n)).getD true) = true) : ∀ t, relWrites l t = true → t < n := by
  intro t ht
  obtain ⟨j, o, hj, hd⟩ := writes_mem ht
  have := List.all_eq_true.1 h o (List.mem_of_getElem? hj)
  simpa [hd] using this

/-- What a slot holds once its operation is done: a value, or a slice of a block of its own. -/
inductive RV where
  | val (x : Value)
  | row (cs : Array Value) (e : TypeId) (n : Nat)
def RV.holds : RV → Value → World → Prop
  | .val x => fun v _ => v = x
  | .row cs e n => fun v W => ∃ b, v = .slice (some ⟨b, 0, none⟩) n n ∧ W.heap[b]? = some (.cells cs e (0, 0))
def relV (tab : List (Nat × RV)) (t : Nat) (v : Value) (W : World) : Prop :=
  match tab.lookup t with
  | some r => r.holds v W
  | none => True
theorem relV_stable (tab : List (Nat × RV)) (t : Nat) (v : Value) (W W' : World) (h : relV tab t v W) (hb : Below W.heap.size W W') : relV tab t v W' := by
  unfold relV at *
  cases hl : tab.lookup t with
  | none => trivial
  | some r =>
    rw [hl] at h
    cases r with
    | val x => exact h
    | row cs e n =>
      obtain ⟨b, h1, h2⟩ := h
      refine ⟨b, h1, (hb.block b ?_).trans h2⟩
      rcases Nat.lt_or_ge b W.heap.size with h3 | h3
      · exact h3
      · rw [Array.getElem?_eq_none h3] at h2; cases h2
end Go.Proofs.Ytffdpmejilmnnaa
