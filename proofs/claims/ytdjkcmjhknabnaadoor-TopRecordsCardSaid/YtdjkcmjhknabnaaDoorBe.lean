/-
  Numbers as bytes, the highest first, and back; the document's bytes.
-/
import Derived.Test.YtdjkcmjhknabnaaDoorProg
import Derived.Test.YtdjkcmjhknabnaaDoorMem
import Derived.WalkKit
import Derived.WalkSpells
import Derived.WalkLawsBesides
import Derived.RegionTactic
import Derived.BigRegion
import Derived.OwnWalk
import Derived.Deep.DeepCutAuto
import Derived.Deep.QuietTactic
import Derived.BigQuiet
import Derived.Deep.RegionWith
namespace Go.Proofs.YtdjkcmjhknabnaaDoor
open Go.RowKit

theorem cat_list (s t : ByteArray) : (s ++ t).data.toList = s.data.toList ++ t.data.toList := by simp
/-- The last `size` bytes of n, the highest first. -/
def beL : Nat → Nat → List UInt8
  | 0, _ => []
  | s + 1, n => beL s (n / 256) ++ [UInt8.ofNat n]
theorem beL_length : ∀ s n, (beL s n).length = s
  | 0, _ => rfl
  | s + 1, n => by simp [beL, beL_length s]
theorem beL_get : ∀ s n i, i < s → (beL s n)[i]? = some (UInt8.ofNat (n / 2 ^ (8 * (s - 1 - i))))
  | 0, _, _, h => by omega
  | s + 1, n, i, h => by
    unfold beL
    rcases Nat.lt_or_ge i s with h1 | h1
    · rw [List.getElem?_append_left (by rw [beL_length]; exact h1), beL_get s _ i h1, Nat.div_div_eq_div_mul]
      congr 3
      rw [show s + 1 - 1 - i = (s - 1 - i) + 1 by omega, Nat.mul_add, Nat.pow_add, Nat.mul_comm]
    · obtain rfl : i = s := by omega
      rw [List.getElem?_append_right (by rw [beL_length]; exact Nat.le_refl _), beL_length]
      simp
def be (s n : Nat) : ByteArray := ⟨(beL s n).toArray⟩
theorem be_size (s n : Nat) : (be s n).size = s := beL_length s n
theorem be_list (s n : Nat) : (be s n).data.toList = beL s n := rfl

theorem take_set_succ {α : Type} (L : List α) (i : Nat) (x : α) (h : i < L.length) : (L.set i x).take (i + 1) = L.take i ++ [x] := by
  rw [List.set_eq_take_append_cons_drop, if_pos h, List.take_append, List.length_take, Nat.min_eq_left (by omega), List.take_of_length_le (by rw [List.length_take]; omega)]
  simp
theorem take_succ_get {α : Type} (L : List α) (i : Nat) (x : α) (h : L[i]? = some x) : L.take (i + 1) = L.take i ++ [x] := by
  rw [List.take_add_one, h]; rfl

theorem infoByte8 : (Tryd.prog.info? 5).map (·.size) = some 1 := by kernel_rfl
/-- The fact that a byte's text is made of its block, wherever the block lies. -/
def ByteTx (k : Nat) (g : Nat) (W : World) : Prop := (convert 42 9 (.slice (some ⟨g, 0, none⟩) 1 1)).run Tryd.prog W = .ok (.string ⟨#[UInt8.ofNat k]⟩) W
theorem byte_text {k : Nat} (hk : k < 256) {g : Nat} {W : World} (hw : W.heap[g]? = some (.cells #[.int .u8 (k : Int)] 5 (0, 0))) : ByteTx k g W := by
  have h : Row W 0 5 1 (.slice (some ⟨g, 0, none⟩) 1 1) 1 [.int .u8 (k : Int)] := ⟨rfl, .inr ⟨_, 0, 1, _, _, rfl, Nat.zero_le _, hw, by omega, by decide, Nat.le_refl 1, fun i _ => by simp only []; omega, rfl⟩⟩
  have e : [Value.int .u8 (k : Int)] = bytesV [UInt8.ofNat k] := by
    simp [bytesV, UInt8.toNat_ofNat', Nat.mod_eq_of_lt hk]
  rw [e] at h
  exact h.toString Tryd.underlying42 Tryd.underlying5 Tryd.underlying9

theorem bel_undrew {B : Nat} {w w1 : World} (h : Below B w.drew w1) : Below B w w1 := (Below.refl B w).drew.trans h
theorem bel_new {w w1 : World} {X : Obj} (h : Below (w.alloc X).heap.size (w.alloc X) w1) : Below w.heap.size w w1 := ((Below.refl _ _).alloc (Nat.le_refl _) X).trans (h.mono (by simp))
def beN (l : List UInt8) : Nat := l.foldl (fun n b => n * 256 + b.toNat) 0
theorem beN_snoc (l : List UInt8) (b : UInt8) : beN (l ++ [b]) = beN l * 256 + b.toNat := by simp [beN]
theorem or_low (m b : Nat) (hm : m % 256 = 0) (hb : b < 256) : m ||| b = m + b := by
  have hq : m = 2 ^ 8 * (m / 256) := by omega
  rw [hq, ← Nat.two_pow_add_eq_or_of_lt hb (m / 256)]
theorem or64 (x : Int) (b : Nat) (hb : b < 256) : bits .or .i64 (IntKind.i64.wrap (x * 256)) (b : Int) = IntKind.i64.wrap (x * 256 + b) := by
  have h1 : (BitVec.ofInt 64 (IntKind.i64.wrap (x * 256))).toNat = (x * 256 % 18446744073709551616).toNat := by
    rw [BitVec.toNat_ofInt, IntKind.wrap_i64]
    congr 1
    omega
  have h2 : (BitVec.ofInt 64 (b : Int)).toNat = b := by
    rw [BitVec.toNat_ofInt]; omega
  have h3 : (x * 256 % 18446744073709551616).toNat % 256 = 0 := by omega
  have h4 : bits .or .i64 (IntKind.i64.wrap (x * 256)) (b : Int) = IntKind.i64.wrap (((BitVec.ofInt 64 (IntKind.i64.wrap (x * 256))) ||| (BitVec.ofInt 64 (b : Int))).toNat : Int) := rfl
  rw [h4, BitVec.toNat_or, h1, h2, or_low _ _ h3 hb, IntKind.wrap_i64, IntKind.wrap_i64]
  omega

theorem wrap_again (x : Int) : IntKind.i64.wrap (IntKind.i64.wrap x * 256) = IntKind.i64.wrap (x * 256) := by
  rw [IntKind.wrap_i64, IntKind.wrap_i64, IntKind.wrap_i64]; omega
theorem or64w (x : Int) (b : Nat) (hb : b < 256) : bits .or .i64 (IntKind.i64.wrap (IntKind.i64.wrap x * 256)) (b : Int) = IntKind.i64.wrap (x * 256 + b) := by
  rw [wrap_again, or64 x b hb]
theorem take_snoc_b (s : ByteArray) (k : Nat) (h : k < s.size) : s.data.toList.take (k + 1) = s.data.toList.take k ++ [s[k]] := by
  rw [List.take_succ_eq_append_getElem (by simpa using h)]; rfl

theorem be_zero (n : Nat) : be 0 n = ⟨#[]⟩ := rfl
theorem be_succ (s n : Nat) : be (s + 1) n = be s (n / 256) ++ ⟨#[UInt8.ofNat (n % 256)]⟩ := by
  have e : UInt8.ofNat (n % 256) = UInt8.ofNat n := by
    rw [← UInt8.toNat_inj, UInt8.toNat_ofNat', UInt8.toNat_ofNat']; omega
  rw [e]
  exact ByteArray.ext (Array.ext' (by rw [cat_list]; rfl))

/-- The eight bytes of a number of the machine. -/
def u64 (n : Int) : Nat := (n % 18446744073709551616).toNat
theorem u64_lt (n : Int) : u64 n < 18446744073709551616 := by unfold u64; omega
theorem u64_nat {n : Nat} (h : n < 18446744073709551616) : u64 (n : Int) = n := by unfold u64; omega
theorem u64_wrap {n : Int} (h : -9223372036854775808 ≤ n ∧ n ≤ 9223372036854775807) : IntKind.i64.wrap (u64 n : Int) = n := by
  unfold u64; rw [IntKind.wrap_i64]; omega
theorem snoc_ind {α : Type} {p : List α → Prop} (h0 : p []) (h1 : ∀ l a, p l → p (l ++ [a])) (l : List α) : p l := by
  have h : ∀ m : List α, p m.reverse := fun m => by
    induction m with
    | nil => exact h0
    | cons a m ih => rw [List.reverse_cons]; exact h1 _ _ ih
  simpa using h l.reverse
theorem beN_append (l m : List UInt8) : beN (l ++ m) = beN l * 256 ^ m.length + beN m := by
  induction m using snoc_ind with
  | h0 => simp [beN]
  | h1 m b ih => rw [← List.append_assoc, beN_snoc, ih, beN_snoc, List.length_append, List.length_singleton, Nat.pow_succ]; rw [Nat.add_mul, Nat.mul_assoc, Nat.add_assoc]
theorem beN_lt (l : List UInt8) : beN l < 256 ^ l.length := by
  induction l using snoc_ind with
  | h0 => simp [beN]
  | h1 m b ih =>
    have := b.toNat_lt
    rw [beN_snoc, List.length_append, List.length_singleton, Nat.pow_succ]
    omega
theorem beN_beL : ∀ s n, beN (beL s n) = n % 256 ^ s
  | 0, n => by simp [beL, beN, Nat.mod_one]
  | s + 1, n => by
    unfold beL
    have h1 := Nat.mod_mul (x := n) (a := 256) (b := 256 ^ s)
    rw [beN_snoc, beN_beL s, UInt8.toNat_ofNat', Nat.pow_succ 256 s, Nat.mul_comm (256 ^ s) 256, h1]
    omega
theorem beL_beN (l : List UInt8) : beL l.length (beN l) = l := by
  induction l using snoc_ind with
  | h0 => rfl
  | h1 m b ih =>
    have hb := b.toNat_lt
    rw [List.length_append, List.length_singleton, beN_snoc]
    unfold beL
    rw [show (beN m * 256 + b.toNat) / 256 = beN m by omega, ih]
    congr 2
    rw [← UInt8.toNat_inj, UInt8.toNat_ofNat']
    omega
end Go.Proofs.YtdjkcmjhknabnaaDoor
