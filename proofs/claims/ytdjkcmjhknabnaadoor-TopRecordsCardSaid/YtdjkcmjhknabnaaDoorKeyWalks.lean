/-
  Numbers as bytes, the highest first; a key's head, its text and back.
-/
import Derived.Test.YtdjkcmjhknabnaaDoorProg
import Derived.Test.YtdjkcmjhknabnaaDoorMem
import Derived.WalkKit
import Derived.WalkSpells
import Derived.WalkLawsBesides
import Derived.RegionTactic
import Derived.BigRegion
import Derived.OwnWalk
import Derived.Deep.DeepCutAuto
import Derived.Deep.QuietTactic
import Derived.BigQuiet
import Derived.Deep.RegionWith
namespace Go.Proofs.YtdjkcmjhknabnaaDoor.K
open Go.RowKit

/-- The last `size` bytes of n, the highest first. -/
def beL : Nat → Nat → List UInt8
  | 0, _ => []
  | s + 1, n => beL s (n / 256) ++ [UInt8.ofNat n]
theorem beL_length : ∀ s n, (beL s n).length = s
  | 0, _ => rfl
  | s + 1, n => by simp [beL, beL_length s]
theorem beL_get : ∀ s n i, i < s → (beL s n)[i]? = some (UInt8.ofNat (n / 2 ^ (8 * (s - 1 - i))))
  | 0, _, _, h => by omega
  | s + 1, n, i, h => by
    unfold beL
    rcases Nat.lt_or_ge i s with h1 | h1
    · rw [List.getElem?_append_left (by rw [beL_length]; exact h1), beL_get s _ i h1, Nat.div_div_eq_div_mul]
      congr 3
      rw [show s + 1 - 1 - i = (s - 1 - i) + 1 by omega, Nat.mul_add, Nat.pow_add, Nat.mul_comm]
    · obtain rfl : i = s := by omega
      rw [List.getElem?_append_right (by rw [beL_length]; exact Nat.le_refl _), beL_length]
      simp
def be (s n : Nat) : ByteArray := ⟨(beL s n).toArray⟩
theorem be_size (s n : Nat) : (be s n).size = s := beL_length s n
theorem be_list (s n : Nat) : (be s n).data.toList = beL s n := rfl

theorem take_set_succ {α : Type} (L : List α) (i : Nat) (x : α) (h : i < L.length) : (L.set i x).take (i + 1) = L.take i ++ [x] := by
  rw [List.set_eq_take_append_cons_drop, if_pos h, List.take_append, List.length_take, Nat.min_eq_left (by omega), List.take_of_length_le (by rw [List.length_take]; omega)]
  simp
theorem take_succ_get {α : Type} (L : List α) (i : Nat) (x : α) (h : L[i]? = some x) : L.take (i + 1) = L.take i ++ [x] := by
  rw [List.take_add_one, h]; rfl

theorem infoByte8 : (Tryd.prog.info? 5).map (·.size) = some 1 := by kernel_rfl
set_option maxHeartbeats 1000000 in
theorem key_bytes (n s : Nat) (w : World) (_hn : n ≤ 9223372036854775807) (hs : s ≤ 8) :
    Calls Tryd.prog 12 #[.int .i64 n, .int .i64 s] w fun e w' => e = .returned (.string (be s n)) ∧ Below w.heap.size w w' := by
  go_enter Tryd.func12, Tryd.ntmps12
  go_wp2
  have R0 := (Row.lit w w.heap.size 63 1 #[.int .u8 0, .int .u8 0, .int .u8 0, .int .u8 0, .int .u8 0, .int .u8 0, .int .u8 0, .int .u8 0] 8 (Nat.le_refl _) (by decide) rfl)
  have hb0 : Below w.heap.size w (w.alloc (.cells #[.int .u8 0, .int .u8 0, .int .u8 0, .int .u8 0, .int .u8 0, .int .u8 0, .int .u8 0, .int .u8 0] 63)) := (Below.refl _ _).alloc (Nat.le_refl _) _
  have hlt0 : w.heap.size < (w.alloc (.cells #[.int .u8 0, .int .u8 0, .int .u8 0, .int .u8 0, .int .u8 0, .int .u8 0, .int .u8 0, .int .u8 0] 63)).heap.size := by simp
  have H0 := Aside.mk (And.intro R0 (And.intro hb0 hlt0))
  clear R0 hb0 hlt0
  generalize w.alloc (.cells #[.int .u8 0, .int .u8 0, .int .u8 0, .int .u8 0, .int .u8 0, .int .u8 0, .int .u8 0, .int .u8 0] 63) = w0 at *
  go_loopw [8] (fun s8 wr => ∃ (i : Nat) (L : List UInt8), s8 = .int .i64 i ∧ i ≤ s ∧ Row wr w.heap.size 63 1 (.slice (some ⟨w.heap.size, 0, none⟩) 8 8) 8 (bytesV L) ∧ Aside (L.length = 8 ∧ L.take i = (beL s n).take i) ∧ Below w.heap.size w wr ∧ w.heap.size < wr.heap.size) (fun s8 _ => s - (intOf s8).toNat)
  case atStart => exact ⟨0, List.replicate 8 0, rfl, Nat.zero_le _, H0.out.1, ⟨rfl, rfl⟩, H0.out.2.1, H0.out.2.2⟩
  case round =>
    obtain ⟨i, L, rfl, hi, hR, hL, hb, hlt⟩ := hrel
    by_cases h : i < s
    · obtain ⟨c1, c2⟩ := hR.byteAt i (by rw [hL.out.1]; omega)
      have hst := hR.byteSet i (by rw [hL.out.1]; omega) (UInt8.ofNat (n / 2 ^ (8 * (s - 1 - i))))
      have ev : (((UInt8.ofNat (n / 2 ^ (8 * (s - 1 - i)))).toNat : Nat) : Int) = (n : Int) / 2 ^ (8 * (s - 1 - i)) % 256 := by
        rw [UInt8.toNat_ofNat']; simp
      rw [ev] at hst
      have HST := Aside.mk hst
      clear hst ev hR H0
      go_wp2
      go_roundw
      case rel =>
        refine ⟨i + 1, _, by go_num, by omega, HST.out.1, ⟨by rw [List.length_set]; exact hL.out.1, ?_⟩, hb.trans HST.out.2, Nat.lt_of_lt_of_le hlt HST.out.2.size⟩
        rw [take_set_succ _ _ _ (by rw [hL.out.1]; omega), hL.out.2, take_succ_get _ _ _ (beL_get _ _ _ h)]
      case measure => simp [intOf]; omega
    · obtain rfl : i = s := by omega
      have hp := hR.part rfl 0 i (Nat.zero_le _) (by omega)
      have hbl : (List.take ((i - 0) * 1) (List.drop (0 * 1) (bytesV L))) = bytesV (beL i n) := by
        have := hL.out.2
        rw [List.take_of_length_le (l := beL i n) (by rw [beL_length]; exact Nat.le_refl _)] at this
        simp only [Nat.sub_zero, Nat.mul_one, List.drop_zero]
        rw [← this]
        simp [bytesV]
      rw [hbl] at hp
      have hts := hp.toString (P := Tryd.prog) Tryd.underlying42 Tryd.underlying5 Tryd.underlying9
      simp only [Nat.zero_mul, Nat.add_zero, Nat.sub_zero] at hts
      clear hp hbl hR H0
      have hal : Tryd.prog.arrayLen 63 = 8 := by kernel_rfl
      have hsl : ∀ W, (Instr.sliceAt 63 (.pointer (some ⟨w.heap.size, 0, none⟩)) none (some (.int .i64 (i : Int))) none).run Tryd.prog W = .ok (.slice (some ⟨w.heap.size, 0, none⟩) i 8) W := by
        intro W
        rw [run_sliceAt_array_h W 63 ⟨w.heap.size, 0, none⟩ (by kernel_rfl) .i64 (i : Int) (by omega) (by rw [hal]; omega), hal, show Tryd.prog.elem 63 = 5 by kernel_rfl]
        obtain ⟨inf, hin, hsi⟩ := Option.map_eq_some_iff.1 infoByte8
        simp [sizeOf, typeInfo, hin, hsi, slicedAt, add_plain]
      go_wp2
      go_ret
      exact ⟨rfl, hb⟩

/-- The head of a key's text. -/
def hd (n k : Nat) : ByteArray := be 8 n ++ ⟨#[UInt8.ofNat k]⟩
theorem hd_size (n k : Nat) : (hd n k).size = 9 := by unfold hd; rw [ByteArray.size_append, be_size]; rfl

/-- The fact that a byte's text is made of its block, wherever the block lies. -/
def ByteTx (k : Nat) (g : Nat) (W : World) : Prop := (convert 42 9 (.slice (some ⟨g, 0, none⟩) 1 1)).run Tryd.prog W = .ok (.string ⟨#[UInt8.ofNat k]⟩) W
theorem byte_text {k : Nat} (hk : k < 256) {g : Nat} {W : World} (hw : W.heap[g]? = some (.cells #[.int .u8 (k : Int)] 5 (0, 0))) : ByteTx k g W := by
  have h : Row W 0 5 1 (.slice (some ⟨g, 0, none⟩) 1 1) 1 [.int .u8 (k : Int)] := ⟨rfl, .inr ⟨_, 0, 1, _, _, rfl, Nat.zero_le _, hw, by omega, by decide, Nat.le_refl 1, fun i _ => by simp only []; omega, rfl⟩⟩
  have e : [Value.int .u8 (k : Int)] = bytesV [UInt8.ofNat k] := by
    simp [bytesV, UInt8.toNat_ofNat', Nat.mod_eq_of_lt hk]
  rw [e] at h
  exact h.toString Tryd.underlying42 Tryd.underlying5 Tryd.underlying9

theorem bel_undrew {B : Nat} {w w1 : World} (h : Below B w.drew w1) : Below B w w1 := (Below.refl B w).drew.trans h
theorem bel_new {w w1 : World} {X : Obj} (h : Below (w.alloc X).heap.size (w.alloc X) w1) : Below w.heap.size w w1 := ((Below.refl _ _).alloc (Nat.le_refl _) X).trans (h.mono (by simp))
set_option maxHeartbeats 1000000 in
theorem key_head (n k : Nat) (w : World) (hn : n ≤ 9223372036854775807) (hk : k < 256) :
    Calls Tryd.prog 11 #[.int .i64 n, .int .i64 k] w fun e w' => e = .returned (.string (hd n k)) ∧ Below w.heap.size w w' := by
  have hw : IntKind.u8.wrap (k : Int) = (k : Int) := by
    have : ((k : Nat) : Int) % 256 = k := by omega
    simpa [IntKind.wrap, IntKind.bits, IntKind.signed] using this
  have hcv1 : ∀ W : World, ByteTx k W.heap.size (W.alloc (.cells #[.int .u8 (k : Int)] 5)) := fun W => byte_text hk (heap_alloc_new W _)
  have hcv2 : ∀ W : World, ByteTx k W.heap.size (W.alloc (.cells #[.int .u8 (k : Int)] 5)).drew := fun W => byte_text hk (heap_alloc_new W _)
  have hcv3 : ∀ W : World, ByteTx k W.heap.size (W.drew.alloc (.cells #[.int .u8 (k : Int)] 5)) := fun W => byte_text hk (heap_alloc_new W.drew _)
  have hcv4 : ∀ W : World, ByteTx k W.heap.size (W.drew.alloc (.cells #[.int .u8 (k : Int)] 5)).drew := fun W => byte_text hk (heap_alloc_new W.drew _)
  have hold : ∀ W W1 : World, Below W.heap.size W W1 → W.heap[w.heap.size]? = some (.cells #[.int .u8 (k : Int)] 5 (0, 0)) → w.heap.size < W.heap.size → ByteTx k w.heap.size W1 ∧ ByteTx k w.heap.size W1.drew := fun W W1 hb h h0 => ⟨byte_text hk ((hb.block _ h0).trans h), byte_text hk ((hb.block _ h0).trans h)⟩
  unfold ByteTx at hcv1 hcv2 hcv3 hcv4 hold
  have HO := Aside.mk hold
  clear hold
  have hz := be_size 8 n
  go_enter Tryd.func11, Tryd.ntmps11
  go_wp2_with fail
  go_region_with ((go_at_call 12; refine (key_bytes n 8 _ hn (by omega)).mono ?_; rintro e w1 ⟨rfl, hb1⟩; first | (have hcc := HO.out _ _ hb1 (heap_alloc_new w _) (by simp); have hc1 := hcc.1; have hc2 := hcc.2; clear hcc) | skip))
  all_goals
    clear hcv1 hcv2 hcv3 hcv4 hz
    go_wp2
    go_ret
    refine ⟨rfl, ?_⟩
    have hbx : Below w.heap.size w w1 := by first | exact bel_undrew hb1 | exact ((Below.refl w.heap.size w).alloc (Nat.le_refl _) _).drew.trans (hb1.mono (by simp))
    repeat (first | with_reducible exact hbx | with_reducible refine Below.drew ?_ | with_reducible refine Below.alloc ?_ (show w.heap.size ≤ _ from hbx.size) _)

theorem key_head_at (n k : Nat) (n' k' : Int) (w : World) (hn' : n' = n) (hk' : k' = k) (hn : n ≤ 9223372036854775807) (hk : k < 256) :
    Calls Tryd.prog 11 #[.int .i64 n', .int .i64 k'] w fun e w' => e = .returned (.string (hd n k)) ∧ Below w.heap.size w w' := by
  subst hn'; subst hk'; exact key_head n k w hn hk
theorem key_bytes_at (n s : Nat) (n' s' : Int) (w : World) (hn' : n' = n) (hs' : s' = s) (hn : n ≤ 9223372036854775807) (hs : s ≤ 8) :
    Calls Tryd.prog 12 #[.int .i64 n', .int .i64 s'] w fun e w' => e = .returned (.string (be s n)) ∧ Below w.heap.size w w' := by
  subst hn'; subst hs'; exact key_bytes n s w hn hs
end Go.Proofs.YtdjkcmjhknabnaaDoor.K
