/-
  What the program's and the document's checksum functions compute.
-/
import Derived.Test.YtkdfbganhohbfaaDoorProg
import Derived.Test.YtkdfbganhohbfaaDoorLibCrc
import Derived.WalkKit
import Derived.WalkSpells
import Derived.WalkLawsBesides
import Derived.OpenShut
import Derived.Test.YtkdfbganhohbfaaDoorMem
namespace Go.Proofs.YtkdfbganhohbfaaDoor
open Go.RowKit


/-- The table of half bytes' sums lies where the program's text lays it. -/
structure Nib (w : World) : Prop where
  out : ∀ i : Nat, i < 16 → w.cell? ⟨0, i, none⟩ = some (.int .u32 (Crc.nib i))
theorem Nib.drew {w : World} (h : Nib w) : Nib w.drew := ⟨fun i hi => by simpa using h.out i hi⟩
theorem Nib.drewN {w : World} (h : Nib w) (n : Nat) : Nib (w.drewN n) := ⟨fun i hi => h.out i hi⟩
theorem Nib.below {w w' : World} (h : Nib w) (hb : Below w.heap.size w w') : Nib w' :=
  ⟨fun i hi => (hb.cell (World.block_lt_of_cell? w _ (h.out i hi))).trans (h.out i hi)⟩
theorem Nib.alloc {w : World} (h : Nib w) (o : Obj) : Nib (w.alloc o) := h.below ((Below.refl _ _).alloc (Nat.le_refl _) o)

theorem take_snoc (s : ByteArray) (k : Nat) (h : k < s.size) : s.data.toList.take (k + 1) = s.data.toList.take k ++ [s[k]] := by
  rw [List.take_succ_eq_append_getElem (by simpa using h)]; rfl
theorem take_all (s : ByteArray) (k : Nat) (h : s.size ≤ k) : s.data.toList.take k = s.data.toList :=
  List.take_of_length_le (by simpa using h)

theorem xor32 {a b : Nat} (ha : a < 4294967296) (hb : b < 4294967296) : bits .xor .u32 (a : Int) (b : Int) = ((a ^^^ b : Nat) : Int) := u32_xor_nat a b ha hb

theorem not32 {a : Nat} (ha : a < 4294967296) : bits .xor .u32 IntKind.u32.max (a : Int) = ((a ^^^ 4294967295 : Nat) : Int) := by
  rw [Nat.xor_comm]; exact xor32 (a := 4294967295) (by omega) ha

set_option maxHeartbeats 400000 in
theorem crc_extend (c : Nat) (s : ByteArray) (w : World) (hc : c < 4294967296) (hs : s.size ≤ 9223372036854775807) (hn : Nib w) :
    Calls Tryd.prog 8 #[.int .u32 c, .string s] w fun e w' => e = .returned (.int .u32 (Crc.ext c s.data.toList)) ∧ w = w' := by
  have h0 := not32 hc
  go_enter Tryd.func8, Tryd.ntmps8
  go_wp2
  clear h0
  go_loop [5, 11] (fun r i => ∃ k : Nat, k ≤ s.size ∧ i = .int .i64 k ∧ r = .int .u32 (Crc.reg (c ^^^ 4294967295) (s.data.toList.take k))) (fun _ i => s.size - (intOf i).toNat)
  case atStart => exact ⟨0, Nat.zero_le _, rfl, rfl⟩
  case round =>
    obtain ⟨k, hk, rfl, rfl⟩ := hrel
    have hr := Crc.reg_lt (s.data.toList.take k) (Crc.xor_lt32 hc (by omega : (4294967295 : Nat) < 4294967296))
    by_cases hlt : k < s.size
    · have hsn := Crc.reg_snoc (c ^^^ 4294967295) (s.data.toList.take k) s[k]
      rw [← take_snoc s k hlt] at hsn
      generalize Crc.reg (c ^^^ 4294967295) (s.data.toList.take k) = x at hr hsn
      have hb : s[k].toNat < 256 := s[k].toNat_lt
      have hx := xor32 hr (show s[k].toNat < 4294967296 by omega)
      go_wp2
      clear hx
      have hy : x ^^^ s[k].toNat < 4294967296 := Crc.xor_lt32 hr (by omega)
      have HS := Aside.mk hsn
      clear hsn hb hr
      go_loop [5, 20] (fun r j => ∃ m : Nat, ∃ y : Nat, m ≤ 2 ∧ y < 4294967296 ∧ j = .int .i64 m ∧ r = .int .u32 y ∧ Aside (y = if m = 0 then x ^^^ s[k].toNat else if m = 1 then Crc.half (x ^^^ s[k].toNat) else Crc.half (Crc.half (x ^^^ s[k].toNat)))) (fun _ j => 2 - (intOf j).toNat)
      case atStart => exact ⟨0, _, by omega, hy, rfl, rfl, ⟨by simp⟩⟩
      case round =>
        obtain ⟨m, y, hm, hy2, rfl, rfl, HM⟩ := hrel
        by_cases h2 : m < 2
        · have hcell := hn.out (y % 16) (by omega)
          have hbit : bits .and .u32 (y : Int) 15 = ((y % 16 : Nat) : Int) := by
            have := u32_and_nat y 15 hy2 (by omega)
            rw [nat_mask4] at this; exact this
          have hq : bits .xor .u32 ((y : Int) / 16) ((Crc.nib (y % 16) : Nat) : Int) = ((Crc.half y : Nat) : Int) := by
            have e : (y : Int) / 16 = ((y / 16 : Nat) : Int) := by omega
            rw [e]; exact xor32 (by omega) (Crc.nib_lt _)
          go_wp2
          go_round
          case rel => exact ⟨m + 1, Crc.half y, by omega, Crc.half_lt hy2, by go_num, rfl, Aside.mk (by
            have e := HM.out
            rcases Nat.lt_or_ge 0 m with h1 | h1
            · obtain rfl : m = 1 := by omega
              simp at e ⊢; rw [e]
            · obtain rfl : m = 0 := by omega
              simp at e ⊢; rw [e])⟩
          case measure => simp [intOf]; omega
        · go_wp2
          go_round
          case rel => exact ⟨k + 1, by omega, by go_num, by
            have e := HM.out
            obtain rfl : m = 2 := by omega
            simp at e; rw [e, HS.out, Crc.byte_half]⟩
          case measure => simp [intOf]; omega
    · have h1 : bits .xor .u32 IntKind.u32.max ((Crc.reg (c ^^^ 4294967295) s.data.toList : Nat) : Int) = ((Crc.ext c s.data.toList : Nat) : Int) :=
        not32 (Crc.reg_lt _ (Crc.xor_lt32 hc (by omega)))
      have h2 := take_all s k (by omega)
      go_wp2
      go_ret
      exact ⟨rfl, rfl⟩

theorem crc_sum (s : ByteArray) (w : World) (hs : s.size ≤ 9223372036854775807) (hn : Nib w) :
    Calls Tryd.prog 4 #[.string s] w fun e w' => e = .returned (.int .u32 (Crc.sum s.data.toList)) ∧ w = w' := by
  go_enter Tryd.func4, Tryd.ntmps4
  go_wp2_with (go_at_call 8; refine (crc_extend 0 s _ (by omega) hs hn).mono ?_; rintro e w' ⟨rfl, rfl⟩)
  go_ret
  exact ⟨rfl, rfl⟩

theorem nine_sum : Crc.sum [49, 50, 51, 52, 53, 54, 55, 56, 57] = 3421780262 := by decide +kernel

theorem concat_list (s t : ByteArray) : (s ++ t).data.toList = s.data.toList ++ t.data.toList := by
  simp [ByteArray.data_append]

end Go.Proofs.YtkdfbganhohbfaaDoor
