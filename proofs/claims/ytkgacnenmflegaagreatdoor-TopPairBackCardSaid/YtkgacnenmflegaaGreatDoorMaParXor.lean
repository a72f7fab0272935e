/-
  What the program's and the document's parity functions compute.
-/
import Derived.Test.YtkgacnenmflegaaGreatDoorMaBytes
import Derived.Test.YtkgacnenmflegaaGreatDoorMg3
namespace Go.Proofs.YtkgacnenmflegaaGreatDoor
open Go.RowKit

/-- Byte i of the parity of the first k texts. -/
def xb (f : Nat → ByteArray) (i : Nat) : Nat → UInt8
  | 0 => 0
  | k + 1 => if h : i < (f k).size then xb f i k ^^^ (f k)[i] else xb f i k
def xbs (n : Nat) (f : Nat → ByteArray) (len : Nat) : List UInt8 := (List.range n).map fun i => xb f i len
theorem xbs_length (n : Nat) (f : Nat → ByteArray) (len : Nat) : (xbs n f len).length = n := by simp [xbs]
def xorT (n : Nat) (f : Nat → ByteArray) (len : Nat) : ByteArray := ⟨(xbs n f len).toArray⟩
theorem xorT_size (n : Nat) (f : Nat → ByteArray) (len : Nat) : (xorT n f len).size = n := by
  show (xbs n f len).toArray.size = n
  simp [xbs_length]
/-- Of text k only the first i bytes were taken in. -/
def xpart (n : Nat) (f : Nat → ByteArray) (k i : Nat) : List UInt8 := (List.range n).map fun j => if j < i then xb f j (k + 1) else xb f j k
theorem xpart_zero (n : Nat) (f : Nat → ByteArray) (k : Nat) : xpart n f k 0 = xbs n f k := by simp [xpart, xbs]
theorem xpart_length (n : Nat) (f : Nat → ByteArray) (k i : Nat) : (xpart n f k i).length = n := by simp [xpart]
theorem xpart_at {n : Nat} {f : Nat → ByteArray} {k i : Nat} (hi : i < n) : (xpart n f k i)[i]'(by rw [xpart_length]; exact hi) = xb f i k := by simp [xpart]
theorem xpart_set {n : Nat} {f : Nat → ByteArray} {k i : Nat} (hs : i < (f k).size) : (xpart n f k i).set i (xb f i k ^^^ (f k)[i]) = xpart n f k (i + 1) := by
  apply List.ext_getElem
  · simp [xpart]
  · intro j h1 h2
    simp only [List.getElem_set]
    by_cases hij : i = j
    · subst hij
      simp [xpart, xb, hs]
    · rw [if_neg hij]
      simp only [xpart, List.getElem_map, List.getElem_range]
      by_cases hj : j < i
      · rw [if_pos hj, if_pos (by omega)]
      · rw [if_neg hj, if_neg (by omega)]
theorem xpart_end {n : Nat} {f : Nat → ByteArray} {k i : Nat} (hi : min (f k).size n ≤ i) : xpart n f k i = xbs n f (k + 1) := by
  simp only [xpart, xbs]
  apply List.map_congr_left
  intro j hj
  rw [List.mem_range] at hj
  by_cases h : j < i
  · rw [if_pos h]
  · rw [if_neg h, xb, dif_neg (by omega)]
theorem xb_more {f : Nat → ByteArray} {i k : Nat} (h : i < (f k).size) : xb f i (k + 1) = xb f i k ^^^ (f k)[i] := by rw [xb, dif_pos h]
theorem xb_same {f : Nat → ByteArray} {i k : Nat} (h : ¬ i < (f k).size) : xb f i (k + 1) = xb f i k := by rw [xb, dif_neg h]
theorem xbs_zero (n : Nat) (f : Nat → ByteArray) : xbs n f 0 = List.replicate n 0 := by
  apply List.ext_getElem
  · simp [xbs]
  · intro i h1 h2
    simp [xbs, xb]
theorem xor8 (a b : UInt8) : bits .xor .u8 (a.toNat : Int) (b.toNat : Int) = ((a ^^^ b).toNat : Int) := by
  rw [u8_xor_nat a.toNat b.toNat a.toNat_lt b.toNat_lt]
  simp

set_option maxHeartbeats 2000000 in
theorem parity_xor (n : Int) (A : Option Addr) (len cap : Nat) (f : Nat → ByteArray) (w : World) (hlen : len ≤ 17592186043904) (hc : len ≤ cap) (hcm : cap ≤ 9223372036854775807) (hR : Rd w A len (fun i => .string (f i))) :
    Calls Tryz.prog 30 #[.int .i64 n, .slice A len cap] w fun e w' => e = .returned (.string (xorT (min (max n 0) 2048).toNat f len)) ∧ Below w.heap.size w w' := by
  have HR := Aside.mk hR
  clear hR
  obtain ⟨m, hm⟩ : ∃ m : Nat, m = (min (max n 0) 2048).toNat := ⟨_, rfl⟩
  have hm2 : m ≤ 2048 := by omega
  have hcas : (n < 0 ∧ m = 0) ∨ (2048 < n ∧ m = 2048) ∨ (n = (m : Int)) := by omega
  rw [← hm]
  clear hm
  have hr0 := Row.zeros w w.heap.size 5 (.int .u8 0) m (Nat.le_refl _) (by simp only [maxLen]; omega)
  rw [bytesV_zeros, ← xbs_zero m f] at hr0
  have hb0 := (Below.refl w.heap.size w).alloc (Nat.le_refl _) (.cells (madeCells #[.int .u8 0] m) 5)
  go_enter Tryz.func30, Tryz.ntmps30
  go_upto_region 1 with fail
  go_cut [5] (fun s5 wx => s5 = .slice (some ⟨w.heap.size, 0, none⟩) m m ∧ w.alloc (.cells (madeCells #[.int .u8 0] m) 5) = wx)
  case first =>
    clear hr0 hb0
    rcases hcas with ⟨h, rfl⟩ | ⟨h, rfl⟩ | rfl
    · have hmk : ∀ W : World, (Instr.makeSlice 73 (.int .i64 0) (.int .i64 0)).run Tryz.prog W = .ok (.slice (some ⟨W.heap.size, 0, none⟩) 0 0) (W.alloc (.cells (madeCells #[.int .u8 0] 0) 5)) := make_bytesP 0 (by omega)
      go_wp2
      go_meet
      exact ⟨rfl, rfl⟩
    · have h1 : ¬ n < 0 := by omega
      have hmk : ∀ W : World, (Instr.makeSlice 73 (.int .i64 2048) (.int .i64 2048)).run Tryz.prog W = .ok (.slice (some ⟨W.heap.size, 0, none⟩) 2048 2048) (W.alloc (.cells (madeCells #[.int .u8 0] 2048) 5)) := make_bytesP 2048 (by omega)
      go_wp2
      go_meet
      exact ⟨rfl, rfl⟩
    · have h1 : ¬ (m : Int) < 0 := by omega
      have h2 : ¬ 2048 < (m : Int) := by omega
      have hmk := make_bytesP m (by omega)
      go_wp2
      go_meet
      exact ⟨rfl, rfl⟩
  case rest =>
    obtain ⟨rfl, rfl⟩ := hcut
    clear hcas
    generalize w.alloc (.cells (madeCells #[.int .u8 0] m) 5) = w1 at *
    obtain ⟨g, hg⟩ : ∃ g, g = w.heap.size := ⟨_, rfl⟩
    simp only [← hg] at hr0 hb0 ⊢
    have HG := Aside.mk hg
    clear hg
    go_wp2
    go_loopw [15] (fun s15 wr => ∃ k : Nat, k ≤ len ∧ s15 = .int .i64 k ∧ Row wr g 5 1 (.slice (some ⟨g, 0, none⟩) m m) m (bytesV (xbs m f k)) ∧ Below g w wr) (fun s15 _ => len - (intOf s15).toNat)
    case atStart => exact ⟨0, by omega, rfl, hr0, hb0⟩
    case round =>
      obtain ⟨k, hk, rfl, hr, hb⟩ := hrel
      clear hr0 hb0
      by_cases hlt : k < len
      · obtain ⟨b, off, rfl, hcell⟩ := HR.out.cells hlt
        have hcr := hcell g wr (by rw [HG.out]; omega) hb
        have HX := Aside.mk (fun i (h : i < (f k).size) => xpart_set (n := m) h)
        have HE := Aside.mk (fun i (h : min (f k).size m ≤ i) => xpart_end (f := f) (k := k) (n := m) h)
        have hat : ∀ i (h : i < m), _ := fun i h => xpart_at (f := f) (k := k) h
        have HA := Aside.mk hat
        clear hat
        rw [← xpart_zero] at hr
        have hk1 : IntKind.i64.wrap ((k : Int) + 1) = (k : Int) + 1 := by rw [IntKind.wrap_i64]; omega
        go_upto_region 5 with fail
        go_cut [23, 24] (fun s23 s24 wx => ∃ q : Nat, s23 = .int .i64 q ∧ s24 = .int .i64 0 ∧ q ≤ (f k).size ∧ q ≤ m ∧ min (f k).size m ≤ q ∧ wr = wx)
        case first =>
          by_cases hq : m < (f k).size
          · go_wp2
            go_meet
            exact ⟨m, rfl, rfl, by omega, by omega, by omega, rfl⟩
          · go_wp2
            go_meet
            exact ⟨(f k).size, rfl, rfl, by omega, by omega, by omega, rfl⟩
        case rest =>
          obtain ⟨q, rfl, rfl, hq1, hq2, hq3, rfl⟩ := hcut
          have HQ := Aside.mk hq3
          clear hq3
          have hcell2 := hcell g
          go_wp2_with fail
          go_loopw [24] (fun s24 wq => ∃ i : Nat, i ≤ q ∧ s24 = .int .i64 i ∧ Row wq g 5 1 (.slice (some ⟨g, 0, none⟩) m m) m (bytesV (xpart m f k i)) ∧ Below g w wq) (fun s24 _ => q - (intOf s24).toNat)
          case atStart => exact ⟨0, by omega, rfl, hr, hb⟩
          case round =>
            obtain ⟨i, hi, rfl, hri, hbi⟩ := hrel
            clear hr hb hcr
            by_cases hlq : i < q
            · obtain ⟨y1, y2⟩ := hri.byteAt i (by rw [xpart_length]; omega)
              rw [HA.out i (by omega)] at y1
              have y3 : wr.drew.cell? ⟨g, i, none⟩ = some (.int .u8 ((xb f i k).toNat : Int)) := by simpa using y1
              have y4 : wr.drew.frozen? ⟨g, i, none⟩ = false := by simpa using y2
              have hset := hri.byteSet i (by rw [xpart_length]; omega) (xb f i k ^^^ (f k)[i]'(by omega))
              rw [HX.out i (by omega)] at hset
              have hx8 := xor8 (xb f i k) ((f k)[i]'(by omega))
              have hik : i < (f k).size := by omega
              have hi1 : IntKind.i64.wrap ((i : Int) + 1) = (i : Int) + 1 := by rw [IntKind.wrap_i64]; omega
              have HH := Aside.mk hset
              clear hset hri hcell hcell2
              go_wp2_with fail
              go_region
              go_wp2
              go_roundw
              case rel => exact ⟨i + 1, by omega, by go_num, HH.out.1.drew, (hbi.trans HH.out.2).drew⟩
              case measure => simp [intOf]; omega
            · have hend := HE.out i (by have := HQ.out; omega)
              rw [hend] at hri
              clear hend hcell hcell2
              go_wp2
              go_roundw
              case rel => exact ⟨k + 1, by omega, by go_num, hri, hbi⟩
              case measure => simp [intOf]; omega
      · obtain rfl : k = len := by omega
        have hst := hr.toString (P := Tryz.prog) Tryz.underlying73 Tryz.underlying5 Tryz.underlying9
        go_wp2
        go_ret
        exact ⟨rfl, by rw [← HG.out]; exact hb⟩

theorem xbs_succ (i : Nat) (f : Nat → ByteArray) (len : Nat) : bytesV (xbs (i + 1) f len) = bytesV (xbs i f len) ++ (#[.int .u8 ((xb f i len).toNat : Int)] : Array Value).toList := by
  simp [xbs, List.range_succ, bytesV]

end Go.Proofs.YtkgacnenmflegaaGreatDoor
