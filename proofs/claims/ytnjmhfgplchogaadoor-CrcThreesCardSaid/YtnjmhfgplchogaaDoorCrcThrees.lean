/-
  The walk of the law on three texts.
-/
import Derived.Test.YtnjmhfgplchogaaDoorCrcLaws2
namespace Go.Proofs.YtnjmhfgplchogaaDoor
open Go.RowKit

/-- The first k bytes of three texts, added up. -/
def three (a b c : ByteArray) (k : Nat) : List UInt8 := Crc.xorL (Crc.xorL (a.data.toList.take k) (b.data.toList.take k)) (c.data.toList.take k)

theorem three_succ (a b c : ByteArray) (k : Nat) (ha : k < a.size) (hb : k < b.size) (hc : k < c.size) : three a b c (k + 1) = three a b c k ++ [a[k] ^^^ b[k] ^^^ c[k]] := by
  unfold three Crc.xorL
  rw [take_snoc a k ha, take_snoc b k hb, take_snoc c k hc]
  have h1 : (a.data.toList.take k).length = (b.data.toList.take k).length := by simp; omega
  have h2 : (List.zipWith (· ^^^ ·) (a.data.toList.take k) (b.data.toList.take k)).length = (c.data.toList.take k).length := by simp; omega
  rw [List.zipWith_append h1, List.zipWith_append h2]
  rfl

set_option maxHeartbeats 1000000 in
theorem crcThrees_any (a b c : ByteArray) (n : Nat) (w : World) (ha : a.size ≤ 140737488351232) (_hb : b.size ≤ 140737488351232) (_hc : c.size ≤ 140737488351232) (hS : St w w)
    (hna : n ≤ a.size) (hnb : n ≤ b.size) (hnc : n ≤ c.size) (hmin : a.size ≤ n ∨ b.size ≤ n ∨ c.size ≤ n) :
    Calls Tryd.prog 4 #[.string a, .string b, .string c] w fun e w' => e = .returned (.bool true) ∧ Below w.heap.size w w' := by
  have hmk : ∀ W : World, (Instr.makeSlice 27 (.int .i64 (n : Int)) (.int .i64 (n : Int))).run Tryd.prog W = .ok (.slice (some ⟨W.heap.size, 0, none⟩) n n) (W.alloc (.cells (madeCells #[.int .u8 0] n) 5)) :=
    fun W => run_make_row' 27 5 (.int .u8 0) 1 Tryd.underlying27 infoByte3 rfl .i64 .i64 n (by omega) (by omega) W
  go_enter Tryd.func4, Tryd.ntmps4
  go_upto_region 1 with fail
  go_cut [7] (fun v wx => v = .int .i64 n ∧ w = wx)
  case first =>
    go_wp2_with fail
    all_goals (go_meet; exact ⟨congrArg _ (by omega), rfl⟩)
  case rest =>
    obtain ⟨rfl, rfl⟩ := hcut
    clear hmin
    have HR0 := Row.zeros w w.heap.size 5 (.int .u8 0) n (Nat.le_refl _) (by simp only [maxLen]; omega)
    rw [bytesV_zeros] at HR0
    have HB0 := (Below.refl w.heap.size w).alloc (Nat.le_refl _) (.cells (madeCells #[.int .u8 0] n) 5)
    go_wp2_with fail
    go_loopw [9] (fun i wr => ∃ k : Nat, k ≤ n ∧ i = .int .i64 k ∧ Row wr w.heap.size 5 1 (.slice (some ⟨w.heap.size, 0, none⟩) n n) n (bytesV (three a b c k ++ List.replicate (n - k) 0)) ∧ St w wr) (fun i _ => n - (intOf i).toNat)
    case atStart => exact ⟨0, by omega, rfl, by simpa [three, Crc.xorL] using HR0, hS.low HB0⟩
    case round =>
      obtain ⟨k, hk, rfl, HR, HS⟩ := hrel
      by_cases hlt : k < n
      · have hka : k < a.size := by omega
        have hkb : k < b.size := by omega
        have hkc : k < c.size := by omega
        have h3l : (three a b c k).length = k := by simp [three, Crc.xorL]; omega
        have hll : k < (three a b c k ++ List.replicate (n - k) 0).length := by rw [List.length_append, h3l, List.length_replicate]; omega
        obtain ⟨hc1, hf1⟩ := HR.byteAt k hll
        have hset := HR.byteSet k hll (a[k] ^^^ b[k] ^^^ c[k])
        rw [UInt8.toNat_xor, UInt8.toNat_xor] at hset
        have hx1 := u8_xor_nat _ _ a[k].toNat_lt b[k].toNat_lt
        have hx2 := u8_xor_nat _ _ (a[k] ^^^ b[k]).toNat_lt c[k].toNat_lt
        rw [UInt8.toNat_xor] at hx2
        have hk0 : (0 : Int) ≤ (k : Int) := by omega
        have hk1 : (k : Int) < (n : Int) := by omega
        have hk2 : (k : Int) < (a.size : Int) := by omega
        have hk3 : (k : Int) < (b.size : Int) := by omega
        have hk4 : (k : Int) < (c.size : Int) := by omega
        have HSet := Aside.mk hset
        have hne : (three a b c k ++ List.replicate (n - k) 0).set k (a[k] ^^^ b[k] ^^^ c[k]) = three a b c (k + 1) ++ List.replicate (n - (k + 1)) 0 := by
          rw [three_succ a b c k hka hkb hkc, List.set_append_right _ _ (by omega), h3l, Nat.sub_self, List.append_assoc]
          congr 1
          rw [show n - k = (n - (k + 1)) + 1 by omega, List.replicate_succ]
          rfl
        have HNe := Aside.mk hne
        clear hset hne h3l
        go_wp2_with fail
        go_region
        go_wp2_with fail
        go_roundw
        case rel => exact ⟨k + 1, by omega, by go_num, by rw [← HNe.out]; exact HSet.out.1.drew, (HS.low HSet.out.2).drew⟩
        case measure => simp [intOf]; omega
      · obtain rfl : k = n := by omega
        rw [Nat.sub_self, List.replicate_zero, List.append_nil] at HR
        have hst := HR.toString (P := Tryd.prog) Tryd.underlying27 Tryd.underlying5 Tryd.underlying9
        have hstd : ∀ m, (convert 27 9 (.slice (some ⟨w.heap.size, 0, none⟩) k k)).run Tryd.prog (wr.drewN m) = .ok (.string ⟨(three a b c k).toArray⟩) (wr.drewN m) := fun m =>
          Row.toString (P := Tryd.prog) Tryd.underlying27 Tryd.underlying5 Tryd.underlying9 (HR.drewN m)
        have hsa : (a.extract 0 k).size ≤ 140737488351232 := by simp; omega
        have hsb : (b.extract 0 k).size ≤ 140737488351232 := by simp; omega
        have hsc : (c.extract 0 k).size ≤ 140737488351232 := by simp; omega
        have hsd : (⟨(three a b c k).toArray⟩ : ByteArray).size ≤ 140737488351232 := by
          rw [← data_len]; simp [three, Crc.xorL]; omega
        have hk0 : (0 : Int) ≤ (k : Int) := by omega
        have hk2 : (k : Int) ≤ (a.size : Int) := by omega
        have hk3 : (k : Int) ≤ (b.size : Int) := by omega
        have hk4 : (k : Int) ≤ (c.size : Int) := by omega
        have hq1 := xor32 (Crc.sum_lt (a.data.toList.take k)) (Crc.sum_lt (b.data.toList.take k))
        have hq2 := xor32 (Crc.xor_lt32 (Crc.sum_lt (a.data.toList.take k)) (Crc.sum_lt (b.data.toList.take k))) (Crc.sum_lt (c.data.toList.take k))
        have hq3 := Crc.sum_three (a.data.toList.take k) (b.data.toList.take k) (c.data.toList.take k) (by simp; omega) (by simp; omega)
        rw [hq3] at hq2
        clear hq3
        change _ = (((Crc.sum (three a b c k) : Nat) : Int)) at hq2
        go_wp2_with fail
        go_quiet ((first | (go_at_call 7; exact Calls.quiet_of_same ((crc_speaks _ (HS.nib.drewN _)).mono fun e w' ⟨h1, h2⟩ => ⟨h1, h2.symm⟩)) | (go_at_call 8; exact Calls.quiet_of_same ((crc_sum _ _ (by omega) (HS.nib.drewN _)).mono fun e w' ⟨h1, h2⟩ => ⟨h1, h2.symm⟩))))
        go_wp2
        go_ret
        exact ⟨rfl, (HS.drewN _).bel⟩

theorem crcThrees_walk (a b c : ByteArray) (w : World) (ha : a.size ≤ 140737488351232) (hb : b.size ≤ 140737488351232) (hc : c.size ≤ 140737488351232) (hn : Nib w) :
    Calls Tryd.prog 4 #[.string a, .string b, .string c] w fun e w' => e = .returned (.bool true) ∧ Below w.heap.size w w' :=
  crcThrees_any a b c (min (min a.size b.size) c.size) w ha hb hc (St.refl hn) (by omega) (by omega) (by omega) (by omega)
end Go.Proofs.YtnjmhfgplchogaaDoor
