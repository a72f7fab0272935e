/-
  The walk of the law on changed texts.
-/
import Derived.Test.YtnjmhfgplchogaaDoorCrcLaws2
namespace Go.Proofs.YtnjmhfgplchogaaDoor
open Go.RowKit

/-- Byte number i of a change. -/
def chB (c i : Nat) : UInt8 := UInt8.ofNat (c / 2 ^ (8 * i))
def chL (c k : Nat) : List UInt8 := (List.range k).map (chB c)
theorem chL_succ (c k : Nat) : chL c (k + 1) = chL c k ++ [chB c k] := by simp [chL, List.range_succ]
theorem chL_length (c k : Nat) : (chL c k).length = k := by simp [chL]
theorem chB_toNat (c i : Nat) : (chB c i).toNat = c / 2 ^ (8 * i) % 256 := by simp [chB, UInt8.toNat_ofNat']
def anyCh (c k : Nat) : Bool := (chL c k).any (· != 0)
theorem anyCh_succ (c k : Nat) : anyCh c (k + 1) = (anyCh c k || (chB c k != 0)) := by simp [anyCh, chL_succ]

set_option maxHeartbeats 1000000 in
theorem crcTells_at (s : ByteArray) (at0 : Int) (j c : Nat) (w : World) (hs : s.size ≤ 140737488351232) (_hc : c < 4294967296) (hS : St w w) (hj : j < s.size + 4)
    (hat : (0 ≤ at0 ∧ at0 < (s.size : Int) + 4 ∧ Aside (at0 = (j : Int))) ∨ (at0 < 0 ∧ Aside (j = 0)) ∨ (0 ≤ at0 ∧ (s.size : Int) + 4 ≤ at0 ∧ Aside (j = 0))) :
    Calls Tryd.prog 6 #[.string s, .int .i64 at0, .int .u32 c] w fun e w' => e = .returned (.bool true) ∧ Below w.heap.size w w' := by
  have hz := sealed_size s
  have hsz : (sealed s).size ≤ 281474976710656 := by omega
  have kb := fun W => Lib.run_convert_string_bytes (P := Tryd.prog) W 9 27 5 (sealed s) Tryd.underlying9 Tryd.underlying27 Tryd.underlying5
  rw [hz] at kb
  have H3 : at0 < 0 ∨ (s.size : Int) + 4 ≤ at0 ∨ (0 ≤ at0 ∧ at0 < (s.size : Int) + 4) := by omega
  have HV : Aside ((at0 < 0 ∨ (s.size : Int) + 4 ≤ at0 → j = 0) ∧ (0 ≤ at0 → at0 < (s.size : Int) + 4 → at0 = (j : Int))) := by
    refine ⟨?_, ?_⟩
    · rintro (h | h)
      · rcases hat with ⟨h1, _⟩ | ⟨_, h2⟩ | ⟨h1, _⟩
        · omega
        · exact h2.out
        · omega
      · rcases hat with ⟨_, h1, _⟩ | ⟨h1, _⟩ | ⟨_, _, h2⟩
        · omega
        · omega
        · exact h2.out
    · intro h1 h2
      rcases hat with ⟨_, _, h3⟩ | ⟨h3, _⟩ | ⟨_, h3, _⟩
      · exact h3.out
      · omega
      · omega
  clear hat
  go_enter Tryd.func6, Tryd.ntmps6
  rcases H3 with h | h | ⟨h, h'⟩
  all_goals
    go_upto_if 25 with (first | (go_at_call 7; refine (crc_speaks _ (St.nib (w := w) (by assumption))).mono ?_; rintro e w' ⟨rfl, rfl⟩) | (go_at_call 12; refine (crc_seal _ _ (by omega) (St.nib (w := w) (by assumption))).mono ?_; rintro e w1 ⟨rfl, hb1⟩; have hs1 := St.step (w := w) (by assumption) hb1; clear hb1))
    go_cut [1] (fun v wx => v = .int .i64 j ∧ wx = Lib.bytesWorld w1 5 (sealed s))
    case first =>
      go_wp2_with fail
      go_meet
      exact ⟨by first | rw [HV.out.2 h h'] | rw [HV.out.1 (by omega)]; rfl, rfl⟩
    case rest =>
      obtain ⟨rfl, rfl⟩ := hcut
      have HR0 := Row.ofString w1 w.heap.size 5 (sealed s) hs1.bel.size (by omega)
      rw [hz] at HR0
      have HB0 := below_ofString hs1.bel hs1.bel.size 5 (sealed s)
      have hcap : s.size + 4 ≤ grownCap w1 (s.size + 4) 0 5 := grownCap_ge _ _ _ _
      generalize grownCap w1 (s.size + 4) 0 5 = cap at *
      clear kb
      go_wp2_with fail
      go_loopw [8, 9] (fun ch i wr => ∃ k : Nat, ∃ l : List UInt8, k ≤ 4 ∧ j + k ≤ s.size + 4 ∧ i = .int .i64 k ∧ ch = .bool (anyCh c k) ∧ Row wr w.heap.size 5 1 (.slice (some ⟨w1.heap.size, 0, none⟩) (s.size + 4) cap) (s.size + 4) (bytesV l) ∧ St w wr ∧ Aside (l.length = s.size + 4 ∧ Crc.reg 4294967295 l = Crc.reg 4294967295 (sealed s).data.toList ^^^ Crc.steps (8 * (s.size + 4 - j)) (Crc.leN (chL c k)))) (fun _ i _ => 4 - (intOf i).toNat)
      case atStart => exact ⟨0, (sealed s).data.toList, by omega, by omega, rfl, rfl, HR0, ⟨hS.nib0, HB0⟩, ⟨by rw [data_len, hz], by simp [chL, Crc.leN, Crc.steps_of_zero]⟩⟩
      case round =>
        obtain ⟨k, l, hk, hjk, rfl, rfl, HR, HS, HA⟩ := hrel
        by_cases hlt : k < 4 ∧ j + k < s.size + 4
        · obtain ⟨h4, hjn⟩ := hlt
          have hl := HA.out.1
          have hjl : j + k < l.length := by omega
          obtain ⟨hc1, hf1⟩ := HR.byteAt (j + k) hjl
          have hx8 : ((c : Int) / 2 ^ (8 * k) % 256) = ((chB c k).toNat : Int) := by
            rw [chB_toNat]; simp
          have hset := HR.byteSet (j + k) hjl (l[j + k] ^^^ chB c k)
          have hxor : bits .xor .u8 ((l[j + k].toNat : Nat) : Int) (((chB c k).toNat : Nat) : Int) = (((l[j + k] ^^^ chB c k).toNat : Nat) : Int) := by
            rw [UInt8.toNat_xor]; exact u8_xor_nat _ _ l[j + k].toNat_lt (chB c k).toNat_lt
          have hne : (!decide (((chB c k).toNat : Int) = 0)) = (chB c k != 0) := by
            rw [Bool.eq_iff_iff]
            simp [← UInt8.toNat_inj]
          have hne2 : (((chB c k).toNat : Int) != 0) = (chB c k != 0) := by
            rw [Bool.eq_iff_iff]
            simp [← UInt8.toNat_inj]
          have HSet := Aside.mk hset
          have hreg : (l.set (j + k) (l[j + k] ^^^ chB c k)).length = s.size + 4 ∧ Crc.reg 4294967295 (l.set (j + k) (l[j + k] ^^^ chB c k)) = Crc.reg 4294967295 (sealed s).data.toList ^^^ Crc.steps (8 * (s.size + 4 - j)) (Crc.leN (chL c (k + 1))) := by
            refine ⟨by simpa using hl, ?_⟩
            rw [Crc.reg_set, HA.out.2, chL_succ, Crc.leN_snoc, chL_length, hl, Crc.steps_xor, ← Nat.xor_assoc]
            congr 1
            rw [show s.size + 4 - (j + k) = s.size + 4 - j - k by omega, Crc.steps_shift _ _ _ (by omega)]
          have HReg := Aside.mk hreg
          have HSucc := Aside.mk (anyCh_succ c k)
          clear hset hreg hl
          cases hA1 : anyCh c k
          all_goals
            go_wp2
            go_roundw
            case rel => exact ⟨k + 1, _, by omega, by omega, by go_num, by rw [HSucc.out, hA1]; simp, HSet.out.1, HS.low HSet.out.2, HReg⟩
            case measure => simp [intOf]; omega
        · have hK : k = 4 ∨ j + k = s.size + 4 := by omega
          have hl := HA.out.1
          have hst := HR.toString (P := Tryd.prog) Tryd.underlying27 Tryd.underlying5 Tryd.underlying9
          have hls : (⟨l.toArray⟩ : ByteArray).size = s.size + 4 := by rw [← data_len]; simpa using hl
          have hls2 : (⟨l.toArray⟩ : ByteArray).size ≤ 281474976710656 := by omega
          have hops : opens ⟨l.toArray⟩ = !anyCh c k := by
            have hz := sealed_size s
            have h1 := opens_reg (sealed s) (by omega)
            rw [opens_sealed] at h1
            have h2 : Crc.reg 4294967295 (sealed s).data.toList = Crc.steps 32 4294967295 := by simpa using h1.symm
            rw [opens_reg _ (by omega), show (⟨l.toArray⟩ : ByteArray).data.toList = l from rfl, HA.out.2, h2]
            have hlt : Crc.leN (chL c k) < 4294967296 := by
              have h3 := Crc.leN_lt (chL c k)
              rw [chL_length] at h3
              have h4 : 256 ^ k ≤ 256 ^ 4 := Nat.pow_le_pow_right (by omega) hk
              omega
            rw [Bool.eq_iff_iff]
            simp only [decide_eq_true_eq, Bool.not_eq_true', anyCh, List.any_eq_false, bne_iff_ne, ne_eq, Decidable.not_not]
            rw [← Crc.leN_zero]
            constructor
            · intro h
              refine Crc.steps_zero (8 * (s.size + 4 - j)) hlt (Crc.xor_eq_zero (b := 0) ?_)
              have h5 := congrArg (Crc.steps 32 4294967295 ^^^ ·) h
              simp only [← Nat.xor_assoc, Nat.xor_self, Nat.zero_xor] at h5
              rw [h5]; rfl
            · intro h
              rw [h, Crc.steps_of_zero, Nat.xor_zero]
          have HO := Aside.mk hops
          clear hops hls hl
          cases hA1 : anyCh c k
          · have hop : opens ⟨l.toArray⟩ = true := by rw [HO.out, hA1]; rfl
            go_wp2_with (first | (go_at_call 14; refine (crc_open _ _ (by omega) (St.nib (w := w) (by assumption))).mono ?_; rintro e w1 ⟨rfl, hb1⟩; have hs1 := St.step (w := w) (by assumption) hb1; clear hb1))
            all_goals (go_ret; exact ⟨rfl, (show St w _ by assumption).bel⟩)
          · have hop : opens ⟨l.toArray⟩ = false := by rw [HO.out, hA1]; rfl
            have hot := openText_not hop
            go_wp2_with (first | (go_at_call 14; refine (crc_open _ _ (by omega) (St.nib (w := w) (by assumption))).mono ?_; rintro e w1 ⟨rfl, hb1⟩; have hs1 := St.step (w := w) (by assumption) hb1; clear hb1))
            all_goals (go_ret; exact ⟨rfl, (show St w _ by assumption).bel⟩)
theorem crcTells_walk (s : ByteArray) (at0 c : Int) (w : World) (hs : s.size ≤ 140737488351232) (_hat : (Lit.int .i64 at0).wf = true) (hc : (Lit.int .u32 c).wf = true) (hn : Nib w) :
    Calls Tryd.prog 6 #[.string s, .int .i64 at0, .int .u32 c] w fun e w' => e = .returned (.bool true) ∧ Below w.heap.size w w' := by
  have hb := bounds_u32 hc
  obtain ⟨n, rfl⟩ := Int.eq_ofNat_of_zero_le hb.1
  by_cases h1 : at0 < 0
  · exact crcTells_at s at0 0 n w hs (by omega) (St.refl hn) (by omega) (.inr (.inl ⟨h1, ⟨rfl⟩⟩))
  · by_cases h2 : (s.size : Int) + 4 ≤ at0
    · exact crcTells_at s at0 0 n w hs (by omega) (St.refl hn) (by omega) (.inr (.inr ⟨by omega, h2, ⟨rfl⟩⟩))
    · exact crcTells_at s at0 at0.toNat n w hs (by omega) (St.refl hn) (by omega) (.inl ⟨by omega, by omega, ⟨by omega⟩⟩)
end Go.Proofs.YtnjmhfgplchogaaDoor
