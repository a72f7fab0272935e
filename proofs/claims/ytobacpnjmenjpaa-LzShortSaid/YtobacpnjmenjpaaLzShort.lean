/-
  Texts of one byte get short.
-/
import Derived.Test.YtobacpnjmenjpaaLzPacks
namespace Go.Proofs.Ytobacpnjmenjpaa
open Go.RowKit

theorem u8_of_wf {b : Int} (h : (Lit.int .u8 b).wf = true) : ∃ c : UInt8, b = (c.toNat : Int) := by
  have e1 : IntKind.u8.min = 0 := rfl
  have e2 : IntKind.u8.max = 255 := rfl
  simp only [Lit.wf, e1, e2, Bool.and_eq_true, decide_eq_true_eq] at h
  exact ⟨UInt8.ofNat b.toNat, by rw [toNat_of _ (by omega)]; omega⟩
theorem rep_set (c : UInt8) (k n : Nat) (h : k < n) : (List.replicate k c ++ List.replicate (n - k) 0).set k c = List.replicate (k + 1) c ++ List.replicate (n - (k + 1)) 0 := by
  rw [List.set_append_right _ _ (by simp), List.length_replicate, Nat.sub_self, show n - k = (n - (k + 1)) + 1 by omega, List.replicate_succ, List.set_cons_zero, List.replicate_succ', List.append_assoc]
  rfl
set_option maxHeartbeats 1000000 in
theorem lzShort_walk (b n : Int) (w : World) (hb : (Lit.int .u8 b).wf = true) (_hn : (Lit.int .i64 n).wf = true) :
    Calls Try.prog 5 #[.int .u8 b, .int .i64 n] w fun e w' => e = .returned (.bool true) ∧ Below w.heap.size w w' := by
  obtain ⟨c, rfl⟩ := u8_of_wf hb
  clear hb
  go_enter Try.func5, Try.ntmps5
  go_upto_region 3 with (go_at_call 8; refine (lz_speaks _).mono ?_; rintro e w1 ⟨rfl, hb1⟩)
  have HB1 := Aside.mk hb1
  clear hb1
  obtain ⟨bb, hbb⟩ : ∃ bb, bb = decide (n < 8 ∨ 65536 < n) := ⟨_, rfl⟩
  have HBB := Aside.mk hbb
  clear hbb
  go_cut [17] (fun s17 wx => s17 = .bool bb ∧ w1 = wx)
  case first =>
    by_cases h8 : n < 8
    · go_wp2
      go_meet
      exact ⟨by rw [HBB.out]; simp [h8], rfl⟩
    · by_cases h6 : 65536 < n
      · go_wp2
        go_meet
        exact ⟨by rw [HBB.out]; simp [h6], rfl⟩
      · go_wp2
        go_meet
        exact ⟨by rw [HBB.out]; simp [h6, h8], rfl⟩
  case rest =>
  obtain ⟨rfl, rfl⟩ := hcut
  apply_assumption
  go_cut [1] (fun s1 wx => ∃ N : Nat, s1 = .int .i64 (N : Int) ∧ 8 ≤ N ∧ N ≤ 65536 ∧ w1 = wx)
  case first =>
    cases bb with
    | true =>
      go_wp2
      go_meet
      exact ⟨900, rfl, by omega, by omega, rfl⟩
    | false =>
      have hn := of_decide_eq_false HBB.out.symm
      have HN := Aside.mk (show 8 ≤ n ∧ n ≤ 65536 by omega)
      clear hn
      go_wp2
      go_meet
      exact ⟨n.toNat, by have := HN.out; rw [Int.toNat_of_nonneg (by omega)], by have := HN.out; omega, by have := HN.out; omega, rfl⟩
  case rest =>
    obtain ⟨N, rfl, h8, h6, rfl⟩ := hcut
    clear _hn
    have HR0 := Row.zeros w1 w1.heap.size 5 (.int .u8 0) N (Nat.le_refl _) (by simp only [maxLen]; omega)
    rw [bytesV_zeros] at HR0
    have HB0 := (Below.refl w1.heap.size w1).alloc (Nat.le_refl _) (.cells (madeCells #[.int .u8 0] N) 5)
    have HH0 := Aside.mk (And.intro HR0 HB0)
    clear HR0 HB0
    have hmk : ∀ W : World, (Instr.makeSlice 31 (.int .i64 (N : Int)) (.int .i64 (N : Int))).run Try.prog W = .ok (.slice (some ⟨W.heap.size, 0, none⟩) N N) (W.alloc (.cells (madeCells #[.int .u8 0] N) 5)) :=
      fun W => run_make_row' 31 5 (.int .u8 0) 1 Try.underlying31 infoU8 rfl .i64 .i64 N (by omega) (by omega) W
    go_wp2_with fail
    clear hmk
    go_loopw [6] (fun i wr => ∃ k : Nat, k ≤ N ∧ i = .int .i64 k ∧ Row wr w1.heap.size 5 1 (.slice (some ⟨w1.heap.size, 0, none⟩) N N) N (bytesV (List.replicate k c ++ List.replicate (N - k) 0)) ∧ Below w1.heap.size w1 wr) (fun i _ => N - (intOf i).toNat)
    case atStart => exact ⟨0, by omega, rfl, by simpa using HH0.out.1, HH0.out.2⟩
    case round =>
      obtain ⟨k, hk, rfl, HR, HS⟩ := hrel
      by_cases hlt : k < N
      · have hll : k < (List.replicate k c ++ List.replicate (N - k) 0).length := by rw [List.length_append, List.length_replicate, List.length_replicate]; omega
        obtain ⟨hc1, hf1⟩ := HR.byteAt k hll
        have hset := HR.byteSet k hll c
        rw [rep_set c k N hlt] at hset
        have HSet := Aside.mk (And.intro hset HS)
        have hk0 : (0 : Int) ≤ (k : Int) := by omega
        have hk1 : (k : Int) < (N : Int) := by omega
        have hw1 : IntKind.i64.wrap ((k : Int) + 1) = ((k + 1 : Nat) : Int) := by rw [IntKind.wrap_i64]; omega
        have HK := Aside.mk (And.intro hlt h6)
        generalize (List.replicate k c ++ List.replicate (N - k) 0)[k] = y at hc1
        clear hset HR HS hll h8 h6 hlt
        go_wp2
        go_roundw
        case rel => exact ⟨k + 1, by have := HK.out; omega, rfl, HSet.out.1.1, HSet.out.2.trans HSet.out.1.2⟩
        case measure => have := HK.out; simp [intOf]; omega
      · obtain rfl : k = N := by omega
        rw [Nat.sub_self, List.replicate_zero, List.append_nil] at HR
        have hst := HR.toString (P := Try.prog) Try.underlying31 Try.underlying5 Try.underlying9
        obtain ⟨s, hs⟩ : ∃ s : ByteArray, s = ⟨(List.replicate k c).toArray⟩ := ⟨_, rfl⟩
        have hss : s.size = k := by rw [hs]; show (List.replicate k c).toArray.size = k; rw [List.size_toArray, List.length_replicate]
        have hsl : s.data.toList = List.replicate k c := by rw [hs]
        rw [← hs] at hst
        have HP1 := Aside.mk (fun w => lz_packB s w (by omega))
        have hbk := packB_back s (by omega)
        have hpr := pack_rep c k h8 h6
        rw [← hsl, ← packB_size] at hpr
        have hple := packB_le s
        obtain ⟨p, hp⟩ : ∃ p, p = packB s := ⟨_, rfl⟩
        rw [← hp] at HP1 hbk hpr hple
        rw [hss] at hbk
        have HX := Aside.mk (And.intro hbk (show p.size ≤ 140737488351232 by omega))
        have hlt2 : ¬ (k : Int) < (k : Int) := by omega
        have HR1 := Aside.mk (fun W' (h : Below wr.heap.size wr W') => (HR.below h).toString (P := Try.prog) Try.underlying31 Try.underlying5 Try.underlying9)
        rw [← hs] at HR1
        have HB2 := Aside.mk HS
        clear HR HS hs hss hsl hbk hp hple h8 hlt
        obtain ⟨k30, hk30⟩ : ∃ x, x = 6 + k / 30 := ⟨_, rfl⟩
        have wq : IntKind.i64.wrap (6 + IntKind.i64.wrap ((k : Int).tdiv 30)) = (k30 : Int) := by rw [IntKind.wrap_i64, IntKind.wrap_i64, Int.tdiv_eq_ediv_of_nonneg (by omega)]; omega
        have hq : (p.size : Int) ≤ (k30 : Int) := by omega
        go_wp2_with (first | (go_at_call 11; refine (HP1.out _).mono ?_; rintro e w3 ⟨rfl, hb3⟩; have HB3 := Aside.mk hb3; clear hb3) | (go_at_call 9; refine (lz_unpack_is p k s 0 _ HX.out.2 HX.out.1).mono ?_; rintro e w4 ⟨rfl, hb4⟩; have HB4 := Aside.mk (HB3.out.trans (hb4.mono HB3.out.size)); have hst4 := HR1.out _ HB4.out; clear hb4 hst))
        go_ret
        exact ⟨rfl, (HB1.out.trans (HB2.out.mono HB1.out.size)).trans (HB4.out.mono (Nat.le_trans HB1.out.size HB2.out.size))⟩
end Go.Proofs.Ytobacpnjmenjpaa
