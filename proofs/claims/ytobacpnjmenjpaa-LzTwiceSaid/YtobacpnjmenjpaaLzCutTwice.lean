/-
  A packed text that is cut short; a text that is written twice.
-/
import Derived.Test.YtobacpnjmenjpaaLzPacks
namespace Go.Proofs.Ytobacpnjmenjpaa
open Go.RowKit

theorem str_eqL (a b : ByteArray) : (a.toList == b.toList) = decide (a = b) := by
  rw [ByteArray.toList_eq, ByteArray.toList_eq, Bool.eq_iff_iff]
  simp only [beq_iff_eq, decide_eq_true_eq]
  exact ⟨fun h => by apply ByteArray.ext; exact Array.toList_inj.1 h, fun h => by rw [h]⟩
theorem append_sizeB (a b : ByteArray) : (a ++ b).size = a.size + b.size := ByteArray.size_append
set_option maxHeartbeats 400000 in
theorem lzTwice_walk (s : ByteArray) (w : World) (hs : s.size ≤ 140737488351232) :
    Calls Try.prog 7 #[.string s] w fun e w' => e = .returned (.bool true) ∧ Below w.heap.size w w' := by
  go_enter Try.func7, Try.ntmps7
  go_upto_region 3 with (go_at_call 8; refine (lz_speaks _).mono ?_; rintro e w1 ⟨rfl, hb1⟩)
  have HB1 := Aside.mk hb1
  clear hb1
  by_cases hb : 20000 < s.size
  · have hb2 : (20000 : Int) < (s.size : Int) := by omega
    go_wp2
    go_ret
    exact ⟨rfl, HB1.out⟩
  · have hb2 : ¬ (20000 : Int) < (s.size : Int) := by omega
    by_cases h3 : s.size < 3
    · have h32 : (s.size : Int) < 3 := by omega
      go_wp2
      go_ret
      exact ⟨rfl, HB1.out⟩
    · have h32 : ¬ (s.size : Int) < 3 := by omega
      have hss : (s ++ s).size = 2 * s.size := by rw [append_sizeB]; omega
      have HP1 := Aside.mk (fun w => lz_packB s w hs)
      have HP2 := Aside.mk (fun w => lz_packB (s ++ s) w (by omega))
      obtain ⟨p, hp⟩ : ∃ p, p = packB s := ⟨_, rfl⟩
      obtain ⟨q, hq⟩ : ∃ q, q = packB (s ++ s) := ⟨_, rfl⟩
      have hle1 := packB_le s
      have hle2 := packB_le (s ++ s)
      have hbk := packB_back (s ++ s) (by omega)
      rw [← hp] at HP1 hle1
      rw [← hq] at HP2 hle2 hbk
      rw [hss] at hle2 hbk
      obtain ⟨n2, hn2⟩ : ∃ n2, n2 = 2 * s.size := ⟨_, rfl⟩
      rw [← hn2] at hbk hle2
      have w1 : IntKind.i64.wrap (2 * (s.size : Int)) = (n2 : Int) := by rw [IntKind.wrap_i64]; omega
      have w2 : IntKind.i64.wrap ((n2 : Int) + 1) = ((n2 + 1 : Nat) : Int) := by rw [IntKind.wrap_i64]; omega
      have w3 : IntKind.i64.wrap ((s.size : Int) + 1) = ((s.size + 1 : Nat) : Int) := by rw [IntKind.wrap_i64]; omega
      have l1 : (p.size : Int) ≤ ((s.size + 1 : Nat) : Int) := by omega
      have l2 : (q.size : Int) ≤ ((n2 + 1 : Nat) : Int) := by omega
      have l3 : (p.size : Int) ≤ (s.size : Int) + 1 := by omega
      have l4 : (q.size : Int) ≤ (n2 : Int) + 1 := by omega
      have HX := Aside.mk (And.intro hbk (show q.size ≤ 140737488351232 by omega))
      have hmax : ¬ 9223372036854775807 < s.size + s.size := by omega
      clear hbk hp hq hle1 hle2 hn2 hs hb h3 hss
      obtain ⟨ss, hss⟩ : ∃ ss, ss = s ++ s := ⟨_, rfl⟩
      rw [← hss] at HP2 HX
      have HSS := Aside.mk hss
      go_wp2_with (first | (obtain ⟨HI⟩ := HP1; go_at_call 11; refine (HI _).mono ?_; rintro e w2 ⟨rfl, hb2⟩; have HB2 := Aside.mk hb2; clear hb2) | (obtain ⟨HI⟩ := HP2; go_at_call 11; rw [← HSS.out]; refine (HI _).mono ?_; rintro e w3 ⟨rfl, hb3⟩; have HB3 := Aside.mk hb3; clear hb3) | (go_at_call 9; refine (lz_unpack_is q n2 ss 0 _ HX.out.2 HX.out.1).mono ?_; rintro e w4 ⟨rfl, hb4⟩; have HB4 := Aside.mk hb4; clear hb4))
      go_ret
      have b2 := HB1.out.trans (HB2.out.mono HB1.out.size)
      have b3 := b2.trans (HB3.out.mono b2.size)
      exact ⟨rfl, b3.trans (HB4.out.mono b3.size)⟩
set_option maxHeartbeats 400000 in
theorem lzCut_walk (s : ByteArray) (n : Int) (w : World) (hs : s.size ≤ 140737488351232) (_hn : (Lit.int .i64 n).wf = true) :
    Calls Try.prog 6 #[.string s, .int .i64 n] w fun e w' => e = .returned (.bool true) ∧ Below w.heap.size w w' := by
  have HP1 := Aside.mk (fun w => lz_packB s w hs)
  have hle1 := packB_le s
  have hcut := unpack_cut s.data.toList
  have hpl := packB_list s
  have hps := packB_size s
  rw [data_len] at hcut
  obtain ⟨p, hp⟩ : ∃ p, p = packB s := ⟨_, rfl⟩
  rw [← hp] at HP1 hle1 hpl hps
  rw [← hpl] at hcut hps
  clear hpl hp
  have HC := Aside.mk hcut
  have HPS := Aside.mk (And.intro hle1 hps)
  clear hcut hle1 hps
  go_enter Try.func6, Try.ntmps6
  go_upto_region 4 with (first | (go_at_call 8; refine (lz_speaks _).mono ?_; rintro e w1 ⟨rfl, hb1⟩; have HB1 := Aside.mk hb1; clear hb1) | (obtain ⟨HI⟩ := HP1; go_at_call 11; refine (HI _).mono ?_; rintro e w2 ⟨rfl, hb2⟩; have HB2 := Aside.mk hb2; clear hb2))
  have b2 := HB1.out.trans (HB2.out.mono HB1.out.size)
  have HB := Aside.mk b2
  clear b2 HB1 HB2
  by_cases hb : 65536 < s.size
  · have hb2 : (65536 : Int) < (s.size : Int) := by omega
    go_wp2
    go_ret
    exact ⟨rfl, HB.out⟩
  · have hb2 : ¬ (65536 : Int) < (s.size : Int) := by omega
    by_cases hn0 : n < 0
    · go_wp2
      go_ret
      exact ⟨rfl, HB.out⟩
    · obtain ⟨k, rfl⟩ : ∃ k : Nat, n = (k : Int) := ⟨n.toNat, by omega⟩
      by_cases hk : p.size ≤ k
      · have hk2 : (p.size : Int) ≤ (k : Int) := by omega
        clear hk
        go_wp2
        go_ret
        exact ⟨rfl, HB.out⟩
      · have hk2 : ¬ (p.size : Int) ≤ (k : Int) := by omega
        have hk3 : (k : Int) ≤ (p.size : Int) := by omega
        have hk4 : (0 : Int) ≤ (k : Int) := by omega
        have hu := HC.out (by omega) k (by rw [← HPS.out.2]; omega)
        obtain ⟨c, hc⟩ : ∃ c, c = p.extract 0 k := ⟨_, rfl⟩
        have hcl : c.data.toList = p.data.toList.take k := by rw [hc, extract_toArray]; simp
        have hcs : c.size ≤ 140737488351232 := by
          rw [← data_len, hcl, List.length_take, data_len]
          have := HPS.out.1
          omega
        rw [← hcl] at hu
        have HCS := Aside.mk (And.intro hcs hc)
        clear hcs hcl hk
        rcases hu with hu | ⟨r, hu, hpre, hlt⟩
        · have HU := Aside.mk hu
          clear hu hb
          go_wp2_with (go_at_call 9; rw [← HCS.out.2]; refine (lz_unpack_is c s.size _ 4 _ HCS.out.1 HU.out).mono ?_; rintro e w4 ⟨rfl, hb4⟩)
          go_ret
          exact ⟨rfl, HB.out.trans (hb4.mono HB.out.size)⟩
        · obtain ⟨rb, hrb⟩ : ∃ rb : ByteArray, rb = ⟨r.toArray⟩ := ⟨_, rfl⟩
          rw [← hrb] at hu
          have hrl : rb.size = r.length := by rw [hrb]; show r.toArray.size = _; rw [List.size_toArray]
          have hl2 : (rb.size : Int) < (s.size : Int) := by omega
          have hl3 : (rb.size : Int) ≤ (s.size : Int) := by omega
          have hl4 : (0 : Int) ≤ (rb.size : Int) := by omega
          have heq : ((s.extract 0 rb.size).toList == rb.toList) = true := by
            rw [str_eqL, decide_eq_true_iff, extract_toArray, hrb, List.drop_zero, Nat.sub_zero]
            congr 2
            show s.data.toList.take r.toArray.size = r
            rw [List.size_toArray]
            exact (List.prefix_iff_eq_take.1 hpre).symm
          have HU := Aside.mk hu
          clear hu hb hpre hlt hrl hrb
          go_wp2_with (go_at_call 9; rw [← HCS.out.2]; refine (lz_unpack_is c s.size rb 0 _ HCS.out.1 HU.out).mono ?_; rintro e w4 ⟨rfl, hb4⟩)
          go_ret
          exact ⟨rfl, HB.out.trans (hb4.mono HB.out.size)⟩
end Go.Proofs.Ytobacpnjmenjpaa
