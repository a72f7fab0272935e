/-
  Every text is the text of the key that is answered, or of none.
-/
import Derived.Test.YtkmdoaenlpfdaaaKeyEncodes
namespace Go.Proofs.Ytkmdoaenlpfdaaa
open Go.RowKit

set_option maxHeartbeats 2000000 in
theorem keyDecodes_short (s : ByteArray) (w : World) (hs : s.size < 9) :
    Calls Try.prog 7 #[.string s] w fun e w' => e = .returned (.bool true) ∧ Below w.heap.size w w' := by
  have hs' : (s.size : Int) < 9 := by omega
  go_enter Try.func7, Try.ntmps7
  go_wp2_with (first | (go_at_call 8; refine (key_speaks _).mono ?_; rintro e w1 ⟨rfl, hb1⟩) | (go_at_call 16; refine (key_decode_short s _ hs).mono ?_; rintro e w2 ⟨rfl, hb2⟩))
  go_ret
  exact ⟨rfl, (hb1.trans (hb2.mono hb1.size)).alloc (Nat.le_trans hb1.size hb2.size) _⟩

set_option maxHeartbeats 4000000 in
theorem keyDecodes_yes (n k : Int) (r : ByteArray) (p : Int) (w : World) (hg : goodB n k r p = true) :
    Calls Try.prog 7 #[.string (encT n k r p)] w fun e w' => e = .returned (.bool true) ∧ Below w.heap.size w w' := by
  have HG := Aside.mk hg
  clear hg
  go_enter Try.func7, Try.ntmps7
  go_wp2_with (first | (go_at_call 8; refine (key_speaks _).mono ?_; rintro e w1 ⟨rfl, hb1⟩) | (go_at_call 16; refine (key_back n k r p _ HG.out).mono ?_; rintro e w2 ⟨rfl, hb2⟩) | (go_at_call 14; refine (ref_encode n k r p _).mono ?_; rintro e w3 ⟨rfl, hb3⟩))
  go_ret
  refine ⟨ret_bool (by simp), ?_⟩
  have h2 := (hb1.trans (hb2.mono hb1.size)).alloc (Nat.le_trans hb1.size hb2.size) (.cells #[.int .i64 n, .int .i64 k, .string r, .int .i64 p] 27)
  exact h2.trans (hb3.mono h2.size)

set_option maxHeartbeats 4000000 in
theorem keyDecodes_no (s : ByteArray) (w : World) (hs : 9 ≤ s.size) (hs2 : s.size ≤ 140737488351232) (k : Int) (hk : (s[8].toNat : Int) = k)
    (hdec : ∀ W, Calls Try.prog 16 #[.string s] W fun e w' => e = .returned (.tuple #[noKey, .bool false]) ∧ Below W.heap.size W w')
    (h3 : k = 3 → beN (s.data.toList.take 8) ≤ 1099511627776 → s.size ≠ 13) (hne : k ≠ 3 → beN (s.data.toList.take 8) ≤ 1099511627776 → goodB (beN (s.data.toList.take 8)) k (s.extract 9 s.size) 0 = false) :
    Calls Try.prog 7 #[.string s] w fun e w' => e = .returned (.bool true) ∧ Below w.heap.size w w' := by
  have hs' : (9 : Int) ≤ s.size := by omega
  have HD := Aside.mk hdec
  have H3 := Aside.mk h3
  have HE := Aside.mk hne
  clear hdec h3 hne
  go_enter Try.func7, Try.ntmps7
  go_wp2_with (first | (go_at_call 8; refine (key_speaks _).mono ?_; rintro e w1 ⟨rfl, hb1⟩) | (go_at_call 16; refine (HD.out _).mono ?_; rintro e w2 ⟨rfl, hb2⟩))
  have HB := Aside.mk ((hb1.trans (hb2.mono hb1.size)).alloc (Nat.le_trans hb1.size hb2.size) (.cells #[.int .i64 0, .int .i64 0, .string ⟨#[]⟩, .int .i64 0] 27))
  clear hb1 hb2
  generalize w2.alloc (.cells #[.int .i64 0, .int .i64 0, .string ⟨#[]⟩, .int .i64 0] 27) = W at HB
  go_loop [5, 6] (fun n i => ∃ j : Nat, j ≤ 8 ∧ i = .int .i64 j ∧ n = .int .i64 (beN (s.data.toList.take j) : Nat) ∧ beN (s.data.toList.take j) ≤ 281474976711000) (fun _ i => 8 - (intOf i).toNat)
  case atStart => exact ⟨0, by omega, rfl, rfl, Nat.zero_le _⟩
  case round =>
    obtain ⟨j, hj, rfl, rfl, hN⟩ := hrel
    by_cases hlt : j < 8
    · have hjs : (j : Int) < s.size := by omega
      have hjs' : j < s.size := by omega
      have HS := Aside.mk ((congrArg beN (take_snoc_b s j hjs')).trans (beN_snoc (s.data.toList.take j) s[j]))
      have hbt := s[j].toNat_lt
      generalize beN (s.data.toList.take j) = N at hN HS
      by_cases hbig : (N : Int) ≤ 1099511627776
      · have hw1 : IntKind.i64.wrap (256 * (N : Int)) = 256 * (N : Int) := by rw [IntKind.wrap_i64]; omega
        have hw2 : IntKind.i64.wrap (256 * (N : Int) + (s[j].toNat : Int)) = 256 * (N : Int) + (s[j].toNat : Int) := by rw [IntKind.wrap_i64]; omega
        go_wp2
        go_round
        case rel => exact ⟨j + 1, by omega, by go_num, by rw [HS.out]; congr 1; omega, by rw [HS.out]; omega⟩
        case measure => simp [intOf]; omega
      · go_wp2
        go_ret
        exact ⟨rfl, HB.out⟩
    · obtain rfl : j = 8 := by omega
      have H3' := Aside.mk H3.out
      have hkw := s8_lt hs hk
      generalize hNN : beN (s.data.toList.take 8) = N at *
      have HNN := Aside.mk hNN
      clear hNN
      go_upto_region 14 with fail
      go_region
      all_goals
        have HB2 := Aside.mk ((HB.out.alloc HB.out.size (.cells #[.int .i64 N, .int .i64 k, .string (s.extract 9 s.size), .int .i64 0] 30)).drew)
        by_cases hk3 : k = 3
        · have hor : s.size ≠ 13 ∨ s.size = 13 ∧ 1099511627776 < N := by have := H3.out hk3; omega
          have hk3' : (k == 3) = true := by simp [hk3]
          clear hk3 hk hkw
          rcases hor with h | ⟨h, h2⟩
          · have h13 : ((s.size : Int) == 13) = false := by simp; omega
            have h14 : ((s.size : Int) = 13) = False := eq_false (by omega)
            clear h
            go_wp2
            go_ret
            exact ⟨rfl, HB2.out⟩
          · have h2' : (1099511627776 : Int) < N := by omega
            have h13 : ((s.size : Int) == 13) = true := by simp; omega
            clear h
            go_wp2
            all_goals
              go_ret
              exact ⟨by first | rfl | exact ret_bool (by simp [h2']), HB2.out⟩
        · have hgf : goodB N k (s.extract 9 s.size) 0 = false := by
            by_cases hN4 : N ≤ 1099511627776
            · exact HE.out hk3 hN4
            · cases hq : goodB N k (s.extract 9 s.size) 0
              · rfl
              · have := goodB_iff.1 hq; omega
          have hk3' : (k == 3) = false := by simp [hk3]
          have h0 : 0 < s.size := by omega
          clear hk3
          go_wp2_with (go_at_call 15; refine (ref_good _ _ _ _ _).mono ?_; rintro e w5 ⟨rfl, hw5⟩; have HB3 := Aside.mk (HB2.out.alloc HB2.out.size (.cells #[.int .i64 N, .int .i64 k, .string (s.extract 9 s.size), .int .i64 0] 30)); rw [hw5] at HB3; clear hw5)
          all_goals
            go_ret
            exact ⟨rfl, by first | exact HB3.out | exact HB2.out⟩

theorem beL_beN : ∀ (n : Nat) (l : List UInt8), l.length = n → beL n (beN l) = l
  | 0, l, h => by
    obtain rfl := List.eq_nil_of_length_eq_zero h
    rfl
  | n + 1, l, h => by
    rcases List.eq_nil_or_concat l with rfl | ⟨L, b, rfl⟩
    · simp at h
    · have hb := b.toNat_lt
      have ih := beL_beN n L (by simpa using h)
      rw [List.concat_eq_append, beL, beN_snoc, show (beN L * 256 + b.toNat) / 256 = beN L by omega, ih]
      congr 2
      rw [← UInt8.toNat_inj, UInt8.toNat_ofNat']
      omega
theorem beN_lt : ∀ (n : Nat) (l : List UInt8), l.length = n → beN l < 256 ^ n
  | 0, l, h => by
    obtain rfl := List.eq_nil_of_length_eq_zero h
    exact Nat.one_pos
  | n + 1, l, h => by
    rcases List.eq_nil_or_concat l with rfl | ⟨L, b, rfl⟩
    · simp at h
    · have hb := b.toNat_lt
      have ih := beN_lt n L (by simpa using h)
      rw [List.concat_eq_append, beN_snoc, Nat.pow_succ]
      omega
/-- A text of nine bytes and more: its number, its kind, its rest. -/
theorem text_parts (s : ByteArray) (hs : 9 ≤ s.size) : s = hd (beN (s.data.toList.take 8)) s[8].toNat ++ s.extract 9 s.size := by
  have hl : (s.data.toList.take 8).length = 8 := by rw [List.length_take, data_len]; omega
  have h8 := beL_beN 8 (s.data.toList.take 8) hl
  apply ByteArray.ext
  apply Array.ext'
  rw [hd_app_list, h8, ByteArray.data_extract, Array.toList_extract, List.extract_eq_take_drop]
  have hd9 : (s.data.toList.drop 9).take (s.size - 9) = s.data.toList.drop 9 := List.take_of_length_le (by rw [List.length_drop, data_len]; omega)
  rw [hd9]
  have e8 : UInt8.ofNat s[8].toNat = s.data.toList[8]'(by rw [data_len]; omega) := by simp; rfl
  rw [e8]
  conv => lhs; rw [← List.take_append_drop 8 s.data.toList]
  congr 1
  exact List.drop_eq_getElem_cons (by rw [data_len]; omega)

theorem keyDecodes_walk (s : ByteArray) (w : World) (hs : s.size ≤ 140737488351232) :
    Calls Try.prog 7 #[.string s] w fun e w' => e = .returned (.bool true) ∧ Below w.heap.size w w' := by
  by_cases h9 : s.size < 9
  · exact keyDecodes_short s w h9
  · have h9' : 9 ≤ s.size := by omega
    have hp := text_parts s h9'
    have hl : (s.data.toList.take 8).length = 8 := by rw [List.length_take, data_len]; omega
    have hN := beN_lt 8 _ hl
    rw [pow8] at hN
    generalize hNN : beN (s.data.toList.take 8) = N at hp hN
    have hk := s[8].toNat_lt
    generalize hK : s[8].toNat = K at hp hk
    have hz : (s.extract 9 s.size).size = s.size - 9 := by simp
    by_cases h3 : K = 3
    · subst h3
      by_cases h13 : s.size = 13
      · have h4 : (s.extract 9 s.size).data.toList.length = 4 := by rw [data_len]; omega
        have hP := beN_lt 4 _ h4
        rw [show (256 : Nat) ^ 4 = 4294967296 from rfl] at hP
        have hb4 : be 4 (beN (s.extract 9 s.size).data.toList) = s.extract 9 s.size := ByteArray.ext (Array.ext' (beL_beN 4 _ h4))
        by_cases hN4 : N ≤ 1099511627776
        · have hg : goodB N 3 ⟨#[]⟩ (beN (s.extract 9 s.size).data.toList) = true := goodB_iff.2 ⟨by omega, by omega, .inr (.inr ⟨rfl, rfl, by omega, by omega⟩)⟩
          have he : encT N 3 ⟨#[]⟩ (beN (s.extract 9 s.size).data.toList) = s := by
            have e : encT N 3 ⟨#[]⟩ (beN (s.extract 9 s.size).data.toList) = hd N 3 ++ be 4 (beN (s.extract 9 s.size).data.toList) := by unfold encT; rw [hg]; rfl
            rw [e, hb4, ← hp]
          have := keyDecodes_yes N 3 ⟨#[]⟩ (beN (s.extract 9 s.size).data.toList) w hg
          rwa [he] at this
        · refine keyDecodes_no s w h9' hs 3 (by rw [hK]; rfl) (fun W => ?_) (fun _ h => by rw [hNN] at h; omega) (fun h => absurd rfl h)
          have hd' := key_decode_data s W h9' hs (IntKind.i64.wrap N) (IntKind.i64.wrap (beN (s.extract 9 s.size).data.toList)) (by rw [hNN]) (by rw [hK]; rfl) h13 rfl
          have hg : goodB (IntKind.i64.wrap N) 3 ⟨#[]⟩ (IntKind.i64.wrap (beN (s.extract 9 s.size).data.toList)) = false := by
            cases hq : goodB (IntKind.i64.wrap N) 3 ⟨#[]⟩ (IntKind.i64.wrap (beN (s.extract 9 s.size).data.toList))
            · rfl
            · have := goodB_iff.1 hq
              rw [IntKind.wrap_i64] at this
              omega
          refine hd'.mono ?_
          rintro e1 w1 ⟨rfl, hb⟩
          exact ⟨by unfold decV; rw [hg]; rfl, hb⟩
      · refine keyDecodes_no s w h9' hs 3 (by rw [hK]; rfl) (fun W => ?_) (fun _ _ => h13) (fun h => absurd rfl h)
        exact key_decode_none s W h9' hs (IntKind.i64.wrap N) (by rw [hNN]) (by rw [hK]; rfl) h13
    · have hd' := fun W => key_decode_other s W h9' hs (IntKind.i64.wrap N) K (by rw [hNN]) (by rw [hK]) (by simp; omega)
      cases hg : goodB (IntKind.i64.wrap N) K (s.extract 9 s.size) 0
      · refine keyDecodes_no s w h9' hs K (by rw [hK]) (fun W => ?_) (fun h => absurd h (by omega)) (fun _ h => ?_)
        · refine (hd' W).mono ?_
          rintro e1 w1 ⟨rfl, hb⟩
          exact ⟨by unfold decV; rw [hg]; rfl, hb⟩
        · rw [hNN] at h ⊢
          rwa [wrap_id (by omega)] at hg
      · have hq := goodB_iff.1 hg
        have hNw : IntKind.i64.wrap (N : Int) = N := by rw [IntKind.wrap_i64] at hq ⊢; omega
        rw [hNw] at hg hq
        have he : encT N K (s.extract 9 s.size) 0 = s := by
          have e : encT N K (s.extract 9 s.size) 0 = hd N K ++ s.extract 9 s.size := by unfold encT; rw [hg, if_pos rfl, if_neg (by omega)]; rfl
          rw [e, ← hp]
        have := keyDecodes_yes N K (s.extract 9 s.size) 0 w hg
        rwa [he] at this
end Go.Proofs.Ytkmdoaenlpfdaaa
