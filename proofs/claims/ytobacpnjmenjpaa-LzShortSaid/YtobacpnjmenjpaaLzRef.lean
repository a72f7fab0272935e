/-
  What the document's Unpack answers.
-/
import Derived.Test.YtobacpnjmenjpaaLzPlain
import Derived.Test.YtobacpnjmenjpaaHeld
namespace Go.Proofs.Ytobacpnjmenjpaa
open Go.RowKit

theorem drop_at (s : ByteArray) (i : Nat) (h : i < s.size) : s.data.toList.drop i = s[i] :: s.data.toList.drop (i + 1) := by
  rw [List.drop_eq_getElem_cons (by simpa using h)]
  rfl
theorem bytesV_one1 (b : UInt8) : bytesV [b] = (#[.int .u8 (b.toNat : Int)] : Array Value).toList := rfl
theorem conv_byte (b : UInt8) : IntKind.i64.wrap (b.toNat : Int) = (b.toNat : Int) := by
  have := b.toNat_lt
  rw [IntKind.wrap_i64]; omega

theorem Row.byteGet {w : World} {base : Nat} {e : TypeId} {g off n c : Nat} {l : List UInt8} (h : Row w base e 1 (.slice (some ⟨g, off, none⟩) n c) n (bytesV l)) {i : Nat} (hi : i < n) : w.cell? ⟨g, off + i, none⟩ = some (.int .u8 ((l.getD i 0).toNat : Int)) := by
  have hl : l.length = n := by have := h.1; rw [bytesV_length] at this; omega
  rw [(h.at_ rfl i hi).1]
  simp [bytesV, List.getD_eq_getElem?_getD, List.getElem?_eq_getElem (show i < l.length by omega)]
theorem unpack_nil (n : Int) : unpack [] n = (⟨#[]⟩, 4) := rfl
theorem unpack_form {f : UInt8} {rest : List UInt8} {n : Int} (h : 1 < f.toNat) : unpack (f :: rest) n = (⟨#[]⟩, 4) := by simp only [unpack]; rw [if_pos h]
theorem unpack_long {f : UInt8} {rest : List UInt8} {n : Int} (h : f.toNat = 0) (h2 : mostN n < rest.length) : unpack (f :: rest) n = (⟨#[]⟩, 2) := by simp only [unpack]; rw [if_neg (by omega), if_pos h, if_pos h2]
theorem unpack_plain {f : UInt8} {rest : List UInt8} {n : Int} (h : f.toNat = 0) (h2 : ¬ mostN n < rest.length) : unpack (f :: rest) n = (⟨rest.toArray⟩, 0) := by simp only [unpack]; rw [if_neg (by omega), if_pos h, if_neg h2]
theorem unpack_tokens {f : UInt8} {rest : List UInt8} {n : Int} (h : f.toNat = 1) : unpack (f :: rest) n = unp (mostN n) rest [] := by simp only [unpack]; rw [if_neg (by omega), if_neg (by omega)]

theorem index_str {s : ByteArray} {j : Nat} (h : j < s.size) {x : Int} (hx : x = (j : Int)) (W : World) : (Instr.index 9 (.string s) (.int .i64 x)).run Try.prog W = .ok (.int .u8 (s[j].toNat : Int)) W := by
  subst hx
  rw [run_index_string W 9 s .i64 (j : Int) Try.underlying9, dif_pos (by omega)]
  rfl
theorem extract_toArray (s : ByteArray) (i j : Nat) : s.extract i j = ⟨((s.data.toList.drop i).take (j - i)).toArray⟩ := by
  apply ByteArray.ext
  apply Array.ext'
  rw [ByteArray.data_extract, Array.toList_extract, List.extract_eq_take_drop]
theorem extract_end (s : ByteArray) (i : Nat) : s.extract i s.size = ⟨(s.data.toList.drop i).toArray⟩ := by
  rw [extract_toArray, List.take_of_length_le (by rw [List.length_drop, data_len]; omega)]

set_option maxRecDepth 20000 in
set_option maxHeartbeats 8000000 in
theorem ref_unpack (s : ByteArray) (n : Int) (w : World) (hs : s.size ≤ 140737488351232) :
    Calls Try.prog 10 #[.string s, .int .i64 n] w fun e w' => e = .returned (.tuple #[.string (unpack s.data.toList n).1, .int .i64 ((unpack s.data.toList n).2 : Int)]) ∧ Below w.heap.size w w' := by
  obtain ⟨m, hm⟩ : ∃ m, m = mostN n := ⟨_, rfl⟩
  have hm2 : m ≤ 65536 := by rw [hm]; unfold mostN; omega
  have HM := Aside.mk hm
  have hmc : (65536 < n ∧ m = 65536) ∨ (n < 0 ∧ m = 0) ∨ (n = (m : Int)) := by rw [hm]; unfold mostN; omega
  clear hm
  generalize hR : unpack s.data.toList n = R
  obtain ⟨R1, R2⟩ := R
  have HR := Aside.mk hR
  clear hR
  go_enter Try.func10, Try.ntmps10
  go_upto_if 14 with fail
  go_cut [1] (fun s1 wx => ∃ z : Int, s1 = .int .i64 z ∧ ((z < 0 ∧ m = 0) ∨ z = (m : Int)) ∧ w = wx)
  case first =>
    rcases hmc with ⟨h1, h2⟩ | ⟨h1, h2⟩ | h1
    · have hd : decide (65536 < n) = true := by simp [h1]
      have H2 := Aside.mk h2
      clear h2
      go_wp2
      go_meet
      exact ⟨65536, rfl, by have := H2.out; omega, rfl⟩
    · have hd : decide (65536 < n) = false := by simp; omega
      go_wp2
      go_meet
      exact ⟨n, rfl, by omega, rfl⟩
    · have hd : decide (65536 < n) = false := by simp; omega
      have H1 := Aside.mk h1
      have hnn : ¬ 65536 < n := by omega
      clear h1
      go_wp2
      go_meet
      exact ⟨n, rfl, by have := H1.out; omega, rfl⟩
  case rest =>
    obtain ⟨z, rfl, hz, rfl⟩ := hcut
    clear hmc
    go_upto_if 16 with fail
    go_cut [1] (fun s1 wx => s1 = .int .i64 (m : Int) ∧ w = wx)
    case first =>
      rcases hz with ⟨h1, h2⟩ | h1
      · have H2 := Aside.mk h2
        clear h2
        go_wp2
        go_meet
        exact ⟨by rw [H2.out]; rfl, rfl⟩
      · have hz0 : ¬ z < 0 := by omega
        have H1 := Aside.mk h1
        clear h1
        go_wp2
        go_meet
        exact ⟨by rw [H1.out], rfl⟩
    case rest =>
      obtain ⟨rfl, rfl⟩ := hcut
      clear hz
      have hR := HR.out
      clear HR
      by_cases h0 : s.size = 0
      · have hl0 : s.data.toList = [] := List.eq_nil_of_length_eq_zero (by rw [data_len]; exact h0)
        rw [hl0, unpack_nil] at hR
        injection hR with hR1 hR2
        subst hR1; subst hR2
        clear hl0
        go_wp2
        go_ret2
        exact ⟨rfl, Below.refl _ _⟩
      · have hl : s.data.toList = s[0] :: s.data.toList.drop 1 := by
          have := drop_at s 0 (by omega)
          rwa [List.drop_zero] at this
        have hlen : (s.data.toList.drop 1).length = s.size - 1 := by rw [List.length_drop, data_len]
        have hs0 : 0 < s.size := by omega
        by_cases hf : 1 < s[0].toNat
        · rw [hl, unpack_form hf] at hR
          injection hR with hR1 hR2
          subst hR1; subst hR2
          clear hl hlen
          go_wp2
          go_ret2
          exact ⟨rfl, Below.refl _ _⟩
        · by_cases hf0 : s[0].toNat = 0
          · by_cases hlg : m < s.size - 1
            · rw [hl, unpack_long hf0 (by rw [← HM.out, hlen]; exact hlg)] at hR
              injection hR with hR1 hR2
              subst hR1; subst hR2
              clear hl hlen
              go_wp2
              go_ret2
              exact ⟨rfl, Below.refl _ _⟩
            · rw [hl, unpack_plain hf0 (by rw [← HM.out, hlen]; exact hlg)] at hR
              injection hR with hR1 hR2
              subst hR1; subst hR2
              clear hl hlen
              go_wp2
              go_ret2
              refine ⟨?_, Below.refl _ _⟩
              rw [← extract_end s 1]
              rfl
          · have hf1 : s[0].toNat = 1 := by omega
            rw [hl, unpack_tokens hf1, ← HM.out] at hR
            have HR := Aside.mk hR
            have hn1 : ¬ 1 < s[0].toNat := by omega
            have hn0 : ¬ s[0].toNat = 0 := by omega
            clear hR hl hf hf0 hlen
            have hsN : ¬ (s.size : Int) = 0 := by omega
            rw [hf1] at hn1 hn0
            go_wp2
            go_loopw [6, 7] (fun s6 s7 wr => ∃ (i : Nat) (o : List UInt8), s7 = .int .i64 i ∧ i ≤ s.size ∧ Row wr w.heap.size 5 1 s6 o.length (bytesV o) ∧ o.length ≤ m ∧ Aside (unp m (s.data.toList.drop i) o = (R1, R2)) ∧ Below w.heap.size w wr) (fun _ s7 _ => s.size - (intOf s7).toNat)
            case atStart => exact ⟨1, [], rfl, by omega, Row.nil _ _ _ _, Nat.zero_le _, HR, Below.refl _ _⟩
            case round =>
              obtain ⟨i, o, rfl, hi, hr, hom, hR, hb⟩ := hrel
              clear HR
              obtain ⟨A6, c6, rfl, hc6⟩ := hr.slice
              by_cases hlt : i < s.size
              · have hR := hR.out
                rw [drop_at s i hlt] at hR
                have hrl : (s.data.toList.drop (i + 1)).length = s.size - (i + 1) := by rw [List.length_drop, data_len]
                have hbl := s[i].toNat_lt
                have hcb := conv_byte s[i]
                have hi1 : IntKind.i64.wrap ((i : Int) + 1) = (i : Int) + 1 := by rw [IntKind.wrap_i64]; omega
                by_cases h128 : s[i].toNat < 128
                · by_cases hsh : s.size - (i + 1) < s[i].toNat + 1
                  · rw [unp_short h128 (by rw [hrl]; exact hsh)] at hR
                    injection hR with hR1 hR2
                    subst hR1; subst hR2
                    clear hrl
                    go_wp2
                    go_ret2
                    exact ⟨rfl, hb⟩
                  · by_cases hlg : m < o.length + s[i].toNat + 1
                    · rw [unp_long h128 (by rw [hrl]; exact hsh) hlg] at hR
                      injection hR with hR1 hR2
                      subst hR1; subst hR2
                      clear hrl
                      go_wp2
                      go_ret2
                      exact ⟨rfl, hb⟩
                    · rw [unp_lit h128 (by rw [hrl]; exact hsh) hlg, List.drop_drop] at hR
                      have HR := Aside.mk hR
                      clear hR
                      have HRL := Aside.mk hrl
                      clear hrl
                      have hbs := Aside.mk hb.size
                      obtain ⟨N, hN⟩ : ∃ N, N = s[i].toNat := ⟨_, rfl⟩
                      rw [← hN] at HR
                      have HN := Aside.mk hN
                      clear hN
                      go_wp2
                      go_loopw [6, 9] (fun s6 s9 wq => ∃ k : Nat, s9 = .int .i64 k ∧ k ≤ N + 1 ∧ Row wq w.heap.size 5 1 s6 (o.length + k) (bytesV (o ++ (s.data.toList.drop (i + 1)).take k)) ∧ Below w.heap.size w wq) (fun _ s9 _ => N + 1 - (intOf s9).toNat)
                      case atStart => exact ⟨0, rfl, by omega, by simpa using hr, hb⟩
                      case round =>
                        obtain ⟨k, rfl, hk, hrk, hbk⟩ := hrel
                        clear hr hb hbs
                        have hNe := HN.out
                        have hk1 : IntKind.i64.wrap ((k : Int) + 1) = (k : Int) + 1 := by rw [IntKind.wrap_i64]; omega
                        by_cases hkl : k < N + 1
                        · have hkle : (k : Int) ≤ (s[i].toNat : Int) := by omega
                          have hki : i + 1 + k < s.size := by omega
                          have htk : (s.data.toList.drop (i + 1)).take (k + 1) = (s.data.toList.drop (i + 1)).take k ++ [s[i + 1 + k]] := by
                            rw [List.take_succ_eq_append_getElem (by rw [HRL.out]; omega), List.getElem_drop]
                            rfl
                          have HTK := Aside.mk htk
                          have hbs := hbk.size
                          clear htk hNe
                          go_wp2_with (at_builtin; go_loud (refine wpList_append_one (w0 := w) w.heap.size rfl _ _ 31 5 1 1 (.int .u8 0) rfl Try.underlying31 infoU8 rfl (by decide) u6 (o.length + k) _ #[.int .u8 (s[i + 1 + k].toNat : Int)] rfl rfl rfl hrk (by simp [Value.oneCell']) hbk hbs (by omega) (by simp only [maxLen]; omega) ?_); intro v1 w1 hr1 hb1 hg1 hat1)
                          go_roundw
                          case rel =>
                            have hrn : Row w1 w.heap.size 5 1 v1 (o.length + (k + 1)) (bytesV (o ++ (s.data.toList.drop (i + 1)).take (k + 1))) := by
                              rw [HTK.out, ← List.append_assoc, bytesV_append, bytesV_one1]
                              exact hr1
                            first | exact ⟨k + 1, by go_num, by omega, hrn⟩ | exact ⟨k + 1, by go_num, by omega, hrn, hb1⟩
                          case measure => simp [intOf]; omega
                        · obtain rfl : k = N + 1 := by omega
                          have hkge : ¬ ((N + 1 : Nat) : Int) ≤ (s[i].toNat : Int) := by omega
                          have HB := Aside.mk hbk
                          clear hNe hbk
                          go_wp2
                          go_roundw
                          case rel =>
                            have hNN := HN.out
                            have hll : (o ++ (s.data.toList.drop (i + 1)).take (N + 1)).length = o.length + (N + 1) := by
                              rw [List.length_append, List.length_take, HRL.out]; omega
                            exact ⟨i + 1 + (N + 1), o ++ (s.data.toList.drop (i + 1)).take (N + 1), by congr 1; omega, by omega, by rw [hll]; exact hrk, by rw [hll]; omega, HR, HB.out⟩
                          case measure => simp [intOf]; omega
                · have hcut : ∀ (hl : i + 1 + 1 < s.size), backOf (s.data.toList.drop (i + 1)) = s[i + 1].toNat + 256 * s[i + 1 + 1].toNat := fun hl => by
                    unfold backOf
                    rw [drop_at s (i + 1) (by omega), drop_at s (i + 1 + 1) hl]
                    rfl
                  by_cases hsh : s.size - (i + 1) < 2
                  · rw [unp_short2 h128 (by rw [hrl]; exact hsh)] at hR
                    injection hR with hR1 hR2
                    subst hR1; subst hR2
                    clear hrl hcut
                    have hbb := Aside.mk hbl
                    go_wp2
                    go_ret2
                    exact ⟨rfl, hb⟩
                  · have hi2 : i + 1 + 1 < s.size := by omega
                    have hcc := hcut hi2
                    have hbk := backOf_lt (s.data.toList.drop (i + 1))
                    clear hcut
                    obtain ⟨bk, hbe⟩ : ∃ bk, bk = backOf (s.data.toList.drop (i + 1)) := ⟨_, rfl⟩
                    rw [← hbe] at hcc hbk
                    have HBE := Aside.mk hbe
                    have HCC := Aside.mk hcc
                    have HRR := Aside.mk hR
                    have HRL := Aside.mk hrl
                    have HB := Aside.mk (And.intro hr hb)
                    clear hbe hcc hR hrl hr hb
                    go_upto_region 28 with fail
                    go_cut [10] (fun s10 wx => s10 = .int .i64 ((bk : Int) + 1) ∧ Row wx w.heap.size 5 1 (.slice A6 o.length c6) o.length (bytesV o) ∧ Below w.heap.size w wx)
                    case first =>
                      have hb1 := s[i + 1].toNat_lt
                      have hb2 := s[i + 1 + 1].toNat_lt
                      have hc1 := conv_byte s[i + 1]
                      have hc2 := conv_byte s[i + 1 + 1]
                      have hw1 : IntKind.i64.wrap ((i : Int) + 1 + 1) = (i : Int) + 1 + 1 := by rw [IntKind.wrap_i64]; omega
                      have x1 := fun W => index_str (s := s) (j := i + 1) (by omega) (x := (i : Int) + 1) (by omega) W
                      have x2 := fun W => index_str (s := s) (j := i + 1 + 1) (by omega) (x := (i : Int) + 1 + 1) (by omega) W
                      go_region
                      all_goals (go_wp2; go_meet; exact ⟨by rw [HCC.out]; simp, by first | exact HB.out.1 | exact HB.out.1.drew, by first | exact HB.out.2 | exact HB.out.2.drew⟩)
                    case rest =>
                      obtain ⟨rfl, hr, hb⟩ := hcut
                      have hR := HRR.out
                      have hrl := HRL.out
                      by_cases hfar : o.length ≤ bk
                      · rw [unp_far h128 (by rw [hrl]; exact hsh) (by rw [← HBE.out]; exact hfar)] at hR
                        injection hR with hR1 hR2
                        subst hR1; subst hR2
                        clear hrl
                        go_wp2
                        go_ret2
                        exact ⟨rfl, hb⟩
                      · by_cases hlg : m < o.length + (s[i].toNat - 125)
                        · rw [unp_long2 h128 (by rw [hrl]; exact hsh) (by rw [← HBE.out]; exact hfar) hlg] at hR
                          injection hR with hR1 hR2
                          subst hR1; subst hR2
                          clear hrl
                          go_wp2
                          go_ret2
                          exact ⟨rfl, hb⟩
                        · rw [unp_copy h128 (by rw [hrl]; exact hsh) (by rw [← HBE.out]; exact hfar) hlg, List.drop_drop, ← HBE.out] at hR
                          have HR := Aside.mk hR
                          clear hR hrl HRR HRL
                          obtain ⟨N, hN⟩ : ∃ N, N = s[i].toNat - 125 := ⟨_, rfl⟩
                          rw [← hN] at HR
                          have HN := Aside.mk hN
                          clear hN
                          go_wp2
                          go_loopw [6, 11, 12] (fun s6 s11 s12 wq => ∃ k : Nat, s11 = .int .i64 k ∧ k ≤ N ∧ Row wq w.heap.size 5 1 s6 (o.length + k) (bytesV (copyL o bk k)) ∧ Below w.heap.size w wq) (fun _ s11 _ _ => N - (intOf s11).toNat)
                          case atStart => exact ⟨0, rfl, by omega, hr, hb⟩
                          case round =>
                            obtain ⟨k, rfl, hk, hrk, hbk⟩ := hrel
                            clear hr hb
                            obtain ⟨A7, c7, rfl, hc7⟩ := hrk.slice
                            have hNe := HN.out
                            have hk1 : IntKind.i64.wrap ((k : Int) + 1) = (k : Int) + 1 := by rw [IntKind.wrap_i64]; omega
                            have hw5 : IntKind.i64.wrap ((s[i].toNat : Int) - 125) = (s[i].toNat : Int) - 125 := by rw [IntKind.wrap_i64]; omega
                            by_cases hkl : k < N
                            · have hkle : (k : Int) < (s[i].toNat : Int) - 125 := by omega
                              obtain ⟨g, off, cp, hv, _, _, _, _⟩ := hrk.form (by omega)
                              injection hv with hv hv2 hv3
                              subst hv
                              clear hv2 hv3
                              have hat := hrk.byteGet (show o.length + k - 1 - bk < o.length + k by omega)
                              have hlx : copyL o bk (k + 1) = copyL o bk k ++ [(copyL o bk k).getD (o.length + k - 1 - bk) 0] := by
                                show copyL o bk k ++ [(copyL o bk k).getD ((copyL o bk k).length - 1 - bk) 0] = _
                                rw [copyL_len]
                              generalize (copyL o bk k).getD (o.length + k - 1 - bk) 0 = y at *
                              have HLX := Aside.mk hlx
                              have hw6 : IntKind.i64.wrap ((o.length : Int) + (k : Int) - ((bk : Int) + 1)) = ((o.length + k - 1 - bk : Nat) : Int) := by rw [IntKind.wrap_i64]; omega
                              have hbs := hbk.size
                              have hib : o.length + k - 1 - bk < o.length + k := by omega
                              clear hlx hNe
                              go_wp2_with (at_builtin; go_loud (refine wpList_append_one (w0 := w) w.heap.size rfl _ _ 31 5 1 1 (.int .u8 0) rfl Try.underlying31 infoU8 rfl (by decide) (.slice (some ⟨g, off, none⟩) (o.length + k) c7) (o.length + k) _ #[.int .u8 (y.toNat : Int)] rfl rfl rfl hrk (by simp [Value.oneCell']) hbk hbs (by omega) (by simp only [maxLen]; omega) ?_); intro v1 w1 hr1 hb1 hg1 hat1)
                              go_roundw
                              case rel =>
                                have hrn : Row w1 w.heap.size 5 1 v1 (o.length + (k + 1)) (bytesV (copyL o bk (k + 1))) := by
                                  rw [HLX.out, bytesV_append, bytesV_one1]
                                  exact hr1
                                first | exact ⟨k + 1, by go_num, by omega, hrn⟩ | exact ⟨k + 1, by go_num, by omega, hrn, hb1⟩
                              case measure => simp [intOf]; omega
                            · obtain rfl : N = k := by omega
                              have hkle : ¬ (N : Int) < (s[i].toNat : Int) - 125 := by omega
                              have HBK := Aside.mk hbk
                              clear hNe hbk
                              go_wp2
                              go_roundw
                              case rel =>
                                have hll := copyL_len o bk N
                                have hNN := HN.out
                                exact ⟨i + 1 + 2, copyL o bk N, by congr 1, by omega, by rw [hll]; exact hrk, by rw [hll]; omega, HR, HBK.out⟩
                              case measure => simp [intOf]; omega
              · obtain rfl : i = s.size := by omega
                have hR := hR.out
                rw [List.drop_eq_nil_of_le (by rw [data_len]; omega), unp_nil] at hR
                injection hR with hR1 hR2
                subst hR1; subst hR2
                have hst := hr.toString (P := Try.prog) Try.underlying31 Try.underlying5 Try.underlying9
                go_wp2
                go_ret2
                exact ⟨rfl, hb⟩
end Go.Proofs.Ytobacpnjmenjpaa
