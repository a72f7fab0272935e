/-
  Texts laid into pages, flushed now and then: each answer.
-/
import Derived.Test.YtbkkdglmcoglfaaPackRef
import Derived.Test.YtbkkdglmcoglfaaPackFull
namespace Go.Proofs.Ytbkkdglmcoglfaa
open Go.RowKit

set_option maxRecDepth 20000 in
set_option maxHeartbeats 4000000 in
theorem packScripts_walk (n : Int) (A : Option Addr) (len cap : Nat) (x : List ByteArray) (w : World) (_hn : (Lit.int .i64 n).wf = true)
    (hx : x.length = len ∧ len ≤ cap ∧ cap ≤ maxLen ∧ len * 16 ≤ 140737488351232 ∧ (∀ s ∈ x, s.size ≤ 140737488351232) ∧ Rd w A len (fun i => .string (x.getD i ByteArray.empty))) :
    Calls Try.prog 4 #[.int .i64 n, .slice A len cap] w fun e w' => e = .returned (.bool true) ∧ Below w.heap.size w w' := by
  obtain ⟨hl, hlc, hcm, hlb, hsz, hR⟩ := hx
  have HR := Aside.mk hR
  have HS := Aside.mk hsz
  clear hR hsz
  have hlen : len ≤ 8796093021952 := by omega
  clear hlb
  have hcm : cap ≤ 9223372036854775807 := hcm
  have HL := Aside.mk hl
  clear hl
  go_enter Try.func4, Try.ntmps4
  go_upto_region 3 with (go_at_call 6; refine (pack_speaks _).mono ?_; rintro e w1 ⟨rfl, hb1⟩)
  go_upto_region 4 with (first | (go_at_call 7; refine (pack_new _ _).mono ?_; rintro e w2 ⟨rfl, p0', hb2'⟩; have hb2 := hb1.trans (hb2'.mono hb1.size); clear hb2') | (go_at_call 10; refine (ref_size _ _).mono ?_; rintro e w3 ⟨rfl, rfl⟩))
  obtain ⟨z, hz⟩ : ∃ z, z = min (max n 1) 2048 := ⟨_, rfl⟩
  have hz1 : 1 ≤ z := by omega
  have hz2 : z ≤ 2048 := by omega
  rw [← hz] at p0'
  simp only [← hz]
  clear hz
  have hle0 : w.heap.size ≤ w1.heap.size := hb1.size
  have hlt0 := p0'.lt
  have r0 := Rk.new w2 z
  have p0 : Pk (w2.alloc (.cells #[.int .i64 z, .int .i64 0, .string ⟨#[]⟩] 35)) w1.heap.size z 0 ⟨#[]⟩ := p0'.kept (World.grownBy_alloc _ _ _)
  have hb3 := hb2.alloc hb2.size (.cells #[.int .i64 z, .int .i64 0, .string ⟨#[]⟩] 35)
  clear p0' hb1 hb2
  generalize w2.alloc (.cells #[.int .i64 z, .int .i64 0, .string ⟨#[]⟩] 35) = w3 at *
  generalize w1.heap.size = g at *
  generalize w2.heap.size = g2 at *
  go_wp2_with fail
  go_loopw [7] (fun s7 wr => ∃ (k : Nat) (h : ByteArray) (gv : Int), s7 = .int .i64 k ∧ Pk wr g z gv h ∧ Rk wr g2 z gv h ∧ (h.size : Int) ≤ z ∧ 0 ≤ gv ∧ gv ≤ k ∧ k ≤ len ∧ Below w.heap.size w wr) (fun s7 _ => len - (intOf s7).toNat)
  case atStart => exact ⟨0, ⟨#[]⟩, 0, rfl, p0, r0, by show ((0 : Nat) : Int) ≤ z; omega, by omega, by omega, by omega, hb3⟩
  case round =>
    obtain ⟨k, h, gv, rfl, pk, rk, hh, hg0, hgk, hkl, hb⟩ := hrel
    clear p0 r0 hb3
    by_cases hlt : k < len
    · obtain ⟨b, off, rfl, hbl, hcell⟩ := HR.out k hlt
      have hlx := HL.out
      have hcs : x.getD k ByteArray.empty ∈ x := by
        rw [List.getD_eq_getElem?_getD, List.getElem?_eq_getElem (by omega)]
        exact List.getElem_mem _
      clear hlx
      have hs := HS.out _ hcs
      have hcell : w.cell? ⟨b, off + k, none⟩ = some (.string (x.getD k ByteArray.empty)) := hcell
      clear hcs
      generalize x.getD k ByteArray.empty = s at hcell hs
      have hcell2 : ∀ wz, Below w.heap.size w wz → wz.cell? ⟨b, off + k, none⟩ = some (.string s) := fun wz hz => (hz.cell (p := ⟨b, off + k, none⟩) hbl).trans hcell
      have HC := Aside.mk hcell2
      have hcr := hcell2 _ hb
      clear hcell hcell2
      have hk1 : IntKind.i64.wrap ((k : Int) + 1) = (k : Int) + 1 := by rw [IntKind.wrap_i64]; omega
      cases hfl : (s.toList == [102, 108, 117, 115, 104])
      · have hw2 : IntKind.i64.wrap ((h.size : Int) + (s.size : Int)) = (h.size : Int) + (s.size : Int) := by rw [IntKind.wrap_i64]; omega
        cases hem : s.toList.isEmpty
        · by_cases hfit : (s.size : Int) ≤ z
          · by_cases hsum : (h.size : Int) + (s.size : Int) ≤ z
            · go_wp2_with (first | (go_at_call 8; refine (pack_add_fits g z gv h s _ pk hem hsum hz2).mono ?_; rintro e w4 ⟨rfl, pk4, hg4⟩; have rk4 := rk.kept hg4 (by omega); have hb4 := below_of_grown hb hle0 pk.lt hg4; have hc4 := HC.out _ hb4; clear hg4 pk rk) | (go_at_call 12; refine (ref_add_fits g2 z gv h s _ rk4 hem hsum hz2).mono ?_; rintro e w5 ⟨rfl, rk5, hg5⟩; have pk5 := pk4.kept' hg5 (by omega); have hb5 := below_of_grown hb4 (by omega) rk4.lt hg5; clear hg5 pk4 rk4) | (go_at_call 13; refine (pack_held g z _ _ _ (by assumption)).mono ?_; rintro e w6 ⟨rfl, hb6⟩; have pk6 := pk5.kept (grownBy_of_below hb6 none); have rk6 := rk5.kept (grownBy_of_below hb6 (some g)) (by omega); have r1 := rk6.c1; have r2 := rk6.c2; have hb7 := hb5.trans (hb6.mono hb5.size)))
              go_roundw
              case rel => exact ⟨k + 1, h ++ s, gv, by go_num, pk6, rk6, by rw [ByteArray.size_append]; omega, by omega, by omega, by omega, hb7⟩
              case measure => simp [intOf]; omega
            · go_wp2_with (first | (go_at_call 8; refine (pack_add_full g z gv h s _ pk hem hfit hz2 (by omega) hg0 (by omega) (by omega)).mono ?_; rintro e w4 ⟨rfl, pk4, hg4⟩; have rk4 := rk.kept hg4 (by omega); have hb4 := below_of_grown hb hle0 pk.lt hg4; have hc4 := HC.out _ hb4; clear hg4 pk rk) | (go_at_call 12; refine (ref_add_full g2 z gv h s _ rk4 hem hfit hz2 (by omega) hg0 (by omega) (by omega)).mono ?_; rintro e w5 ⟨rfl, rk5, hg5⟩; have pk5 := pk4.kept' hg5 (by omega); have hb5 := below_of_grown hb4 (by omega) rk4.lt hg5; clear hg5 pk4 rk4) | (go_at_call 13; refine (pack_held g z _ _ _ (by assumption)).mono ?_; rintro e w6 ⟨rfl, hb6⟩; have pk6 := pk5.kept (grownBy_of_below hb6 none); have rk6 := rk5.kept (grownBy_of_below hb6 (some g)) (by omega); have r1 := rk6.c1; have r2 := rk6.c2; have hb7 := hb5.trans (hb6.mono hb5.size)))
              go_roundw
              case rel => exact ⟨k + 1, s, gv + 1, by go_num, pk6, rk6, hfit, by omega, by omega, by omega, hb7⟩
              case measure => simp [intOf]; omega
          · go_wp2_with (first | (go_at_call 8; refine (pack_add_long g z gv h s _ pk hem (by omega)).mono ?_; rintro e w4 ⟨rfl, rfl⟩; have pk4 := pk; have rk4 := rk; have hb4 := hb; have hc4 := hcr; clear pk rk) | (go_at_call 12; refine (ref_add_long g2 z gv h s _ rk4 hem (by omega)).mono ?_; rintro e w5 ⟨rfl, rfl⟩; have pk5 := pk4; have rk5 := rk4; have hb5 := hb4; clear pk4 rk4) | (go_at_call 13; refine (pack_held g z _ _ _ (by assumption)).mono ?_; rintro e w6 ⟨rfl, hb6⟩; have pk6 := pk5.kept (grownBy_of_below hb6 none); have rk6 := rk5.kept (grownBy_of_below hb6 (some g)) (by omega); have r1 := rk6.c1; have r2 := rk6.c2; have hb7 := hb5.trans (hb6.mono hb5.size)))
            go_roundw
            case rel => exact ⟨k + 1, h, gv, by go_num, pk6, rk6, hh, by omega, by omega, by omega, hb7⟩
            case measure => simp [intOf]; omega
        · go_wp2_with (first | (go_at_call 8; refine (pack_add_empty g s _ hem).mono ?_; rintro e w4 ⟨rfl, rfl⟩; have pk4 := pk; have rk4 := rk; have hb4 := hb; have hc4 := hcr; clear pk rk) | (go_at_call 12; refine (ref_add_empty g2 s _ hem).mono ?_; rintro e w5 ⟨rfl, rfl⟩; have pk5 := pk4; have rk5 := rk4; have hb5 := hb4; clear pk4 rk4) | (go_at_call 13; refine (pack_held g z _ _ _ (by assumption)).mono ?_; rintro e w6 ⟨rfl, hb6⟩; have pk6 := pk5.kept (grownBy_of_below hb6 none); have rk6 := rk5.kept (grownBy_of_below hb6 (some g)) (by omega); have r1 := rk6.c1; have r2 := rk6.c2; have hb7 := hb5.trans (hb6.mono hb5.size)))
          go_roundw
          case rel => exact ⟨k + 1, h, gv, by go_num, pk6, rk6, hh, by omega, by omega, by omega, hb7⟩
          case measure => simp [intOf]; omega
      · cases hem : h.toList.isEmpty
        · go_wp2_with (first | (go_at_call 9; refine (pack_flush g z gv h _ pk hem hg0 (by omega)).mono ?_; rintro e w4 ⟨rfl, pk4, hg4⟩; have rk4 := rk.kept hg4 (by omega); have hb4 := below_of_grown hb hle0 pk.lt hg4; have hc4 := HC.out _ hb4; clear hg4 pk rk) | (go_at_call 11; refine (ref_flush g2 z gv h _ rk4 hem hg0 (by omega)).mono ?_; rintro e w5 ⟨rfl, rk5, hg5⟩; have pk5 := pk4.kept' hg5 (by omega); have hb5 := below_of_grown hb4 (by omega) rk4.lt hg5; clear hg5 pk4 rk4) | (go_at_call 13; refine (pack_held g z _ _ _ (by assumption)).mono ?_; rintro e w6 ⟨rfl, hb6⟩; have pk6 := pk5.kept (grownBy_of_below hb6 none); have rk6 := rk5.kept (grownBy_of_below hb6 (some g)) (by omega); have r1 := rk6.c1; have r2 := rk6.c2; have hb7 := hb5.trans (hb6.mono hb5.size)))
          go_roundw
          case rel => exact ⟨k + 1, ⟨#[]⟩, gv + 1, by go_num, pk6, rk6, by show ((0 : Nat) : Int) ≤ z; omega, by omega, by omega, by omega, hb7⟩
          case measure => simp [intOf]; omega
        · go_wp2_with (first | (go_at_call 9; refine (pack_flush_none g z gv h _ pk hem).mono ?_; rintro e w4 ⟨rfl, rfl⟩; have pk4 := pk; have rk4 := rk; have hb4 := hb; have hc4 := hcr; clear pk rk) | (go_at_call 11; refine (ref_flush_none g2 z gv h _ rk4 hem).mono ?_; rintro e w5 ⟨rfl, rfl⟩; have pk5 := pk4; have rk5 := rk4; have hb5 := hb4; clear pk4 rk4) | (go_at_call 13; refine (pack_held g z _ _ _ (by assumption)).mono ?_; rintro e w6 ⟨rfl, hb6⟩; have pk6 := pk5.kept (grownBy_of_below hb6 none); have rk6 := rk5.kept (grownBy_of_below hb6 (some g)) (by omega); have r1 := rk6.c1; have r2 := rk6.c2; have hb7 := hb5.trans (hb6.mono hb5.size)))
          go_roundw
          case rel => exact ⟨k + 1, h, gv, by go_num, pk6, rk6, hh, by omega, by omega, by omega, hb7⟩
          case measure => simp [intOf]; omega
    · go_wp2_with (first | (go_at_call 8; refine (pack_add_nil _ _).mono ?_; rintro e w4 ⟨rfl, rfl⟩; skip) | (go_at_call 9; refine (pack_flush_nil _).mono ?_; rintro e w4 ⟨rfl, rfl⟩; skip) | (go_at_call 13; refine (pack_held_nil _).mono ?_; rintro e w4 ⟨rfl, rfl⟩; skip))
      go_ret
      exact ⟨rfl, hb⟩
end Go.Proofs.Ytbkkdglmcoglfaa
