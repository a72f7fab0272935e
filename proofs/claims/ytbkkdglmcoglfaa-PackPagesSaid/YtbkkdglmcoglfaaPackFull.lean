/-
  A page is given only when the next text does not fit into it.
-/
import Derived.Test.YtbkkdglmcoglfaaPackWalks
import Derived.Test.YtbkkdglmcoglfaaArgs
import Derived.Deep.DeepCutAuto
namespace Go.Proofs.Ytbkkdglmcoglfaa
open Go.RowKit

theorem cat_nil_left (s : ByteArray) : (⟨#[]⟩ : ByteArray) ++ s = s := ByteArray.ext (by simp)
theorem cat_nil_right (s : ByteArray) : s ++ (⟨#[]⟩ : ByteArray) = s := ByteArray.ext (by simp)
theorem Pk.eq {w : World} {g : Nat} {z gv z' gv' : Int} {h h' : ByteArray} (p : Pk w g z gv h) (e1 : z = z') (e2 : gv = gv') (e3 : h = h') : Pk w g z' gv' h' := by subst e1; subst e2; subst e3; exact p
theorem below_of_grown {B : Nat} {w0 w w' : World} {g : Nat} (h : Below B w0 w) (hB : B ≤ g) (hl : g < w.heap.size) (hg : w.grownBy w' (some g)) : Below B w0 w' :=
  h.trans ⟨hg.os, hg.tape, hg.output, hg.size, fun i hi => hg.block i (by omega) (by simp; omega)⟩

theorem abc_cat : (⟨#[97, 98]⟩ : ByteArray) ++ ⟨#[99]⟩ = ⟨#[97, 98, 99]⟩ := ByteArray.ext (by simp)
theorem ab_ne : (⟨#[97, 98]⟩ : ByteArray).toList.isEmpty = false := by rw [ByteArray.toList_eq]; rfl
theorem c_ne : (⟨#[99]⟩ : ByteArray).toList.isEmpty = false := by rw [ByteArray.toList_eq]; rfl
theorem d_ne : (⟨#[100]⟩ : ByteArray).toList.isEmpty = false := by rw [ByteArray.toList_eq]; rfl
theorem ab_size : ((⟨#[97, 98]⟩ : ByteArray).size : Int) = 2 := rfl
set_option maxHeartbeats 1000000 in
theorem pack_speaks (w : World) :
    Calls Try.prog 6 #[] w fun e w' => e = .returned (.bool true) ∧ Below w.heap.size w w' := by
  go_enter Try.func6, Try.ntmps6
  go_upto_region 2 with (go_at_call 7; refine (pack_new _ _).mono ?_; rintro e w1 ⟨rfl, p0', hb1⟩; have p0 := p0'.eq (z' := 3) (by decide) rfl rfl; clear p0')
  go_upto_region 3 with (go_at_call 8; refine (pack_add_fits w.heap.size 3 0 ⟨#[]⟩ ⟨#[97, 98]⟩ _ (by assumption) ab_ne (by decide) (by decide)).mono ?_; rintro e w2 ⟨rfl, p2', hg2⟩; have p2 := p2'.eq (h' := ⟨#[97, 98]⟩) rfl rfl (cat_nil_left _); have hb2 := below_of_grown hb1 (Nat.le_refl _) p0.lt hg2; clear p2' hg2 hb1 p0)
  go_upto_region 4 with (go_at_call 8; refine (pack_add_fits w.heap.size 3 0 ⟨#[97, 98]⟩ ⟨#[99]⟩ _ (by assumption) c_ne (by decide) (by decide)).mono ?_; rintro e w3 ⟨rfl, p3', hg3⟩; have p3 := p3'.eq (h' := ⟨#[97, 98, 99]⟩) rfl rfl abc_cat; have hb3 := below_of_grown hb2 (Nat.le_refl _) p2.lt hg3; clear p3' hg3 hb2 p2)
  go_wp2_with (go_at_call 8; refine (pack_add_full w.heap.size 3 0 ⟨#[97, 98, 99]⟩ ⟨#[100]⟩ _ (by assumption) d_ne (by decide) (by decide) (by decide) (by decide) (by decide) (by decide)).mono ?_; rintro e w4 ⟨rfl, p4, hg4⟩; have hb4 := below_of_grown hb3 (Nat.le_refl _) p3.lt hg4; clear hg4 hb3 p3)
  go_ret
  exact ⟨rfl, hb4⟩

theorem bempty {s : ByteArray} (h : s.toList.isEmpty = true) : s = ⟨#[]⟩ := by
  rw [ByteArray.toList_eq] at h
  exact ByteArray.ext (Array.ext' (by simpa using h))

set_option maxRecDepth 20000 in
set_option maxHeartbeats 2000000 in
theorem packFull_walk (n : Int) (A : Option Addr) (len cap : Nat) (x : List ByteArray) (w : World) (_hn : (Lit.int .i64 n).wf = true)
    (hx : x.length = len ∧ len ≤ cap ∧ cap ≤ maxLen ∧ len * 16 ≤ 140737488351232 ∧ (∀ s ∈ x, s.size ≤ 140737488351232) ∧ Rd w A len (fun i => .string (x.getD i ByteArray.empty))) :
    Calls Try.prog 3 #[.int .i64 n, .slice A len cap] w fun e w' => e = .returned (.bool true) ∧ Below w.heap.size w w' := by
  obtain ⟨hl, hlc, hcm, hlb, hsz, hR⟩ := hx
  have HR := Aside.mk hR
  have HS := Aside.mk hsz
  clear hR hsz
  have hlen : len ≤ 8796093021952 := by omega
  clear hlb
  have hcm : cap ≤ 9223372036854775807 := hcm
  go_enter Try.func3, Try.ntmps3
  go_upto_if 21 with (go_at_call 6; refine (pack_speaks _).mono ?_; rintro e w1 ⟨rfl, hb1⟩)
  all_goals
    go_cut [0] (fun s0 wx => ∃ z : Int, s0 = .int .i64 z ∧ 1 ≤ z ∧ z ≤ 2048 ∧ w1 = wx)
    case first =>
      have hcas : n < 1 ∨ 2048 < n ∨ (1 ≤ n ∧ n ≤ 2048) := by omega
      clear hl
      rcases hcas with hc | hc | hc
      all_goals (first | omega | go_wp2_with fail)
      all_goals (go_meet; exact ⟨_, rfl, by omega, by omega, rfl⟩)
    case rest =>
      obtain ⟨z, rfl, hz1, hz2, rfl⟩ := hcut
      go_wp2_with (go_at_call 7; refine (pack_new _ _).mono ?_; rintro e w2 ⟨rfl, p0', hb2'⟩; have p0 := p0'.eq (z' := z) (by omega) rfl rfl; have hb2 := hb1.trans (hb2'.mono hb1.size); clear hb2')
      have hlt0 := p0.lt
      have hle0 : w.heap.size ≤ w1.heap.size := hb1.size
      clear p0' hb1
      generalize w1.heap.size = g at *
      clear hlt0
      go_loopw [6, 7, 8] (fun s6 s7 s8 wr => ∃ (k : Nat) (all out h : ByteArray) (gv : Int), s6 = .string all ∧ s7 = .string out ∧ s8 = .int .i64 k ∧ Aside (all = out ++ h) ∧ Pk wr g z gv h ∧ (h.size : Int) ≤ z ∧ 0 ≤ gv ∧ gv ≤ k ∧ k ≤ len ∧ all.size ≤ 2048 * k ∧ Below w.heap.size w wr) (fun _ _ s8 _ => len - (intOf s8).toNat)
      case atStart => exact ⟨0, _, _, ⟨#[]⟩, 0, rfl, rfl, rfl, ⟨(cat_nil_left _).symm⟩, p0, by show ((0 : Nat) : Int) ≤ z; omega, by omega, by omega, by omega, Nat.le_refl 0, hb2⟩
      case round =>
        obtain ⟨k, all, out, h, gv, rfl, rfl, rfl, he, pk, hh, hg0, hgk, hkl, has, hb⟩ := hrel
        clear p0 hb2
        by_cases hlt : k < len
        · obtain ⟨b, off, rfl, hbl, hcell⟩ := HR.out k hlt
          have hcs : x.getD k ByteArray.empty ∈ x := by
            rw [List.getD_eq_getElem?_getD, List.getElem?_eq_getElem (by omega)]
            exact List.getElem_mem _
          have hs := HS.out _ hcs
          have hcell : w.cell? ⟨b, off + k, none⟩ = some (.string (x.getD k ByteArray.empty)) := hcell
          clear hcs
          generalize x.getD k ByteArray.empty = s at hcell hs
          have hcell2 : ∀ wz, Below w.heap.size w wz → wz.cell? ⟨b, off + k, none⟩ = some (.string s) := fun wz hz => (hz.cell (p := ⟨b, off + k, none⟩) hbl).trans hcell
          have HC := Aside.mk hcell2
          have hcr := hcell2 _ hb
          clear hcell hcell2
          have hz63 : ∀ i : Nat, i < len → IntKind.i64.wrap ((i : Int) + 1) = (i : Int) + 1 := fun i hi => by rw [IntKind.wrap_i64]; omega
          have hk1 := hz63 k hlt
          have hw2 : IntKind.i64.wrap ((h.size : Int) + (s.size : Int)) = (h.size : Int) + (s.size : Int) := by rw [IntKind.wrap_i64]; omega
          have hos : out.size ≤ 2048 * k := by have := congrArg ByteArray.size he.out; rw [ByteArray.size_append] at this; omega
          clear hz63
          cases hem : s.toList.isEmpty
          · by_cases hfit : (s.size : Int) ≤ z
            · by_cases hsum : (h.size : Int) + (s.size : Int) ≤ z
              · go_wp2_with (go_at_call 8; refine (pack_add_fits g z gv h s _ pk hem hsum hz2).mono ?_; rintro e w4 ⟨rfl, p4, hg4⟩; have hb4 := below_of_grown hb hle0 pk.lt hg4; have hc4 := HC.out _ hb4; clear hg4 pk)
                go_roundw
                case rel => exact ⟨k + 1, all ++ s, out, h ++ s, gv, rfl, by rw [cat_nil_right], by go_num, ⟨by rw [he.out, ByteArray.append_assoc]⟩, p4, by rw [ByteArray.size_append]; omega, hg0, by omega, by omega, by rw [ByteArray.size_append]; omega, hb4⟩
                case measure => simp [intOf]; omega
              · have hf1 : ¬ z < (h.size : Int) := by omega
                go_wp2_with (go_at_call 8; refine (pack_add_full g z gv h s _ pk hem hfit hz2 (by omega) hg0 (by omega) (by omega)).mono ?_; rintro e w4 ⟨rfl, p4, hg4⟩; have hb4 := below_of_grown hb hle0 pk.lt hg4; have hc4 := HC.out _ hb4; clear hg4 pk)
                go_roundw
                case rel => exact ⟨k + 1, all ++ s, out ++ h, s, gv + 1, rfl, rfl, by go_num, ⟨by rw [he.out]⟩, p4, hfit, by omega, by omega, by omega, by rw [ByteArray.size_append]; omega, hb4⟩
                case measure => simp [intOf]; omega
            · go_wp2_with (go_at_call 8; refine (pack_add_long g z gv h s _ pk hem (by omega)).mono ?_; rintro e w4 ⟨rfl, rfl⟩)
              go_roundw
              case rel => exact ⟨k + 1, all, out, h, gv, rfl, by rw [cat_nil_right], by go_num, he, pk, hh, hg0, by omega, by omega, by omega, hb⟩
              case measure => simp [intOf]; omega
          · go_wp2_with (go_at_call 8; refine (pack_add_empty g s _ hem).mono ?_; rintro e w4 ⟨rfl, rfl⟩)
            go_roundw
            case rel => exact ⟨k + 1, all, out, h, gv, rfl, by rw [cat_nil_right], by go_num, he, pk, hh, hg0, by omega, by omega, by omega, hb⟩
            case measure => simp [intOf]; omega
        · have hos : out.size ≤ 2048 * k := by have := congrArg ByteArray.size he.out; rw [ByteArray.size_append] at this; omega
          have hoh : out ++ h = all := he.out.symm
          cases hem : h.toList.isEmpty
          · go_wp2_with (go_at_call 9; refine (pack_flush g z gv h _ pk hem hg0 (by omega)).mono ?_; rintro e w4 ⟨rfl, p4, hg4⟩; have hb4 := below_of_grown hb hle0 pk.lt hg4; clear hg4 pk)
            go_ret
            exact ⟨rfl, hb4⟩
          · have hh0 := bempty hem
            have hoa : out = all := by rw [he.out, hh0, cat_nil_right]
            have hoa2 : all ++ (⟨#[]⟩ : ByteArray) = all := cat_nil_right _
            subst hoa
            clear hoh
            go_wp2_with (go_at_call 9; refine (pack_flush_none g z gv h _ pk hem).mono ?_; rintro e w4 ⟨rfl, rfl⟩)
            go_ret
            exact ⟨rfl, hb⟩
end Go.Proofs.Ytbkkdglmcoglfaa
