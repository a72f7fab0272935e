/-
  Rows of words as polynomials: what the program's row functions do.
-/
import Derived.Test.YtkdfbganhohbfaaDoorSlices
import Derived.Test.YtkdfbganhohbfaaDoorPolyPlain
import Derived.Test.YtkdfbganhohbfaaDoorBits64
import Derived.Test.YtkdfbganhohbfaaDoorShelf
import Derived.Deep.QuietTactic
import Derived.BigQuiet
namespace Go.Proofs.YtkdfbganhohbfaaDoor
open Go.RowKit

def wordsV (n P : Nat) : List Value := (List.range n).map fun i => .int .u64 (Poly.wordN P i : Nat)
theorem wordsV_length (n P : Nat) : (wordsV n P).length = n := by simp [wordsV]
theorem wordsV_get {n P i : Nat} (h : i < n) : (wordsV n P).getD i undef = .int .u64 (Poly.wordN P i : Nat) := by simp [wordsV, List.getD_eq_getElem?_getD, h]
theorem wordsV_set {n P c j : Nat} (hc : c < 2 ^ 64) : (wordsV n P).set j (.int .u64 ((Poly.wordN P j ^^^ c : Nat) : Int)) = wordsV n (P ^^^ c * 2 ^ (64 * j)) := by
  apply List.ext_getElem
  · simp [wordsV]
  · intro i h1 h2
    simp only [wordsV, List.getElem_set, List.getElem_map, List.getElem_range]
    rw [Poly.wordN_put hc]
    by_cases e : j = i
    · subst e; simp
    · rw [if_neg e, if_neg (Ne.symm e)]
theorem wordsV_zero (n : Nat) : wordsV n 0 = List.replicate n (.int .u64 0) := by
  apply List.ext_getElem
  · rw [wordsV_length, List.length_replicate]
  · intro i h1 h2
    simp only [wordsV, List.getElem_map, List.getElem_range, List.getElem_replicate]
    rw [Poly.wordN_zero]; rfl
abbrev RowP (w : World) (b : Nat) (v : Value) (n P : Nat) : Prop := Row w b 89 1 v n (wordsV n P)
theorem RowP.cell {w : World} {b g off n c P : Nat} (h : RowP w b (.slice (some ⟨g, off, none⟩) n c) n P) {i : Nat} (hi : i < n) :
    w.cell? ⟨g, off + i, none⟩ = some (.int .u64 (Poly.wordN P i : Nat)) ∧ w.frozen? ⟨g, off + i, none⟩ = false := by
  have := Row.at_ h rfl i hi
  rwa [wordsV_get hi] at this
theorem RowP.set {w : World} {b g off n c P : Nat} (h : RowP w b (.slice (some ⟨g, off, none⟩) n c) n P) {i : Nat} (hi : i < n) {d : Nat} (hd : d < 2 ^ 64) :
    RowP (w.setCell ⟨g, off + i, none⟩ (.int .u64 ((Poly.wordN P i ^^^ d : Nat) : Int))) b (.slice (some ⟨g, off, none⟩) n c) n (P ^^^ d * 2 ^ (64 * i)) ∧
    w.grownBy (w.setCell ⟨g, off + i, none⟩ (.int .u64 ((Poly.wordN P i ^^^ d : Nat) : Int))) (some g) := by
  have := Row.store h rfl i (by omega) (.int .u64 ((Poly.wordN P i ^^^ d : Nat) : Int))
  rwa [wordsV_set hd] at this
theorem u64_xor {a b : Nat} (ha : a < 18446744073709551616) (hb : b < 18446744073709551616) : bits .xor .u64 (a : Int) (b : Int) = ((a ^^^ b : Nat) : Int) := u64_xor_nat a b ha hb

def FlipPost (w : World) (b g : Nat) (v : Value) (n P : Nat) (e : Ending) (w' : World) : Prop := e = .returned (.tuple #[]) ∧ RowP w' b v n P ∧ w.grownBy w' (some g)
theorem FlipPost.drew {w : World} {b g : Nat} {v : Value} {n P : Nat} {e : Ending} {w' : World} (h : FlipPost w b g v n P e w') : FlipPost w b g v n P e w'.drew :=
  ⟨h.1, h.2.1.drew, ⟨h.2.2.os, h.2.2.tape, h.2.2.output, h.2.2.size, h.2.2.block⟩⟩
set_option maxHeartbeats 1600000 in
theorem row_flip (b g off n c P e : Nat) (w : World) (hR : RowP w b (.slice (some ⟨g, off, none⟩) n c) n P) (he : e < 64 * n) (hn : n ≤ 1000000) :
    Calls Tryd.prog 45 #[.slice (some ⟨g, off, none⟩) n c, .int .i64 (e : Int)] w (FlipPost w b g (.slice (some ⟨g, off, none⟩) n c) n (P ^^^ 2 ^ e)) := by
  obtain ⟨q, hq⟩ : ∃ q, q = e / 64 := ⟨_, rfl⟩
  obtain ⟨r, hr⟩ : ∃ r, r = e % 64 := ⟨_, rfl⟩
  have hqn : q < n := by omega
  have hr64 : r < 64 := by omega
  have hd : 2 ^ r < 2 ^ 64 := Nat.pow_lt_pow_right (by omega) hr64
  obtain ⟨c1, z1⟩ := hR.cell hqn
  have hS := hR.set hqn hd
  have hwl := Poly.wordN_lt P q
  have hpe : P ^^^ 2 ^ r * 2 ^ (64 * q) = P ^^^ 2 ^ e := by rw [← Nat.pow_add]; congr 2; omega
  rw [hpe] at hS
  have hq1 : (e : Int) / 64 = (q : Int) := by omega
  have hr1 : (e : Int) % 64 = (r : Int) := by omega
  have hq2 : (0 : Int) ≤ (q : Int) := by omega
  have hq3 : (q : Int) < (n : Int) := by omega
  obtain ⟨d, hde⟩ : ∃ d, d = 2 ^ r := ⟨_, rfl⟩
  rw [← hde] at hS hd
  have hd2 : d < 18446744073709551616 := hd
  have hw : IntKind.u64.wrap ((2 : Int) ^ r) = (d : Int) := by
    rw [show ((2 : Int) ^ r) = (d : Int) by rw [hde, Int.natCast_pow]; rfl, IntKind.wrap_u64]
    omega
  have hx := u64_xor hwl hd2
  have HS := Aside.mk hS
  generalize Poly.wordN P q = x at *
  clear hS hpe hq hr hR hde hd
  go_enter Tryd.func45, Tryd.ntmps45
  go_region
  all_goals
    go_wp2
    go_end0
    exact FlipPost.drew ⟨rfl, HS.out⟩

/-! rowOf -/
theorem make_words (m : Nat) (h : m ≤ 1000000) (W : World) :
    (Instr.makeSlice 79 (.int .i64 (m : Int)) (.int .i64 (m : Int))).run Tryd.prog W = .ok (.slice (some ⟨W.heap.size, 0, none⟩) m m) (W.alloc (.cells (madeCells #[.int .u64 0] m) 89)) :=
  run_make_row' 79 89 (.int .u64 0) 8 Tryd.underlying79 (by kernel_rfl) rfl .i64 .i64 m (by omega) (by omega) W
theorem RowP.made (w : World) (b n : Nat) (hb : b ≤ w.heap.size) (hn : n ≤ 1000000) : RowP (w.alloc (.cells (madeCells #[.int .u64 0] n) 89)) b (.slice (some ⟨w.heap.size, 0, none⟩) n n) n 0 := by
  have h := Row.zeros w b 89 (.int .u64 0) n hb (by simp only [maxLen]; omega)
  rwa [← wordsV_zero] at h
/-- A row of 257 words of the call's own. -/
def RowOf (w : World) (n P : Nat) (e : Ending) (w' : World) : Prop := ∃ g, w.heap.size ≤ g ∧ e = .returned (.slice (some ⟨g, 0, none⟩) n n) ∧ RowP w' w.heap.size (.slice (some ⟨g, 0, none⟩) n n) n P ∧ Below w.heap.size w w'

set_option maxHeartbeats 1600000 in
theorem row_of (A : Option Addr) (len c : Nat) (l : List Int) (w : World) (hl : len = l.length) (hn : len ≤ 9223372036854775807) (hR : Rd w A len (fun i => .int .i64 (l.getD i 0))) :
    Calls Tryd.prog 31 #[.slice A len c] w (RowOf w 257 (Poly.bitsOf l)) := by
  have HR := Aside.mk (And.intro hl hR)
  have hmk : ∀ W : World, (Instr.makeSlice 79 (.int .i64 257) (.int .i64 257)).run Tryd.prog W = .ok (.slice (some ⟨W.heap.size, 0, none⟩) 257 257) (W.alloc (.cells (madeCells #[.int .u64 0] 257) 89)) := make_words 257 (by omega)
  have hm := RowP.made w w.heap.size 257 (Nat.le_refl _) (by omega)
  have hb := (Below.refl w.heap.size w).alloc (Nat.le_refl _) (.cells (madeCells #[.int .u64 0] 257) 89)
  obtain ⟨cs, hcs⟩ : ∃ cs, cs = madeCells #[Value.int .u64 0] 257 := ⟨_, rfl⟩
  rw [← hcs] at hmk hm hb
  have HM := Aside.mk (And.intro hm hb)
  clear hl hR hcs hm hb
  obtain ⟨g, hg⟩ : ∃ g, g = w.heap.size := ⟨_, rfl⟩
  have HG := Aside.mk hg
  clear hg
  go_enter Tryd.func31, Tryd.ntmps31
  go_wp2
  rw [← HG.out]
  go_loopw [9] (fun s9 wr => ∃ k : Nat, k ≤ len ∧ s9 = .int .i64 k ∧ RowP wr w.heap.size (.slice (some ⟨g, 0, none⟩) 257 257) 257 (Poly.bitsOf (l.take k)) ∧ Below w.heap.size w wr) (fun s9 _ => len - (intOf s9).toNat)
  case atStart => exact ⟨0, by omega, rfl, by rw [HG.out]; exact HM.out.1, HM.out.2⟩
  case round =>
    obtain ⟨k, hk, rfl, hr, hb⟩ := hrel
    have HK := Aside.mk (And.intro hr hb)
    clear hr hb
    by_cases hlt : k < len
    · obtain ⟨b, off, rfl, hbl, hc⟩ := HR.out.2 k hlt
      have y1 : wr.cell? ⟨b, off + k, none⟩ = some (.int .i64 (l.getD k 0)) := (HK.out.2.cell (p := ⟨b, off + k, none⟩) hbl).trans hc
      have hts : Poly.bitsOf (l.take (k + 1)) = Poly.put (Poly.bitsOf (l.take k)) (l.getD k 0) := by
        have h : k < l.length := by have := HR.out.1; omega
        rw [List.take_succ_eq_append_getElem h, Poly.bitsOf_snoc]
        simp [List.getD_eq_getElem?_getD, List.getElem?_eq_getElem h]
      generalize l.getD k 0 = y at *
      have hk2 : (k : Int) < (len : Int) := by omega
      have HT := Aside.mk hts
      clear hts hc
      by_cases h1 : 0 ≤ y
      · obtain ⟨e, rfl⟩ := Int.eq_ofNat_of_zero_le h1
        by_cases h2 : e ≤ 16384
        · have h3 : (e : Int) ≤ 16384 := by omega
          have hp : Poly.put (Poly.bitsOf (l.take k)) (e : Int) = Poly.bitsOf (l.take k) ^^^ 2 ^ e := by
            unfold Poly.put
            rw [if_pos ⟨h1, h3⟩, Int.toNat_natCast]
          have HP := Aside.mk hp
          clear hp
          go_wp2_with (go_at_call 45; refine (row_flip w.heap.size g 0 257 257 _ e _ HK.out.1 (by omega) (by omega)).mono ?_; rintro e w3 ⟨rfl, hr3, hg3⟩)
          go_roundw
          case rel => exact ⟨k + 1, by omega, by go_num, by rw [HT.out, HP.out]; exact hr3, HK.out.2.grown hg3 HK.out.2.size (fun j hj => by injection hj with hj; have := HG.out; omega)⟩
          case measure => simp [intOf]; omega
        · have h3 : ¬ (e : Int) ≤ 16384 := by omega
          have hp : Poly.put (Poly.bitsOf (l.take k)) (e : Int) = Poly.bitsOf (l.take k) := by
            unfold Poly.put
            rw [if_neg (by omega)]
          have HP := Aside.mk hp
          clear hp
          go_wp2
          go_roundw
          case rel => exact ⟨k + 1, by omega, by go_num, by rw [HT.out, HP.out]; exact HK.out.1, HK.out.2⟩
          case measure => simp [intOf]; omega
      · have hp : Poly.put (Poly.bitsOf (l.take k)) y = Poly.bitsOf (l.take k) := by
          unfold Poly.put
          rw [if_neg (by omega)]
        have HP := Aside.mk hp
        clear hp
        go_wp2
        go_roundw
        case rel => exact ⟨k + 1, by omega, by go_num, by rw [HT.out, HP.out]; exact HK.out.1, HK.out.2⟩
        case measure => simp [intOf]; omega
    · have hkl : l.take k = l := List.take_of_length_le (by have := HR.out.1; omega)
      have HL := Aside.mk hkl
      clear hkl
      go_wp2
      go_ret
      exact ⟨g, by rw [HG.out]; exact Nat.le_refl _, rfl, by have := HK.out.1; rwa [HL.out] at this, HK.out.2⟩
end Go.Proofs.YtkdfbganhohbfaaDoor
