/-
  The parity of all payloads: the program's and the document's, and the payloads stay.
-/
import Derived.Test.YtehiijgfhanjfaaParMem
import Derived.Test.YtehiijgfhanjfaaParXor
import Derived.Test.YtehiijgfhanjfaaArgs
namespace Go.Proofs.Ytehiijgfhanjfaa
open Go.RowKit

set_option maxHeartbeats 2000000 in
theorem parityXors_walk (n : Int) (A : Option Addr) (len cap : Nat) (x : List ByteArray) (w : World) (_hn : (Lit.int .i64 n).wf = true)
    (hx : x.length = len ∧ len ≤ cap ∧ cap ≤ maxLen ∧ len * 16 ≤ 140737488351232 ∧ (∀ s ∈ x, s.size ≤ 140737488351232) ∧ Rd w A len (fun i => .string (x.getD i ByteArray.empty))) :
    Calls Try.prog 3 #[.int .i64 n, .slice A len cap] w fun e w' => e = .returned (.bool true) ∧ Below w.heap.size w w' := by
  obtain ⟨hl, hlc, hcm, hlb, hsz, hR⟩ := hx
  generalize hf : (fun i => x.getD i ByteArray.empty) = f at *
  have hR : Rd w A len (fun i => .string (f i)) := by subst hf; exact hR
  have HR := Aside.mk hR
  have hlen : len ≤ 8796093021952 := by omega
  clear hR hsz hlb hl hf
  have hcm : cap ≤ 9223372036854775807 := hcm
  go_enter Try.func3, Try.ntmps3
  go_upto_region 3 with (go_at_call 7; refine (parity_speaks _).mono ?_; rintro e w1 ⟨rfl, hb1⟩)
  have hbs := hb1.size
  go_upto_region 4 with (at_builtin; refine wpList_append_row (w0 := w) w.heap.size rfl _ _ 22 9 1 16 (.string ByteArray.empty) rfl Try.underlying22 infoStr rfl (by decide) (.slice (some ⟨w1.heap.size, 0, none⟩) 0 0) 0 [] _ len _ rfl rfl (Row.lit w1 w.heap.size 9 1 #[] 0 hbs (by decide) rfl) (Src.of_rd (Rd.below HR.out (Nat.le_refl _) (hb1.alloc hbs _))) (by simp [Value.oneCell']) (hb1.alloc hbs _) (by simp; omega) (by omega) (by simp only [maxLen]; omega) ?_; intro v1 w2 hr1 hb2 hg1 hat1; clear hg1 hat1; rw [Nat.zero_add, List.nil_append] at hr1; obtain ⟨A1, c1, rfl, hc1, hcm1, hR1⟩ := hr1.read; clear hr1; have HR1 := Aside.mk (hR1.congr (g := fun i => .string (f i)) (fun i hi => by simp [List.getD_eq_getElem?_getD, hi])); clear hR1; have hcm2 : c1 ≤ 9223372036854775807 := hcm1)
  have HB := Aside.mk hb2
  clear hb1 hbs hb2
  go_upto_if 18 with (first | (go_at_call 8; refine (parity_xor n A1 len c1 f _ (by omega) hc1 hcm2 HR1.out).mono ?_; rintro e w3 ⟨rfl, hb3⟩; have HB3 := Aside.mk hb3; have HB4 := Aside.mk (HB.out.trans (hb3.mono HB.out.size)); clear hb3) | (go_at_call 9; refine (ref_xor n A len cap f _ (by omega) hlc hcm (HR.out.below (Nat.le_refl _) HB4.out)).mono ?_; rintro e w4 ⟨rfl, hb5⟩; have HB6 := Aside.mk (HB4.out.trans (hb5.mono HB4.out.size)); have HB7 := Aside.mk (HB3.out.trans (hb5.mono HB3.out.size)); clear hb5 HB3 HB4))
  go_wp2
  go_loopw [6] (fun s6 wr => ∃ k : Nat, k ≤ len ∧ s6 = .int .i64 k ∧ Below w.heap.size w wr ∧ Below w2.heap.size w2 wr) (fun s6 _ => len - (intOf s6).toNat)
  case atStart => exact ⟨0, by omega, rfl, HB6.out, HB7.out⟩
  case round =>
    obtain ⟨k, hk, rfl, hb, hb'⟩ := hrel
    by_cases hlt : k < len
    · obtain ⟨b, off, rfl, hc⟩ := HR.out.cells hlt
      obtain ⟨b2, off2, rfl, hc2⟩ := HR1.out.cells hlt
      have e1 := hc _ _ (Nat.le_refl _) hb
      have e2 := hc _ _ (Nat.le_refl _) hb.drew
      have e3 := hc2 _ _ (Nat.le_refl _) hb'
      have e4 := hc2 _ _ (Nat.le_refl _) hb'.drew
      have hk1 : IntKind.i64.wrap ((k : Int) + 1) = (k : Int) + 1 := by rw [IntKind.wrap_i64]; omega
      clear hc hc2
      generalize f k = s at *
      go_upto_region 9 with fail
      go_region
      go_wp2
      go_roundw
      case rel => exact ⟨k + 1, by omega, by go_num, hb.drew, hb'.drew⟩
      case measure => simp [intOf]; omega
    · go_wp2
      go_ret
      exact ⟨rfl, hb⟩
end Go.Proofs.Ytehiijgfhanjfaa
