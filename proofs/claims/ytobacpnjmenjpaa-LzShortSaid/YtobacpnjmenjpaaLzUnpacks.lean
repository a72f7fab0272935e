/-
  Any bytes unpacked, or what is wrong with them.
-/
import Derived.Test.YtobacpnjmenjpaaLzUnpack
namespace Go.Proofs.Ytobacpnjmenjpaa
open Go.RowKit

theorem speaks_list : (⟨#[1, 0, 97, 130, 0, 0]⟩ : ByteArray).data.toList = [1, 0, 97, 130, 0, 0] := rfl
theorem lz_unpack_six (w : World) :
    Calls Try.prog 9 #[.string ⟨#[1, 0, 97, 130, 0, 0]⟩, .int .i64 9] w fun e w' => e = .returned (.tuple #[.string ⟨#[97, 97, 97, 97, 97, 97]⟩, .int .i64 0]) ∧ Below w.heap.size w w' :=
  (lz_unpack ⟨#[1, 0, 97, 130, 0, 0]⟩ 9 w (by decide)).mono fun e w' ⟨he, hb⟩ => ⟨by rw [he, speaks_list, unpack_speaks]; rfl, hb⟩
set_option maxHeartbeats 400000 in
theorem lz_speaks (w : World) :
    Calls Try.prog 8 #[] w fun e w' => e = .returned (.bool true) ∧ Below w.heap.size w w' := by
  go_enter Try.func8, Try.ntmps8
  go_wp2_with (go_at_call 9; refine (lz_unpack_six _).mono ?_; rintro e w1 ⟨rfl, hb1⟩)
  go_ret
  exact ⟨rfl, hb1⟩
set_option maxHeartbeats 400000 in
theorem lzUnpacks_walk (s : ByteArray) (n : Int) (w : World) (hs : s.size ≤ 140737488351232) (_hn : (Lit.int .i64 n).wf = true) :
    Calls Try.prog 3 #[.string s, .int .i64 n] w fun e w' => e = .returned (.bool true) ∧ Below w.heap.size w w' := by
  go_enter Try.func3, Try.ntmps3
  go_upto_region 3 with (go_at_call 8; refine (lz_speaks _).mono ?_; rintro e w1 ⟨rfl, hb1⟩)
  generalize hR : unpack s.data.toList n = R
  obtain ⟨R1, R2⟩ := R
  have HR := Aside.mk hR
  clear hR
  go_wp2_with (first | (go_at_call 9; refine (lz_unpack s n _ hs).mono ?_; rw [HR.out]; rintro e w2 ⟨rfl, hb2⟩; have hb3 := hb1.trans (hb2.mono hb1.size); clear hb2) | (go_at_call 10; refine (ref_unpack s n _ hs).mono ?_; rw [HR.out]; rintro e w4 ⟨rfl, hb4⟩; have hb5 := hb3.trans (hb4.mono hb3.size)))
  go_ret
  exact ⟨rfl, hb5⟩
end Go.Proofs.Ytobacpnjmenjpaa
