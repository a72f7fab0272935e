/-
  Every text packed is itself again, and not much longer; a packed text that is cut short; a text written twice.
-/
import Derived.Test.YtobacpnjmenjpaaLzPack
import Derived.Test.YtobacpnjmenjpaaLzPackLaw2
namespace Go.Proofs.Ytobacpnjmenjpaa
open Go.RowKit

def packB (s : ByteArray) : ByteArray := ⟨(packF s.data.toList).toArray⟩
theorem packB_list (s : ByteArray) : (packB s).data.toList = packF s.data.toList := by unfold packB; simp
theorem packB_size (s : ByteArray) : (packB s).size = (packF s.data.toList).length := by rw [← data_len, packB_list]
theorem packB_le (s : ByteArray) : (packB s).size ≤ s.size + 1 := by rw [packB_size, ← data_len s]; exact packF_le _
theorem str_toArray (s : ByteArray) : (⟨s.data.toList.toArray⟩ : ByteArray) = s := by apply ByteArray.ext; simp
theorem packB_back (s : ByteArray) (h : s.size ≤ 65536) : unpack (packB s).data.toList (s.size : Int) = (s, 0) := by
  rw [packB_list, ← data_len s, unpack_pack _ (by rw [data_len]; exact h), str_toArray]
theorem packB_big (s : ByteArray) (h : 65536 < s.size) : packB s = ⟨#[0]⟩ ++ s := by
  unfold packB packF
  rw [if_pos (by rw [data_len]; exact h)]
  apply ByteArray.ext
  simp
theorem lz_packB (s : ByteArray) (w : World) (hs : s.size ≤ 140737488351232) : Calls Try.prog 11 #[.string s] w fun e w' => e = .returned (.string (packB s)) ∧ Below w.heap.size w w' := lz_pack s w hs
theorem lz_unpack_is (p : ByteArray) (n : Int) (R : ByteArray) (k : Nat) (w : World) (hs : p.size ≤ 140737488351232) (h : unpack p.data.toList n = (R, k)) :
    Calls Try.prog 9 #[.string p, .int .i64 n] w fun e w' => e = .returned (.tuple #[.string R, .int .i64 (k : Int)]) ∧ Below w.heap.size w w' :=
  (lz_unpack p n w hs).mono fun e w' ⟨he, hb⟩ => ⟨by rw [he, h], hb⟩
theorem ref_unpack_is (p : ByteArray) (n : Int) (R : ByteArray) (k : Nat) (w : World) (hs : p.size ≤ 140737488351232) (h : unpack p.data.toList n = (R, k)) :
    Calls Try.prog 10 #[.string p, .int .i64 n] w fun e w' => e = .returned (.tuple #[.string R, .int .i64 (k : Int)]) ∧ Below w.heap.size w w' :=
  (ref_unpack p n w hs).mono fun e w' ⟨he, hb⟩ => ⟨by rw [he, h], hb⟩
set_option maxHeartbeats 400000 in
theorem lzPacks_walk (s : ByteArray) (w : World) (hs : s.size ≤ 140737488351232) :
    Calls Try.prog 4 #[.string s] w fun e w' => e = .returned (.bool true) ∧ Below w.heap.size w w' := by
  have HP := Aside.mk (fun w => lz_packB s w hs)
  obtain ⟨p, hp⟩ : ∃ p, p = packB s := ⟨_, rfl⟩
  have hle := packB_le s
  have hbk := packB_back s
  have hbg := packB_big s
  rw [← hp] at HP hle hbk hbg
  have w1 : IntKind.i64.wrap ((s.size : Int) + 1) = ((s.size + 1 : Nat) : Int) := by rw [IntKind.wrap_i64]; omega
  have h1 : ¬ ((s.size + 1 : Nat) : Int) < (p.size : Int) := by omega
  have hps : p.size ≤ 140737488351233 := by omega
  have HPS := Aside.mk (And.intro hps hle)
  clear hp hle hps
  go_enter Try.func4, Try.ntmps4
  go_upto_region 3 with (go_at_call 8; refine (lz_speaks _).mono ?_; rintro e w1 ⟨rfl, hb1⟩)
  have HB1 := Aside.mk hb1
  clear hb1
  have HP2 := HP
  by_cases hbig : 65536 < s.size
  · have hbig2 : (65536 : Int) < (s.size : Int) := by omega
    have hv := hbg hbig
    have he : (p.toList == (⟨#[0]⟩ ++ s : ByteArray).toList) = true := by rw [← hv]; exact beq_self_eq_true _
    clear hbk hbg hv
    go_wp2_with (first | (obtain ⟨HI⟩ := HP2; go_at_call 11; refine (HI _).mono ?_; rintro e w2 ⟨rfl, hb2⟩; have HB2 := Aside.mk hb2; clear hb2) | (obtain ⟨HI⟩ := HP; go_at_call 11; refine (HI _).mono ?_; rintro e w3 ⟨rfl, hb3⟩; have HB3 := Aside.mk hb3; clear hb3))
    go_ret
    exact ⟨rfl, HB1.out.trans ((HB2.out.trans (HB3.out.mono HB2.out.size)).mono HB1.out.size)⟩
  · have hbig2 : ¬ (65536 : Int) < (s.size : Int) := by omega
    have HU := Aside.mk (hbk (by omega))
    clear hbk hbg hbig
    go_wp2_with (first | (obtain ⟨HI⟩ := HP2; go_at_call 11; refine (HI _).mono ?_; rintro e w2 ⟨rfl, hb2⟩; have HB2 := Aside.mk hb2; clear hb2) | (obtain ⟨HI⟩ := HP; go_at_call 11; refine (HI _).mono ?_; rintro e w3 ⟨rfl, hb3⟩; have HB3 := Aside.mk hb3; clear hb3) | (go_at_call 9; refine (lz_unpack_is p s.size s 0 _ (by have := HPS.out; omega) HU.out).mono ?_; rintro e w4 ⟨rfl, hb4⟩; have HB4 := Aside.mk hb4; clear hb4) | (go_at_call 10; refine (ref_unpack_is p s.size s 0 _ (by have := HPS.out; omega) HU.out).mono ?_; rintro e w5 ⟨rfl, hb5⟩; have HB5 := Aside.mk hb5; clear hb5))
    go_ret
    have b2 := HB1.out.trans (HB2.out.mono HB1.out.size)
    have b3 := b2.trans (HB3.out.mono b2.size)
    have b4 := b3.trans (HB4.out.mono b3.size)
    exact ⟨rfl, b4.trans (HB5.out.mono b4.size)⟩
end Go.Proofs.Ytobacpnjmenjpaa
