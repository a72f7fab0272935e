/-
  The walks of the laws on sealing, on changed texts and on three texts.
-/
import Derived.Test.YtnjmhfgplchogaaDoorCrcSealWalks
namespace Go.Proofs.YtnjmhfgplchogaaDoor
open Go.RowKit

theorem bytes_ext {a b : ByteArray} (h : a.data.toList = b.data.toList) : a = b := by
  cases a; cases b
  simp only [ByteArray.mk.injEq]
  exact Array.toList_inj.1 h
theorem extract_list (s : ByteArray) (k : Nat) : (s.extract 0 k).data.toList = s.data.toList.take k := by
  simp [ByteArray.data_extract, Array.toList_extract, List.extract_eq_take_drop]
theorem sealed_head (s : ByteArray) : (sealed s).extract 0 ((sealed s).size - 4) = s := by
  apply bytes_ext
  rw [extract_list, sealed_list, sealed_size, List.take_append_of_le_length (by rw [data_len]; omega), List.take_of_length_le (by rw [data_len]; omega)]
theorem opens_sealed (s : ByteArray) : opens (sealed s) = true := by
  unfold opens
  have h1 : (sealed s).data.toList.take ((sealed s).size - 4) = s.data.toList := by rw [← extract_list, sealed_head]
  have h2 : (sealed s).data.toList.drop ((sealed s).size - 4) = le4 (Crc.sum s.data.toList) := by
    rw [sealed_list, sealed_size, List.drop_append_of_le_length (by rw [data_len]; omega), List.drop_of_length_le (by rw [data_len]; omega), List.nil_append]
  rw [h1, h2]
  simp [sealed_size]
theorem openText_sealed (s : ByteArray) : openText (sealed s) = s := by
  unfold openText
  rw [if_pos (opens_sealed s), sealed_head]
theorem sealed_openText {t : ByteArray} (h : opens t = true) : sealed (openText t) = t := by
  have h' := h
  unfold opens at h'
  simp only [decide_eq_true_eq] at h'
  obtain ⟨h4, hd⟩ := h'
  apply bytes_ext
  rw [sealed_list]
  unfold openText
  rw [if_pos h, extract_list, ← hd, List.take_append_drop]
theorem opens_want {t : ByteArray} : ((sealed (t.extract 0 (t.size - 4))).toList == t.toList) = opens t := by
  rw [Bool.eq_iff_iff]
  simp only [beq_iff_eq]
  constructor
  · intro h
    have e : sealed (t.extract 0 (t.size - 4)) = t := by
      apply bytes_ext
      simpa [ByteArray.toList_eq] using h
    rw [← e]
    exact opens_sealed _
  · intro h
    have := sealed_openText h
    unfold openText at this
    rw [if_pos h] at this
    rw [this]

/-- The table lies, and nothing that was there has turned. -/
structure St (w W : World) : Prop where
  nib0 : Nib w
  bel : Below w.heap.size w W
theorem St.nib {w W : World} (h : St w W) : Nib W := h.nib0.below h.bel
theorem St.refl {w : World} (h : Nib w) : St w w := ⟨h, Below.refl _ _⟩
theorem St.step {w W W' : World} (h : St w W) (hb : Below W.heap.size W W') : St w W' := ⟨h.nib0, h.bel.trans (hb.mono h.bel.size)⟩
theorem St.drew {w W : World} (h : St w W) : St w W.drew := ⟨h.nib0, h.bel.drew⟩
theorem St.drewN {w W : World} (h : St w W) (n : Nat) : St w (W.drewN n) := ⟨h.nib0, ⟨h.bel.os, h.bel.tape, h.bel.output, h.bel.size, h.bel.block⟩⟩
theorem St.low {w W W' : World} (h : St w W) (hb : Below w.heap.size W W') : St w W' := ⟨h.nib0, h.bel.trans hb⟩

set_option maxHeartbeats 2000000 in
theorem crcSeals_yes (s t : ByteArray) (w : World) (hs : s.size ≤ 140737488351232) (ht : t.size ≤ 140737488351232) (hS : St w w) (h4 : 4 ≤ t.size) (hO : opens t = true) :
    Calls Tryd.prog 5 #[.string s, .string t] w fun e w' => e = .returned (.bool true) ∧ Below w.heap.size w w' := by
  have hsz : (sealed s).size ≤ 281474976710656 := by rw [sealed_size]; omega
  have hz : (t.extract 0 (t.size - 4)).size ≤ 140737488351232 := by simp; omega
  have e1 := opens_sealed s
  have e2 := openText_sealed s
  have e3 := sealed_openText hO
  have e4 := opens_want (t := t)
  have hz2 : (openText t).size ≤ 140737488351232 := by
    have h := sealed_size (openText t)
    rw [e3] at h
    omega
  have hw4 : IntKind.i64.wrap ((t.size : Int) - 4) = (t.size : Int) - 4 := by rw [IntKind.wrap_i64]; omega
  have hs1 : ∀ W, (Instr.slice 9 (.string t) none (some (.int .i64 ((t.size : Int) - 4))) none).run Tryd.prog W = .ok (.string (t.extract 0 (t.size - 4))) W := slice_head t 4 h4
  go_enter Tryd.func5, Tryd.ntmps5
  go_wp2_with (first | (go_at_call 7; refine (crc_speaks _ (St.nib (w := w) (by assumption))).mono ?_; rintro e w' ⟨rfl, rfl⟩) | (go_at_call 12; refine (crc_seal _ _ (by omega) (St.nib (w := w) (by assumption))).mono ?_; rintro e w1 ⟨rfl, hb1⟩; have hs1 := St.step (w := w) (by assumption) hb1; clear hb1) | (go_at_call 13; refine (ref_seal _ _ (by omega)).mono ?_; rintro e w1 ⟨rfl, hb1⟩; have hs1 := St.step (w := w) (by assumption) hb1; clear hb1) | (go_at_call 14; refine (crc_open _ _ (by omega) (St.nib (w := w) (by assumption))).mono ?_; rintro e w1 ⟨rfl, hb1⟩; have hs1 := St.step (w := w) (by assumption) hb1; clear hb1))
  go_ret
  exact ⟨rfl, (show St w _ by assumption).bel⟩

set_option maxHeartbeats 2000000 in
theorem crcSeals_no (s t : ByteArray) (w : World) (hs : s.size ≤ 140737488351232) (ht : t.size ≤ 140737488351232) (hS : St w w) (h4 : 4 ≤ t.size) (hO : opens t = false) :
    Calls Tryd.prog 5 #[.string s, .string t] w fun e w' => e = .returned (.bool true) ∧ Below w.heap.size w w' := by
  have hsz : (sealed s).size ≤ 281474976710656 := by rw [sealed_size]; omega
  have hz : (t.extract 0 (t.size - 4)).size ≤ 140737488351232 := by simp; omega
  have e1 := opens_sealed s
  have e2 := openText_sealed s
  have e3 := openText_not hO
  have e4 := opens_want (t := t)
  have hw4 : IntKind.i64.wrap ((t.size : Int) - 4) = (t.size : Int) - 4 := by rw [IntKind.wrap_i64]; omega
  have hs1 : ∀ W, (Instr.slice 9 (.string t) none (some (.int .i64 ((t.size : Int) - 4))) none).run Tryd.prog W = .ok (.string (t.extract 0 (t.size - 4))) W := slice_head t 4 h4
  go_enter Tryd.func5, Tryd.ntmps5
  go_wp2_with (first | (go_at_call 7; refine (crc_speaks _ (St.nib (w := w) (by assumption))).mono ?_; rintro e w' ⟨rfl, rfl⟩) | (go_at_call 12; refine (crc_seal _ _ (by omega) (St.nib (w := w) (by assumption))).mono ?_; rintro e w1 ⟨rfl, hb1⟩; have hs1 := St.step (w := w) (by assumption) hb1; clear hb1) | (go_at_call 13; refine (ref_seal _ _ (by omega)).mono ?_; rintro e w1 ⟨rfl, hb1⟩; have hs1 := St.step (w := w) (by assumption) hb1; clear hb1) | (go_at_call 14; refine (crc_open _ _ (by omega) (St.nib (w := w) (by assumption))).mono ?_; rintro e w1 ⟨rfl, hb1⟩; have hs1 := St.step (w := w) (by assumption) hb1; clear hb1))
  go_ret
  exact ⟨rfl, (show St w _ by assumption).bel⟩

set_option maxHeartbeats 2000000 in
theorem crcSeals_short (s t : ByteArray) (w : World) (hs : s.size ≤ 140737488351232) (ht : t.size ≤ 140737488351232) (hS : St w w) (h4 : t.size < 4) :
    Calls Tryd.prog 5 #[.string s, .string t] w fun e w' => e = .returned (.bool true) ∧ Below w.heap.size w w' := by
  have hsz : (sealed s).size ≤ 281474976710656 := by rw [sealed_size]; omega
  have hO := opens_short (s := t) (by omega)
  have e1 := opens_sealed s
  have e2 := openText_sealed s
  have e3 := openText_not hO
  have h4' : ¬ (4 : Int) ≤ t.size := by omega
  go_enter Tryd.func5, Tryd.ntmps5
  go_wp2_with (first | (go_at_call 7; refine (crc_speaks _ (St.nib (w := w) (by assumption))).mono ?_; rintro e w' ⟨rfl, rfl⟩) | (go_at_call 12; refine (crc_seal _ _ (by omega) (St.nib (w := w) (by assumption))).mono ?_; rintro e w1 ⟨rfl, hb1⟩; have hs1 := St.step (w := w) (by assumption) hb1; clear hb1) | (go_at_call 13; refine (ref_seal _ _ (by omega)).mono ?_; rintro e w1 ⟨rfl, hb1⟩; have hs1 := St.step (w := w) (by assumption) hb1; clear hb1) | (go_at_call 14; refine (crc_open _ _ (by omega) (St.nib (w := w) (by assumption))).mono ?_; rintro e w1 ⟨rfl, hb1⟩; have hs1 := St.step (w := w) (by assumption) hb1; clear hb1))
  go_ret
  exact ⟨rfl, (show St w _ by assumption).bel⟩

theorem crcSeals_walk (s t : ByteArray) (w : World) (hs : s.size ≤ 140737488351232) (ht : t.size ≤ 140737488351232) (hn : Nib w) :
    Calls Tryd.prog 5 #[.string s, .string t] w fun e w' => e = .returned (.bool true) ∧ Below w.heap.size w w' := by
  by_cases h4 : 4 ≤ t.size
  · cases hO : opens t
    · exact crcSeals_no s t w hs ht (St.refl hn) h4 hO
    · exact crcSeals_yes s t w hs ht (St.refl hn) h4 hO
  · exact crcSeals_short s t w hs ht (St.refl hn) (by omega)

/-! A sealed text, changed -/
theorem le4_leN {c : Nat} (hc : c < 4294967296) : Crc.leN (le4 c) = c := by
  simp only [le4, Crc.leN_cons, Crc.leN_nil, UInt8.toNat_ofNat']
  omega
theorem leN_le4 {l : List UInt8} (hl : l.length = 4) : le4 (Crc.leN l) = l := by
  match l, hl with
  | [a, b, c, d], _ =>
    have h1 := a.toNat_lt
    have h2 := b.toNat_lt
    have h3 := c.toNat_lt
    have h4 := d.toNat_lt
    simp only [le4, Crc.leN_cons, Crc.leN_nil]
    refine congr (congrArg List.cons ?_) (congr (congrArg List.cons ?_) (congr (congrArg List.cons ?_) (congrArg (· :: []) ?_)))
    all_goals
      apply UInt8.toNat_inj.1
      rw [UInt8.toNat_ofNat']
      omega
/-- What a text that opens has in its register. -/
theorem opens_reg (b : ByteArray) (h4 : 4 ≤ b.size) : opens b = decide (Crc.reg 4294967295 b.data.toList = Crc.steps 32 4294967295) := by
  have hl := data_len b
  have hdl : (b.data.toList.drop (b.size - 4)).length = 4 := by rw [List.length_drop]; omega
  have hlt : Crc.leN (b.data.toList.drop (b.size - 4)) < 4294967296 := by have := Crc.leN_lt (b.data.toList.drop (b.size - 4)); rwa [hdl] at this
  have hr := Crc.reg_lt (b.data.toList.take (b.size - 4)) (show (4294967295 : Nat) < 4294967296 by omega)
  have e : Crc.reg 4294967295 b.data.toList = Crc.steps 32 (Crc.reg 4294967295 (b.data.toList.take (b.size - 4)) ^^^ Crc.leN (b.data.toList.drop (b.size - 4))) := by
    conv => lhs; rw [← List.take_append_drop (b.size - 4) b.data.toList, Crc.reg_append, Crc.reg_leN, hdl]
  unfold opens
  rw [e, Bool.eq_iff_iff]
  simp only [decide_eq_true_eq]
  have hsum : Crc.sum (b.data.toList.take (b.size - 4)) = Crc.reg 4294967295 (b.data.toList.take (b.size - 4)) ^^^ 4294967295 := by
    unfold Crc.sum Crc.ext; rw [Nat.zero_xor]
  constructor
  · rintro ⟨_, hd⟩
    rw [hd, le4_leN (Crc.sum_lt _), hsum, ← Nat.xor_assoc, Nat.xor_self, Nat.zero_xor]
  · intro h
    have h1 := Crc.steps_inj 32 (Crc.xor_lt32 hr hlt) (by omega) h
    refine ⟨h4, ?_⟩
    generalize Crc.reg 4294967295 (b.data.toList.take (b.size - 4)) = X at h1 hsum
    have hX : X ^^^ 4294967295 = Crc.leN (b.data.toList.drop (b.size - 4)) := by rw [← h1, ← Nat.xor_assoc, Nat.xor_self, Nat.zero_xor]
    rw [hsum, hX, leN_le4 hdl]
end Go.Proofs.YtnjmhfgplchogaaDoor
