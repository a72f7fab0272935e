/-
  Whether a block should be moved; how many are free; and what the document says of both.
-/
import Derived.Test.YtaganococolodaaWearBusy
namespace Go.Proofs.Ytaganococolodaa
open Go.RowKit Go.Sort

/-- Is one of the first k, not worn, erased more than t times? -/
def anyAbove (f : Nat → Blk) (t : Int) : Nat → Bool
  | 0 => false
  | k + 1 => anyAbove f t k || (!(f k).wo && decide (t < (f k).er))
def levelF (f : Nat → Blk) (n : Nat) (apart : Int) : Int :=
  if least (flp f) n < 0 then -1 else if anyAbove f ((f (least (flp f) n).toNat).er + max apart 0) n then least (flp f) n else -1
theorem anyAbove_none {f : Nat → Blk} {t : Int} : ∀ {k : Nat}, (∀ i, i < k → (f i).er ≤ t) → anyAbove f t k = false
  | 0, _ => rfl
  | k + 1, h => by
    have h1 := h k (by omega)
    have h2 : decide (t < (f k).er) = false := by simp; omega
    show (anyAbove f t k || _) = false
    rw [anyAbove_none (fun i hi => h i (by omega)), h2, Bool.and_false]
    rfl
theorem anyAbove_hit {f : Nat → Blk} {t : Int} : ∀ {n k : Nat}, k < n → (!(f k).wo && decide (t < (f k).er)) = true → anyAbove f t n = true
  | n + 1, k, h, hk => by
    by_cases e : k = n
    · subst e; simp only [anyAbove, hk, Bool.or_true]
    · simp only [anyAbove, anyAbove_hit (show k < n by omega) hk, Bool.true_or]
/-- The closure's answer for one block. -/
theorem level_two (b : Blk) (pl pf : Nat) (low far : Int) (w : World) (hl : w.cell? ⟨pl, 0, none⟩ = some (.int .i64 low)) (hf : w.cell? ⟨pf, 0, none⟩ = some (.int .i64 far)) (hpl : pl < w.heap.size) (hpf : pf < w.heap.size) (h1 : -9223372036854775808 ≤ low + far) (h2 : low + far ≤ 9223372036854775807) :
    Calls Try.prog 22 #[b.v, .pointer (some ⟨pl, 0, none⟩), .pointer (some ⟨pf, 0, none⟩)] w fun e w' => e = .returned (.bool (!b.wo && decide (low + far < b.er))) ∧ Below w.heap.size w w' := by
  obtain ⟨er, rd, us, wo⟩ := b
  have hb := (Below.refl w.heap.size w).alloc (Nat.le_refl _) (.cells #[.int .i64 er, .int .i64 rd, .bool us, .bool wo] 27)
  have e1 : IntKind.i64.wrap (low + far) = low + far := by rw [IntKind.wrap_i64]; omega
  have hl2 := hb.cell (p := ⟨pl, 0, none⟩) hpl
  have hf2 := hb.cell (p := ⟨pf, 0, none⟩) hpf
  rw [hl] at hl2
  rw [hf] at hf2
  go_enter Try.func22, Try.ntmps22
  simp only [Blk.v]
  cases wo
  all_goals
    go_wp2
    go_ret
    exact ⟨by simp, hb⟩
abbrev levelV (pl pf : Nat) : Value := .func (.func 22) #[] #[.pointer (some ⟨pl, 0, none⟩), .pointer (some ⟨pf, 0, none⟩)]
set_option maxHeartbeats 800000 in
theorem index_above (A : Option Addr) (n c : Nat) (f : Nat → Blk) (pl pf : Nat) (low far : Int) (w : World) (hn : n ≤ 10000000000000) (hc : n ≤ c) (hcm : c ≤ 9223372036854775807) (hR : BRd w A n f)
    (hl : w.cell? ⟨pl, 0, none⟩ = some (.int .i64 low)) (hf : w.cell? ⟨pf, 0, none⟩ = some (.int .i64 far)) (hpl : pl < w.heap.size) (hpf : pf < w.heap.size) (h1 : -9223372036854775808 ≤ low + far) (h2 : low + far ≤ 9223372036854775807) :
    Calls Try.prog 26 #[.slice A n c, levelV pl pf] w fun e w' => ∃ q : Int, e = .returned (.int .i64 q) ∧ decide (0 ≤ q) = anyAbove f (low + far) n ∧ Below w.heap.size w w' := by
  have HL2 : Aside (∀ (b : Blk) (W : World), Below w.heap.size w W → Calls Try.prog 22 #[b.v, .pointer (some ⟨pl, 0, none⟩), .pointer (some ⟨pf, 0, none⟩)] W fun e w' => e = .returned (.bool (!b.wo && decide (low + far < b.er))) ∧ Aside (Below w.heap.size w w')) := ⟨fun b W hb => by
    refine (level_two b pl pf low far W ((hb.cell (p := ⟨pl, 0, none⟩) hpl).trans hl) ((hb.cell (p := ⟨pf, 0, none⟩) hpf).trans hf) (Nat.lt_of_lt_of_le hpl hb.size) (Nat.lt_of_lt_of_le hpf hb.size) h1 h2).mono ?_
    rintro e w' ⟨he, hb2⟩
    exact ⟨he, ⟨hb.trans (hb2.mono hb.size)⟩⟩⟩
  have HR := Aside.mk hR
  clear hl hf hpl hpf h1 h2 hR
  generalize low + far = t at *
  go_enter Try.func26, Try.ntmps26
  go_wp2
  go_loopw [5, 8] (fun _ s8 wr => ∃ k : Nat, k ≤ n ∧ s8 = .int .i64 k ∧ Aside (Below w.heap.size w wr ∧ anyAbove f t k = false)) (fun _ s8 _ => n - (intOf s8).toNat)
  case atStart => exact ⟨0, Nat.zero_le _, rfl, ⟨Below.refl _ _, rfl⟩⟩
  case round =>
    obtain ⟨k, hk, rfl, HB⟩ := hrel
    by_cases hlt : k < n
    · obtain ⟨g, off, rfl, hcell⟩ := HR.out.cells hlt
      obtain ⟨c0, c1, c2, c3⟩ := hcell w.heap.size wr (Nat.le_refl _) HB.out.1
      have hk1 : IntKind.i64.wrap ((k : Int) + 1) = (k : Int) + 1 := by rw [IntKind.wrap_i64]; omega
      obtain ⟨x, hx⟩ : ∃ x, x = f k := ⟨_, rfl⟩
      rw [← hx] at c0 c1 c2 c3
      have HC := Aside.mk (HL2.out x wr HB.out.1)
      have HX : Aside (∀ b, b = (!x.wo && decide (t < x.er)) → b = (!(f k).wo && decide (t < (f k).er))) := ⟨fun b h => by rw [← hx]; exact h⟩
      clear hx hcell
      obtain ⟨bb, hbb⟩ : ∃ bb, bb = (!x.wo && decide (t < x.er)) := ⟨_, rfl⟩
      rw [← hbb] at HC
      have hbb2 := HX.out bb hbb
      clear hbb HX
      cases bb with
      | true =>
        have HH := Aside.mk (anyAbove_hit (f := f) (t := t) hlt hbb2.symm)
        clear hbb2
        go_wp2_with (go_at_call 22; refine HC.out.mono ?_; rintro e w' ⟨rfl, HB2⟩)
        go_ret
        exact ⟨_, rfl, by rw [HH.out]; simp, HB2.out⟩
      | false =>
        have HH : Aside (anyAbove f t (k + 1) = false) := ⟨by simp only [anyAbove, HB.out.2, ← hbb2, Bool.or_false]⟩
        clear hbb2
        go_wp2_with (go_at_call 22; refine HC.out.mono ?_; rintro e w' ⟨rfl, HB2⟩)
        go_roundw
        case rel => exact ⟨k + 1, by omega, by go_num, ⟨HB2.out, HH.out⟩⟩
        case measure => simp [intOf]; omega
    · obtain rfl : n = k := by omega
      go_wp2
      go_ret
      exact ⟨-1, rfl, by rw [HB.out.2]; rfl, HB.out.1⟩
set_option maxHeartbeats 800000 in
theorem contains_above (A : Option Addr) (n c : Nat) (f : Nat → Blk) (pl pf : Nat) (low far : Int) (w : World) (hn : n ≤ 10000000000000) (hc : n ≤ c) (hcm : c ≤ 9223372036854775807) (hR : BRd w A n f)
    (hl : w.cell? ⟨pl, 0, none⟩ = some (.int .i64 low)) (hf : w.cell? ⟨pf, 0, none⟩ = some (.int .i64 far)) (hpl : pl < w.heap.size) (hpf : pf < w.heap.size) (h1 : -9223372036854775808 ≤ low + far) (h2 : low + far ≤ 9223372036854775807) :
    Calls Try.prog 21 #[.slice A n c, levelV pl pf] w fun e w' => e = .returned (.bool (anyAbove f (low + far) n)) ∧ Below w.heap.size w w' := by
  have HI := Aside.mk (index_above A n c f pl pf low far w hn hc hcm hR hl hf hpl hpf h1 h2)
  clear hR hl hf hpl hpf h1 h2 hn hc hcm
  go_enter Try.func21, Try.ntmps21
  go_wp2_with (go_at_call 26; refine HI.out.mono ?_; rintro e w' ⟨q, rfl, hq, hb⟩)
  go_ret
  exact ⟨by rw [← hq]; rfl, hb⟩
def spareN (f : Nat → Blk) : Nat → Nat
  | 0 => 0
  | k + 1 => spareN f k + if (f k).free then 1 else 0
theorem spareN_le (f : Nat → Blk) : ∀ k, spareN f k ≤ k
  | 0 => Nat.le_refl _
  | k + 1 => by have := spareN_le f k; simp only [spareN]; split <;> omega
set_option maxHeartbeats 800000 in
theorem wear_spare (A : Option Addr) (n c : Nat) (f : Nat → Blk) (w : World) (hn : n ≤ 10000000000000) (hc : n ≤ c) (hcm : c ≤ 9223372036854775807) (hR : BRd w A n f) :
    Calls Try.prog 14 #[.slice A n c] w fun e w' => e = .returned (.int .i64 (spareN f n : Nat)) ∧ Below w.heap.size w w' := by
  have HR := Aside.mk hR
  clear hR
  go_enter Try.func14, Try.ntmps14
  go_wp2
  go_loopw [3, 8] (fun s3 s8 wr => ∃ k : Nat, k ≤ n ∧ s8 = .int .i64 k ∧ s3 = .int .i64 (spareN f k : Nat) ∧ Below w.heap.size w wr) (fun _ s8 _ => n - (intOf s8).toNat)
  case atStart => exact ⟨0, Nat.zero_le _, rfl, rfl, Below.refl _ _⟩
  case round =>
    obtain ⟨k, hk, rfl, rfl, hb⟩ := hrel
    by_cases hlt : k < n
    · obtain ⟨g, off, rfl, hcell⟩ := HR.out.cells hlt
      obtain ⟨c0, c1, c2, c3⟩ := hcell w.heap.size wr (Nat.le_refl _) hb
      have hk1 : IntKind.i64.wrap ((k : Int) + 1) = (k : Int) + 1 := by rw [IntKind.wrap_i64]; omega
      have hsl := spareN_le f k
      have hs1 : IntKind.i64.wrap ((spareN f k : Nat) + 1 : Int) = ((spareN f k + 1 : Nat) : Int) := by rw [IntKind.wrap_i64]; omega
      have hsn : spareN f (k + 1) = spareN f k + if (f k).free then 1 else 0 := rfl
      have HSN := Aside.mk hsn
      obtain ⟨x, hx⟩ : ∃ x, x = f k := ⟨_, rfl⟩
      rw [← hx] at c0 c1 c2 c3 HSN
      generalize spareN f k = sp at *
      clear hcell hsn hsl hx
      have hnew : (wr.alloc (.cells #[.int .i64 x.er, .int .i64 x.rd, .bool x.us, .bool x.wo] 27)).heap[wr.heap.size]? = some (.cells #[.int .i64 x.er, .int .i64 x.rd, .bool x.us, .bool x.wo] 27) := heap_alloc_new wr _
      have hbW := hb.alloc hb.size (.cells #[.int .i64 x.er, .int .i64 x.rd, .bool x.us, .bool x.wo] 27)
      go_upto_region 5 with fail
      generalize wr.alloc (.cells #[.int .i64 x.er, .int .i64 x.rd, .bool x.us, .bool x.wo] 27) = W at *
      generalize wr.heap.size = h at *
      have e0 : W.cell? ⟨h, 0, none⟩ = some (.int .i64 x.er) := cell_of_row W h 0 _ _ _ hnew
      have e1 : W.cell? ⟨h, 1, none⟩ = some (.int .i64 x.rd) := cell_of_row W h 1 _ _ _ hnew
      have e2 : W.cell? ⟨h, 2, none⟩ = some (.bool x.us) := cell_of_row W h 2 _ _ _ hnew
      have e3 : W.cell? ⟨h, 3, none⟩ = some (.bool x.wo) := cell_of_row W h 3 _ _ _ hnew
      have HBW := Aside.mk hbW
      clear hnew hbW c0 c1 c2 c3 hb
      cases hF : x.free
      · have HN : Aside (spareN f (k + 1) = sp) := ⟨by rw [HSN.out, hF]; rfl⟩
        go_wp2_with (go_at_call 16; refine (block_free x _).mono ?_; rw [hF]; rintro e w' ⟨rfl, hb2⟩; have HB2 : Aside (Below w.heap.size w w') := ⟨HBW.out.trans (hb2.mono HBW.out.size)⟩; clear hb2)
        go_roundw
        case rel => exact ⟨k + 1, by omega, by go_num, by rw [HN.out], HB2.out⟩
        case measure => simp [intOf]; omega
      · have HN : Aside (spareN f (k + 1) = sp + 1) := ⟨by rw [HSN.out, hF]; rfl⟩
        go_wp2_with (go_at_call 16; refine (block_free x _).mono ?_; rw [hF]; rintro e w' ⟨rfl, hb2⟩; have HB2 : Aside (Below w.heap.size w w') := ⟨HBW.out.trans (hb2.mono HBW.out.size)⟩; clear hb2)
        go_roundw
        case rel => exact ⟨k + 1, by omega, by go_num, by rw [HN.out]; simp, HB2.out⟩
        case measure => simp [intOf]; omega
    · obtain rfl : n = k := by omega
      go_wp2
      go_ret
      exact ⟨rfl, hb⟩
theorem two_boxes {w w' : World} (low far : Int) (hb : Below w.heap.size w w') :
    ∃ pl pf, Value.pointer (some ⟨w'.heap.size, 0, none⟩) = .pointer (some ⟨pl, 0, none⟩) ∧ Value.pointer (some ⟨w'.heap.size + 1, 0, none⟩) = .pointer (some ⟨pf, 0, none⟩) ∧
      ((w'.alloc (.cells #[.int .i64 low] 3)).alloc (.cells #[.int .i64 far] 3)).cell? ⟨pl, 0, none⟩ = some (.int .i64 low) ∧ ((w'.alloc (.cells #[.int .i64 low] 3)).alloc (.cells #[.int .i64 far] 3)).cell? ⟨pf, 0, none⟩ = some (.int .i64 far) ∧
      pl < ((w'.alloc (.cells #[.int .i64 low] 3)).alloc (.cells #[.int .i64 far] 3)).heap.size ∧ pf < ((w'.alloc (.cells #[.int .i64 low] 3)).alloc (.cells #[.int .i64 far] 3)).heap.size ∧ Below w.heap.size w ((w'.alloc (.cells #[.int .i64 low] 3)).alloc (.cells #[.int .i64 far] 3)) := by
  have h1 := cell_of_row _ w'.heap.size 0 _ _ _ (heap_alloc_new w' (.cells #[.int .i64 low] 3))
  have h2 := cell_of_row _ (w'.alloc (.cells #[.int .i64 low] 3)).heap.size 0 _ _ _ (heap_alloc_new (w'.alloc (.cells #[.int .i64 low] 3)) (.cells #[.int .i64 far] 3))
  have hs : (w'.alloc (.cells #[.int .i64 low] 3)).heap.size = w'.heap.size + 1 := by simp
  have hs2 : ((w'.alloc (.cells #[.int .i64 low] 3)).alloc (.cells #[.int .i64 far] 3)).heap.size = w'.heap.size + 2 := by simp
  have hb2 := (Below.refl (w'.alloc (.cells #[.int .i64 low] 3)).heap.size (w'.alloc (.cells #[.int .i64 low] 3))).alloc (Nat.le_refl _) (.cells #[.int .i64 far] 3)
  refine ⟨_, _, rfl, rfl, (hb2.cell (p := ⟨w'.heap.size, 0, none⟩) (by rw [hs]; exact Nat.lt_succ_self _)).trans h1, by rw [← hs]; exact h2, by omega, by omega, (hb.alloc hb.size _).alloc (by rw [hs]; have := hb.size; omega) _⟩
set_option maxHeartbeats 800000 in
theorem wear_level (A : Option Addr) (n c : Nat) (f : Nat → Blk) (apart : Int) (w : World) (hn : n ≤ 10000000000000) (hc : n ≤ c) (hcm : c ≤ 9223372036854775807) (hR : BRd w A n f) (hE : ∀ i, i < n → -9223372036854775808 ≤ (f i).er ∧ (f i).er ≤ 9223372036854775807) (ha1 : -9223372036854775808 ≤ apart) (ha2 : apart ≤ 9223372036854775807) :
    Calls Try.prog 12 #[.slice A n c, .int .i64 apart] w fun e w' => e = .returned (.int .i64 (levelF f n apart)) ∧ Below w.heap.size w w' := by
  have HLU := Aside.mk (wear_leastU A n c f w hn hc hcm hR)
  have HCA : Aside (∀ (W : World) (pl pf : Nat) (low far : Int), Below w.heap.size w W → W.cell? ⟨pl, 0, none⟩ = some (.int .i64 low) → W.cell? ⟨pf, 0, none⟩ = some (.int .i64 far) → pl < W.heap.size → pf < W.heap.size → -9223372036854775808 ≤ low + far → low + far ≤ 9223372036854775807 →
    Calls Try.prog 21 #[.slice A n c, levelV pl pf] W fun e w' => e = .returned (.bool (anyAbove f (low + far) n)) ∧ Aside (Below w.heap.size w w')) := ⟨fun W pl pf low far hb h1 h2 h3 h4 h5 h6 => by
      refine (contains_above A n c f pl pf low far W hn hc hcm ?_ h1 h2 h3 h4 h5 h6).mono ?_
      · intro k hk
        obtain ⟨g, off, e1, e2⟩ := hR.cells hk
        obtain ⟨g', off', e1', hlt, _⟩ := hR k hk
        rw [e1] at e1'
        injection e1' with e1'
        injection e1' with e1' _
        exact ⟨g, off, e1, by rw [e1']; exact Nat.lt_of_lt_of_le hlt hb.size, e2 _ W (Nat.le_refl _) hb⟩
      · rintro e w' ⟨he, hb2⟩
        exact ⟨he, ⟨hb.trans (hb2.mono hb.size)⟩⟩⟩
  have HR := Aside.mk hR
  have HE := Aside.mk hE
  have hll := least_lt (flp f) n
  have hdef : levelF f n apart = if least (flp f) n < 0 then -1 else if anyAbove f ((f (least (flp f) n).toNat).er + max apart 0) n then least (flp f) n else -1 := rfl
  have HD := Aside.mk hdef
  clear hR hE hdef
  generalize least (flp f) n = B at *
  by_cases hB : B < 0
  · rw [HD.out, if_pos hB]
    go_enter Try.func12, Try.ntmps12
    go_wp2_with (go_at_call 15; refine HLU.out.mono ?_; rintro e w' ⟨rfl, hb⟩)
    go_ret
    exact ⟨rfl, hb⟩
  · obtain ⟨q, rfl⟩ := Int.eq_ofNat_of_zero_le (show 0 ≤ B by omega)
    rw [if_neg hB, Int.toNat_natCast] at HD
    have hqn : q < n := by omega
    have q1 : (q : Int) < (n : Int) := by omega
    have q2 : (0 : Int) ≤ (q : Int) := by omega
    obtain ⟨g, off, rfl, hcell⟩ := HR.out.cells hqn
    have hCL : ∀ W, Below w.heap.size w W → W.cell? ⟨g, off + q * 4, none⟩ = some (.int .i64 (f q).er) := fun W hb => (hcell _ W (Nat.le_refl _) hb).1
    have HCL := Aside.mk hCL
    obtain ⟨hE1, hE2⟩ := HE.out q hqn
    generalize (f q).er = low at *
    clear hcell hCL hll
    go_enter Try.func12, Try.ntmps12
    go_upto_region 4 with (go_at_call 15; refine HLU.out.mono ?_; rintro e w' ⟨rfl, hb⟩)
    have c0 := HCL.out _ hb
    obtain ⟨far, hfar⟩ : ∃ far, far = max apart 0 := ⟨_, rfl⟩
    rw [← hfar] at HD
    have hf0 : 0 ≤ far := by omega
    have hf1 : far ≤ 9223372036854775807 := by omega
    have HB := Aside.mk hb
    clear hb
    go_cut [6, 7, 16] (fun s6 s7 s16 wx => ∃ pl pf, s6 = .pointer (some ⟨pl, 0, none⟩) ∧ s7 = .pointer (some ⟨pf, 0, none⟩) ∧ wx.cell? ⟨pl, 0, none⟩ = some (.int .i64 low) ∧ wx.cell? ⟨pf, 0, none⟩ = some (.int .i64 far) ∧ pl < wx.heap.size ∧ pf < wx.heap.size ∧ Below w.heap.size w wx)
    case first =>
      by_cases ha : apart < 0
      · have hfar2 : far = 0 := by omega
        subst hfar2
        clear hfar
        go_wp2
        go_meet
        exact two_boxes low 0 HB.out
      · have hfar2 : far = apart := by omega
        subst hfar2
        clear hfar
        go_wp2
        go_meet
        exact two_boxes low far HB.out
    case rest =>
    obtain ⟨pl, pf, rfl, rfl, hcl, hcf, hpl, hpf, hbx⟩ := hcut
    clear c0 hfar
    apply_assumption
    by_cases hbig : 0 < low ∧ 9223372036854775807 - low < far
    · have hno : levelF f n apart = -1 := by
        rw [HD.out, anyAbove_none (fun i hi => by have := (HE.out i hi).2; omega)]; rfl
      have HNO := Aside.mk hno
      obtain ⟨hb1, hb2⟩ := hbig
      have e1 : IntKind.i64.wrap (9223372036854775807 - low) = 9223372036854775807 - low := by rw [IntKind.wrap_i64]; omega
      clear hno
      go_wp2
      go_ret
      exact ⟨by rw [HNO.out]; rfl, hbx⟩
    · have HCC := Aside.mk (HCA.out _ pl pf low far hbx hcl hcf hpl hpf (by omega) (by omega))
      have hsplit : decide (0 < low) = false ∨ (0 < low ∧ ¬ 9223372036854775807 - low < far ∧ IntKind.i64.wrap (9223372036854775807 - low) = 9223372036854775807 - low) := by
        by_cases h : 0 < low
        · exact .inr ⟨h, fun h2 => hbig ⟨h, h2⟩, by rw [IntKind.wrap_i64]; omega⟩
        · exact .inl (by simpa using h)
      cases hA : anyAbove f (low + far) n
      · rw [hA] at HD HCC
        have HDD := Aside.mk (HD.out.trans (if_neg (by simp)))
        clear hbig hA
        rcases hsplit with h | ⟨h1, h2, h3⟩
        all_goals
          go_wp2_with (go_at_call 21; refine HCC.out.mono ?_; rintro e w2 ⟨rfl, HB2⟩)
          go_ret
          exact ⟨by rw [HDD.out]; rfl, HB2.out⟩
      · rw [hA] at HD HCC
        have HDD := Aside.mk (HD.out.trans (if_pos rfl))
        clear hbig hA
        rcases hsplit with h | ⟨h1, h2, h3⟩
        all_goals
          go_wp2_with (go_at_call 21; refine HCC.out.mono ?_; rintro e w2 ⟨rfl, HB2⟩)
          go_ret
          exact ⟨by rw [HDD.out]; rfl, HB2.out⟩
end Go.Proofs.Ytaganococolodaa
