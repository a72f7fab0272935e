/-
  Inodes and names as values, and back; any texts read as both: the walk.
-/
import Derived.Test.YtmomphjhlbampaaDoorNodeValues
namespace Go.Proofs.YtmomphjhlbampaaDoor
open Go.RowKit

set_option maxRecDepth 20000 in
set_option maxHeartbeats 8000000 in
theorem nodeValues_no (g : Bool) (a b : Int) (s : ByteArray) (w : World) (hw : (Lit.int .i64 a).wf = true ∧ (Lit.int .i64 b).wf = true) (hs : s.size ≤ 140737488351232) (hnib : Nib w) (hok0 : (fitsB a && fitsB b) = false) :
    Calls Tryd.prog 8 #[.bool g, .agg #[.int .i64 a, .int .i64 b], .string s] w fun e w' => e = .returned (.bool true) ∧ Below w.heap.size w w' := by
  have ha : -9223372036854775808 ≤ a ∧ a ≤ 9223372036854775807 := by simpa [Lit.wf, IntKind.min, IntKind.max, IntKind.signed, IntKind.bits] using hw.1
  have hb : -9223372036854775808 ≤ b ∧ b ≤ 9223372036854775807 := by simpa [Lit.wf, IntKind.min, IntKind.max, IntKind.signed, IntKind.bits] using hw.2
  have HB2 := Aside.mk (ino_back g a b ha hb)
  have HE2 := Aside.mk (ent_back a ha)
  have HN := Aside.mk hnib
  have HS := Aside.mk hs
  have HOK0 := Aside.mk hok0
  clear hw ha hb hnib hs hok0
  have hzi := inodeB_size g a b
  have hze : (numsB [a]).size = 8 := by rw [numsB_size]; rfl
  have HZ := Aside.mk (And.intro hzi hze)
  clear hzi hze
  go_enter Tryd.func8, Tryd.ntmps8
  go_upto_region 1 with fail
  have HA : Aside ((w.alloc (.cells (A2 a b) 41)).heap[w.heap.size]? = some (.cells (A2 a b) 41 (0, 0)) ∧ Below w.heap.size w (w.alloc (.cells (A2 a b) 41))) := ⟨heap_alloc_new _ _, (Below.refl _ _).alloc (Nat.le_refl _) _⟩
  generalize w.alloc (.cells (A2 a b) 41) = w0 at *
  go_upto_region 3 with (go_at_call 9; refine (node_speaks _ (HN.out.below HA.out.2)).mono ?_; rintro e w1 ⟨rfl, hb1⟩)
  have HB : Aside (w1.heap[w.heap.size]? = some (.cells (A2 a b) 41 (0, 0)) ∧ Below w.heap.size w w1) := ⟨below_blk HA.out.1 hb1, below_trans HA.out.2 HA.out.2.size hb1⟩
  clear HA hb1
  obtain ⟨c0, c1⟩ := cells2 HB.out.1
  go_upto_region 4 with fail
  clear c0 c1
  have HD : Aside ((w1.alloc (.cells (inoC g a b) 55)).heap[w.heap.size]? = some (.cells (A2 a b) 41 (0, 0)) ∧ (w1.alloc (.cells (inoC g a b) 55)).heap[w1.heap.size]? = some (.cells (inoC g a b) 55 (0, 0)) ∧ Below w.heap.size w (w1.alloc (.cells (inoC g a b) 55))) :=
    ⟨row_alloc HB.out.1 _, heap_alloc_new _ _, HB.out.2.alloc HB.out.2.size _⟩
  clear HB
  generalize w1.alloc (.cells (inoC g a b) 55) = w2 at *
  generalize w1.heap.size = p2 at *
  obtain ⟨c0, c1, c2⟩ := cellsI HD.out.2.1
  go_upto_region 5 with (go_at_call 20; refine (put_inode g a b _).mono ?_; rintro e w3 ⟨rfl, hb3⟩)
  have HE : Aside (w3.heap[w.heap.size]? = some (.cells (A2 a b) 41 (0, 0)) ∧ w3.heap[p2]? = some (.cells (inoC g a b) 55 (0, 0)) ∧ Below w.heap.size w w3) := ⟨below_blk HD.out.1 hb3, below_blk HD.out.2.1 hb3, below_trans HD.out.2.2 HD.out.2.2.size hb3⟩
  clear HD hb3 c0 c1 c2
  obtain ⟨c0, c1⟩ := cells2 HE.out.1
  go_upto_region 6 with (go_at_call 21; refine (put_entry a _).mono ?_; rintro e w4 ⟨rfl, hb4⟩)
  have HF : Aside (w4.heap[w.heap.size]? = some (.cells (A2 a b) 41 (0, 0)) ∧ w4.heap[p2]? = some (.cells (inoC g a b) 55 (0, 0)) ∧ Below w.heap.size w w4) := ⟨below_blk HE.out.1 hb4, below_blk HE.out.2.1 hb4, below_trans HE.out.2.2 HE.out.2.2.size hb4⟩
  clear HE hb4 c0 c1
  obtain ⟨c0, c1⟩ := cells2 HF.out.1
  go_cut [10] (fun s10 wx => s10 = .bool (fitsB a && fitsB b) ∧ w4 = wx)
  case first =>
    cases hfa : fitsB a <;> cases hfb : fitsB b
    all_goals
      go_wp2_with (go_at_call 16; refine (ref_fits _ _).mono ?_; rintro e w5 ⟨rfl, rfl⟩)
      go_meet
      exact ⟨by rw [hfa, hfb]; rfl, rfl⟩
  case rest =>
    obtain ⟨rfl, rfl⟩ := hcut
    clear c0 c1
    obtain ⟨bg, ba, bb, hbk, hbk0, hbk1⟩ : ∃ (bg : Bool) (ba bb : Int), inoR (inodeB g a b) = .tuple #[inoV bg ba bb, .bool (fitsB a && fitsB b)] ∧ ((fitsB a && fitsB b) = false → bg = false ∧ ba = 0 ∧ bb = 0) ∧ ((fitsB a && fitsB b) = true → bg = g ∧ ba = a ∧ bb = b) := by
      rw [HB2.out]
      cases fitsB a && fitsB b
      · exact ⟨false, 0, 0, rfl, fun _ => ⟨rfl, rfl, rfl⟩, fun h => by cases h⟩
      · exact ⟨g, a, b, rfl, fun h => (by cases h), fun _ => ⟨rfl, rfl, rfl⟩⟩
    have HBK := Aside.mk hbk
    have HBK0 := Aside.mk hbk0
    have HBK1 := Aside.mk hbk1
    clear hbk hbk0 hbk1 HB2
    have hz17 : (inodeB g a b).size = 17 := HZ.out.1
    have hz8 : (numsB [a]).size = 8 := HZ.out.2
    have HP : Aside (∃ P0, inodeB g a b = P0) := ⟨_, rfl⟩
    have hino : ∀ W, Calls Tryd.prog 22 #[.string (inodeB g a b)] W fun e w' => e = .returned (.tuple #[inoV bg ba bb, .bool (fitsB a && fitsB b)]) ∧ Below W.heap.size W w' := fun W => by
      have := get_inode (inodeB g a b) W
      rwa [HBK.out] at this
    have hent : ∀ W, Calls Tryd.prog 23 #[.string (numsB [a])] W fun e w' => e = .returned (.tuple #[.int .i64 (bif fitsB a then a else 0), .bool (fitsB a)]) ∧ Below W.heap.size W w' := fun W => by
      have := get_entry (numsB [a]) W
      rwa [HE2.out.1, HE2.out.2] at this
    have HINO := Aside.mk hino
    have HENT := Aside.mk hent
    have hfit : ∀ W, Calls Tryd.prog 16 #[.int .i64 a] W fun e w' => e = .returned (.bool (fitsB a)) ∧ W = w' := fun W => ref_fits a W
    have HFIT := Aside.mk hfit
    clear hino hent HE2 HBK HZ HP hfit
    generalize hfa : fitsB a = fa at *
    generalize hfb : fitsB b = fb at *
    have HFA := Aside.mk hfa
    have HFB := Aside.mk hfb
    clear hfa hfb
    obtain ⟨n13, hn13⟩ : ∃ n13, n13 = (bif fa then a else 0) := ⟨_, rfl⟩
    have HN13 := Aside.mk hn13
    rw [← hn13] at HENT
    clear hn13
    generalize hok : (fa && fb) = ok at *
    have HOK := Aside.mk hok
    clear hok
    go_upto_region 8 with (go_at_call 22; refine (HINO.out _).mono ?_; rintro e w5 ⟨rfl, hb5⟩)
    have HG : Aside ((w5.alloc (.cells (inoC bg ba bb) 55)).heap[w.heap.size]? = some (.cells (A2 a b) 41 (0, 0)) ∧ (w5.alloc (.cells (inoC bg ba bb) 55)).heap[p2]? = some (.cells (inoC g a b) 55 (0, 0)) ∧ (w5.alloc (.cells (inoC bg ba bb) 55)).heap[w5.heap.size]? = some (.cells (inoC bg ba bb) 55 (0, 0)) ∧ Below w.heap.size w (w5.alloc (.cells (inoC bg ba bb) 55))) :=
      ⟨row_alloc (below_blk HF.out.1 hb5) _, row_alloc (below_blk HF.out.2.1 hb5) _, heap_alloc_new _ _, (below_trans HF.out.2.2 HF.out.2.2.size hb5).alloc (Nat.le_trans HF.out.2.2.size hb5.size) _⟩
    generalize w5.alloc (.cells (inoC bg ba bb) 55) = w6 at *
    generalize w5.heap.size = p5 at *
    clear HF hb5
    go_upto_region 9 with (go_at_call 23; refine (HENT.out _).mono ?_; rintro e w7 ⟨rfl, hb7⟩)
    have HH : Aside (w7.heap[w.heap.size]? = some (.cells (A2 a b) 41 (0, 0)) ∧ w7.heap[p2]? = some (.cells (inoC g a b) 55 (0, 0)) ∧ w7.heap[p5]? = some (.cells (inoC bg ba bb) 55 (0, 0)) ∧ Below w.heap.size w w7) :=
      ⟨below_blk HG.out.1 hb7, below_blk HG.out.2.1 hb7, below_blk HG.out.2.2.1 hb7, below_trans HG.out.2.2.2 HG.out.2.2.2.size hb7⟩
    clear HG hb7 HINO HENT
    go_cut [105] (fun s105 wx => s105 = .bool false ∧ w7 = wx)
    case first =>
      obtain ⟨c0, c1⟩ := cells2 HH.out.1
      obtain ⟨d0, d1, d2⟩ := cellsI HH.out.2.1
      obtain ⟨e0, e1, e2⟩ := cellsI HH.out.2.2.1
      have HO13 := HN13
      have HOK2 := HOK
      cases fa <;> cases fb
      all_goals (first | exact absurd (HOK.out.trans HOK0.out) (by decide) | skip)
      all_goals
        obtain ⟨hok2⟩ := HOK2
        first
        | obtain rfl : false = ok := hok2
        | obtain rfl : true = ok := hok2
        first
        | obtain ⟨rfl, rfl, rfl⟩ := HBK0.out rfl
        | obtain ⟨rfl, rfl, rfl⟩ := HBK1.out rfl
        obtain ⟨h13⟩ := HO13
        clear HBK0 HBK1 HN13
        subst h13
        go_wp2_with (go_at_call 16; refine (HFIT.out _).mono ?_; rintro e w8 ⟨rfl, rfl⟩)
        all_goals
          go_meet
          exact ⟨by first | rfl | simp, rfl⟩
    case rest =>
      obtain ⟨rfl, rfl⟩ := hcut
      obtain rfl : false = ok := HOK0.out.symm
      have HT : Aside (Below w.heap.size w w7) := ⟨HH.out.2.2.2⟩
      clear HH HBK0 HBK1 HN13 HOK HOK0 HFA HFB HFIT
      generalize w7 = W at *
      obtain ⟨jg, ja, jb, hj, hjs⟩ := ino_says s
      have HJ := Aside.mk hj
      have HJS := Aside.mk hjs
      have hes := ent_writ s
      have HES := Aside.mk hes
      have hok1 : inoOk s = (decide (s.size = 17) && (decide ((byte0 s).toNat ≤ 1) && (fitsB (numAt s 1) && fitsB (numAt s 9)))) := rfl
      have hok2 : entOk s = (decide (s.size = 8) && fitsB (numAt s 0)) := rfl
      have HO1 := Aside.mk hok1
      have HO2 := Aside.mk hok2
      clear hj hjs hes hok1 hok2
      generalize hyes : inoOk s = yes at *
      generalize htoo : entOk s = too at *
      generalize hk : entN s = kk at *
      have HENT2 : Aside (∀ W, Calls Tryd.prog 23 #[.string s] W fun e w' => e = .returned (.tuple #[.int .i64 kk, .bool too]) ∧ Below W.heap.size W w') := ⟨fun W => by rw [← htoo, ← hk]; exact get_entry s W⟩
      clear hyes htoo hk
      go_upto_region 18 with (go_at_call 22; refine (get_inode s _).mono ?_; rw [HJ.out]; rintro e w9 ⟨rfl, hb9⟩)
      have HV : Aside ((w9.alloc (.cells (inoC jg ja jb) 55)).heap[w9.heap.size]? = some (.cells (inoC jg ja jb) 55 (0, 0)) ∧ Below w.heap.size w (w9.alloc (.cells (inoC jg ja jb) 55))) := ⟨heap_alloc_new _ _, (below_trans HT.out HT.out.size hb9).alloc (Nat.le_trans HT.out.size hb9.size) _⟩
      generalize w9.alloc (.cells (inoC jg ja jb) 55) = wx at *
      generalize w9.heap.size = px at *
      clear HT hb9 HJ
      go_upto_region 19 with (go_at_call 23; refine (HENT2.out _).mono ?_; rintro e wy ⟨rfl, hby⟩)
      have HU : Aside (wy.heap[px]? = some (.cells (inoC jg ja jb) 55 (0, 0)) ∧ Below w.heap.size w wy) := ⟨below_blk HV.out.1 hby, below_trans HV.out.2 HV.out.2.size hby⟩
      clear HV hby HENT2
      obtain ⟨k0, k1, k2⟩ := cellsI HU.out.1
      by_cases h17 : s.size = 17
      · have h17i : (s.size : Int) = 17 := by omega
        obtain rfl : false = too := by rw [HO2.out, decide_eq_false (by omega), Bool.false_and]
        have hz0 : 0 < s.size := by omega
        have hb0 : (s[0]'hz0).toNat = (byte0 s).toNat := by rw [byte_of rfl]; rfl
        obtain ⟨r1, hr1, hr1a, hr1b⟩ := num_says s 1 9 (by omega) (by omega)
        obtain ⟨r9, hr9, hr9a, hr9b⟩ := num_says s 9 s.size (by omega) (by omega)
        have hy := HO1.out
        rw [decide_eq_true h17, Bool.true_and] at hy
        have HY := Aside.mk hy
        have HR1 := Aside.mk hr1
        have HR9 := Aside.mk hr9
        have HRA := Aside.mk (And.intro hr1a (And.intro hr1b (And.intro hr9a hr9b)))
        have hs17 : 17 ≤ s.size := by omega
        have hs17' : (17 : Int) ≤ s.size := by omega
        clear hy hr1 hr9 hr1a hr1b hr9a hr9b HO1 HO2 h17
        by_cases hf0 : (byte0 s).toNat ≤ 1
        · have hf0' : ((byte0 s).toNat : Int) ≤ 1 := by omega
          have hy2 := HY.out
          rw [decide_eq_true hf0, Bool.true_and] at hy2
          have HY2 := Aside.mk hy2
          clear hy2 HY hf0
          generalize (byte0 s).toNat = f0 at *
          generalize hq1 : fitsB (numAt s 1) = q1 at *
          generalize hq9 : fitsB (numAt s 9) = q9 at *
          clear hq1 hq9
          cases q1
          · have hr := HRA.out.2.1 rfl
            obtain rfl : false = yes := HY2.out.symm
            clear HRA HY2
            go_wp2_with (first | (go_at_call 24; refine (HR1.out _).mono ?_; rintro e wn ⟨rfl, rfl⟩))
            go_ret
            exact ⟨by first | rfl | (simp; done) | (simp; omega), HU.out.2⟩
          · have hr := HRA.out.1 rfl
            cases q9
            · have hr' := HRA.out.2.2.2 rfl
              obtain rfl : false = yes := HY2.out.symm
              clear HRA HY2
              go_wp2_with (first | (go_at_call 24; first | (refine (HR1.out _).mono ?_; rintro e wn ⟨rfl, rfl⟩; clear HR1) | (refine (HR9.out _).mono ?_; rintro e wn ⟨rfl, rfl⟩)))
              go_ret
              exact ⟨by first | rfl | (simp; done) | (simp; omega), HU.out.2⟩
            · have hr' := HRA.out.2.2.1 rfl
              obtain rfl : true = yes := HY2.out.symm
              have hse := HJS.out rfl
              have HSE := Aside.mk hse
              clear HRA HY2 hse
              go_wp2_with (first | (go_at_call 24; first | (refine (HR1.out _).mono ?_; rintro e wn ⟨rfl, rfl⟩; clear HR1) | (refine (HR9.out _).mono ?_; rintro e wn ⟨rfl, rfl⟩)) | (go_at_call 20; refine (put_inode jg ja jb _).mono ?_; rw [HSE.out]; rintro e wp ⟨rfl, hbp⟩))
              go_ret
              exact ⟨by first | rfl | (simp; done) | (simp; omega), below_trans HU.out.2 HU.out.2.size hbp⟩
        · have hf0' : (1 : Int) < (byte0 s).toNat := by omega
          have hy2 := HY.out
          rw [decide_eq_false hf0, Bool.false_and] at hy2
          obtain rfl : false = yes := hy2.symm
          clear HY hf0 hy2
          generalize (byte0 s).toNat = f0 at *
          go_wp2
          go_ret
          exact ⟨by first | rfl | (simp; done) | (simp; omega), HU.out.2⟩
      · have h17i : ((s.size : Int) == 17) = false := by simp; omega
        obtain rfl : false = yes := by rw [HO1.out, decide_eq_false h17, Bool.false_and]
        by_cases h8 : s.size = 8
        · have h8i : (s.size : Int) = 8 := by omega
          obtain ⟨r0, hr0, hr0a, hr0b⟩ := num_says s 0 s.size (by omega) (by omega)
          have hwh : s.extract 0 s.size = s := bytes_ext (by rw [extract_list2, List.drop_zero]; exact List.take_of_length_le (by rw [data_len]; omega))
          rw [hwh] at hr0
          have hy := HO2.out
          rw [decide_eq_true h8, Bool.true_and] at hy
          have HY := Aside.mk hy
          have HR0 := Aside.mk hr0
          have HRA := Aside.mk (And.intro hr0a hr0b)
          clear hy hr0 hr0a hr0b HO1 HO2 h17 h8 hwh
          generalize hq0 : fitsB (numAt s 0) = q0 at *
          clear hq0
          cases q0
          · have hr := HRA.out.2 rfl
            obtain rfl : false = too := HY.out.symm
            clear HRA HY
            go_wp2_with (first | (go_at_call 24; refine (HR0.out _).mono ?_; rintro e wn ⟨rfl, rfl⟩))
            go_ret
            exact ⟨by first | rfl | (simp; done) | (simp; omega), HU.out.2⟩
          · have hr := HRA.out.1 rfl
            obtain rfl : true = too := HY.out.symm
            have hse := HES.out rfl
            have HSE := Aside.mk hse
            clear HRA HY hse
            go_wp2_with (first | (go_at_call 24; refine (HR0.out _).mono ?_; rintro e wn ⟨rfl, rfl⟩) | (go_at_call 21; refine (put_entry kk _).mono ?_; rw [HSE.out]; rintro e wp ⟨rfl, hbp⟩))
            go_ret
            exact ⟨by first | rfl | (simp; done) | (simp; omega), below_trans HU.out.2 HU.out.2.size hbp⟩
        · have h8i : ((s.size : Int) == 8) = false := by simp; omega
          have h8j : ¬ (s.size : Int) = 8 := by omega
          have h17j : ¬ (s.size : Int) = 17 := by omega
          obtain rfl : false = too := by rw [HO2.out, decide_eq_false h8, Bool.false_and]
          clear HO1 HO2 h17 h8
          go_wp2
          go_ret
          exact ⟨by first | rfl | (simp; done) | (simp; omega), HU.out.2⟩

end Go.Proofs.YtmomphjhlbampaaDoor
