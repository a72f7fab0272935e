/-
  Inodes and names as values: the walk, of a directory.
-/
import Derived.Test.YtmomphjhlbampaaDoorNodeValues2
import Derived.Test.YtmomphjhlbampaaDoorNodeValues3
namespace Go.Proofs.YtmomphjhlbampaaDoor
open Go.RowKit

set_option maxRecDepth 20000 in
set_option maxHeartbeats 8000000 in
theorem nodeValues_yt (g : Bool) (a b : Int) (s : ByteArray) (w : World) (hw : (Lit.int .i64 a).wf = true ∧ (Lit.int .i64 b).wf = true) (hs : s.size ≤ 140737488351232) (hnib : Nib w) (hok0 : (fitsB a && fitsB b) = true) (hg : g = true) :
    Calls Tryd.prog 8 #[.bool g, .agg #[.int .i64 a, .int .i64 b], .string s] w fun e w' => e = .returned (.bool true) ∧ Below w.heap.size w w' := by
  have ha : -9223372036854775808 ≤ a ∧ a ≤ 9223372036854775807 := by simpa [Lit.wf, IntKind.min, IntKind.max, IntKind.signed, IntKind.bits] using hw.1
  have hb : -9223372036854775808 ≤ b ∧ b ≤ 9223372036854775807 := by simpa [Lit.wf, IntKind.min, IntKind.max, IntKind.signed, IntKind.bits] using hw.2
  have HB2 := Aside.mk (ino_back g a b ha hb)
  have HE2 := Aside.mk (ent_back a ha)
  have HN := Aside.mk hnib
  have HS := Aside.mk hs
  have HOK0 := Aside.mk hok0
  have HG0 := Aside.mk hg
  clear hw ha hb hnib hs hok0 hg
  have hzi := inodeB_size g a b
  have hze : (numsB [a]).size = 8 := by rw [numsB_size]; rfl
  have HZ := Aside.mk (And.intro hzi hze)
  clear hzi hze
  go_enter Tryd.func8, Tryd.ntmps8
  go_upto_region 1 with fail
  have HA : Aside ((w.alloc (.cells (A2 a b) 41)).heap[w.heap.size]? = some (.cells (A2 a b) 41 (0, 0)) ∧ Below w.heap.size w (w.alloc (.cells (A2 a b) 41))) := ⟨heap_alloc_new _ _, (Below.refl _ _).alloc (Nat.le_refl _) _⟩
  generalize w.alloc (.cells (A2 a b) 41) = w0 at *
  go_upto_region 3 with (go_at_call 9; refine (node_speaks _ (HN.out.below HA.out.2)).mono ?_; rintro e w1 ⟨rfl, hb1⟩)
  have HB : Aside (w1.heap[w.heap.size]? = some (.cells (A2 a b) 41 (0, 0)) ∧ Below w.heap.size w w1) := ⟨below_blk HA.out.1 hb1, below_trans HA.out.2 HA.out.2.size hb1⟩
  clear HA hb1
  obtain ⟨c0, c1⟩ := cells2 HB.out.1
  go_upto_region 4 with fail
  clear c0 c1
  have HD : Aside ((w1.alloc (.cells (inoC g a b) 55)).heap[w.heap.size]? = some (.cells (A2 a b) 41 (0, 0)) ∧ (w1.alloc (.cells (inoC g a b) 55)).heap[w1.heap.size]? = some (.cells (inoC g a b) 55 (0, 0)) ∧ Below w.heap.size w (w1.alloc (.cells (inoC g a b) 55))) :=
    ⟨row_alloc HB.out.1 _, heap_alloc_new _ _, HB.out.2.alloc HB.out.2.size _⟩
  clear HB
  generalize w1.alloc (.cells (inoC g a b) 55) = w2 at *
  generalize w1.heap.size = p2 at *
  obtain ⟨c0, c1, c2⟩ := cellsI HD.out.2.1
  go_upto_region 5 with (go_at_call 20; refine (put_inode g a b _).mono ?_; rintro e w3 ⟨rfl, hb3⟩)
  have HE : Aside (w3.heap[w.heap.size]? = some (.cells (A2 a b) 41 (0, 0)) ∧ w3.heap[p2]? = some (.cells (inoC g a b) 55 (0, 0)) ∧ Below w.heap.size w w3) := ⟨below_blk HD.out.1 hb3, below_blk HD.out.2.1 hb3, below_trans HD.out.2.2 HD.out.2.2.size hb3⟩
  clear HD hb3 c0 c1 c2
  obtain ⟨c0, c1⟩ := cells2 HE.out.1
  go_upto_region 6 with (go_at_call 21; refine (put_entry a _).mono ?_; rintro e w4 ⟨rfl, hb4⟩)
  have HF : Aside (w4.heap[w.heap.size]? = some (.cells (A2 a b) 41 (0, 0)) ∧ w4.heap[p2]? = some (.cells (inoC g a b) 55 (0, 0)) ∧ Below w.heap.size w w4) := ⟨below_blk HE.out.1 hb4, below_blk HE.out.2.1 hb4, below_trans HE.out.2.2 HE.out.2.2.size hb4⟩
  clear HE hb4 c0 c1
  obtain ⟨c0, c1⟩ := cells2 HF.out.1
  go_cut [10] (fun s10 wx => s10 = .bool (fitsB a && fitsB b) ∧ w4 = wx)
  case first =>
    cases hfa : fitsB a <;> cases hfb : fitsB b
    all_goals
      go_wp2_with (go_at_call 16; refine (ref_fits _ _).mono ?_; rintro e w5 ⟨rfl, rfl⟩)
      go_meet
      exact ⟨by rw [hfa, hfb]; rfl, rfl⟩
  case rest =>
    obtain ⟨rfl, rfl⟩ := hcut
    clear c0 c1
    obtain ⟨bg, ba, bb, hbk, hbk0, hbk1⟩ : ∃ (bg : Bool) (ba bb : Int), inoR (inodeB g a b) = .tuple #[inoV bg ba bb, .bool (fitsB a && fitsB b)] ∧ ((fitsB a && fitsB b) = false → bg = false ∧ ba = 0 ∧ bb = 0) ∧ ((fitsB a && fitsB b) = true → bg = g ∧ ba = a ∧ bb = b) := by
      rw [HB2.out]
      cases fitsB a && fitsB b
      · exact ⟨false, 0, 0, rfl, fun _ => ⟨rfl, rfl, rfl⟩, fun h => by cases h⟩
      · exact ⟨g, a, b, rfl, fun h => (by cases h), fun _ => ⟨rfl, rfl, rfl⟩⟩
    have HBK := Aside.mk hbk
    have HBK0 := Aside.mk hbk0
    have HBK1 := Aside.mk hbk1
    clear hbk hbk0 hbk1 HB2
    have hz17 : (inodeB g a b).size = 17 := HZ.out.1
    have hz8 : (numsB [a]).size = 8 := HZ.out.2
    have HP : Aside (∃ P0, inodeB g a b = P0) := ⟨_, rfl⟩
    have hino : ∀ W, Calls Tryd.prog 22 #[.string (inodeB g a b)] W fun e w' => e = .returned (.tuple #[inoV bg ba bb, .bool (fitsB a && fitsB b)]) ∧ Below W.heap.size W w' := fun W => by
      have := get_inode (inodeB g a b) W
      rwa [HBK.out] at this
    have hent : ∀ W, Calls Tryd.prog 23 #[.string (numsB [a])] W fun e w' => e = .returned (.tuple #[.int .i64 (bif fitsB a then a else 0), .bool (fitsB a)]) ∧ Below W.heap.size W w' := fun W => by
      have := get_entry (numsB [a]) W
      rwa [HE2.out.1, HE2.out.2] at this
    have HINO := Aside.mk hino
    have HENT := Aside.mk hent
    have hfit : ∀ W, Calls Tryd.prog 16 #[.int .i64 a] W fun e w' => e = .returned (.bool (fitsB a)) ∧ W = w' := fun W => ref_fits a W
    have HFIT := Aside.mk hfit
    clear hino hent HE2 HBK HZ HP hfit
    generalize hfa : fitsB a = fa at *
    generalize hfb : fitsB b = fb at *
    have HFA := Aside.mk hfa
    have HFB := Aside.mk hfb
    clear hfa hfb
    obtain ⟨n13, hn13⟩ : ∃ n13, n13 = (bif fa then a else 0) := ⟨_, rfl⟩
    have HN13 := Aside.mk hn13
    rw [← hn13] at HENT
    clear hn13
    generalize hok : (fa && fb) = ok at *
    have HOK := Aside.mk hok
    clear hok
    go_upto_region 8 with (go_at_call 22; refine (HINO.out _).mono ?_; rintro e w5 ⟨rfl, hb5⟩)
    have HG : Aside ((w5.alloc (.cells (inoC bg ba bb) 55)).heap[w.heap.size]? = some (.cells (A2 a b) 41 (0, 0)) ∧ (w5.alloc (.cells (inoC bg ba bb) 55)).heap[p2]? = some (.cells (inoC g a b) 55 (0, 0)) ∧ (w5.alloc (.cells (inoC bg ba bb) 55)).heap[w5.heap.size]? = some (.cells (inoC bg ba bb) 55 (0, 0)) ∧ Below w.heap.size w (w5.alloc (.cells (inoC bg ba bb) 55))) :=
      ⟨row_alloc (below_blk HF.out.1 hb5) _, row_alloc (below_blk HF.out.2.1 hb5) _, heap_alloc_new _ _, (below_trans HF.out.2.2 HF.out.2.2.size hb5).alloc (Nat.le_trans HF.out.2.2.size hb5.size) _⟩
    generalize w5.alloc (.cells (inoC bg ba bb) 55) = w6 at *
    generalize w5.heap.size = p5 at *
    clear HF hb5
    go_upto_region 9 with (go_at_call 23; refine (HENT.out _).mono ?_; rintro e w7 ⟨rfl, hb7⟩)
    have HH : Aside (w7.heap[w.heap.size]? = some (.cells (A2 a b) 41 (0, 0)) ∧ w7.heap[p2]? = some (.cells (inoC g a b) 55 (0, 0)) ∧ w7.heap[p5]? = some (.cells (inoC bg ba bb) 55 (0, 0)) ∧ Below w.heap.size w w7) :=
      ⟨below_blk HG.out.1 hb7, below_blk HG.out.2.1 hb7, below_blk HG.out.2.2.1 hb7, below_trans HG.out.2.2.2 HG.out.2.2.2.size hb7⟩
    clear HG hb7 HINO HENT
    go_cut [105] (fun s105 wx => s105 = .bool false ∧ w7 = wx)
    case first =>
      obtain ⟨c0, c1⟩ := cells2 HH.out.1
      obtain ⟨d0, d1, d2⟩ := cellsI HH.out.2.1
      obtain ⟨e0, e1, e2⟩ := cellsI HH.out.2.2.1
      have HO13 := HN13
      have HOK2 := HOK
      cases fa <;> cases fb
      all_goals (first | exact absurd (HOK.out.trans HOK0.out) (by decide) | skip)
      all_goals
        obtain ⟨hok2⟩ := HOK2
        first
        | obtain rfl : false = ok := hok2
        | obtain rfl : true = ok := hok2
        first
        | obtain ⟨rfl, rfl, rfl⟩ := HBK0.out rfl
        | obtain ⟨rfl, rfl, rfl⟩ := HBK1.out rfl
        obtain ⟨h13⟩ := HO13
        clear HBK0 HBK1 HN13
        subst h13
        go_wp2_with (go_at_call 16; refine (HFIT.out _).mono ?_; rintro e w8 ⟨rfl, rfl⟩)
        all_goals
          go_meet
          exact ⟨by first | rfl | simp, rfl⟩
    case rest =>
      obtain ⟨rfl, rfl⟩ := hcut
      obtain rfl : true = ok := HOK0.out.symm
      have hff : fa = true ∧ fb = true := by have := HOK.out; simpa using this
      obtain ⟨rfl, rfl⟩ := hff
      obtain rfl : g = true := HG0.out
      have HFI : Aside ((0 ≤ a ∧ a ≤ 1099511627776) ∧ (0 ≤ b ∧ b ≤ 1099511627776)) := by
        have h1 := HFA.out
        have h2 := HFB.out
        simp only [fitsB, decide_eq_true_eq] at h1 h2
        exact ⟨h1, h2⟩
      have HBA : Aside (be 8 a.toNat = numsB [a] ∧ be 8 b.toNat = numsB [b]) := ⟨be_fits HFA.out, be_fits HFB.out⟩
      have HTX : ∀ g, Aside (inodeB g a b = byteB (flagB g) ++ numsB [a] ++ numsB [b]) := fun g => ⟨by
        apply bytes_ext; unfold inodeB; simp only [cat_list]; simp [numsB, numsL]⟩
      have HGL : Aside (w.heap.size < w7.heap.size) := ⟨heap_lt HH.out.1⟩
      clear HBK0 HBK1
      go_upto_region 15 with fail
      refine wp_region_relG (by kernel_rfl) (by kernel_rfl) (rel_small (by kernel_rfl)) (tailV [(108, .val (.string (inodeB true a b))), (109, .val (.string (⟨#[1]⟩ : ByteArray))), (110, .val (.pointer (some ⟨w.heap.size, 0, none⟩))), (111, .val (.int .i64 a)), (112, .val (.string (numsB [a]))), (113, .val (.string ((⟨#[1]⟩ : ByteArray) ++ numsB [a]))), (114, .val (.pointer (some ⟨w.heap.size, 1, none⟩))), (115, .val (.int .i64 b)), (116, .val (.string (numsB [b]))), (117, .val (.string ((⟨#[1]⟩ : ByteArray) ++ numsB [a] ++ numsB [b]))), (118, .val (.bool false)), (119, .val (.bool false)), (120, .val (.string (numsB [a]))), (121, .val (.pointer (some ⟨w.heap.size, 0, none⟩))), (122, .val (.int .i64 a)), (123, .val (.string (numsB [a]))), (124, .val (.bool false)), (125, .val (.bool false))]) (tailV_stable _) ⟨?_, ?_, ?_, ?_, ?_, ?_, ?_, ?_, ?_, ?_, ?_, ?_, ?_, ?_, ?_, ?_, ?_, ?_, trivial⟩ ?_
      · -- 108 := move t8
        intro f W hW hold hd K hK
        refine .inl ⟨wanted_free rfl _, ?_⟩
        dsimp only [bare]
        have ze8 : f 8 = .string (inodeB true a b) := hold 8 rfl
        have HK : ∀ v W', Below W.heap.size W W' → tailV _ 108 v W' → K { tmps := #[f 0, f 1, f 2, f 3, f 4, f 5, f 6, f 7, f 8, f 9, f 10, f 11, f 12, f 13, f 14, f 15, f 16, f 17, f 18, f 19, f 20, f 21, f 22, f 23, f 24, f 25, f 26, f 27, f 28, f 29, f 30, f 31, f 32, f 33, f 34, f 35, f 36, f 37, f 38, f 39, f 40, f 41, f 42, f 43, f 44, f 45, f 46, f 47, f 48, f 49, f 50, f 51, f 52, f 53, f 54, f 55, f 56, f 57, f 58, f 59, f 60, f 61, f 62, f 63, f 64, f 65, f 66, f 67, f 68, f 69, f 70, f 71, f 72, f 73, f 74, f 75, f 76, f 77, f 78, f 79, f 80, f 81, f 82, f 83, f 84, f 85, f 86, f 87, f 88, f 89, f 90, f 91, f 92, f 93, f 94, f 95, f 96, f 97, f 98, f 99, f 100, f 101, f 102, f 103, f 104, f 105, f 106, f 107, v, f 109, f 110, f 111, f 112, f 113, f 114, f 115, f 116, f 117, f 118, f 119, f 120, f 121, f 122, f 123, f 124, f 125, f 126, f 127, f 128, f 129, f 130, f 131, f 132, f 133, f 134, f 135, f 136, f 137, f 138, f 139, f 140, f 141, f 142, f 143, f 144, f 145, f 146, f 147, f 148, f 149, f 150, f 151, f 152, f 153, f 154, f 155, f 156, f 157, f 158, f 159, f 160, f 161, f 162, f 163, f 164, f 165, f 166, f 167, f 168, f 169, f 170, f 171, f 172, f 173, f 174, f 175, f 176, f 177, f 178, f 179, f 180, f 181, f 182, f 183, f 184, f 185, f 186, f 187, f 188, f 189, f 190], defers := [] } W' := hK
        change wpList _ #[_] _ [_] { tmps := #[f 0, f 1, f 2, f 3, f 4, f 5, f 6, f 7, f 8, f 9, f 10, f 11, f 12, f 13, f 14, f 15, f 16, f 17, f 18, f 19, f 20, f 21, f 22, f 23, f 24, f 25, f 26, f 27, f 28, f 29, f 30, f 31, f 32, f 33, f 34, f 35, f 36, f 37, f 38, f 39, f 40, f 41, f 42, f 43, f 44, f 45, f 46, f 47, f 48, f 49, f 50, f 51, f 52, f 53, f 54, f 55, f 56, f 57, f 58, f 59, f 60, f 61, f 62, f 63, f 64, f 65, f 66, f 67, f 68, f 69, f 70, f 71, f 72, f 73, f 74, f 75, f 76, f 77, f 78, f 79, f 80, f 81, f 82, f 83, f 84, f 85, f 86, f 87, f 88, f 89, f 90, f 91, f 92, f 93, f 94, f 95, f 96, f 97, f 98, f 99, f 100, f 101, f 102, f 103, f 104, f 105, f 106, f 107, f 108, f 109, f 110, f 111, f 112, f 113, f 114, f 115, f 116, f 117, f 118, f 119, f 120, f 121, f 122, f 123, f 124, f 125, f 126, f 127, f 128, f 129, f 130, f 131, f 132, f 133, f 134, f 135, f 136, f 137, f 138, f 139, f 140, f 141, f 142, f 143, f 144, f 145, f 146, f 147, f 148, f 149, f 150, f 151, f 152, f 153, f 154, f 155, f 156, f 157, f 158, f 159, f 160, f 161, f 162, f 163, f 164, f 165, f 166, f 167, f 168, f 169, f 170, f 171, f 172, f 173, f 174, f 175, f 176, f 177, f 178, f 179, f 180, f 181, f 182, f 183, f 184, f 185, f 186, f 187, f 188, f 189, f 190], defers := [] } W
        clear hK hd hold
        simp only [ze8] at HK ⊢
        clear ze8
        have HK := Aside.mk HK
        go_wp2
        exact HK.out _ _ (Below.refl _ _) rfl
      · -- 109 := move t15
        intro f W hW hold hd K hK
        refine .inl ⟨wanted_free rfl _, ?_⟩
        dsimp only [bare]
        have ze15 : f 15 = .string (⟨#[1]⟩ : ByteArray) := hold 15 rfl
        have HK : ∀ v W', Below W.heap.size W W' → tailV _ 109 v W' → K { tmps := #[f 0, f 1, f 2, f 3, f 4, f 5, f 6, f 7, f 8, f 9, f 10, f 11, f 12, f 13, f 14, f 15, f 16, f 17, f 18, f 19, f 20, f 21, f 22, f 23, f 24, f 25, f 26, f 27, f 28, f 29, f 30, f 31, f 32, f 33, f 34, f 35, f 36, f 37, f 38, f 39, f 40, f 41, f 42, f 43, f 44, f 45, f 46, f 47, f 48, f 49, f 50, f 51, f 52, f 53, f 54, f 55, f 56, f 57, f 58, f 59, f 60, f 61, f 62, f 63, f 64, f 65, f 66, f 67, f 68, f 69, f 70, f 71, f 72, f 73, f 74, f 75, f 76, f 77, f 78, f 79, f 80, f 81, f 82, f 83, f 84, f 85, f 86, f 87, f 88, f 89, f 90, f 91, f 92, f 93, f 94, f 95, f 96, f 97, f 98, f 99, f 100, f 101, f 102, f 103, f 104, f 105, f 106, f 107, f 108, v, f 110, f 111, f 112, f 113, f 114, f 115, f 116, f 117, f 118, f 119, f 120, f 121, f 122, f 123, f 124, f 125, f 126, f 127, f 128, f 129, f 130, f 131, f 132, f 133, f 134, f 135, f 136, f 137, f 138, f 139, f 140, f 141, f 142, f 143, f 144, f 145, f 146, f 147, f 148, f 149, f 150, f 151, f 152, f 153, f 154, f 155, f 156, f 157, f 158, f 159, f 160, f 161, f 162, f 163, f 164, f 165, f 166, f 167, f 168, f 169, f 170, f 171, f 172, f 173, f 174, f 175, f 176, f 177, f 178, f 179, f 180, f 181, f 182, f 183, f 184, f 185, f 186, f 187, f 188, f 189, f 190], defers := [] } W' := hK
        change wpList _ #[_] _ [_] { tmps := #[f 0, f 1, f 2, f 3, f 4, f 5, f 6, f 7, f 8, f 9, f 10, f 11, f 12, f 13, f 14, f 15, f 16, f 17, f 18, f 19, f 20, f 21, f 22, f 23, f 24, f 25, f 26, f 27, f 28, f 29, f 30, f 31, f 32, f 33, f 34, f 35, f 36, f 37, f 38, f 39, f 40, f 41, f 42, f 43, f 44, f 45, f 46, f 47, f 48, f 49, f 50, f 51, f 52, f 53, f 54, f 55, f 56, f 57, f 58, f 59, f 60, f 61, f 62, f 63, f 64, f 65, f 66, f 67, f 68, f 69, f 70, f 71, f 72, f 73, f 74, f 75, f 76, f 77, f 78, f 79, f 80, f 81, f 82, f 83, f 84, f 85, f 86, f 87, f 88, f 89, f 90, f 91, f 92, f 93, f 94, f 95, f 96, f 97, f 98, f 99, f 100, f 101, f 102, f 103, f 104, f 105, f 106, f 107, f 108, f 109, f 110, f 111, f 112, f 113, f 114, f 115, f 116, f 117, f 118, f 119, f 120, f 121, f 122, f 123, f 124, f 125, f 126, f 127, f 128, f 129, f 130, f 131, f 132, f 133, f 134, f 135, f 136, f 137, f 138, f 139, f 140, f 141, f 142, f 143, f 144, f 145, f 146, f 147, f 148, f 149, f 150, f 151, f 152, f 153, f 154, f 155, f 156, f 157, f 158, f 159, f 160, f 161, f 162, f 163, f 164, f 165, f 166, f 167, f 168, f 169, f 170, f 171, f 172, f 173, f 174, f 175, f 176, f 177, f 178, f 179, f 180, f 181, f 182, f 183, f 184, f 185, f 186, f 187, f 188, f 189, f 190], defers := [] } W
        clear hK hd hold
        simp only [ze15] at HK ⊢
        clear ze15
        have HK := Aside.mk HK
        go_wp2
        exact HK.out _ _ (Below.refl _ _) rfl
      · -- 110 := indexAddr 41 t4 <i64 0>
        intro f W hW hold hd K hK
        refine .inl ⟨wanted_free rfl _, ?_⟩
        dsimp only [bare]
        have ze4 : f 4 = .pointer (some ⟨w.heap.size, 0, none⟩) := hold 4 rfl
        have HK : ∀ v W', Below W.heap.size W W' → tailV _ 110 v W' → K { tmps := #[f 0, f 1, f 2, f 3, f 4, f 5, f 6, f 7, f 8, f 9, f 10, f 11, f 12, f 13, f 14, f 15, f 16, f 17, f 18, f 19, f 20, f 21, f 22, f 23, f 24, f 25, f 26, f 27, f 28, f 29, f 30, f 31, f 32, f 33, f 34, f 35, f 36, f 37, f 38, f 39, f 40, f 41, f 42, f 43, f 44, f 45, f 46, f 47, f 48, f 49, f 50, f 51, f 52, f 53, f 54, f 55, f 56, f 57, f 58, f 59, f 60, f 61, f 62, f 63, f 64, f 65, f 66, f 67, f 68, f 69, f 70, f 71, f 72, f 73, f 74, f 75, f 76, f 77, f 78, f 79, f 80, f 81, f 82, f 83, f 84, f 85, f 86, f 87, f 88, f 89, f 90, f 91, f 92, f 93, f 94, f 95, f 96, f 97, f 98, f 99, f 100, f 101, f 102, f 103, f 104, f 105, f 106, f 107, f 108, f 109, v, f 111, f 112, f 113, f 114, f 115, f 116, f 117, f 118, f 119, f 120, f 121, f 122, f 123, f 124, f 125, f 126, f 127, f 128, f 129, f 130, f 131, f 132, f 133, f 134, f 135, f 136, f 137, f 138, f 139, f 140, f 141, f 142, f 143, f 144, f 145, f 146, f 147, f 148, f 149, f 150, f 151, f 152, f 153, f 154, f 155, f 156, f 157, f 158, f 159, f 160, f 161, f 162, f 163, f 164, f 165, f 166, f 167, f 168, f 169, f 170, f 171, f 172, f 173, f 174, f 175, f 176, f 177, f 178, f 179, f 180, f 181, f 182, f 183, f 184, f 185, f 186, f 187, f 188, f 189, f 190], defers := [] } W' := hK
        change wpList _ #[_] _ [_] { tmps := #[f 0, f 1, f 2, f 3, f 4, f 5, f 6, f 7, f 8, f 9, f 10, f 11, f 12, f 13, f 14, f 15, f 16, f 17, f 18, f 19, f 20, f 21, f 22, f 23, f 24, f 25, f 26, f 27, f 28, f 29, f 30, f 31, f 32, f 33, f 34, f 35, f 36, f 37, f 38, f 39, f 40, f 41, f 42, f 43, f 44, f 45, f 46, f 47, f 48, f 49, f 50, f 51, f 52, f 53, f 54, f 55, f 56, f 57, f 58, f 59, f 60, f 61, f 62, f 63, f 64, f 65, f 66, f 67, f 68, f 69, f 70, f 71, f 72, f 73, f 74, f 75, f 76, f 77, f 78, f 79, f 80, f 81, f 82, f 83, f 84, f 85, f 86, f 87, f 88, f 89, f 90, f 91, f 92, f 93, f 94, f 95, f 96, f 97, f 98, f 99, f 100, f 101, f 102, f 103, f 104, f 105, f 106, f 107, f 108, f 109, f 110, f 111, f 112, f 113, f 114, f 115, f 116, f 117, f 118, f 119, f 120, f 121, f 122, f 123, f 124, f 125, f 126, f 127, f 128, f 129, f 130, f 131, f 132, f 133, f 134, f 135, f 136, f 137, f 138, f 139, f 140, f 141, f 142, f 143, f 144, f 145, f 146, f 147, f 148, f 149, f 150, f 151, f 152, f 153, f 154, f 155, f 156, f 157, f 158, f 159, f 160, f 161, f 162, f 163, f 164, f 165, f 166, f 167, f 168, f 169, f 170, f 171, f 172, f 173, f 174, f 175, f 176, f 177, f 178, f 179, f 180, f 181, f 182, f 183, f 184, f 185, f 186, f 187, f 188, f 189, f 190], defers := [] } W
        clear hK hd hold
        simp only [ze4] at HK ⊢
        clear ze4
        have HK := Aside.mk HK
        go_wp2
        exact HK.out _ _ (Below.refl _ _) rfl
      · -- 111 := load 3 t110
        intro f W hW hold hd K hK
        refine .inl ⟨wanted_free rfl _, ?_⟩
        dsimp only [bare]
        have ze110 : f 110 = .pointer (some ⟨w.heap.size, 0, none⟩) := hd 110 rfl rfl
        have HK : ∀ v W', Below W.heap.size W W' → tailV _ 111 v W' → K { tmps := #[f 0, f 1, f 2, f 3, f 4, f 5, f 6, f 7, f 8, f 9, f 10, f 11, f 12, f 13, f 14, f 15, f 16, f 17, f 18, f 19, f 20, f 21, f 22, f 23, f 24, f 25, f 26, f 27, f 28, f 29, f 30, f 31, f 32, f 33, f 34, f 35, f 36, f 37, f 38, f 39, f 40, f 41, f 42, f 43, f 44, f 45, f 46, f 47, f 48, f 49, f 50, f 51, f 52, f 53, f 54, f 55, f 56, f 57, f 58, f 59, f 60, f 61, f 62, f 63, f 64, f 65, f 66, f 67, f 68, f 69, f 70, f 71, f 72, f 73, f 74, f 75, f 76, f 77, f 78, f 79, f 80, f 81, f 82, f 83, f 84, f 85, f 86, f 87, f 88, f 89, f 90, f 91, f 92, f 93, f 94, f 95, f 96, f 97, f 98, f 99, f 100, f 101, f 102, f 103, f 104, f 105, f 106, f 107, f 108, f 109, f 110, v, f 112, f 113, f 114, f 115, f 116, f 117, f 118, f 119, f 120, f 121, f 122, f 123, f 124, f 125, f 126, f 127, f 128, f 129, f 130, f 131, f 132, f 133, f 134, f 135, f 136, f 137, f 138, f 139, f 140, f 141, f 142, f 143, f 144, f 145, f 146, f 147, f 148, f 149, f 150, f 151, f 152, f 153, f 154, f 155, f 156, f 157, f 158, f 159, f 160, f 161, f 162, f 163, f 164, f 165, f 166, f 167, f 168, f 169, f 170, f 171, f 172, f 173, f 174, f 175, f 176, f 177, f 178, f 179, f 180, f 181, f 182, f 183, f 184, f 185, f 186, f 187, f 188, f 189, f 190], defers := [] } W' := hK
        change wpList _ #[_] _ [_] { tmps := #[f 0, f 1, f 2, f 3, f 4, f 5, f 6, f 7, f 8, f 9, f 10, f 11, f 12, f 13, f 14, f 15, f 16, f 17, f 18, f 19, f 20, f 21, f 22, f 23, f 24, f 25, f 26, f 27, f 28, f 29, f 30, f 31, f 32, f 33, f 34, f 35, f 36, f 37, f 38, f 39, f 40, f 41, f 42, f 43, f 44, f 45, f 46, f 47, f 48, f 49, f 50, f 51, f 52, f 53, f 54, f 55, f 56, f 57, f 58, f 59, f 60, f 61, f 62, f 63, f 64, f 65, f 66, f 67, f 68, f 69, f 70, f 71, f 72, f 73, f 74, f 75, f 76, f 77, f 78, f 79, f 80, f 81, f 82, f 83, f 84, f 85, f 86, f 87, f 88, f 89, f 90, f 91, f 92, f 93, f 94, f 95, f 96, f 97, f 98, f 99, f 100, f 101, f 102, f 103, f 104, f 105, f 106, f 107, f 108, f 109, f 110, f 111, f 112, f 113, f 114, f 115, f 116, f 117, f 118, f 119, f 120, f 121, f 122, f 123, f 124, f 125, f 126, f 127, f 128, f 129, f 130, f 131, f 132, f 133, f 134, f 135, f 136, f 137, f 138, f 139, f 140, f 141, f 142, f 143, f 144, f 145, f 146, f 147, f 148, f 149, f 150, f 151, f 152, f 153, f 154, f 155, f 156, f 157, f 158, f 159, f 160, f 161, f 162, f 163, f 164, f 165, f 166, f 167, f 168, f 169, f 170, f 171, f 172, f 173, f 174, f 175, f 176, f 177, f 178, f 179, f 180, f 181, f 182, f 183, f 184, f 185, f 186, f 187, f 188, f 189, f 190], defers := [] } W
        clear hK hd hold
        simp only [ze110] at HK ⊢
        clear ze110
        have HK := Aside.mk HK
        have hh := cells2 (below_blk HH.out.1 hW); have hcell := hh.1; clear hh
        go_wp2
        exact HK.out _ _ (Below.refl _ _) rfl
      · -- 112 := CALL f19 chert/chertref11.Bytes [t111, <i64 8>] : [3, 3]
        intro f W hW hold hd K hK
        refine .inl ⟨wanted_free rfl _, ?_⟩
        dsimp only [bare]
        have ze111 : f 111 = .int .i64 a := hd 111 rfl rfl
        have HK : ∀ v W', Below W.heap.size W W' → tailV _ 112 v W' → K { tmps := #[f 0, f 1, f 2, f 3, f 4, f 5, f 6, f 7, f 8, f 9, f 10, f 11, f 12, f 13, f 14, f 15, f 16, f 17, f 18, f 19, f 20, f 21, f 22, f 23, f 24, f 25, f 26, f 27, f 28, f 29, f 30, f 31, f 32, f 33, f 34, f 35, f 36, f 37, f 38, f 39, f 40, f 41, f 42, f 43, f 44, f 45, f 46, f 47, f 48, f 49, f 50, f 51, f 52, f 53, f 54, f 55, f 56, f 57, f 58, f 59, f 60, f 61, f 62, f 63, f 64, f 65, f 66, f 67, f 68, f 69, f 70, f 71, f 72, f 73, f 74, f 75, f 76, f 77, f 78, f 79, f 80, f 81, f 82, f 83, f 84, f 85, f 86, f 87, f 88, f 89, f 90, f 91, f 92, f 93, f 94, f 95, f 96, f 97, f 98, f 99, f 100, f 101, f 102, f 103, f 104, f 105, f 106, f 107, f 108, f 109, f 110, f 111, v, f 113, f 114, f 115, f 116, f 117, f 118, f 119, f 120, f 121, f 122, f 123, f 124, f 125, f 126, f 127, f 128, f 129, f 130, f 131, f 132, f 133, f 134, f 135, f 136, f 137, f 138, f 139, f 140, f 141, f 142, f 143, f 144, f 145, f 146, f 147, f 148, f 149, f 150, f 151, f 152, f 153, f 154, f 155, f 156, f 157, f 158, f 159, f 160, f 161, f 162, f 163, f 164, f 165, f 166, f 167, f 168, f 169, f 170, f 171, f 172, f 173, f 174, f 175, f 176, f 177, f 178, f 179, f 180, f 181, f 182, f 183, f 184, f 185, f 186, f 187, f 188, f 189, f 190], defers := [] } W' := hK
        change wpList _ #[_] _ [_] { tmps := #[f 0, f 1, f 2, f 3, f 4, f 5, f 6, f 7, f 8, f 9, f 10, f 11, f 12, f 13, f 14, f 15, f 16, f 17, f 18, f 19, f 20, f 21, f 22, f 23, f 24, f 25, f 26, f 27, f 28, f 29, f 30, f 31, f 32, f 33, f 34, f 35, f 36, f 37, f 38, f 39, f 40, f 41, f 42, f 43, f 44, f 45, f 46, f 47, f 48, f 49, f 50, f 51, f 52, f 53, f 54, f 55, f 56, f 57, f 58, f 59, f 60, f 61, f 62, f 63, f 64, f 65, f 66, f 67, f 68, f 69, f 70, f 71, f 72, f 73, f 74, f 75, f 76, f 77, f 78, f 79, f 80, f 81, f 82, f 83, f 84, f 85, f 86, f 87, f 88, f 89, f 90, f 91, f 92, f 93, f 94, f 95, f 96, f 97, f 98, f 99, f 100, f 101, f 102, f 103, f 104, f 105, f 106, f 107, f 108, f 109, f 110, f 111, f 112, f 113, f 114, f 115, f 116, f 117, f 118, f 119, f 120, f 121, f 122, f 123, f 124, f 125, f 126, f 127, f 128, f 129, f 130, f 131, f 132, f 133, f 134, f 135, f 136, f 137, f 138, f 139, f 140, f 141, f 142, f 143, f 144, f 145, f 146, f 147, f 148, f 149, f 150, f 151, f 152, f 153, f 154, f 155, f 156, f 157, f 158, f 159, f 160, f 161, f 162, f 163, f 164, f 165, f 166, f 167, f 168, f 169, f 170, f 171, f 172, f 173, f 174, f 175, f 176, f 177, f 178, f 179, f 180, f 181, f 182, f 183, f 184, f 185, f 186, f 187, f 188, f 189, f 190], defers := [] } W
        clear hK hd hold
        simp only [ze111] at HK ⊢
        clear ze111
        have HK := Aside.mk HK
        go_wp2_with (go_at_call 19; refine (ref_bytes_at a.toNat 8 _ _ W (by have := HFI.out; omega) rfl (by have := HFI.out; omega) (by omega)).mono ?_; rw [HBA.out.1]; rintro e w9 ⟨rfl, hb9⟩)
        exact HK.out _ _ hb9 rfl
      · -- 113 := binOp add 9 t109 t112 9
        intro f W hW hold hd K hK
        refine .inl ⟨wanted_free rfl _, ?_⟩
        dsimp only [bare]
        have ze109 : f 109 = .string (⟨#[1]⟩ : ByteArray) := hd 109 rfl rfl
        have ze112 : f 112 = .string (numsB [a]) := hd 112 rfl rfl
        have HK : ∀ v W', Below W.heap.size W W' → tailV _ 113 v W' → K { tmps := #[f 0, f 1, f 2, f 3, f 4, f 5, f 6, f 7, f 8, f 9, f 10, f 11, f 12, f 13, f 14, f 15, f 16, f 17, f 18, f 19, f 20, f 21, f 22, f 23, f 24, f 25, f 26, f 27, f 28, f 29, f 30, f 31, f 32, f 33, f 34, f 35, f 36, f 37, f 38, f 39, f 40, f 41, f 42, f 43, f 44, f 45, f 46, f 47, f 48, f 49, f 50, f 51, f 52, f 53, f 54, f 55, f 56, f 57, f 58, f 59, f 60, f 61, f 62, f 63, f 64, f 65, f 66, f 67, f 68, f 69, f 70, f 71, f 72, f 73, f 74, f 75, f 76, f 77, f 78, f 79, f 80, f 81, f 82, f 83, f 84, f 85, f 86, f 87, f 88, f 89, f 90, f 91, f 92, f 93, f 94, f 95, f 96, f 97, f 98, f 99, f 100, f 101, f 102, f 103, f 104, f 105, f 106, f 107, f 108, f 109, f 110, f 111, f 112, v, f 114, f 115, f 116, f 117, f 118, f 119, f 120, f 121, f 122, f 123, f 124, f 125, f 126, f 127, f 128, f 129, f 130, f 131, f 132, f 133, f 134, f 135, f 136, f 137, f 138, f 139, f 140, f 141, f 142, f 143, f 144, f 145, f 146, f 147, f 148, f 149, f 150, f 151, f 152, f 153, f 154, f 155, f 156, f 157, f 158, f 159, f 160, f 161, f 162, f 163, f 164, f 165, f 166, f 167, f 168, f 169, f 170, f 171, f 172, f 173, f 174, f 175, f 176, f 177, f 178, f 179, f 180, f 181, f 182, f 183, f 184, f 185, f 186, f 187, f 188, f 189, f 190], defers := [] } W' := hK
        change wpList _ #[_] _ [_] { tmps := #[f 0, f 1, f 2, f 3, f 4, f 5, f 6, f 7, f 8, f 9, f 10, f 11, f 12, f 13, f 14, f 15, f 16, f 17, f 18, f 19, f 20, f 21, f 22, f 23, f 24, f 25, f 26, f 27, f 28, f 29, f 30, f 31, f 32, f 33, f 34, f 35, f 36, f 37, f 38, f 39, f 40, f 41, f 42, f 43, f 44, f 45, f 46, f 47, f 48, f 49, f 50, f 51, f 52, f 53, f 54, f 55, f 56, f 57, f 58, f 59, f 60, f 61, f 62, f 63, f 64, f 65, f 66, f 67, f 68, f 69, f 70, f 71, f 72, f 73, f 74, f 75, f 76, f 77, f 78, f 79, f 80, f 81, f 82, f 83, f 84, f 85, f 86, f 87, f 88, f 89, f 90, f 91, f 92, f 93, f 94, f 95, f 96, f 97, f 98, f 99, f 100, f 101, f 102, f 103, f 104, f 105, f 106, f 107, f 108, f 109, f 110, f 111, f 112, f 113, f 114, f 115, f 116, f 117, f 118, f 119, f 120, f 121, f 122, f 123, f 124, f 125, f 126, f 127, f 128, f 129, f 130, f 131, f 132, f 133, f 134, f 135, f 136, f 137, f 138, f 139, f 140, f 141, f 142, f 143, f 144, f 145, f 146, f 147, f 148, f 149, f 150, f 151, f 152, f 153, f 154, f 155, f 156, f 157, f 158, f 159, f 160, f 161, f 162, f 163, f 164, f 165, f 166, f 167, f 168, f 169, f 170, f 171, f 172, f 173, f 174, f 175, f 176, f 177, f 178, f 179, f 180, f 181, f 182, f 183, f 184, f 185, f 186, f 187, f 188, f 189, f 190], defers := [] } W
        clear hK hd hold
        simp only [ze109, ze112] at HK ⊢
        clear ze109 ze112
        have HK := Aside.mk HK
        have za := numsB_size [a]; have zb := numsB_size [b]; have zf : ((⟨#[1]⟩ : ByteArray) : ByteArray).size = 1 := rfl; simp only [List.length_cons, List.length_nil] at za zb
        go_wp2
        exact HK.out _ _ (Below.refl _ _) rfl
      · -- 114 := indexAddr 41 t4 <i64 1>
        intro f W hW hold hd K hK
        refine .inl ⟨wanted_free rfl _, ?_⟩
        dsimp only [bare]
        have ze4 : f 4 = .pointer (some ⟨w.heap.size, 0, none⟩) := hold 4 rfl
        have HK : ∀ v W', Below W.heap.size W W' → tailV _ 114 v W' → K { tmps := #[f 0, f 1, f 2, f 3, f 4, f 5, f 6, f 7, f 8, f 9, f 10, f 11, f 12, f 13, f 14, f 15, f 16, f 17, f 18, f 19, f 20, f 21, f 22, f 23, f 24, f 25, f 26, f 27, f 28, f 29, f 30, f 31, f 32, f 33, f 34, f 35, f 36, f 37, f 38, f 39, f 40, f 41, f 42, f 43, f 44, f 45, f 46, f 47, f 48, f 49, f 50, f 51, f 52, f 53, f 54, f 55, f 56, f 57, f 58, f 59, f 60, f 61, f 62, f 63, f 64, f 65, f 66, f 67, f 68, f 69, f 70, f 71, f 72, f 73, f 74, f 75, f 76, f 77, f 78, f 79, f 80, f 81, f 82, f 83, f 84, f 85, f 86, f 87, f 88, f 89, f 90, f 91, f 92, f 93, f 94, f 95, f 96, f 97, f 98, f 99, f 100, f 101, f 102, f 103, f 104, f 105, f 106, f 107, f 108, f 109, f 110, f 111, f 112, f 113, v, f 115, f 116, f 117, f 118, f 119, f 120, f 121, f 122, f 123, f 124, f 125, f 126, f 127, f 128, f 129, f 130, f 131, f 132, f 133, f 134, f 135, f 136, f 137, f 138, f 139, f 140, f 141, f 142, f 143, f 144, f 145, f 146, f 147, f 148, f 149, f 150, f 151, f 152, f 153, f 154, f 155, f 156, f 157, f 158, f 159, f 160, f 161, f 162, f 163, f 164, f 165, f 166, f 167, f 168, f 169, f 170, f 171, f 172, f 173, f 174, f 175, f 176, f 177, f 178, f 179, f 180, f 181, f 182, f 183, f 184, f 185, f 186, f 187, f 188, f 189, f 190], defers := [] } W' := hK
        change wpList _ #[_] _ [_] { tmps := #[f 0, f 1, f 2, f 3, f 4, f 5, f 6, f 7, f 8, f 9, f 10, f 11, f 12, f 13, f 14, f 15, f 16, f 17, f 18, f 19, f 20, f 21, f 22, f 23, f 24, f 25, f 26, f 27, f 28, f 29, f 30, f 31, f 32, f 33, f 34, f 35, f 36, f 37, f 38, f 39, f 40, f 41, f 42, f 43, f 44, f 45, f 46, f 47, f 48, f 49, f 50, f 51, f 52, f 53, f 54, f 55, f 56, f 57, f 58, f 59, f 60, f 61, f 62, f 63, f 64, f 65, f 66, f 67, f 68, f 69, f 70, f 71, f 72, f 73, f 74, f 75, f 76, f 77, f 78, f 79, f 80, f 81, f 82, f 83, f 84, f 85, f 86, f 87, f 88, f 89, f 90, f 91, f 92, f 93, f 94, f 95, f 96, f 97, f 98, f 99, f 100, f 101, f 102, f 103, f 104, f 105, f 106, f 107, f 108, f 109, f 110, f 111, f 112, f 113, f 114, f 115, f 116, f 117, f 118, f 119, f 120, f 121, f 122, f 123, f 124, f 125, f 126, f 127, f 128, f 129, f 130, f 131, f 132, f 133, f 134, f 135, f 136, f 137, f 138, f 139, f 140, f 141, f 142, f 143, f 144, f 145, f 146, f 147, f 148, f 149, f 150, f 151, f 152, f 153, f 154, f 155, f 156, f 157, f 158, f 159, f 160, f 161, f 162, f 163, f 164, f 165, f 166, f 167, f 168, f 169, f 170, f 171, f 172, f 173, f 174, f 175, f 176, f 177, f 178, f 179, f 180, f 181, f 182, f 183, f 184, f 185, f 186, f 187, f 188, f 189, f 190], defers := [] } W
        clear hK hd hold
        simp only [ze4] at HK ⊢
        clear ze4
        have HK := Aside.mk HK
        go_wp2
        exact HK.out _ _ (Below.refl _ _) rfl
      · -- 115 := load 3 t114
        intro f W hW hold hd K hK
        refine .inl ⟨wanted_free rfl _, ?_⟩
        dsimp only [bare]
        have ze114 : f 114 = .pointer (some ⟨w.heap.size, 1, none⟩) := hd 114 rfl rfl
        have HK : ∀ v W', Below W.heap.size W W' → tailV _ 115 v W' → K { tmps := #[f 0, f 1, f 2, f 3, f 4, f 5, f 6, f 7, f 8, f 9, f 10, f 11, f 12, f 13, f 14, f 15, f 16, f 17, f 18, f 19, f 20, f 21, f 22, f 23, f 24, f 25, f 26, f 27, f 28, f 29, f 30, f 31, f 32, f 33, f 34, f 35, f 36, f 37, f 38, f 39, f 40, f 41, f 42, f 43, f 44, f 45, f 46, f 47, f 48, f 49, f 50, f 51, f 52, f 53, f 54, f 55, f 56, f 57, f 58, f 59, f 60, f 61, f 62, f 63, f 64, f 65, f 66, f 67, f 68, f 69, f 70, f 71, f 72, f 73, f 74, f 75, f 76, f 77, f 78, f 79, f 80, f 81, f 82, f 83, f 84, f 85, f 86, f 87, f 88, f 89, f 90, f 91, f 92, f 93, f 94, f 95, f 96, f 97, f 98, f 99, f 100, f 101, f 102, f 103, f 104, f 105, f 106, f 107, f 108, f 109, f 110, f 111, f 112, f 113, f 114, v, f 116, f 117, f 118, f 119, f 120, f 121, f 122, f 123, f 124, f 125, f 126, f 127, f 128, f 129, f 130, f 131, f 132, f 133, f 134, f 135, f 136, f 137, f 138, f 139, f 140, f 141, f 142, f 143, f 144, f 145, f 146, f 147, f 148, f 149, f 150, f 151, f 152, f 153, f 154, f 155, f 156, f 157, f 158, f 159, f 160, f 161, f 162, f 163, f 164, f 165, f 166, f 167, f 168, f 169, f 170, f 171, f 172, f 173, f 174, f 175, f 176, f 177, f 178, f 179, f 180, f 181, f 182, f 183, f 184, f 185, f 186, f 187, f 188, f 189, f 190], defers := [] } W' := hK
        change wpList _ #[_] _ [_] { tmps := #[f 0, f 1, f 2, f 3, f 4, f 5, f 6, f 7, f 8, f 9, f 10, f 11, f 12, f 13, f 14, f 15, f 16, f 17, f 18, f 19, f 20, f 21, f 22, f 23, f 24, f 25, f 26, f 27, f 28, f 29, f 30, f 31, f 32, f 33, f 34, f 35, f 36, f 37, f 38, f 39, f 40, f 41, f 42, f 43, f 44, f 45, f 46, f 47, f 48, f 49, f 50, f 51, f 52, f 53, f 54, f 55, f 56, f 57, f 58, f 59, f 60, f 61, f 62, f 63, f 64, f 65, f 66, f 67, f 68, f 69, f 70, f 71, f 72, f 73, f 74, f 75, f 76, f 77, f 78, f 79, f 80, f 81, f 82, f 83, f 84, f 85, f 86, f 87, f 88, f 89, f 90, f 91, f 92, f 93, f 94, f 95, f 96, f 97, f 98, f 99, f 100, f 101, f 102, f 103, f 104, f 105, f 106, f 107, f 108, f 109, f 110, f 111, f 112, f 113, f 114, f 115, f 116, f 117, f 118, f 119, f 120, f 121, f 122, f 123, f 124, f 125, f 126, f 127, f 128, f 129, f 130, f 131, f 132, f 133, f 134, f 135, f 136, f 137, f 138, f 139, f 140, f 141, f 142, f 143, f 144, f 145, f 146, f 147, f 148, f 149, f 150, f 151, f 152, f 153, f 154, f 155, f 156, f 157, f 158, f 159, f 160, f 161, f 162, f 163, f 164, f 165, f 166, f 167, f 168, f 169, f 170, f 171, f 172, f 173, f 174, f 175, f 176, f 177, f 178, f 179, f 180, f 181, f 182, f 183, f 184, f 185, f 186, f 187, f 188, f 189, f 190], defers := [] } W
        clear hK hd hold
        simp only [ze114] at HK ⊢
        clear ze114
        have HK := Aside.mk HK
        have hh := cells2 (below_blk HH.out.1 hW); have hcell := hh.2; clear hh
        go_wp2
        exact HK.out _ _ (Below.refl _ _) rfl
      · -- 116 := CALL f19 chert/chertref11.Bytes [t115, <i64 8>] : [3, 3]
        intro f W hW hold hd K hK
        refine .inl ⟨wanted_free rfl _, ?_⟩
        dsimp only [bare]
        have ze115 : f 115 = .int .i64 b := hd 115 rfl rfl
        have HK : ∀ v W', Below W.heap.size W W' → tailV _ 116 v W' → K { tmps := #[f 0, f 1, f 2, f 3, f 4, f 5, f 6, f 7, f 8, f 9, f 10, f 11, f 12, f 13, f 14, f 15, f 16, f 17, f 18, f 19, f 20, f 21, f 22, f 23, f 24, f 25, f 26, f 27, f 28, f 29, f 30, f 31, f 32, f 33, f 34, f 35, f 36, f 37, f 38, f 39, f 40, f 41, f 42, f 43, f 44, f 45, f 46, f 47, f 48, f 49, f 50, f 51, f 52, f 53, f 54, f 55, f 56, f 57, f 58, f 59, f 60, f 61, f 62, f 63, f 64, f 65, f 66, f 67, f 68, f 69, f 70, f 71, f 72, f 73, f 74, f 75, f 76, f 77, f 78, f 79, f 80, f 81, f 82, f 83, f 84, f 85, f 86, f 87, f 88, f 89, f 90, f 91, f 92, f 93, f 94, f 95, f 96, f 97, f 98, f 99, f 100, f 101, f 102, f 103, f 104, f 105, f 106, f 107, f 108, f 109, f 110, f 111, f 112, f 113, f 114, f 115, v, f 117, f 118, f 119, f 120, f 121, f 122, f 123, f 124, f 125, f 126, f 127, f 128, f 129, f 130, f 131, f 132, f 133, f 134, f 135, f 136, f 137, f 138, f 139, f 140, f 141, f 142, f 143, f 144, f 145, f 146, f 147, f 148, f 149, f 150, f 151, f 152, f 153, f 154, f 155, f 156, f 157, f 158, f 159, f 160, f 161, f 162, f 163, f 164, f 165, f 166, f 167, f 168, f 169, f 170, f 171, f 172, f 173, f 174, f 175, f 176, f 177, f 178, f 179, f 180, f 181, f 182, f 183, f 184, f 185, f 186, f 187, f 188, f 189, f 190], defers := [] } W' := hK
        change wpList _ #[_] _ [_] { tmps := #[f 0, f 1, f 2, f 3, f 4, f 5, f 6, f 7, f 8, f 9, f 10, f 11, f 12, f 13, f 14, f 15, f 16, f 17, f 18, f 19, f 20, f 21, f 22, f 23, f 24, f 25, f 26, f 27, f 28, f 29, f 30, f 31, f 32, f 33, f 34, f 35, f 36, f 37, f 38, f 39, f 40, f 41, f 42, f 43, f 44, f 45, f 46, f 47, f 48, f 49, f 50, f 51, f 52, f 53, f 54, f 55, f 56, f 57, f 58, f 59, f 60, f 61, f 62, f 63, f 64, f 65, f 66, f 67, f 68, f 69, f 70, f 71, f 72, f 73, f 74, f 75, f 76, f 77, f 78, f 79, f 80, f 81, f 82, f 83, f 84, f 85, f 86, f 87, f 88, f 89, f 90, f 91, f 92, f 93, f 94, f 95, f 96, f 97, f 98, f 99, f 100, f 101, f 102, f 103, f 104, f 105, f 106, f 107, f 108, f 109, f 110, f 111, f 112, f 113, f 114, f 115, f 116, f 117, f 118, f 119, f 120, f 121, f 122, f 123, f 124, f 125, f 126, f 127, f 128, f 129, f 130, f 131, f 132, f 133, f 134, f 135, f 136, f 137, f 138, f 139, f 140, f 141, f 142, f 143, f 144, f 145, f 146, f 147, f 148, f 149, f 150, f 151, f 152, f 153, f 154, f 155, f 156, f 157, f 158, f 159, f 160, f 161, f 162, f 163, f 164, f 165, f 166, f 167, f 168, f 169, f 170, f 171, f 172, f 173, f 174, f 175, f 176, f 177, f 178, f 179, f 180, f 181, f 182, f 183, f 184, f 185, f 186, f 187, f 188, f 189, f 190], defers := [] } W
        clear hK hd hold
        simp only [ze115] at HK ⊢
        clear ze115
        have HK := Aside.mk HK
        go_wp2_with (go_at_call 19; refine (ref_bytes_at b.toNat 8 _ _ W (by have := HFI.out; omega) rfl (by have := HFI.out; omega) (by omega)).mono ?_; rw [HBA.out.2]; rintro e w9 ⟨rfl, hb9⟩)
        exact HK.out _ _ hb9 rfl
      · -- 117 := binOp add 9 t113 t116 9
        intro f W hW hold hd K hK
        refine .inl ⟨wanted_free rfl _, ?_⟩
        dsimp only [bare]
        have ze113 : f 113 = .string ((⟨#[1]⟩ : ByteArray) ++ numsB [a]) := hd 113 rfl rfl
        have ze116 : f 116 = .string (numsB [b]) := hd 116 rfl rfl
        have HK : ∀ v W', Below W.heap.size W W' → tailV _ 117 v W' → K { tmps := #[f 0, f 1, f 2, f 3, f 4, f 5, f 6, f 7, f 8, f 9, f 10, f 11, f 12, f 13, f 14, f 15, f 16, f 17, f 18, f 19, f 20, f 21, f 22, f 23, f 24, f 25, f 26, f 27, f 28, f 29, f 30, f 31, f 32, f 33, f 34, f 35, f 36, f 37, f 38, f 39, f 40, f 41, f 42, f 43, f 44, f 45, f 46, f 47, f 48, f 49, f 50, f 51, f 52, f 53, f 54, f 55, f 56, f 57, f 58, f 59, f 60, f 61, f 62, f 63, f 64, f 65, f 66, f 67, f 68, f 69, f 70, f 71, f 72, f 73, f 74, f 75, f 76, f 77, f 78, f 79, f 80, f 81, f 82, f 83, f 84, f 85, f 86, f 87, f 88, f 89, f 90, f 91, f 92, f 93, f 94, f 95, f 96, f 97, f 98, f 99, f 100, f 101, f 102, f 103, f 104, f 105, f 106, f 107, f 108, f 109, f 110, f 111, f 112, f 113, f 114, f 115, f 116, v, f 118, f 119, f 120, f 121, f 122, f 123, f 124, f 125, f 126, f 127, f 128, f 129, f 130, f 131, f 132, f 133, f 134, f 135, f 136, f 137, f 138, f 139, f 140, f 141, f 142, f 143, f 144, f 145, f 146, f 147, f 148, f 149, f 150, f 151, f 152, f 153, f 154, f 155, f 156, f 157, f 158, f 159, f 160, f 161, f 162, f 163, f 164, f 165, f 166, f 167, f 168, f 169, f 170, f 171, f 172, f 173, f 174, f 175, f 176, f 177, f 178, f 179, f 180, f 181, f 182, f 183, f 184, f 185, f 186, f 187, f 188, f 189, f 190], defers := [] } W' := hK
        change wpList _ #[_] _ [_] { tmps := #[f 0, f 1, f 2, f 3, f 4, f 5, f 6, f 7, f 8, f 9, f 10, f 11, f 12, f 13, f 14, f 15, f 16, f 17, f 18, f 19, f 20, f 21, f 22, f 23, f 24, f 25, f 26, f 27, f 28, f 29, f 30, f 31, f 32, f 33, f 34, f 35, f 36, f 37, f 38, f 39, f 40, f 41, f 42, f 43, f 44, f 45, f 46, f 47, f 48, f 49, f 50, f 51, f 52, f 53, f 54, f 55, f 56, f 57, f 58, f 59, f 60, f 61, f 62, f 63, f 64, f 65, f 66, f 67, f 68, f 69, f 70, f 71, f 72, f 73, f 74, f 75, f 76, f 77, f 78, f 79, f 80, f 81, f 82, f 83, f 84, f 85, f 86, f 87, f 88, f 89, f 90, f 91, f 92, f 93, f 94, f 95, f 96, f 97, f 98, f 99, f 100, f 101, f 102, f 103, f 104, f 105, f 106, f 107, f 108, f 109, f 110, f 111, f 112, f 113, f 114, f 115, f 116, f 117, f 118, f 119, f 120, f 121, f 122, f 123, f 124, f 125, f 126, f 127, f 128, f 129, f 130, f 131, f 132, f 133, f 134, f 135, f 136, f 137, f 138, f 139, f 140, f 141, f 142, f 143, f 144, f 145, f 146, f 147, f 148, f 149, f 150, f 151, f 152, f 153, f 154, f 155, f 156, f 157, f 158, f 159, f 160, f 161, f 162, f 163, f 164, f 165, f 166, f 167, f 168, f 169, f 170, f 171, f 172, f 173, f 174, f 175, f 176, f 177, f 178, f 179, f 180, f 181, f 182, f 183, f 184, f 185, f 186, f 187, f 188, f 189, f 190], defers := [] } W
        clear hK hd hold
        simp only [ze113, ze116] at HK ⊢
        clear ze113 ze116
        have HK := Aside.mk HK
        have za := numsB_size [a]; have zb := numsB_size [b]; have zf : ((⟨#[1]⟩ : ByteArray) : ByteArray).size = 1 := rfl; simp only [List.length_cons, List.length_nil] at za zb
        go_wp2
        exact HK.out _ _ (Below.refl _ _) rfl
      · -- 118 := binOp neq 9 t108 t117 9
        intro f W hW hold hd K hK
        refine .inl ⟨wanted_free rfl _, ?_⟩
        dsimp only [bare]
        have ze108 : f 108 = .string (inodeB true a b) := hd 108 rfl rfl
        have ze117 : f 117 = .string ((⟨#[1]⟩ : ByteArray) ++ numsB [a] ++ numsB [b]) := hd 117 rfl rfl
        have HK : ∀ v W', Below W.heap.size W W' → tailV _ 118 v W' → K { tmps := #[f 0, f 1, f 2, f 3, f 4, f 5, f 6, f 7, f 8, f 9, f 10, f 11, f 12, f 13, f 14, f 15, f 16, f 17, f 18, f 19, f 20, f 21, f 22, f 23, f 24, f 25, f 26, f 27, f 28, f 29, f 30, f 31, f 32, f 33, f 34, f 35, f 36, f 37, f 38, f 39, f 40, f 41, f 42, f 43, f 44, f 45, f 46, f 47, f 48, f 49, f 50, f 51, f 52, f 53, f 54, f 55, f 56, f 57, f 58, f 59, f 60, f 61, f 62, f 63, f 64, f 65, f 66, f 67, f 68, f 69, f 70, f 71, f 72, f 73, f 74, f 75, f 76, f 77, f 78, f 79, f 80, f 81, f 82, f 83, f 84, f 85, f 86, f 87, f 88, f 89, f 90, f 91, f 92, f 93, f 94, f 95, f 96, f 97, f 98, f 99, f 100, f 101, f 102, f 103, f 104, f 105, f 106, f 107, f 108, f 109, f 110, f 111, f 112, f 113, f 114, f 115, f 116, f 117, v, f 119, f 120, f 121, f 122, f 123, f 124, f 125, f 126, f 127, f 128, f 129, f 130, f 131, f 132, f 133, f 134, f 135, f 136, f 137, f 138, f 139, f 140, f 141, f 142, f 143, f 144, f 145, f 146, f 147, f 148, f 149, f 150, f 151, f 152, f 153, f 154, f 155, f 156, f 157, f 158, f 159, f 160, f 161, f 162, f 163, f 164, f 165, f 166, f 167, f 168, f 169, f 170, f 171, f 172, f 173, f 174, f 175, f 176, f 177, f 178, f 179, f 180, f 181, f 182, f 183, f 184, f 185, f 186, f 187, f 188, f 189, f 190], defers := [] } W' := hK
        change wpList _ #[_] _ [_] { tmps := #[f 0, f 1, f 2, f 3, f 4, f 5, f 6, f 7, f 8, f 9, f 10, f 11, f 12, f 13, f 14, f 15, f 16, f 17, f 18, f 19, f 20, f 21, f 22, f 23, f 24, f 25, f 26, f 27, f 28, f 29, f 30, f 31, f 32, f 33, f 34, f 35, f 36, f 37, f 38, f 39, f 40, f 41, f 42, f 43, f 44, f 45, f 46, f 47, f 48, f 49, f 50, f 51, f 52, f 53, f 54, f 55, f 56, f 57, f 58, f 59, f 60, f 61, f 62, f 63, f 64, f 65, f 66, f 67, f 68, f 69, f 70, f 71, f 72, f 73, f 74, f 75, f 76, f 77, f 78, f 79, f 80, f 81, f 82, f 83, f 84, f 85, f 86, f 87, f 88, f 89, f 90, f 91, f 92, f 93, f 94, f 95, f 96, f 97, f 98, f 99, f 100, f 101, f 102, f 103, f 104, f 105, f 106, f 107, f 108, f 109, f 110, f 111, f 112, f 113, f 114, f 115, f 116, f 117, f 118, f 119, f 120, f 121, f 122, f 123, f 124, f 125, f 126, f 127, f 128, f 129, f 130, f 131, f 132, f 133, f 134, f 135, f 136, f 137, f 138, f 139, f 140, f 141, f 142, f 143, f 144, f 145, f 146, f 147, f 148, f 149, f 150, f 151, f 152, f 153, f 154, f 155, f 156, f 157, f 158, f 159, f 160, f 161, f 162, f 163, f 164, f 165, f 166, f 167, f 168, f 169, f 170, f 171, f 172, f 173, f 174, f 175, f 176, f 177, f 178, f 179, f 180, f 181, f 182, f 183, f 184, f 185, f 186, f 187, f 188, f 189, f 190], defers := [] } W
        clear hK hd hold
        simp only [ze108, ze117] at HK ⊢
        clear ze108 ze117
        have HK := Aside.mk HK
        go_wp2
        refine HK.out _ _ (Below.refl _ _) ?_
        change _ = Value.bool false
        have hh : inodeB true a b = (⟨#[1]⟩ : ByteArray) ++ numsB [a] ++ numsB [b] := (HTX true).out
        rw [str_eq, decide_eq_true hh]; rfl
      · -- 119 := move t118
        intro f W hW hold hd K hK
        refine .inl ⟨wanted_free rfl _, ?_⟩
        dsimp only [bare]
        have ze118 : f 118 = .bool false := hd 118 rfl rfl
        have HK : ∀ v W', Below W.heap.size W W' → tailV _ 119 v W' → K { tmps := #[f 0, f 1, f 2, f 3, f 4, f 5, f 6, f 7, f 8, f 9, f 10, f 11, f 12, f 13, f 14, f 15, f 16, f 17, f 18, f 19, f 20, f 21, f 22, f 23, f 24, f 25, f 26, f 27, f 28, f 29, f 30, f 31, f 32, f 33, f 34, f 35, f 36, f 37, f 38, f 39, f 40, f 41, f 42, f 43, f 44, f 45, f 46, f 47, f 48, f 49, f 50, f 51, f 52, f 53, f 54, f 55, f 56, f 57, f 58, f 59, f 60, f 61, f 62, f 63, f 64, f 65, f 66, f 67, f 68, f 69, f 70, f 71, f 72, f 73, f 74, f 75, f 76, f 77, f 78, f 79, f 80, f 81, f 82, f 83, f 84, f 85, f 86, f 87, f 88, f 89, f 90, f 91, f 92, f 93, f 94, f 95, f 96, f 97, f 98, f 99, f 100, f 101, f 102, f 103, f 104, f 105, f 106, f 107, f 108, f 109, f 110, f 111, f 112, f 113, f 114, f 115, f 116, f 117, f 118, v, f 120, f 121, f 122, f 123, f 124, f 125, f 126, f 127, f 128, f 129, f 130, f 131, f 132, f 133, f 134, f 135, f 136, f 137, f 138, f 139, f 140, f 141, f 142, f 143, f 144, f 145, f 146, f 147, f 148, f 149, f 150, f 151, f 152, f 153, f 154, f 155, f 156, f 157, f 158, f 159, f 160, f 161, f 162, f 163, f 164, f 165, f 166, f 167, f 168, f 169, f 170, f 171, f 172, f 173, f 174, f 175, f 176, f 177, f 178, f 179, f 180, f 181, f 182, f 183, f 184, f 185, f 186, f 187, f 188, f 189, f 190], defers := [] } W' := hK
        change wpList _ #[_] _ [_] { tmps := #[f 0, f 1, f 2, f 3, f 4, f 5, f 6, f 7, f 8, f 9, f 10, f 11, f 12, f 13, f 14, f 15, f 16, f 17, f 18, f 19, f 20, f 21, f 22, f 23, f 24, f 25, f 26, f 27, f 28, f 29, f 30, f 31, f 32, f 33, f 34, f 35, f 36, f 37, f 38, f 39, f 40, f 41, f 42, f 43, f 44, f 45, f 46, f 47, f 48, f 49, f 50, f 51, f 52, f 53, f 54, f 55, f 56, f 57, f 58, f 59, f 60, f 61, f 62, f 63, f 64, f 65, f 66, f 67, f 68, f 69, f 70, f 71, f 72, f 73, f 74, f 75, f 76, f 77, f 78, f 79, f 80, f 81, f 82, f 83, f 84, f 85, f 86, f 87, f 88, f 89, f 90, f 91, f 92, f 93, f 94, f 95, f 96, f 97, f 98, f 99, f 100, f 101, f 102, f 103, f 104, f 105, f 106, f 107, f 108, f 109, f 110, f 111, f 112, f 113, f 114, f 115, f 116, f 117, f 118, f 119, f 120, f 121, f 122, f 123, f 124, f 125, f 126, f 127, f 128, f 129, f 130, f 131, f 132, f 133, f 134, f 135, f 136, f 137, f 138, f 139, f 140, f 141, f 142, f 143, f 144, f 145, f 146, f 147, f 148, f 149, f 150, f 151, f 152, f 153, f 154, f 155, f 156, f 157, f 158, f 159, f 160, f 161, f 162, f 163, f 164, f 165, f 166, f 167, f 168, f 169, f 170, f 171, f 172, f 173, f 174, f 175, f 176, f 177, f 178, f 179, f 180, f 181, f 182, f 183, f 184, f 185, f 186, f 187, f 188, f 189, f 190], defers := [] } W
        clear hK hd hold
        simp only [ze118] at HK ⊢
        clear ze118
        have HK := Aside.mk HK
        go_wp2
        exact HK.out _ _ (Below.refl _ _) rfl
      · -- 120 := move t9
        intro f W hW hold hd K hK
        have zg : f 119 = .bool false := hd 119 rfl rfl
        refine .inl ⟨wanted_of (g := 11) (t := 119) (by kernel_rfl) (by kernel_rfl) (of_decide_eq_true (by kernel_rfl)) zg, ?_⟩
        clear zg
        dsimp only [bare]
        have ze9 : f 9 = .string (numsB [a]) := hold 9 rfl
        have HK : ∀ v W', Below W.heap.size W W' → tailV _ 120 v W' → K { tmps := #[f 0, f 1, f 2, f 3, f 4, f 5, f 6, f 7, f 8, f 9, f 10, f 11, f 12, f 13, f 14, f 15, f 16, f 17, f 18, f 19, f 20, f 21, f 22, f 23, f 24, f 25, f 26, f 27, f 28, f 29, f 30, f 31, f 32, f 33, f 34, f 35, f 36, f 37, f 38, f 39, f 40, f 41, f 42, f 43, f 44, f 45, f 46, f 47, f 48, f 49, f 50, f 51, f 52, f 53, f 54, f 55, f 56, f 57, f 58, f 59, f 60, f 61, f 62, f 63, f 64, f 65, f 66, f 67, f 68, f 69, f 70, f 71, f 72, f 73, f 74, f 75, f 76, f 77, f 78, f 79, f 80, f 81, f 82, f 83, f 84, f 85, f 86, f 87, f 88, f 89, f 90, f 91, f 92, f 93, f 94, f 95, f 96, f 97, f 98, f 99, f 100, f 101, f 102, f 103, f 104, f 105, f 106, f 107, f 108, f 109, f 110, f 111, f 112, f 113, f 114, f 115, f 116, f 117, f 118, f 119, v, f 121, f 122, f 123, f 124, f 125, f 126, f 127, f 128, f 129, f 130, f 131, f 132, f 133, f 134, f 135, f 136, f 137, f 138, f 139, f 140, f 141, f 142, f 143, f 144, f 145, f 146, f 147, f 148, f 149, f 150, f 151, f 152, f 153, f 154, f 155, f 156, f 157, f 158, f 159, f 160, f 161, f 162, f 163, f 164, f 165, f 166, f 167, f 168, f 169, f 170, f 171, f 172, f 173, f 174, f 175, f 176, f 177, f 178, f 179, f 180, f 181, f 182, f 183, f 184, f 185, f 186, f 187, f 188, f 189, f 190], defers := [] } W' := hK
        change wpList _ #[_] _ [_] { tmps := #[f 0, f 1, f 2, f 3, f 4, f 5, f 6, f 7, f 8, f 9, f 10, f 11, f 12, f 13, f 14, f 15, f 16, f 17, f 18, f 19, f 20, f 21, f 22, f 23, f 24, f 25, f 26, f 27, f 28, f 29, f 30, f 31, f 32, f 33, f 34, f 35, f 36, f 37, f 38, f 39, f 40, f 41, f 42, f 43, f 44, f 45, f 46, f 47, f 48, f 49, f 50, f 51, f 52, f 53, f 54, f 55, f 56, f 57, f 58, f 59, f 60, f 61, f 62, f 63, f 64, f 65, f 66, f 67, f 68, f 69, f 70, f 71, f 72, f 73, f 74, f 75, f 76, f 77, f 78, f 79, f 80, f 81, f 82, f 83, f 84, f 85, f 86, f 87, f 88, f 89, f 90, f 91, f 92, f 93, f 94, f 95, f 96, f 97, f 98, f 99, f 100, f 101, f 102, f 103, f 104, f 105, f 106, f 107, f 108, f 109, f 110, f 111, f 112, f 113, f 114, f 115, f 116, f 117, f 118, f 119, f 120, f 121, f 122, f 123, f 124, f 125, f 126, f 127, f 128, f 129, f 130, f 131, f 132, f 133, f 134, f 135, f 136, f 137, f 138, f 139, f 140, f 141, f 142, f 143, f 144, f 145, f 146, f 147, f 148, f 149, f 150, f 151, f 152, f 153, f 154, f 155, f 156, f 157, f 158, f 159, f 160, f 161, f 162, f 163, f 164, f 165, f 166, f 167, f 168, f 169, f 170, f 171, f 172, f 173, f 174, f 175, f 176, f 177, f 178, f 179, f 180, f 181, f 182, f 183, f 184, f 185, f 186, f 187, f 188, f 189, f 190], defers := [] } W
        clear hK hd hold
        simp only [ze9] at HK ⊢
        clear ze9
        have HK := Aside.mk HK
        go_wp2
        exact HK.out _ _ (Below.refl _ _) rfl
      · -- 121 := indexAddr 41 t4 <i64 0>
        intro f W hW hold hd K hK
        have zg : f 119 = .bool false := hd 119 rfl rfl
        refine .inl ⟨wanted_of (g := 11) (t := 119) (by kernel_rfl) (by kernel_rfl) (of_decide_eq_true (by kernel_rfl)) zg, ?_⟩
        clear zg
        dsimp only [bare]
        have ze4 : f 4 = .pointer (some ⟨w.heap.size, 0, none⟩) := hold 4 rfl
        have HK : ∀ v W', Below W.heap.size W W' → tailV _ 121 v W' → K { tmps := #[f 0, f 1, f 2, f 3, f 4, f 5, f 6, f 7, f 8, f 9, f 10, f 11, f 12, f 13, f 14, f 15, f 16, f 17, f 18, f 19, f 20, f 21, f 22, f 23, f 24, f 25, f 26, f 27, f 28, f 29, f 30, f 31, f 32, f 33, f 34, f 35, f 36, f 37, f 38, f 39, f 40, f 41, f 42, f 43, f 44, f 45, f 46, f 47, f 48, f 49, f 50, f 51, f 52, f 53, f 54, f 55, f 56, f 57, f 58, f 59, f 60, f 61, f 62, f 63, f 64, f 65, f 66, f 67, f 68, f 69, f 70, f 71, f 72, f 73, f 74, f 75, f 76, f 77, f 78, f 79, f 80, f 81, f 82, f 83, f 84, f 85, f 86, f 87, f 88, f 89, f 90, f 91, f 92, f 93, f 94, f 95, f 96, f 97, f 98, f 99, f 100, f 101, f 102, f 103, f 104, f 105, f 106, f 107, f 108, f 109, f 110, f 111, f 112, f 113, f 114, f 115, f 116, f 117, f 118, f 119, f 120, v, f 122, f 123, f 124, f 125, f 126, f 127, f 128, f 129, f 130, f 131, f 132, f 133, f 134, f 135, f 136, f 137, f 138, f 139, f 140, f 141, f 142, f 143, f 144, f 145, f 146, f 147, f 148, f 149, f 150, f 151, f 152, f 153, f 154, f 155, f 156, f 157, f 158, f 159, f 160, f 161, f 162, f 163, f 164, f 165, f 166, f 167, f 168, f 169, f 170, f 171, f 172, f 173, f 174, f 175, f 176, f 177, f 178, f 179, f 180, f 181, f 182, f 183, f 184, f 185, f 186, f 187, f 188, f 189, f 190], defers := [] } W' := hK
        change wpList _ #[_] _ [_] { tmps := #[f 0, f 1, f 2, f 3, f 4, f 5, f 6, f 7, f 8, f 9, f 10, f 11, f 12, f 13, f 14, f 15, f 16, f 17, f 18, f 19, f 20, f 21, f 22, f 23, f 24, f 25, f 26, f 27, f 28, f 29, f 30, f 31, f 32, f 33, f 34, f 35, f 36, f 37, f 38, f 39, f 40, f 41, f 42, f 43, f 44, f 45, f 46, f 47, f 48, f 49, f 50, f 51, f 52, f 53, f 54, f 55, f 56, f 57, f 58, f 59, f 60, f 61, f 62, f 63, f 64, f 65, f 66, f 67, f 68, f 69, f 70, f 71, f 72, f 73, f 74, f 75, f 76, f 77, f 78, f 79, f 80, f 81, f 82, f 83, f 84, f 85, f 86, f 87, f 88, f 89, f 90, f 91, f 92, f 93, f 94, f 95, f 96, f 97, f 98, f 99, f 100, f 101, f 102, f 103, f 104, f 105, f 106, f 107, f 108, f 109, f 110, f 111, f 112, f 113, f 114, f 115, f 116, f 117, f 118, f 119, f 120, f 121, f 122, f 123, f 124, f 125, f 126, f 127, f 128, f 129, f 130, f 131, f 132, f 133, f 134, f 135, f 136, f 137, f 138, f 139, f 140, f 141, f 142, f 143, f 144, f 145, f 146, f 147, f 148, f 149, f 150, f 151, f 152, f 153, f 154, f 155, f 156, f 157, f 158, f 159, f 160, f 161, f 162, f 163, f 164, f 165, f 166, f 167, f 168, f 169, f 170, f 171, f 172, f 173, f 174, f 175, f 176, f 177, f 178, f 179, f 180, f 181, f 182, f 183, f 184, f 185, f 186, f 187, f 188, f 189, f 190], defers := [] } W
        clear hK hd hold
        simp only [ze4] at HK ⊢
        clear ze4
        have HK := Aside.mk HK
        go_wp2
        exact HK.out _ _ (Below.refl _ _) rfl
      · -- 122 := load 3 t121
        intro f W hW hold hd K hK
        have zg : f 119 = .bool false := hd 119 rfl rfl
        refine .inl ⟨wanted_of (g := 11) (t := 119) (by kernel_rfl) (by kernel_rfl) (of_decide_eq_true (by kernel_rfl)) zg, ?_⟩
        clear zg
        dsimp only [bare]
        have ze121 : f 121 = .pointer (some ⟨w.heap.size, 0, none⟩) := hd 121 rfl rfl
        have HK : ∀ v W', Below W.heap.size W W' → tailV _ 122 v W' → K { tmps := #[f 0, f 1, f 2, f 3, f 4, f 5, f 6, f 7, f 8, f 9, f 10, f 11, f 12, f 13, f 14, f 15, f 16, f 17, f 18, f 19, f 20, f 21, f 22, f 23, f 24, f 25, f 26, f 27, f 28, f 29, f 30, f 31, f 32, f 33, f 34, f 35, f 36, f 37, f 38, f 39, f 40, f 41, f 42, f 43, f 44, f 45, f 46, f 47, f 48, f 49, f 50, f 51, f 52, f 53, f 54, f 55, f 56, f 57, f 58, f 59, f 60, f 61, f 62, f 63, f 64, f 65, f 66, f 67, f 68, f 69, f 70, f 71, f 72, f 73, f 74, f 75, f 76, f 77, f 78, f 79, f 80, f 81, f 82, f 83, f 84, f 85, f 86, f 87, f 88, f 89, f 90, f 91, f 92, f 93, f 94, f 95, f 96, f 97, f 98, f 99, f 100, f 101, f 102, f 103, f 104, f 105, f 106, f 107, f 108, f 109, f 110, f 111, f 112, f 113, f 114, f 115, f 116, f 117, f 118, f 119, f 120, f 121, v, f 123, f 124, f 125, f 126, f 127, f 128, f 129, f 130, f 131, f 132, f 133, f 134, f 135, f 136, f 137, f 138, f 139, f 140, f 141, f 142, f 143, f 144, f 145, f 146, f 147, f 148, f 149, f 150, f 151, f 152, f 153, f 154, f 155, f 156, f 157, f 158, f 159, f 160, f 161, f 162, f 163, f 164, f 165, f 166, f 167, f 168, f 169, f 170, f 171, f 172, f 173, f 174, f 175, f 176, f 177, f 178, f 179, f 180, f 181, f 182, f 183, f 184, f 185, f 186, f 187, f 188, f 189, f 190], defers := [] } W' := hK
        change wpList _ #[_] _ [_] { tmps := #[f 0, f 1, f 2, f 3, f 4, f 5, f 6, f 7, f 8, f 9, f 10, f 11, f 12, f 13, f 14, f 15, f 16, f 17, f 18, f 19, f 20, f 21, f 22, f 23, f 24, f 25, f 26, f 27, f 28, f 29, f 30, f 31, f 32, f 33, f 34, f 35, f 36, f 37, f 38, f 39, f 40, f 41, f 42, f 43, f 44, f 45, f 46, f 47, f 48, f 49, f 50, f 51, f 52, f 53, f 54, f 55, f 56, f 57, f 58, f 59, f 60, f 61, f 62, f 63, f 64, f 65, f 66, f 67, f 68, f 69, f 70, f 71, f 72, f 73, f 74, f 75, f 76, f 77, f 78, f 79, f 80, f 81, f 82, f 83, f 84, f 85, f 86, f 87, f 88, f 89, f 90, f 91, f 92, f 93, f 94, f 95, f 96, f 97, f 98, f 99, f 100, f 101, f 102, f 103, f 104, f 105, f 106, f 107, f 108, f 109, f 110, f 111, f 112, f 113, f 114, f 115, f 116, f 117, f 118, f 119, f 120, f 121, f 122, f 123, f 124, f 125, f 126, f 127, f 128, f 129, f 130, f 131, f 132, f 133, f 134, f 135, f 136, f 137, f 138, f 139, f 140, f 141, f 142, f 143, f 144, f 145, f 146, f 147, f 148, f 149, f 150, f 151, f 152, f 153, f 154, f 155, f 156, f 157, f 158, f 159, f 160, f 161, f 162, f 163, f 164, f 165, f 166, f 167, f 168, f 169, f 170, f 171, f 172, f 173, f 174, f 175, f 176, f 177, f 178, f 179, f 180, f 181, f 182, f 183, f 184, f 185, f 186, f 187, f 188, f 189, f 190], defers := [] } W
        clear hK hd hold
        simp only [ze121] at HK ⊢
        clear ze121
        have HK := Aside.mk HK
        have hh := cells2 (below_blk HH.out.1 hW); have hcell := hh.1; clear hh
        go_wp2
        exact HK.out _ _ (Below.refl _ _) rfl
      · -- 123 := CALL f19 chert/chertref11.Bytes [t122, <i64 8>] : [3, 3]
        intro f W hW hold hd K hK
        have zg : f 119 = .bool false := hd 119 rfl rfl
        refine .inl ⟨wanted_of (g := 11) (t := 119) (by kernel_rfl) (by kernel_rfl) (of_decide_eq_true (by kernel_rfl)) zg, ?_⟩
        clear zg
        dsimp only [bare]
        have ze122 : f 122 = .int .i64 a := hd 122 rfl rfl
        have HK : ∀ v W', Below W.heap.size W W' → tailV _ 123 v W' → K { tmps := #[f 0, f 1, f 2, f 3, f 4, f 5, f 6, f 7, f 8, f 9, f 10, f 11, f 12, f 13, f 14, f 15, f 16, f 17, f 18, f 19, f 20, f 21, f 22, f 23, f 24, f 25, f 26, f 27, f 28, f 29, f 30, f 31, f 32, f 33, f 34, f 35, f 36, f 37, f 38, f 39, f 40, f 41, f 42, f 43, f 44, f 45, f 46, f 47, f 48, f 49, f 50, f 51, f 52, f 53, f 54, f 55, f 56, f 57, f 58, f 59, f 60, f 61, f 62, f 63, f 64, f 65, f 66, f 67, f 68, f 69, f 70, f 71, f 72, f 73, f 74, f 75, f 76, f 77, f 78, f 79, f 80, f 81, f 82, f 83, f 84, f 85, f 86, f 87, f 88, f 89, f 90, f 91, f 92, f 93, f 94, f 95, f 96, f 97, f 98, f 99, f 100, f 101, f 102, f 103, f 104, f 105, f 106, f 107, f 108, f 109, f 110, f 111, f 112, f 113, f 114, f 115, f 116, f 117, f 118, f 119, f 120, f 121, f 122, v, f 124, f 125, f 126, f 127, f 128, f 129, f 130, f 131, f 132, f 133, f 134, f 135, f 136, f 137, f 138, f 139, f 140, f 141, f 142, f 143, f 144, f 145, f 146, f 147, f 148, f 149, f 150, f 151, f 152, f 153, f 154, f 155, f 156, f 157, f 158, f 159, f 160, f 161, f 162, f 163, f 164, f 165, f 166, f 167, f 168, f 169, f 170, f 171, f 172, f 173, f 174, f 175, f 176, f 177, f 178, f 179, f 180, f 181, f 182, f 183, f 184, f 185, f 186, f 187, f 188, f 189, f 190], defers := [] } W' := hK
        change wpList _ #[_] _ [_] { tmps := #[f 0, f 1, f 2, f 3, f 4, f 5, f 6, f 7, f 8, f 9, f 10, f 11, f 12, f 13, f 14, f 15, f 16, f 17, f 18, f 19, f 20, f 21, f 22, f 23, f 24, f 25, f 26, f 27, f 28, f 29, f 30, f 31, f 32, f 33, f 34, f 35, f 36, f 37, f 38, f 39, f 40, f 41, f 42, f 43, f 44, f 45, f 46, f 47, f 48, f 49, f 50, f 51, f 52, f 53, f 54, f 55, f 56, f 57, f 58, f 59, f 60, f 61, f 62, f 63, f 64, f 65, f 66, f 67, f 68, f 69, f 70, f 71, f 72, f 73, f 74, f 75, f 76, f 77, f 78, f 79, f 80, f 81, f 82, f 83, f 84, f 85, f 86, f 87, f 88, f 89, f 90, f 91, f 92, f 93, f 94, f 95, f 96, f 97, f 98, f 99, f 100, f 101, f 102, f 103, f 104, f 105, f 106, f 107, f 108, f 109, f 110, f 111, f 112, f 113, f 114, f 115, f 116, f 117, f 118, f 119, f 120, f 121, f 122, f 123, f 124, f 125, f 126, f 127, f 128, f 129, f 130, f 131, f 132, f 133, f 134, f 135, f 136, f 137, f 138, f 139, f 140, f 141, f 142, f 143, f 144, f 145, f 146, f 147, f 148, f 149, f 150, f 151, f 152, f 153, f 154, f 155, f 156, f 157, f 158, f 159, f 160, f 161, f 162, f 163, f 164, f 165, f 166, f 167, f 168, f 169, f 170, f 171, f 172, f 173, f 174, f 175, f 176, f 177, f 178, f 179, f 180, f 181, f 182, f 183, f 184, f 185, f 186, f 187, f 188, f 189, f 190], defers := [] } W
        clear hK hd hold
        simp only [ze122] at HK ⊢
        clear ze122
        have HK := Aside.mk HK
        go_wp2_with (go_at_call 19; refine (ref_bytes_at a.toNat 8 _ _ W (by have := HFI.out; omega) rfl (by have := HFI.out; omega) (by omega)).mono ?_; rw [HBA.out.1]; rintro e w9 ⟨rfl, hb9⟩)
        exact HK.out _ _ hb9 rfl
      · -- 124 := binOp neq 9 t120 t123 9
        intro f W hW hold hd K hK
        have zg : f 119 = .bool false := hd 119 rfl rfl
        refine .inl ⟨wanted_of (g := 11) (t := 119) (by kernel_rfl) (by kernel_rfl) (of_decide_eq_true (by kernel_rfl)) zg, ?_⟩
        clear zg
        dsimp only [bare]
        have ze120 : f 120 = .string (numsB [a]) := hd 120 rfl rfl
        have ze123 : f 123 = .string (numsB [a]) := hd 123 rfl rfl
        have HK : ∀ v W', Below W.heap.size W W' → tailV _ 124 v W' → K { tmps := #[f 0, f 1, f 2, f 3, f 4, f 5, f 6, f 7, f 8, f 9, f 10, f 11, f 12, f 13, f 14, f 15, f 16, f 17, f 18, f 19, f 20, f 21, f 22, f 23, f 24, f 25, f 26, f 27, f 28, f 29, f 30, f 31, f 32, f 33, f 34, f 35, f 36, f 37, f 38, f 39, f 40, f 41, f 42, f 43, f 44, f 45, f 46, f 47, f 48, f 49, f 50, f 51, f 52, f 53, f 54, f 55, f 56, f 57, f 58, f 59, f 60, f 61, f 62, f 63, f 64, f 65, f 66, f 67, f 68, f 69, f 70, f 71, f 72, f 73, f 74, f 75, f 76, f 77, f 78, f 79, f 80, f 81, f 82, f 83, f 84, f 85, f 86, f 87, f 88, f 89, f 90, f 91, f 92, f 93, f 94, f 95, f 96, f 97, f 98, f 99, f 100, f 101, f 102, f 103, f 104, f 105, f 106, f 107, f 108, f 109, f 110, f 111, f 112, f 113, f 114, f 115, f 116, f 117, f 118, f 119, f 120, f 121, f 122, f 123, v, f 125, f 126, f 127, f 128, f 129, f 130, f 131, f 132, f 133, f 134, f 135, f 136, f 137, f 138, f 139, f 140, f 141, f 142, f 143, f 144, f 145, f 146, f 147, f 148, f 149, f 150, f 151, f 152, f 153, f 154, f 155, f 156, f 157, f 158, f 159, f 160, f 161, f 162, f 163, f 164, f 165, f 166, f 167, f 168, f 169, f 170, f 171, f 172, f 173, f 174, f 175, f 176, f 177, f 178, f 179, f 180, f 181, f 182, f 183, f 184, f 185, f 186, f 187, f 188, f 189, f 190], defers := [] } W' := hK
        change wpList _ #[_] _ [_] { tmps := #[f 0, f 1, f 2, f 3, f 4, f 5, f 6, f 7, f 8, f 9, f 10, f 11, f 12, f 13, f 14, f 15, f 16, f 17, f 18, f 19, f 20, f 21, f 22, f 23, f 24, f 25, f 26, f 27, f 28, f 29, f 30, f 31, f 32, f 33, f 34, f 35, f 36, f 37, f 38, f 39, f 40, f 41, f 42, f 43, f 44, f 45, f 46, f 47, f 48, f 49, f 50, f 51, f 52, f 53, f 54, f 55, f 56, f 57, f 58, f 59, f 60, f 61, f 62, f 63, f 64, f 65, f 66, f 67, f 68, f 69, f 70, f 71, f 72, f 73, f 74, f 75, f 76, f 77, f 78, f 79, f 80, f 81, f 82, f 83, f 84, f 85, f 86, f 87, f 88, f 89, f 90, f 91, f 92, f 93, f 94, f 95, f 96, f 97, f 98, f 99, f 100, f 101, f 102, f 103, f 104, f 105, f 106, f 107, f 108, f 109, f 110, f 111, f 112, f 113, f 114, f 115, f 116, f 117, f 118, f 119, f 120, f 121, f 122, f 123, f 124, f 125, f 126, f 127, f 128, f 129, f 130, f 131, f 132, f 133, f 134, f 135, f 136, f 137, f 138, f 139, f 140, f 141, f 142, f 143, f 144, f 145, f 146, f 147, f 148, f 149, f 150, f 151, f 152, f 153, f 154, f 155, f 156, f 157, f 158, f 159, f 160, f 161, f 162, f 163, f 164, f 165, f 166, f 167, f 168, f 169, f 170, f 171, f 172, f 173, f 174, f 175, f 176, f 177, f 178, f 179, f 180, f 181, f 182, f 183, f 184, f 185, f 186, f 187, f 188, f 189, f 190], defers := [] } W
        clear hK hd hold
        simp only [ze120, ze123] at HK ⊢
        clear ze120 ze123
        have HK := Aside.mk HK
        go_wp2
        refine HK.out _ _ (Below.refl _ _) ?_
        change _ = Value.bool false
        first | rfl | simp
      · -- 125 := pick t119 <bool(true)> t124
        intro f W hW hold hd K hK
        refine .inl ⟨wanted_free rfl _, ?_⟩
        dsimp only [bare]
        have ze119 : f 119 = .bool false := hd 119 rfl rfl
        have ze124 : f 124 = .bool false := hd 124 rfl rfl
        have HK : ∀ v W', Below W.heap.size W W' → tailV _ 125 v W' → K { tmps := #[f 0, f 1, f 2, f 3, f 4, f 5, f 6, f 7, f 8, f 9, f 10, f 11, f 12, f 13, f 14, f 15, f 16, f 17, f 18, f 19, f 20, f 21, f 22, f 23, f 24, f 25, f 26, f 27, f 28, f 29, f 30, f 31, f 32, f 33, f 34, f 35, f 36, f 37, f 38, f 39, f 40, f 41, f 42, f 43, f 44, f 45, f 46, f 47, f 48, f 49, f 50, f 51, f 52, f 53, f 54, f 55, f 56, f 57, f 58, f 59, f 60, f 61, f 62, f 63, f 64, f 65, f 66, f 67, f 68, f 69, f 70, f 71, f 72, f 73, f 74, f 75, f 76, f 77, f 78, f 79, f 80, f 81, f 82, f 83, f 84, f 85, f 86, f 87, f 88, f 89, f 90, f 91, f 92, f 93, f 94, f 95, f 96, f 97, f 98, f 99, f 100, f 101, f 102, f 103, f 104, f 105, f 106, f 107, f 108, f 109, f 110, f 111, f 112, f 113, f 114, f 115, f 116, f 117, f 118, f 119, f 120, f 121, f 122, f 123, f 124, v, f 126, f 127, f 128, f 129, f 130, f 131, f 132, f 133, f 134, f 135, f 136, f 137, f 138, f 139, f 140, f 141, f 142, f 143, f 144, f 145, f 146, f 147, f 148, f 149, f 150, f 151, f 152, f 153, f 154, f 155, f 156, f 157, f 158, f 159, f 160, f 161, f 162, f 163, f 164, f 165, f 166, f 167, f 168, f 169, f 170, f 171, f 172, f 173, f 174, f 175, f 176, f 177, f 178, f 179, f 180, f 181, f 182, f 183, f 184, f 185, f 186, f 187, f 188, f 189, f 190], defers := [] } W' := hK
        change wpList _ #[_] _ [_] { tmps := #[f 0, f 1, f 2, f 3, f 4, f 5, f 6, f 7, f 8, f 9, f 10, f 11, f 12, f 13, f 14, f 15, f 16, f 17, f 18, f 19, f 20, f 21, f 22, f 23, f 24, f 25, f 26, f 27, f 28, f 29, f 30, f 31, f 32, f 33, f 34, f 35, f 36, f 37, f 38, f 39, f 40, f 41, f 42, f 43, f 44, f 45, f 46, f 47, f 48, f 49, f 50, f 51, f 52, f 53, f 54, f 55, f 56, f 57, f 58, f 59, f 60, f 61, f 62, f 63, f 64, f 65, f 66, f 67, f 68, f 69, f 70, f 71, f 72, f 73, f 74, f 75, f 76, f 77, f 78, f 79, f 80, f 81, f 82, f 83, f 84, f 85, f 86, f 87, f 88, f 89, f 90, f 91, f 92, f 93, f 94, f 95, f 96, f 97, f 98, f 99, f 100, f 101, f 102, f 103, f 104, f 105, f 106, f 107, f 108, f 109, f 110, f 111, f 112, f 113, f 114, f 115, f 116, f 117, f 118, f 119, f 120, f 121, f 122, f 123, f 124, f 125, f 126, f 127, f 128, f 129, f 130, f 131, f 132, f 133, f 134, f 135, f 136, f 137, f 138, f 139, f 140, f 141, f 142, f 143, f 144, f 145, f 146, f 147, f 148, f 149, f 150, f 151, f 152, f 153, f 154, f 155, f 156, f 157, f 158, f 159, f 160, f 161, f 162, f 163, f 164, f 165, f 166, f 167, f 168, f 169, f 170, f 171, f 172, f 173, f 174, f 175, f 176, f 177, f 178, f 179, f 180, f 181, f 182, f 183, f 184, f 185, f 186, f 187, f 188, f 189, f 190], defers := [] } W
        clear hK hd hold
        simp only [ze119, ze124] at HK ⊢
        clear ze119 ze124
        have HK := Aside.mk HK
        go_wp2
        exact HK.out _ _ (Below.refl _ _) rfl
      · intro f W hW hold hd aa ha
        replace ha : aa = { tmps := #[f 0, f 1, f 2, f 3, f 4, f 5, f 6, f 7, f 8, f 9, f 10, f 11, f 12, f 13, f 14, f 15, f 16, f 17, f 18, f 19, f 20, f 21, f 22, f 23, f 24, f 25, f 26, f 27, f 28, f 29, f 30, f 31, f 32, f 33, f 34, f 35, f 36, f 37, f 38, f 39, f 40, f 41, f 42, f 43, f 44, f 45, f 46, f 47, f 48, f 49, f 50, f 51, f 52, f 53, f 54, f 55, f 56, f 57, f 58, f 59, f 60, f 61, f 62, f 63, f 64, f 65, f 66, f 67, f 68, f 69, f 70, f 71, f 72, f 73, f 74, f 75, f 76, f 77, f 78, f 79, f 80, f 81, f 82, f 83, f 84, f 85, f 86, f 87, f 88, f 89, f 90, f 91, f 92, f 93, f 94, f 95, f 96, f 97, f 98, f 99, f 100, f 101, f 102, f 103, f 104, f 105, f 106, f 107, f 108, f 109, f 110, f 111, f 112, f 113, f 114, f 115, f 116, f 117, f 118, f 119, f 120, f 121, f 122, f 123, f 124, f 125, f 126, f 127, f 128, f 129, f 130, f 131, f 132, f 133, f 134, f 135, f 136, f 137, f 138, f 139, f 140, f 141, f 142, f 143, f 144, f 145, f 146, f 147, f 148, f 149, f 150, f 151, f 152, f 153, f 154, f 155, f 156, f 157, f 158, f 159, f 160, f 161, f 162, f 163, f 164, f 165, f 166, f 167, f 168, f 169, f 170, f 171, f 172, f 173, f 174, f 175, f 176, f 177, f 178, f 179, f 180, f 181, f 182, f 183, f 184, f 185, f 186, f 187, f 188, f 189, f 190], defers := [] } := ha
        have ze0 : f 0 = .bool true := hold 0 rfl
        have ze2 : f 2 = .string s := hold 2 rfl
        have ze4 : f 4 = .pointer (some ⟨w.heap.size, 0, none⟩) := hold 4 rfl
        have ze6 : f 6 = .bool false := hold 6 rfl
        have ze7 : f 7 = .pointer (some ⟨p2, 0, none⟩) := hold 7 rfl
        have ze8 : f 8 = .string (inodeB true a b) := hold 8 rfl
        have ze9 : f 9 = .string (numsB [a]) := hold 9 rfl
        have ze11 : f 11 = .pointer (some ⟨p5, 0, none⟩) := hold 11 rfl
        have ze15 : f 15 = .string (⟨#[1]⟩ : ByteArray) := hold 15 rfl
        have ze108 : f 108 = .string (inodeB true a b) := hd 108 rfl
        have ze109 : f 109 = .string (⟨#[1]⟩ : ByteArray) := hd 109 rfl
        have ze110 : f 110 = .pointer (some ⟨w.heap.size, 0, none⟩) := hd 110 rfl
        have ze111 : f 111 = .int .i64 a := hd 111 rfl
        have ze112 : f 112 = .string (numsB [a]) := hd 112 rfl
        have ze113 : f 113 = .string ((⟨#[1]⟩ : ByteArray) ++ numsB [a]) := hd 113 rfl
        have ze114 : f 114 = .pointer (some ⟨w.heap.size, 1, none⟩) := hd 114 rfl
        have ze115 : f 115 = .int .i64 b := hd 115 rfl
        have ze116 : f 116 = .string (numsB [b]) := hd 116 rfl
        have ze117 : f 117 = .string ((⟨#[1]⟩ : ByteArray) ++ numsB [a] ++ numsB [b]) := hd 117 rfl
        have ze118 : f 118 = .bool false := hd 118 rfl
        have ze119 : f 119 = .bool false := hd 119 rfl
        have ze120 : f 120 = .string (numsB [a]) := hd 120 rfl
        have ze121 : f 121 = .pointer (some ⟨w.heap.size, 0, none⟩) := hd 121 rfl
        have ze122 : f 122 = .int .i64 a := hd 122 rfl
        have ze123 : f 123 = .string (numsB [a]) := hd 123 rfl
        have ze124 : f 124 = .bool false := hd 124 rfl
        have ze125 : f 125 = .bool false := hd 125 rfl
        simp only [ze0, ze2, ze4, ze6, ze7, ze8, ze9, ze11, ze15, ze108, ze109, ze110, ze111, ze112, ze113, ze114, ze115, ze116, ze117, ze118, ze119, ze120, ze121, ze122, ze123, ze124, ze125] at ha
        subst ha
        clear hold hd ze0 ze2 ze4 ze6 ze7 ze8 ze9 ze11 ze15 ze108 ze109 ze110 ze111 ze112 ze113 ze114 ze115 ze116 ze117 ze118 ze119 ze120 ze121 ze122 ze123 ze124 ze125
        have HT : Aside (Below w.heap.size w W) := ⟨HH.out.2.2.2.trans (hW.mono HH.out.2.2.2.size)⟩
        clear hW HH
        obtain ⟨jg, ja, jb, hj, hjs⟩ := ino_says s
        have HJ := Aside.mk hj
        have HJS := Aside.mk hjs
        have hes := ent_writ s
        have HES := Aside.mk hes
        have hok1 : inoOk s = (decide (s.size = 17) && (decide ((byte0 s).toNat ≤ 1) && (fitsB (numAt s 1) && fitsB (numAt s 9)))) := rfl
        have hok2 : entOk s = (decide (s.size = 8) && fitsB (numAt s 0)) := rfl
        have HO1 := Aside.mk hok1
        have HO2 := Aside.mk hok2
        clear hj hjs hes hok1 hok2
        generalize hyes : inoOk s = yes at *
        generalize htoo : entOk s = too at *
        generalize hk : entN s = kk at *
        have HENT2 : Aside (∀ W, Calls Tryd.prog 23 #[.string s] W fun e w' => e = .returned (.tuple #[.int .i64 kk, .bool too]) ∧ Below W.heap.size W w') := ⟨fun W => by rw [← htoo, ← hk]; exact get_entry s W⟩
        clear hyes htoo hk
        go_upto_region 18 with (go_at_call 22; refine (get_inode s _).mono ?_; rw [HJ.out]; rintro e w9 ⟨rfl, hb9⟩)
        have HV : Aside ((w9.alloc (.cells (inoC jg ja jb) 55)).heap[w9.heap.size]? = some (.cells (inoC jg ja jb) 55 (0, 0)) ∧ Below w.heap.size w (w9.alloc (.cells (inoC jg ja jb) 55))) := ⟨heap_alloc_new _ _, (below_trans HT.out HT.out.size hb9).alloc (Nat.le_trans HT.out.size hb9.size) _⟩
        generalize w9.alloc (.cells (inoC jg ja jb) 55) = wx at *
        generalize w9.heap.size = px at *
        clear HT hb9 HJ
        go_upto_region 19 with (go_at_call 23; refine (HENT2.out _).mono ?_; rintro e wy ⟨rfl, hby⟩)
        have HU : Aside (wy.heap[px]? = some (.cells (inoC jg ja jb) 55 (0, 0)) ∧ Below w.heap.size w wy) := ⟨below_blk HV.out.1 hby, below_trans HV.out.2 HV.out.2.size hby⟩
        clear HV hby HENT2
        obtain ⟨k0, k1, k2⟩ := cellsI HU.out.1
        by_cases h17 : s.size = 17
        · have h17i : (s.size : Int) = 17 := by omega
          obtain rfl : false = too := by rw [HO2.out, decide_eq_false (by omega), Bool.false_and]
          have hz0 : 0 < s.size := by omega
          have hb0 : (s[0]'hz0).toNat = (byte0 s).toNat := by rw [byte_of rfl]; rfl
          obtain ⟨r1, hr1, hr1a, hr1b⟩ := num_says s 1 9 (by omega) (by omega)
          obtain ⟨r9, hr9, hr9a, hr9b⟩ := num_says s 9 s.size (by omega) (by omega)
          have hy := HO1.out
          rw [decide_eq_true h17, Bool.true_and] at hy
          have HY := Aside.mk hy
          have HR1 := Aside.mk hr1
          have HR9 := Aside.mk hr9
          have HRA := Aside.mk (And.intro hr1a (And.intro hr1b (And.intro hr9a hr9b)))
          have hs17 : 17 ≤ s.size := by omega
          have hs17' : (17 : Int) ≤ s.size := by omega
          clear hy hr1 hr9 hr1a hr1b hr9a hr9b HO1 HO2 h17
          by_cases hf0 : (byte0 s).toNat ≤ 1
          · have hf0' : ((byte0 s).toNat : Int) ≤ 1 := by omega
            have hy2 := HY.out
            rw [decide_eq_true hf0, Bool.true_and] at hy2
            have HY2 := Aside.mk hy2
            clear hy2 HY hf0
            generalize (byte0 s).toNat = f0 at *
            generalize hq1 : fitsB (numAt s 1) = q1 at *
            generalize hq9 : fitsB (numAt s 9) = q9 at *
            clear hq1 hq9
            cases q1
            · have hr := HRA.out.2.1 rfl
              obtain rfl : false = yes := HY2.out.symm
              clear HRA HY2
              go_wp2_with (first | (go_at_call 24; refine (HR1.out _).mono ?_; rintro e wn ⟨rfl, rfl⟩))
              go_ret
              exact ⟨by first | rfl | (simp; done) | (simp; omega), HU.out.2⟩
            · have hr := HRA.out.1 rfl
              cases q9
              · have hr' := HRA.out.2.2.2 rfl
                obtain rfl : false = yes := HY2.out.symm
                clear HRA HY2
                go_wp2_with (first | (go_at_call 24; first | (refine (HR1.out _).mono ?_; rintro e wn ⟨rfl, rfl⟩; clear HR1) | (refine (HR9.out _).mono ?_; rintro e wn ⟨rfl, rfl⟩)))
                go_ret
                exact ⟨by first | rfl | (simp; done) | (simp; omega), HU.out.2⟩
              · have hr' := HRA.out.2.2.1 rfl
                obtain rfl : true = yes := HY2.out.symm
                have hse := HJS.out rfl
                have HSE := Aside.mk hse
                clear HRA HY2 hse
                go_wp2_with (first | (go_at_call 24; first | (refine (HR1.out _).mono ?_; rintro e wn ⟨rfl, rfl⟩; clear HR1) | (refine (HR9.out _).mono ?_; rintro e wn ⟨rfl, rfl⟩)) | (go_at_call 20; refine (put_inode jg ja jb _).mono ?_; rw [HSE.out]; rintro e wp ⟨rfl, hbp⟩))
                go_ret
                exact ⟨by first | rfl | (simp; done) | (simp; omega), below_trans HU.out.2 HU.out.2.size hbp⟩
          · have hf0' : (1 : Int) < (byte0 s).toNat := by omega
            have hy2 := HY.out
            rw [decide_eq_false hf0, Bool.false_and] at hy2
            obtain rfl : false = yes := hy2.symm
            clear HY hf0 hy2
            generalize (byte0 s).toNat = f0 at *
            go_wp2
            go_ret
            exact ⟨by first | rfl | (simp; done) | (simp; omega), HU.out.2⟩
        · have h17i : ((s.size : Int) == 17) = false := by simp; omega
          obtain rfl : false = yes := by rw [HO1.out, decide_eq_false h17, Bool.false_and]
          by_cases h8 : s.size = 8
          · have h8i : (s.size : Int) = 8 := by omega
            obtain ⟨r0, hr0, hr0a, hr0b⟩ := num_says s 0 s.size (by omega) (by omega)
            have hwh : s.extract 0 s.size = s := bytes_ext (by rw [extract_list2, List.drop_zero]; exact List.take_of_length_le (by rw [data_len]; omega))
            rw [hwh] at hr0
            have hy := HO2.out
            rw [decide_eq_true h8, Bool.true_and] at hy
            have HY := Aside.mk hy
            have HR0 := Aside.mk hr0
            have HRA := Aside.mk (And.intro hr0a hr0b)
            clear hy hr0 hr0a hr0b HO1 HO2 h17 h8 hwh
            generalize hq0 : fitsB (numAt s 0) = q0 at *
            clear hq0
            cases q0
            · have hr := HRA.out.2 rfl
              obtain rfl : false = too := HY.out.symm
              clear HRA HY
              go_wp2_with (first | (go_at_call 24; refine (HR0.out _).mono ?_; rintro e wn ⟨rfl, rfl⟩))
              go_ret
              exact ⟨by first | rfl | (simp; done) | (simp; omega), HU.out.2⟩
            · have hr := HRA.out.1 rfl
              obtain rfl : true = too := HY.out.symm
              have hse := HES.out rfl
              have HSE := Aside.mk hse
              clear HRA HY hse
              go_wp2_with (first | (go_at_call 24; refine (HR0.out _).mono ?_; rintro e wn ⟨rfl, rfl⟩) | (go_at_call 21; refine (put_entry kk _).mono ?_; rw [HSE.out]; rintro e wp ⟨rfl, hbp⟩))
              go_ret
              exact ⟨by first | rfl | (simp; done) | (simp; omega), below_trans HU.out.2 HU.out.2.size hbp⟩
          · have h8i : ((s.size : Int) == 8) = false := by simp; omega
            have h8j : ¬ (s.size : Int) = 8 := by omega
            have h17j : ¬ (s.size : Int) = 17 := by omega
            obtain rfl : false = too := by rw [HO2.out, decide_eq_false h8, Bool.false_and]
            clear HO1 HO2 h17 h8
            go_wp2
            go_ret
            exact ⟨by first | rfl | (simp; done) | (simp; omega), HU.out.2⟩


theorem nodeValues_walk (g : Bool) (a b : Int) (s : ByteArray) (w : World) (hw : (Lit.int .i64 a).wf = true ∧ (Lit.int .i64 b).wf = true) (hs : s.size ≤ 140737488351232) (hnib : Nib w) :
    Calls Tryd.prog 8 #[.bool g, .agg #[.int .i64 a, .int .i64 b], .string s] w fun e w' => e = .returned (.bool true) ∧ Below w.heap.size w w' := by
  cases h : (fitsB a && fitsB b)
  · exact nodeValues_no g a b s w hw hs hnib h
  · cases g
    · exact nodeValues_yf false a b s w hw hs hnib h rfl
    · exact nodeValues_yt true a b s w hw hs hnib h rfl
end Go.Proofs.YtmomphjhlbampaaDoor
