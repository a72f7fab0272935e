/-
  Every label as bytes, and every text that may begin with one.
-/
import Derived.Test.YtmomphjhlbampaaDoorNodeLab
import Derived.Test.YtmomphjhlbampaaDoorRelG
namespace Go.Proofs.YtmomphjhlbampaaDoor
open Go.RowKit

theorem labT_list (x : UInt8) (a b d : Int) : (labT x a b d).data.toList = x :: (beL 8 (u64 a) ++ (beL 8 (u64 b) ++ (beL 8 (u64 d) ++ le4 (Crc.sum (byteB x ++ numsB [a, b, d]).data.toList)))) := by
  unfold labT
  rw [sealed_list, cat_list]
  simp [numsB, numsL]
theorem labT_size (x : UInt8) (a b d : Int) : (labT x a b d).size = 29 := by
  unfold labT
  rw [sealed_size, ByteArray.size_append, numsB_size]; rfl
theorem fits_wrap {a : Int} (h : fitsB a = true) : IntKind.i64.wrap (beN (beL 8 (u64 a))) = a := by
  simp only [fitsB, decide_eq_true_eq] at h
  rw [beN_beL, Nat.mod_eq_of_lt (u64_lt a)]
  exact u64_wrap (by omega)
theorem lab_back (x : UInt8) (a b d : Int) (s : ByteArray) (h : labOk x a b d = true) : labR (labT x a b d ++ s) = .tuple #[labV x.toNat a b d, .bool true] := by
  have hz := labT_size x a b d
  have he : (labT x a b d ++ s).extract 0 29 = labT x a b d := by
    apply bytes_ext
    rw [extract_list2, List.drop_zero, cat_list, Nat.sub_zero, List.take_append_of_le_length (by rw [data_len, hz]; exact Nat.le_refl _)]
    exact List.take_of_length_le (by rw [data_len, hz]; exact Nat.le_refl _)
  have h' := h
  simp only [labOk, Bool.and_eq_true] at h'
  obtain ⟨_, ha, hb, hd⟩ := h'
  have l8 : ∀ v : Int, (beL 8 (u64 v)).length = 8 := fun v => beL_length 8 _
  have tk : ∀ (v : Int) (R : List UInt8), (beL 8 (u64 v) ++ R).take 8 = beL 8 (u64 v) := fun v R => by
    rw [List.take_append_of_le_length (by rw [l8]; exact Nat.le_refl _)]; exact List.take_of_length_le (by rw [l8]; exact Nat.le_refl _)
  have dp : ∀ (v : Int) (R : List UInt8) (k : Nat), (beL 8 (u64 v) ++ R).drop (8 + k) = R.drop k := fun v R k => by
    rw [← List.drop_drop]; congr 1
  have n1 : numAt (labT x a b d) 1 = a := by
    unfold numAt
    rw [labT_list, List.drop_succ_cons, List.drop_zero, tk]; exact fits_wrap ha
  have n9 : numAt (labT x a b d) 9 = b := by
    unfold numAt
    rw [labT_list, List.drop_succ_cons, show 8 = 8 + 0 from rfl, dp, List.drop_zero, tk]; exact fits_wrap hb
  have n17 : numAt (labT x a b d) 17 = d := by
    unfold numAt
    rw [labT_list, List.drop_succ_cons, show 16 = 8 + (8 + 0) from rfl, dp, dp, List.drop_zero, tk]; exact fits_wrap hd
  have b0 : byte0 (labT x a b d) = x := by unfold byte0; rw [labT_list]; rfl
  have hg : getOk (labT x a b d ++ s) = true := by
    unfold getOk
    rw [he, n1, n9, n17, b0, h]
    simp [hz]
  unfold labR
  rw [hg, he, n1, n9, n17, b0]
  rfl
theorem be_fits {a : Int} (h : fitsB a = true) : be 8 a.toNat = numsB [a] := by
  simp only [fitsB, decide_eq_true_eq] at h
  exact be_q h
theorem lab_text (x : UInt8) (a b d : Int) : sealed (byteB x ++ numsB [a] ++ numsB [b] ++ numsB [d]) = labT x a b d := by
  unfold labT
  congr 1

abbrev A3 (a b d : Int) : Array Value := #[.int .i64 a, .int .i64 b, .int .i64 d]
theorem cells3 {W : World} {p : Nat} {a b d : Int} {t : TypeId} (h : W.heap[p]? = some (.cells (A3 a b d) t (0, 0))) : W.cell? ⟨p, 0, none⟩ = some (.int .i64 a) ∧ W.cell? ⟨p, 1, none⟩ = some (.int .i64 b) ∧ W.cell? ⟨p, 2, none⟩ = some (.int .i64 d) :=
  ⟨(row_cell h 0 rfl).1, (row_cell h 1 rfl).1, (row_cell h 2 rfl).1⟩
theorem cells4 {W : World} {p : Nat} {c a b d : Int} {t : TypeId} (h : W.heap[p]? = some (.cells (labC c a b d) t (0, 0))) : W.cell? ⟨p, 0, none⟩ = some (.int .u8 c) ∧ W.cell? ⟨p, 1, none⟩ = some (.int .i64 a) ∧ W.cell? ⟨p, 2, none⟩ = some (.int .i64 b) ∧ W.cell? ⟨p, 3, none⟩ = some (.int .i64 d) :=
  ⟨(row_cell h 0 rfl).1, (row_cell h 1 rfl).1, (row_cell h 2 rfl).1, (row_cell h 3 rfl).1⟩

set_option maxRecDepth 20000 in
set_option maxHeartbeats 8000000 in
theorem nodeLabels_walk (c a b d : Int) (s : ByteArray) (w : World) (hcw : (Lit.int .u8 c).wf = true) (_wn : (Lit.int .i64 a).wf = true ∧ (Lit.int .i64 b).wf = true ∧ (Lit.int .i64 d).wf = true) (hs : s.size ≤ 140737488351232) (hnib : Nib w) :
    Calls Tryd.prog 7 #[.int .u8 c, .agg #[.int .i64 a, .int .i64 b, .int .i64 d], .string s] w fun e w' => e = .returned (.bool true) ∧ Below w.heap.size w w' := by
  obtain ⟨x, hc⟩ : ∃ x : UInt8, (x.toNat : Int) = c := ⟨UInt8.ofNat c.toNat, by
    have h1 : 0 ≤ c ∧ c ≤ 255 := by simpa [Lit.wf, IntKind.min, IntKind.max, IntKind.signed, IntKind.bits] using hcw
    rw [UInt8.toNat_ofNat']; omega⟩
  have hx := x.toNat_lt
  have HC := Aside.mk hc
  have HN := Aside.mk hnib
  have HS := Aside.mk hs
  have hxr : labOk x a b d = (decide (65 ≤ c) && (decide (c ≤ 90) && (fitsB a && (fitsB b && fitsB d)))) := by
    unfold labOk; rw [← Bool.and_assoc (decide (65 ≤ c))]; congr 1; rw [Bool.eq_iff_iff]; simp; omega
  have HX := Aside.mk hxr
  clear hcw _wn hnib hc hs hx hxr
  go_enter Tryd.func7, Tryd.ntmps7
  go_upto_region 1 with fail
  have HA : Aside ((w.alloc (.cells (A3 a b d) 43)).heap[w.heap.size]? = some (.cells (A3 a b d) 43 (0, 0)) ∧ Below w.heap.size w (w.alloc (.cells (A3 a b d) 43))) := ⟨heap_alloc_new _ _, (Below.refl _ _).alloc (Nat.le_refl _) _⟩
  generalize w.alloc (.cells (A3 a b d) 43) = w0 at *
  go_upto_region 3 with (go_at_call 9; refine (node_speaks _ (HN.out.below HA.out.2)).mono ?_; rintro e w1 ⟨rfl, hb1⟩)
  have HB : Aside (w1.heap[w.heap.size]? = some (.cells (A3 a b d) 43 (0, 0)) ∧ Below w.heap.size w w1) := ⟨below_blk HA.out.1 hb1, below_trans HA.out.2 HA.out.2.size hb1⟩
  clear HA hb1
  obtain ⟨c0, c1, c2⟩ := cells3 HB.out.1
  go_upto_region 4 with fail
  clear c0 c1 c2
  have HD : Aside ((w1.alloc (.cells (labC c a b d) 45)).heap[w.heap.size]? = some (.cells (A3 a b d) 43 (0, 0)) ∧ (w1.alloc (.cells (labC c a b d) 45)).heap[w1.heap.size]? = some (.cells (labC c a b d) 45 (0, 0)) ∧ Below w.heap.size w (w1.alloc (.cells (labC c a b d) 45))) :=
    ⟨row_alloc HB.out.1 _, heap_alloc_new _ _, HB.out.2.alloc HB.out.2.size _⟩
  clear HB
  generalize w1.alloc (.cells (labC c a b d) 45) = w2 at *
  generalize w1.heap.size = p2 at *
  obtain ⟨c0, c1, c2, c3⟩ := cells4 HD.out.2.1
  go_upto_region 5 with (go_at_call 15; refine (put_label x c HC.out a b d _ (HN.out.below HD.out.2.2)).mono ?_; rintro e w3 ⟨rfl, hb3⟩)
  have HE : Aside (w3.heap[w.heap.size]? = some (.cells (A3 a b d) 43 (0, 0)) ∧ w3.heap[p2]? = some (.cells (labC c a b d) 45 (0, 0)) ∧ Below w.heap.size w w3) := ⟨below_blk HD.out.1 hb3, below_blk HD.out.2.1 hb3, below_trans HD.out.2.2 HD.out.2.2.size hb3⟩
  clear HD hb3 c0 c1 c2 c3
  obtain ⟨ec, ea, eb, ed, gk, hrs, hg0, hg1⟩ : ∃ (ec ea eb ed : Int) (gk : Bool), labR s = .tuple #[labV ec ea eb ed, .bool gk] ∧ (gk = false → ec = 0 ∧ ea = 0 ∧ eb = 0 ∧ ed = 0) ∧
      (gk = true → ∃ xe : UInt8, (xe.toNat : Int) = ec ∧ 29 ≤ s.size ∧ (.tuple #[.string (labB xe ea eb ed), .bool (labOk xe ea eb ed)] : Value) = .tuple #[.string (s.extract 0 29), .bool true]) := by
    unfold labR
    cases hgk : getOk s
    · exact ⟨0, 0, 0, 0, false, rfl, fun _ => ⟨rfl, rfl, rfl, rfl⟩, fun h => by cases h⟩
    · refine ⟨_, _, _, _, true, rfl, fun h => (by cases h), fun _ => ⟨byte0 (s.extract 0 29), rfl, ?_⟩⟩
      simp only [getOk, Bool.and_eq_true, decide_eq_true_eq] at hgk
      obtain ⟨h1, h2, h3⟩ := hgk
      refine ⟨h1, ?_⟩
      unfold labB
      rw [h2, h3]; rfl
  have HRS0 := Aside.mk hrs
  have HG0 := Aside.mk hg0
  have HG1 := Aside.mk hg1
  clear hrs hg0 hg1
  cases hok : labOk x a b d
  · have hlb : labB x a b d = ⟨#[]⟩ := by unfold labB; rw [hok]; rfl
    have h5 : c < 65 ∨ (65 ≤ c ∧ 90 < c) ∨ (65 ≤ c ∧ c ≤ 90 ∧ fitsB a = false) ∨ (65 ≤ c ∧ c ≤ 90 ∧ fitsB a = true ∧ fitsB b = false) ∨ (65 ≤ c ∧ c ≤ 90 ∧ fitsB a = true ∧ fitsB b = true ∧ fitsB d = false) := by
      have h := HX.out
      rw [hok] at h
      by_cases h1 : 65 ≤ c
      · by_cases h2 : c ≤ 90
        · simp only [h1, h2, decide_true, Bool.true_and] at h
          clear HC HN HS HX HE
          cases ha : fitsB a <;> cases hb : fitsB b <;> cases hd : fitsB d <;> simp [ha, hb, hd] at h ⊢ <;> omega
        · exact .inr (.inl ⟨h1, by omega⟩)
      · exact .inl (by omega)
    have HOK := Aside.mk hok
    generalize labB x a b d = lb at *
    subst hlb
    clear HX hok
    generalize labOk x a b d = ok at *
    obtain ⟨hokf⟩ := HOK
    subst hokf
    rcases h5 with h | ⟨h, h'⟩ | ⟨h, h', ha⟩ | ⟨h, h', ha, hb⟩ | ⟨h, h', ha, hb, hd⟩
    all_goals
      obtain ⟨c0, c1, c2⟩ := cells3 HE.out.1
      go_upto_region 14 with (go_at_call 16; refine (ref_fits _ _).mono ?_; rintro e w4 ⟨rfl, rfl⟩)
      clear c0 c1 c2
      have HT : Aside (Below w.heap.size w w3) := ⟨HE.out.2.2⟩
      go_upto_region 15 with (go_at_call 17; refine (get_label s _ (HN.out.below HT.out)).mono ?_; rw [HRS0.out]; rintro e w9 ⟨rfl, hb9⟩)
      have HU : Aside ((w9.alloc (.cells (labC ec ea eb ed) 45)).heap[w9.heap.size]? = some (.cells (labC ec ea eb ed) 45 (0, 0)) ∧ Below w.heap.size w (w9.alloc (.cells (labC ec ea eb ed) 45))) := ⟨heap_alloc_new _ _, (below_trans HT.out HT.out.size hb9).alloc (Nat.le_trans HT.out.size hb9.size) _⟩
      generalize w9.alloc (.cells (labC ec ea eb ed) 45) = wx at *
      generalize w9.heap.size = px at *
      clear HT hb9
      obtain ⟨k0, k1, k2, k3⟩ := cells4 HU.out.1
      cases gk
      · obtain ⟨rfl, rfl, rfl, rfl⟩ := HG0.out rfl
        clear HG0 HG1
        go_wp2
        go_ret
        exact ⟨rfl, HU.out.2⟩
      · obtain ⟨xe, hxe, hle, hlt⟩ := HG1.out rfl
        clear HG0 HG1
        have HLT := Aside.mk hlt
        have HXE := Aside.mk hxe
        have hle' : (29 : Int) ≤ s.size := by omega
        clear hlt hxe
        go_wp2_with (go_at_call 15; refine (put_label xe ec HXE.out ea eb ed _ (HN.out.below HU.out.2)).mono ?_; rw [HLT.out]; rintro e wz ⟨rfl, hbz⟩)
        go_ret
        exact ⟨by first | rfl | simp, below_trans HU.out.2 HU.out.2.size hbz⟩
  · have hok' := HX.out
    rw [hok] at hok'
    have h5 : 65 ≤ c ∧ c ≤ 90 ∧ fitsB a = true ∧ fitsB b = true ∧ fitsB d = true := by simpa using hok'.symm
    obtain ⟨h, h', ha, hb, hd⟩ := h5
    have hlb : labB x a b d = labT x a b d := by unfold labB; rw [hok]; rfl
    have hback : ∀ W, Nib W → Calls Tryd.prog 17 #[.string (labT x a b d ++ s)] W fun e w' => e = .returned (.tuple #[labV c a b d, .bool true]) ∧ Below W.heap.size W w' := fun W hW => by
      have := get_label (labT x a b d ++ s) W hW
      rw [lab_back x a b d s hok, HC.out] at this
      exact this
    have HBACK := Aside.mk hback
    have hlz := labT_size x a b d
    have HTX := Aside.mk (lab_text x a b d)
    have HBA := Aside.mk (And.intro (be_fits ha) (And.intro (be_fits hb) (be_fits hd)))
    have HFI : Aside ((0 ≤ a ∧ a ≤ 1099511627776) ∧ (0 ≤ b ∧ b ≤ 1099511627776) ∧ (0 ≤ d ∧ d ≤ 1099511627776)) := by
      have ha' := ha
      have hb' := hb
      have hd' := hd
      simp only [fitsB, decide_eq_true_eq] at ha' hb' hd'
      exact ⟨ha', hb', hd'⟩
    rw [hlb]
    clear hok hok' HX hlb hback
    have hTL : Aside (sealed (byteB x ++ numsB [a] ++ numsB [b] ++ numsB [d]) = labT x a b d) := HTX
    generalize labT x a b d = lt at *
    have hsz := HS.out
    obtain ⟨c0, c1, c2⟩ := cells3 HE.out.1
    go_upto_region 10 with (first | (go_at_call 16; refine (ref_fits _ _).mono ?_; rintro e w4 ⟨rfl, rfl⟩) | (go_at_call 17; refine (HBACK.out _ (HN.out.below HE.out.2.2)).mono ?_; rintro e w5 ⟨rfl, hb5⟩))
    clear ha hb hd c0 c1 c2 HBACK
    have HG : Aside ((w5.alloc (.cells (labC c a b d) 45)).heap[w.heap.size]? = some (.cells (A3 a b d) 43 (0, 0)) ∧ (w5.alloc (.cells (labC c a b d) 45)).heap[p2]? = some (.cells (labC c a b d) 45 (0, 0)) ∧ (w5.alloc (.cells (labC c a b d) 45)).heap[w5.heap.size]? = some (.cells (labC c a b d) 45 (0, 0)) ∧ Below w.heap.size w (w5.alloc (.cells (labC c a b d) 45))) :=
      ⟨row_alloc (below_blk HE.out.1 hb5) _, row_alloc (below_blk HE.out.2.1 hb5) _, heap_alloc_new _ _, (below_trans HE.out.2.2 HE.out.2.2.size hb5).alloc (Nat.le_trans HE.out.2.2.size hb5.size) _⟩
    generalize w5.alloc (.cells (labC c a b d) 45) = w6 at *
    generalize w5.heap.size = p5 at *
    clear HE hb5 hlz hsz
    have HGL : Aside (w.heap.size < w6.heap.size ∧ p2 < w6.heap.size ∧ p5 < w6.heap.size) := ⟨heap_lt HG.out.1, heap_lt HG.out.2.1, heap_lt HG.out.2.2.1⟩
    refine wp_region_relG (by kernel_rfl) (by kernel_rfl) (rel_small (by kernel_rfl)) (tailV [(64, .val (.bool true)), (65, .val (.bool false)), (66, .val (.bool false)), (67, .val (labV c a b d)), (68, .val (labV c a b d)), (69, .val (.bool false)), (70, .val (.bool false)), (71, .val (.bool false)), (72, .val (.string lt)), (73, .val (.int .u8 c)), (74, .row #[.int .u8 c] 5 1), (75, .val (.string (byteB x))), (76, .val (.pointer (some ⟨w.heap.size, 0, none⟩))), (77, .val (.int .i64 a)), (78, .val (.string (numsB [a]))), (79, .val (.string (byteB x ++ numsB [a]))), (80, .val (.pointer (some ⟨w.heap.size, 1, none⟩))), (81, .val (.int .i64 b)), (82, .val (.string (numsB [b]))), (83, .val (.string (byteB x ++ numsB [a] ++ numsB [b]))), (84, .val (.pointer (some ⟨w.heap.size, 2, none⟩))), (85, .val (.int .i64 d)), (86, .val (.string (numsB [d]))), (87, .val (.string (byteB x ++ numsB [a] ++ numsB [b] ++ numsB [d]))), (88, .val (.string lt)), (89, .val (.bool false)), (90, .val (.bool false))]) (tailV_stable _) ⟨?_, ?_, ?_, ?_, ?_, ?_, ?_, ?_, ?_, ?_, ?_, ?_, ?_, ?_, ?_, ?_, ?_, ?_, ?_, ?_, ?_, ?_, ?_, ?_, ?_, ?_, ?_, trivial⟩ ?_
    · -- 64 := move t12
      intro f W hW hold hd K hK
      refine .inl ⟨wanted_free rfl _, ?_⟩
      dsimp only [bare]
      have ze12 : f 12 = .bool true := hold 12 rfl
      have HK : ∀ v W', Below W.heap.size W W' → tailV _ 64 v W' → K { tmps := #[f 0, f 1, f 2, f 3, f 4, f 5, f 6, f 7, f 8, f 9, f 10, f 11, f 12, f 13, f 14, f 15, f 16, f 17, f 18, f 19, f 20, f 21, f 22, f 23, f 24, f 25, f 26, f 27, f 28, f 29, f 30, f 31, f 32, f 33, f 34, f 35, f 36, f 37, f 38, f 39, f 40, f 41, f 42, f 43, f 44, f 45, f 46, f 47, f 48, f 49, f 50, f 51, f 52, f 53, f 54, f 55, f 56, f 57, f 58, f 59, f 60, f 61, f 62, f 63, v, f 65, f 66, f 67, f 68, f 69, f 70, f 71, f 72, f 73, f 74, f 75, f 76, f 77, f 78, f 79, f 80, f 81, f 82, f 83, f 84, f 85, f 86, f 87, f 88, f 89, f 90, f 91, f 92, f 93, f 94, f 95, f 96, f 97, f 98, f 99, f 100, f 101, f 102, f 103, f 104, f 105, f 106, f 107, f 108, f 109, f 110, f 111, f 112, f 113, f 114, f 115, f 116], defers := [] } W' := hK
      change wpList _ #[_] _ [_] { tmps := #[f 0, f 1, f 2, f 3, f 4, f 5, f 6, f 7, f 8, f 9, f 10, f 11, f 12, f 13, f 14, f 15, f 16, f 17, f 18, f 19, f 20, f 21, f 22, f 23, f 24, f 25, f 26, f 27, f 28, f 29, f 30, f 31, f 32, f 33, f 34, f 35, f 36, f 37, f 38, f 39, f 40, f 41, f 42, f 43, f 44, f 45, f 46, f 47, f 48, f 49, f 50, f 51, f 52, f 53, f 54, f 55, f 56, f 57, f 58, f 59, f 60, f 61, f 62, f 63, f 64, f 65, f 66, f 67, f 68, f 69, f 70, f 71, f 72, f 73, f 74, f 75, f 76, f 77, f 78, f 79, f 80, f 81, f 82, f 83, f 84, f 85, f 86, f 87, f 88, f 89, f 90, f 91, f 92, f 93, f 94, f 95, f 96, f 97, f 98, f 99, f 100, f 101, f 102, f 103, f 104, f 105, f 106, f 107, f 108, f 109, f 110, f 111, f 112, f 113, f 114, f 115, f 116], defers := [] } W
      clear hK hd hold
      simp only [ze12] at HK ⊢
      clear ze12
      have HK := Aside.mk HK
      go_wp2
      exact HK.out _ _ (Below.refl _ _) rfl
    · -- 65 := unOp not 4 t64
      intro f W hW hold hd K hK
      refine .inl ⟨wanted_free rfl _, ?_⟩
      dsimp only [bare]
      have ze64 : f 64 = .bool true := hd 64 rfl rfl
      have HK : ∀ v W', Below W.heap.size W W' → tailV _ 65 v W' → K { tmps := #[f 0, f 1, f 2, f 3, f 4, f 5, f 6, f 7, f 8, f 9, f 10, f 11, f 12, f 13, f 14, f 15, f 16, f 17, f 18, f 19, f 20, f 21, f 22, f 23, f 24, f 25, f 26, f 27, f 28, f 29, f 30, f 31, f 32, f 33, f 34, f 35, f 36, f 37, f 38, f 39, f 40, f 41, f 42, f 43, f 44, f 45, f 46, f 47, f 48, f 49, f 50, f 51, f 52, f 53, f 54, f 55, f 56, f 57, f 58, f 59, f 60, f 61, f 62, f 63, f 64, v, f 66, f 67, f 68, f 69, f 70, f 71, f 72, f 73, f 74, f 75, f 76, f 77, f 78, f 79, f 80, f 81, f 82, f 83, f 84, f 85, f 86, f 87, f 88, f 89, f 90, f 91, f 92, f 93, f 94, f 95, f 96, f 97, f 98, f 99, f 100, f 101, f 102, f 103, f 104, f 105, f 106, f 107, f 108, f 109, f 110, f 111, f 112, f 113, f 114, f 115, f 116], defers := [] } W' := hK
      change wpList _ #[_] _ [_] { tmps := #[f 0, f 1, f 2, f 3, f 4, f 5, f 6, f 7, f 8, f 9, f 10, f 11, f 12, f 13, f 14, f 15, f 16, f 17, f 18, f 19, f 20, f 21, f 22, f 23, f 24, f 25, f 26, f 27, f 28, f 29, f 30, f 31, f 32, f 33, f 34, f 35, f 36, f 37, f 38, f 39, f 40, f 41, f 42, f 43, f 44, f 45, f 46, f 47, f 48, f 49, f 50, f 51, f 52, f 53, f 54, f 55, f 56, f 57, f 58, f 59, f 60, f 61, f 62, f 63, f 64, f 65, f 66, f 67, f 68, f 69, f 70, f 71, f 72, f 73, f 74, f 75, f 76, f 77, f 78, f 79, f 80, f 81, f 82, f 83, f 84, f 85, f 86, f 87, f 88, f 89, f 90, f 91, f 92, f 93, f 94, f 95, f 96, f 97, f 98, f 99, f 100, f 101, f 102, f 103, f 104, f 105, f 106, f 107, f 108, f 109, f 110, f 111, f 112, f 113, f 114, f 115, f 116], defers := [] } W
      clear hK hd hold
      simp only [ze64] at HK ⊢
      clear ze64
      have HK := Aside.mk HK
      go_wp2
      exact HK.out _ _ (Below.refl _ _) rfl
    · -- 66 := move t65
      intro f W hW hold hd K hK
      refine .inl ⟨wanted_free rfl _, ?_⟩
      dsimp only [bare]
      have ze65 : f 65 = .bool false := hd 65 rfl rfl
      have HK : ∀ v W', Below W.heap.size W W' → tailV _ 66 v W' → K { tmps := #[f 0, f 1, f 2, f 3, f 4, f 5, f 6, f 7, f 8, f 9, f 10, f 11, f 12, f 13, f 14, f 15, f 16, f 17, f 18, f 19, f 20, f 21, f 22, f 23, f 24, f 25, f 26, f 27, f 28, f 29, f 30, f 31, f 32, f 33, f 34, f 35, f 36, f 37, f 38, f 39, f 40, f 41, f 42, f 43, f 44, f 45, f 46, f 47, f 48, f 49, f 50, f 51, f 52, f 53, f 54, f 55, f 56, f 57, f 58, f 59, f 60, f 61, f 62, f 63, f 64, f 65, v, f 67, f 68, f 69, f 70, f 71, f 72, f 73, f 74, f 75, f 76, f 77, f 78, f 79, f 80, f 81, f 82, f 83, f 84, f 85, f 86, f 87, f 88, f 89, f 90, f 91, f 92, f 93, f 94, f 95, f 96, f 97, f 98, f 99, f 100, f 101, f 102, f 103, f 104, f 105, f 106, f 107, f 108, f 109, f 110, f 111, f 112, f 113, f 114, f 115, f 116], defers := [] } W' := hK
      change wpList _ #[_] _ [_] { tmps := #[f 0, f 1, f 2, f 3, f 4, f 5, f 6, f 7, f 8, f 9, f 10, f 11, f 12, f 13, f 14, f 15, f 16, f 17, f 18, f 19, f 20, f 21, f 22, f 23, f 24, f 25, f 26, f 27, f 28, f 29, f 30, f 31, f 32, f 33, f 34, f 35, f 36, f 37, f 38, f 39, f 40, f 41, f 42, f 43, f 44, f 45, f 46, f 47, f 48, f 49, f 50, f 51, f 52, f 53, f 54, f 55, f 56, f 57, f 58, f 59, f 60, f 61, f 62, f 63, f 64, f 65, f 66, f 67, f 68, f 69, f 70, f 71, f 72, f 73, f 74, f 75, f 76, f 77, f 78, f 79, f 80, f 81, f 82, f 83, f 84, f 85, f 86, f 87, f 88, f 89, f 90, f 91, f 92, f 93, f 94, f 95, f 96, f 97, f 98, f 99, f 100, f 101, f 102, f 103, f 104, f 105, f 106, f 107, f 108, f 109, f 110, f 111, f 112, f 113, f 114, f 115, f 116], defers := [] } W
      clear hK hd hold
      simp only [ze65] at HK ⊢
      clear ze65
      have HK := Aside.mk HK
      go_wp2
      exact HK.out _ _ (Below.refl _ _) rfl
    · -- 67 := load 45 t11
      intro f W hW hold hd K hK
      have zg : f 66 = .bool false := hd 66 rfl rfl
      refine .inl ⟨wanted_of (g := 2) (t := 66) (by kernel_rfl) (by kernel_rfl) (of_decide_eq_true (by kernel_rfl)) zg, ?_⟩
      clear zg
      dsimp only [bare]
      have ze11 : f 11 = .pointer (some ⟨p5, 0, none⟩) := hold 11 rfl
      have HK : ∀ v W', Below W.heap.size W W' → tailV _ 67 v W' → K { tmps := #[f 0, f 1, f 2, f 3, f 4, f 5, f 6, f 7, f 8, f 9, f 10, f 11, f 12, f 13, f 14, f 15, f 16, f 17, f 18, f 19, f 20, f 21, f 22, f 23, f 24, f 25, f 26, f 27, f 28, f 29, f 30, f 31, f 32, f 33, f 34, f 35, f 36, f 37, f 38, f 39, f 40, f 41, f 42, f 43, f 44, f 45, f 46, f 47, f 48, f 49, f 50, f 51, f 52, f 53, f 54, f 55, f 56, f 57, f 58, f 59, f 60, f 61, f 62, f 63, f 64, f 65, f 66, v, f 68, f 69, f 70, f 71, f 72, f 73, f 74, f 75, f 76, f 77, f 78, f 79, f 80, f 81, f 82, f 83, f 84, f 85, f 86, f 87, f 88, f 89, f 90, f 91, f 92, f 93, f 94, f 95, f 96, f 97, f 98, f 99, f 100, f 101, f 102, f 103, f 104, f 105, f 106, f 107, f 108, f 109, f 110, f 111, f 112, f 113, f 114, f 115, f 116], defers := [] } W' := hK
      change wpList _ #[_] _ [_] { tmps := #[f 0, f 1, f 2, f 3, f 4, f 5, f 6, f 7, f 8, f 9, f 10, f 11, f 12, f 13, f 14, f 15, f 16, f 17, f 18, f 19, f 20, f 21, f 22, f 23, f 24, f 25, f 26, f 27, f 28, f 29, f 30, f 31, f 32, f 33, f 34, f 35, f 36, f 37, f 38, f 39, f 40, f 41, f 42, f 43, f 44, f 45, f 46, f 47, f 48, f 49, f 50, f 51, f 52, f 53, f 54, f 55, f 56, f 57, f 58, f 59, f 60, f 61, f 62, f 63, f 64, f 65, f 66, f 67, f 68, f 69, f 70, f 71, f 72, f 73, f 74, f 75, f 76, f 77, f 78, f 79, f 80, f 81, f 82, f 83, f 84, f 85, f 86, f 87, f 88, f 89, f 90, f 91, f 92, f 93, f 94, f 95, f 96, f 97, f 98, f 99, f 100, f 101, f 102, f 103, f 104, f 105, f 106, f 107, f 108, f 109, f 110, f 111, f 112, f 113, f 114, f 115, f 116], defers := [] } W
      clear hK hd hold
      simp only [ze11] at HK ⊢
      clear ze11
      have HK := Aside.mk HK
      have hh := below_blk (HG.out.2.2.1) hW; have k0 := (row_cell hh 0 (v := .int .u8 c) rfl).1; have k1 := (row_cell hh 1 (v := .int .i64 a) rfl).1; have k2 := (row_cell hh 2 (v := .int .i64 b) rfl).1; have k3 := (row_cell hh 3 (v := .int .i64 d) rfl).1; clear hh
      go_wp2
      exact HK.out _ _ (Below.refl _ _) rfl
    · -- 68 := load 45 t7
      intro f W hW hold hd K hK
      have zg : f 66 = .bool false := hd 66 rfl rfl
      refine .inl ⟨wanted_of (g := 2) (t := 66) (by kernel_rfl) (by kernel_rfl) (of_decide_eq_true (by kernel_rfl)) zg, ?_⟩
      clear zg
      dsimp only [bare]
      have ze7 : f 7 = .pointer (some ⟨p2, 0, none⟩) := hold 7 rfl
      have HK : ∀ v W', Below W.heap.size W W' → tailV _ 68 v W' → K { tmps := #[f 0, f 1, f 2, f 3, f 4, f 5, f 6, f 7, f 8, f 9, f 10, f 11, f 12, f 13, f 14, f 15, f 16, f 17, f 18, f 19, f 20, f 21, f 22, f 23, f 24, f 25, f 26, f 27, f 28, f 29, f 30, f 31, f 32, f 33, f 34, f 35, f 36, f 37, f 38, f 39, f 40, f 41, f 42, f 43, f 44, f 45, f 46, f 47, f 48, f 49, f 50, f 51, f 52, f 53, f 54, f 55, f 56, f 57, f 58, f 59, f 60, f 61, f 62, f 63, f 64, f 65, f 66, f 67, v, f 69, f 70, f 71, f 72, f 73, f 74, f 75, f 76, f 77, f 78, f 79, f 80, f 81, f 82, f 83, f 84, f 85, f 86, f 87, f 88, f 89, f 90, f 91, f 92, f 93, f 94, f 95, f 96, f 97, f 98, f 99, f 100, f 101, f 102, f 103, f 104, f 105, f 106, f 107, f 108, f 109, f 110, f 111, f 112, f 113, f 114, f 115, f 116], defers := [] } W' := hK
      change wpList _ #[_] _ [_] { tmps := #[f 0, f 1, f 2, f 3, f 4, f 5, f 6, f 7, f 8, f 9, f 10, f 11, f 12, f 13, f 14, f 15, f 16, f 17, f 18, f 19, f 20, f 21, f 22, f 23, f 24, f 25, f 26, f 27, f 28, f 29, f 30, f 31, f 32, f 33, f 34, f 35, f 36, f 37, f 38, f 39, f 40, f 41, f 42, f 43, f 44, f 45, f 46, f 47, f 48, f 49, f 50, f 51, f 52, f 53, f 54, f 55, f 56, f 57, f 58, f 59, f 60, f 61, f 62, f 63, f 64, f 65, f 66, f 67, f 68, f 69, f 70, f 71, f 72, f 73, f 74, f 75, f 76, f 77, f 78, f 79, f 80, f 81, f 82, f 83, f 84, f 85, f 86, f 87, f 88, f 89, f 90, f 91, f 92, f 93, f 94, f 95, f 96, f 97, f 98, f 99, f 100, f 101, f 102, f 103, f 104, f 105, f 106, f 107, f 108, f 109, f 110, f 111, f 112, f 113, f 114, f 115, f 116], defers := [] } W
      clear hK hd hold
      simp only [ze7] at HK ⊢
      clear ze7
      have HK := Aside.mk HK
      have hh := below_blk (HG.out.2.1) hW; have k0 := (row_cell hh 0 (v := .int .u8 c) rfl).1; have k1 := (row_cell hh 1 (v := .int .i64 a) rfl).1; have k2 := (row_cell hh 2 (v := .int .i64 b) rfl).1; have k3 := (row_cell hh 3 (v := .int .i64 d) rfl).1; clear hh
      go_wp2
      exact HK.out _ _ (Below.refl _ _) rfl
    · -- 69 := binOp neq 45 t67 t68 45
      intro f W hW hold hd K hK
      have zg : f 66 = .bool false := hd 66 rfl rfl
      refine .inl ⟨wanted_of (g := 2) (t := 66) (by kernel_rfl) (by kernel_rfl) (of_decide_eq_true (by kernel_rfl)) zg, ?_⟩
      clear zg
      dsimp only [bare]
      have ze67 : f 67 = labV c a b d := hd 67 rfl rfl
      have ze68 : f 68 = labV c a b d := hd 68 rfl rfl
      have HK : ∀ v W', Below W.heap.size W W' → tailV _ 69 v W' → K { tmps := #[f 0, f 1, f 2, f 3, f 4, f 5, f 6, f 7, f 8, f 9, f 10, f 11, f 12, f 13, f 14, f 15, f 16, f 17, f 18, f 19, f 20, f 21, f 22, f 23, f 24, f 25, f 26, f 27, f 28, f 29, f 30, f 31, f 32, f 33, f 34, f 35, f 36, f 37, f 38, f 39, f 40, f 41, f 42, f 43, f 44, f 45, f 46, f 47, f 48, f 49, f 50, f 51, f 52, f 53, f 54, f 55, f 56, f 57, f 58, f 59, f 60, f 61, f 62, f 63, f 64, f 65, f 66, f 67, f 68, v, f 70, f 71, f 72, f 73, f 74, f 75, f 76, f 77, f 78, f 79, f 80, f 81, f 82, f 83, f 84, f 85, f 86, f 87, f 88, f 89, f 90, f 91, f 92, f 93, f 94, f 95, f 96, f 97, f 98, f 99, f 100, f 101, f 102, f 103, f 104, f 105, f 106, f 107, f 108, f 109, f 110, f 111, f 112, f 113, f 114, f 115, f 116], defers := [] } W' := hK
      change wpList _ #[_] _ [_] { tmps := #[f 0, f 1, f 2, f 3, f 4, f 5, f 6, f 7, f 8, f 9, f 10, f 11, f 12, f 13, f 14, f 15, f 16, f 17, f 18, f 19, f 20, f 21, f 22, f 23, f 24, f 25, f 26, f 27, f 28, f 29, f 30, f 31, f 32, f 33, f 34, f 35, f 36, f 37, f 38, f 39, f 40, f 41, f 42, f 43, f 44, f 45, f 46, f 47, f 48, f 49, f 50, f 51, f 52, f 53, f 54, f 55, f 56, f 57, f 58, f 59, f 60, f 61, f 62, f 63, f 64, f 65, f 66, f 67, f 68, f 69, f 70, f 71, f 72, f 73, f 74, f 75, f 76, f 77, f 78, f 79, f 80, f 81, f 82, f 83, f 84, f 85, f 86, f 87, f 88, f 89, f 90, f 91, f 92, f 93, f 94, f 95, f 96, f 97, f 98, f 99, f 100, f 101, f 102, f 103, f 104, f 105, f 106, f 107, f 108, f 109, f 110, f 111, f 112, f 113, f 114, f 115, f 116], defers := [] } W
      clear hK hd hold
      simp only [ze67, ze68] at HK ⊢
      clear ze67 ze68
      have HK := Aside.mk HK
      go_wp2
      exact HK.out _ _ (Below.refl _ _) rfl
    · -- 70 := pick t66 <bool(true)> t69
      intro f W hW hold hd K hK
      refine .inl ⟨wanted_free rfl _, ?_⟩
      dsimp only [bare]
      have ze66 : f 66 = .bool false := hd 66 rfl rfl
      have ze69 : f 69 = .bool false := hd 69 rfl rfl
      have HK : ∀ v W', Below W.heap.size W W' → tailV _ 70 v W' → K { tmps := #[f 0, f 1, f 2, f 3, f 4, f 5, f 6, f 7, f 8, f 9, f 10, f 11, f 12, f 13, f 14, f 15, f 16, f 17, f 18, f 19, f 20, f 21, f 22, f 23, f 24, f 25, f 26, f 27, f 28, f 29, f 30, f 31, f 32, f 33, f 34, f 35, f 36, f 37, f 38, f 39, f 40, f 41, f 42, f 43, f 44, f 45, f 46, f 47, f 48, f 49, f 50, f 51, f 52, f 53, f 54, f 55, f 56, f 57, f 58, f 59, f 60, f 61, f 62, f 63, f 64, f 65, f 66, f 67, f 68, f 69, v, f 71, f 72, f 73, f 74, f 75, f 76, f 77, f 78, f 79, f 80, f 81, f 82, f 83, f 84, f 85, f 86, f 87, f 88, f 89, f 90, f 91, f 92, f 93, f 94, f 95, f 96, f 97, f 98, f 99, f 100, f 101, f 102, f 103, f 104, f 105, f 106, f 107, f 108, f 109, f 110, f 111, f 112, f 113, f 114, f 115, f 116], defers := [] } W' := hK
      change wpList _ #[_] _ [_] { tmps := #[f 0, f 1, f 2, f 3, f 4, f 5, f 6, f 7, f 8, f 9, f 10, f 11, f 12, f 13, f 14, f 15, f 16, f 17, f 18, f 19, f 20, f 21, f 22, f 23, f 24, f 25, f 26, f 27, f 28, f 29, f 30, f 31, f 32, f 33, f 34, f 35, f 36, f 37, f 38, f 39, f 40, f 41, f 42, f 43, f 44, f 45, f 46, f 47, f 48, f 49, f 50, f 51, f 52, f 53, f 54, f 55, f 56, f 57, f 58, f 59, f 60, f 61, f 62, f 63, f 64, f 65, f 66, f 67, f 68, f 69, f 70, f 71, f 72, f 73, f 74, f 75, f 76, f 77, f 78, f 79, f 80, f 81, f 82, f 83, f 84, f 85, f 86, f 87, f 88, f 89, f 90, f 91, f 92, f 93, f 94, f 95, f 96, f 97, f 98, f 99, f 100, f 101, f 102, f 103, f 104, f 105, f 106, f 107, f 108, f 109, f 110, f 111, f 112, f 113, f 114, f 115, f 116], defers := [] } W
      clear hK hd hold
      simp only [ze66, ze69] at HK ⊢
      clear ze66 ze69
      have HK := Aside.mk HK
      go_wp2
      exact HK.out _ _ (Below.refl _ _) rfl
    · -- 71 := move t70
      intro f W hW hold hd K hK
      refine .inl ⟨wanted_free rfl _, ?_⟩
      dsimp only [bare]
      have ze70 : f 70 = .bool false := hd 70 rfl rfl
      have HK : ∀ v W', Below W.heap.size W W' → tailV _ 71 v W' → K { tmps := #[f 0, f 1, f 2, f 3, f 4, f 5, f 6, f 7, f 8, f 9, f 10, f 11, f 12, f 13, f 14, f 15, f 16, f 17, f 18, f 19, f 20, f 21, f 22, f 23, f 24, f 25, f 26, f 27, f 28, f 29, f 30, f 31, f 32, f 33, f 34, f 35, f 36, f 37, f 38, f 39, f 40, f 41, f 42, f 43, f 44, f 45, f 46, f 47, f 48, f 49, f 50, f 51, f 52, f 53, f 54, f 55, f 56, f 57, f 58, f 59, f 60, f 61, f 62, f 63, f 64, f 65, f 66, f 67, f 68, f 69, f 70, v, f 72, f 73, f 74, f 75, f 76, f 77, f 78, f 79, f 80, f 81, f 82, f 83, f 84, f 85, f 86, f 87, f 88, f 89, f 90, f 91, f 92, f 93, f 94, f 95, f 96, f 97, f 98, f 99, f 100, f 101, f 102, f 103, f 104, f 105, f 106, f 107, f 108, f 109, f 110, f 111, f 112, f 113, f 114, f 115, f 116], defers := [] } W' := hK
      change wpList _ #[_] _ [_] { tmps := #[f 0, f 1, f 2, f 3, f 4, f 5, f 6, f 7, f 8, f 9, f 10, f 11, f 12, f 13, f 14, f 15, f 16, f 17, f 18, f 19, f 20, f 21, f 22, f 23, f 24, f 25, f 26, f 27, f 28, f 29, f 30, f 31, f 32, f 33, f 34, f 35, f 36, f 37, f 38, f 39, f 40, f 41, f 42, f 43, f 44, f 45, f 46, f 47, f 48, f 49, f 50, f 51, f 52, f 53, f 54, f 55, f 56, f 57, f 58, f 59, f 60, f 61, f 62, f 63, f 64, f 65, f 66, f 67, f 68, f 69, f 70, f 71, f 72, f 73, f 74, f 75, f 76, f 77, f 78, f 79, f 80, f 81, f 82, f 83, f 84, f 85, f 86, f 87, f 88, f 89, f 90, f 91, f 92, f 93, f 94, f 95, f 96, f 97, f 98, f 99, f 100, f 101, f 102, f 103, f 104, f 105, f 106, f 107, f 108, f 109, f 110, f 111, f 112, f 113, f 114, f 115, f 116], defers := [] } W
      clear hK hd hold
      simp only [ze70] at HK ⊢
      clear ze70
      have HK := Aside.mk HK
      go_wp2
      exact HK.out _ _ (Below.refl _ _) rfl
    · -- 72 := move t8
      intro f W hW hold hd K hK
      have zg : f 71 = .bool false := hd 71 rfl rfl
      refine .inl ⟨wanted_of (g := 7) (t := 71) (by kernel_rfl) (by kernel_rfl) (of_decide_eq_true (by kernel_rfl)) zg, ?_⟩
      clear zg
      dsimp only [bare]
      have ze8 : f 8 = .string lt := hold 8 rfl
      have HK : ∀ v W', Below W.heap.size W W' → tailV _ 72 v W' → K { tmps := #[f 0, f 1, f 2, f 3, f 4, f 5, f 6, f 7, f 8, f 9, f 10, f 11, f 12, f 13, f 14, f 15, f 16, f 17, f 18, f 19, f 20, f 21, f 22, f 23, f 24, f 25, f 26, f 27, f 28, f 29, f 30, f 31, f 32, f 33, f 34, f 35, f 36, f 37, f 38, f 39, f 40, f 41, f 42, f 43, f 44, f 45, f 46, f 47, f 48, f 49, f 50, f 51, f 52, f 53, f 54, f 55, f 56, f 57, f 58, f 59, f 60, f 61, f 62, f 63, f 64, f 65, f 66, f 67, f 68, f 69, f 70, f 71, v, f 73, f 74, f 75, f 76, f 77, f 78, f 79, f 80, f 81, f 82, f 83, f 84, f 85, f 86, f 87, f 88, f 89, f 90, f 91, f 92, f 93, f 94, f 95, f 96, f 97, f 98, f 99, f 100, f 101, f 102, f 103, f 104, f 105, f 106, f 107, f 108, f 109, f 110, f 111, f 112, f 113, f 114, f 115, f 116], defers := [] } W' := hK
      change wpList _ #[_] _ [_] { tmps := #[f 0, f 1, f 2, f 3, f 4, f 5, f 6, f 7, f 8, f 9, f 10, f 11, f 12, f 13, f 14, f 15, f 16, f 17, f 18, f 19, f 20, f 21, f 22, f 23, f 24, f 25, f 26, f 27, f 28, f 29, f 30, f 31, f 32, f 33, f 34, f 35, f 36, f 37, f 38, f 39, f 40, f 41, f 42, f 43, f 44, f 45, f 46, f 47, f 48, f 49, f 50, f 51, f 52, f 53, f 54, f 55, f 56, f 57, f 58, f 59, f 60, f 61, f 62, f 63, f 64, f 65, f 66, f 67, f 68, f 69, f 70, f 71, f 72, f 73, f 74, f 75, f 76, f 77, f 78, f 79, f 80, f 81, f 82, f 83, f 84, f 85, f 86, f 87, f 88, f 89, f 90, f 91, f 92, f 93, f 94, f 95, f 96, f 97, f 98, f 99, f 100, f 101, f 102, f 103, f 104, f 105, f 106, f 107, f 108, f 109, f 110, f 111, f 112, f 113, f 114, f 115, f 116], defers := [] } W
      clear hK hd hold
      simp only [ze8] at HK ⊢
      clear ze8
      have HK := Aside.mk HK
      go_wp2
      exact HK.out _ _ (Below.refl _ _) rfl
    · -- 73 := move t0
      intro f W hW hold hd K hK
      have zg : f 71 = .bool false := hd 71 rfl rfl
      refine .inl ⟨wanted_of (g := 7) (t := 71) (by kernel_rfl) (by kernel_rfl) (of_decide_eq_true (by kernel_rfl)) zg, ?_⟩
      clear zg
      dsimp only [bare]
      have ze0 : f 0 = .int .u8 c := hold 0 rfl
      have HK : ∀ v W', Below W.heap.size W W' → tailV _ 73 v W' → K { tmps := #[f 0, f 1, f 2, f 3, f 4, f 5, f 6, f 7, f 8, f 9, f 10, f 11, f 12, f 13, f 14, f 15, f 16, f 17, f 18, f 19, f 20, f 21, f 22, f 23, f 24, f 25, f 26, f 27, f 28, f 29, f 30, f 31, f 32, f 33, f 34, f 35, f 36, f 37, f 38, f 39, f 40, f 41, f 42, f 43, f 44, f 45, f 46, f 47, f 48, f 49, f 50, f 51, f 52, f 53, f 54, f 55, f 56, f 57, f 58, f 59, f 60, f 61, f 62, f 63, f 64, f 65, f 66, f 67, f 68, f 69, f 70, f 71, f 72, v, f 74, f 75, f 76, f 77, f 78, f 79, f 80, f 81, f 82, f 83, f 84, f 85, f 86, f 87, f 88, f 89, f 90, f 91, f 92, f 93, f 94, f 95, f 96, f 97, f 98, f 99, f 100, f 101, f 102, f 103, f 104, f 105, f 106, f 107, f 108, f 109, f 110, f 111, f 112, f 113, f 114, f 115, f 116], defers := [] } W' := hK
      change wpList _ #[_] _ [_] { tmps := #[f 0, f 1, f 2, f 3, f 4, f 5, f 6, f 7, f 8, f 9, f 10, f 11, f 12, f 13, f 14, f 15, f 16, f 17, f 18, f 19, f 20, f 21, f 22, f 23, f 24, f 25, f 26, f 27, f 28, f 29, f 30, f 31, f 32, f 33, f 34, f 35, f 36, f 37, f 38, f 39, f 40, f 41, f 42, f 43, f 44, f 45, f 46, f 47, f 48, f 49, f 50, f 51, f 52, f 53, f 54, f 55, f 56, f 57, f 58, f 59, f 60, f 61, f 62, f 63, f 64, f 65, f 66, f 67, f 68, f 69, f 70, f 71, f 72, f 73, f 74, f 75, f 76, f 77, f 78, f 79, f 80, f 81, f 82, f 83, f 84, f 85, f 86, f 87, f 88, f 89, f 90, f 91, f 92, f 93, f 94, f 95, f 96, f 97, f 98, f 99, f 100, f 101, f 102, f 103, f 104, f 105, f 106, f 107, f 108, f 109, f 110, f 111, f 112, f 113, f 114, f 115, f 116], defers := [] } W
      clear hK hd hold
      simp only [ze0] at HK ⊢
      clear ze0
      have HK := Aside.mk HK
      go_wp2
      exact HK.out _ _ (Below.refl _ _) rfl
    · -- 74 := buildSlice 51 1 [(0, t73)]
      intro f W hW hold hd K hK
      have zg : f 71 = .bool false := hd 71 rfl rfl
      refine .inl ⟨wanted_of (g := 7) (t := 71) (by kernel_rfl) (by kernel_rfl) (of_decide_eq_true (by kernel_rfl)) zg, ?_⟩
      clear zg
      dsimp only [bare]
      have ze73 : f 73 = .int .u8 c := hd 73 rfl rfl
      have HK : ∀ v W', Below W.heap.size W W' → tailV _ 74 v W' → K { tmps := #[f 0, f 1, f 2, f 3, f 4, f 5, f 6, f 7, f 8, f 9, f 10, f 11, f 12, f 13, f 14, f 15, f 16, f 17, f 18, f 19, f 20, f 21, f 22, f 23, f 24, f 25, f 26, f 27, f 28, f 29, f 30, f 31, f 32, f 33, f 34, f 35, f 36, f 37, f 38, f 39, f 40, f 41, f 42, f 43, f 44, f 45, f 46, f 47, f 48, f 49, f 50, f 51, f 52, f 53, f 54, f 55, f 56, f 57, f 58, f 59, f 60, f 61, f 62, f 63, f 64, f 65, f 66, f 67, f 68, f 69, f 70, f 71, f 72, f 73, v, f 75, f 76, f 77, f 78, f 79, f 80, f 81, f 82, f 83, f 84, f 85, f 86, f 87, f 88, f 89, f 90, f 91, f 92, f 93, f 94, f 95, f 96, f 97, f 98, f 99, f 100, f 101, f 102, f 103, f 104, f 105, f 106, f 107, f 108, f 109, f 110, f 111, f 112, f 113, f 114, f 115, f 116], defers := [] } W' := hK
      change wpList _ #[_] _ [_] { tmps := #[f 0, f 1, f 2, f 3, f 4, f 5, f 6, f 7, f 8, f 9, f 10, f 11, f 12, f 13, f 14, f 15, f 16, f 17, f 18, f 19, f 20, f 21, f 22, f 23, f 24, f 25, f 26, f 27, f 28, f 29, f 30, f 31, f 32, f 33, f 34, f 35, f 36, f 37, f 38, f 39, f 40, f 41, f 42, f 43, f 44, f 45, f 46, f 47, f 48, f 49, f 50, f 51, f 52, f 53, f 54, f 55, f 56, f 57, f 58, f 59, f 60, f 61, f 62, f 63, f 64, f 65, f 66, f 67, f 68, f 69, f 70, f 71, f 72, f 73, f 74, f 75, f 76, f 77, f 78, f 79, f 80, f 81, f 82, f 83, f 84, f 85, f 86, f 87, f 88, f 89, f 90, f 91, f 92, f 93, f 94, f 95, f 96, f 97, f 98, f 99, f 100, f 101, f 102, f 103, f 104, f 105, f 106, f 107, f 108, f 109, f 110, f 111, f 112, f 113, f 114, f 115, f 116], defers := [] } W
      clear hK hd hold
      simp only [ze73] at HK ⊢
      clear ze73
      have HK := Aside.mk HK
      go_wp2
      exact HK.out _ _ ((Below.refl _ _).alloc (Nat.le_refl _) _) ⟨_, rfl, heap_alloc_new _ _⟩
    · -- 75 := convert 51 9 t74
      intro f W hW hold hd K hK
      have zg : f 71 = .bool false := hd 71 rfl rfl
      refine .inl ⟨wanted_of (g := 7) (t := 71) (by kernel_rfl) (by kernel_rfl) (of_decide_eq_true (by kernel_rfl)) zg, ?_⟩
      clear zg
      dsimp only [bare]
      obtain ⟨b74, ze74, r74⟩ : ∃ bb, f 74 = .slice (some ⟨bb, 0, none⟩) 1 1 ∧ W.heap[bb]? = some (.cells #[.int .u8 c] 5 (0, 0)) := hd 74 rfl rfl
      have HK : ∀ v W', Below W.heap.size W W' → tailV _ 75 v W' → K { tmps := #[f 0, f 1, f 2, f 3, f 4, f 5, f 6, f 7, f 8, f 9, f 10, f 11, f 12, f 13, f 14, f 15, f 16, f 17, f 18, f 19, f 20, f 21, f 22, f 23, f 24, f 25, f 26, f 27, f 28, f 29, f 30, f 31, f 32, f 33, f 34, f 35, f 36, f 37, f 38, f 39, f 40, f 41, f 42, f 43, f 44, f 45, f 46, f 47, f 48, f 49, f 50, f 51, f 52, f 53, f 54, f 55, f 56, f 57, f 58, f 59, f 60, f 61, f 62, f 63, f 64, f 65, f 66, f 67, f 68, f 69, f 70, f 71, f 72, f 73, f 74, v, f 76, f 77, f 78, f 79, f 80, f 81, f 82, f 83, f 84, f 85, f 86, f 87, f 88, f 89, f 90, f 91, f 92, f 93, f 94, f 95, f 96, f 97, f 98, f 99, f 100, f 101, f 102, f 103, f 104, f 105, f 106, f 107, f 108, f 109, f 110, f 111, f 112, f 113, f 114, f 115, f 116], defers := [] } W' := hK
      change wpList _ #[_] _ [_] { tmps := #[f 0, f 1, f 2, f 3, f 4, f 5, f 6, f 7, f 8, f 9, f 10, f 11, f 12, f 13, f 14, f 15, f 16, f 17, f 18, f 19, f 20, f 21, f 22, f 23, f 24, f 25, f 26, f 27, f 28, f 29, f 30, f 31, f 32, f 33, f 34, f 35, f 36, f 37, f 38, f 39, f 40, f 41, f 42, f 43, f 44, f 45, f 46, f 47, f 48, f 49, f 50, f 51, f 52, f 53, f 54, f 55, f 56, f 57, f 58, f 59, f 60, f 61, f 62, f 63, f 64, f 65, f 66, f 67, f 68, f 69, f 70, f 71, f 72, f 73, f 74, f 75, f 76, f 77, f 78, f 79, f 80, f 81, f 82, f 83, f 84, f 85, f 86, f 87, f 88, f 89, f 90, f 91, f 92, f 93, f 94, f 95, f 96, f 97, f 98, f 99, f 100, f 101, f 102, f 103, f 104, f 105, f 106, f 107, f 108, f 109, f 110, f 111, f 112, f 113, f 114, f 115, f 116], defers := [] } W
      clear hK hd hold
      simp only [ze74] at HK ⊢
      clear ze74
      have HK := Aside.mk HK
      have hcv := row_text (n := 1) (l := [x]) rfl (by simp [bytesV, HC.out]) (by decide) r74
      go_wp2
      exact HK.out _ _ (Below.refl _ _) rfl
    · -- 76 := indexAddr 43 t4 <i64 0>
      intro f W hW hold hd K hK
      have zg : f 71 = .bool false := hd 71 rfl rfl
      refine .inl ⟨wanted_of (g := 7) (t := 71) (by kernel_rfl) (by kernel_rfl) (of_decide_eq_true (by kernel_rfl)) zg, ?_⟩
      clear zg
      dsimp only [bare]
      have ze4 : f 4 = .pointer (some ⟨w.heap.size, 0, none⟩) := hold 4 rfl
      have HK : ∀ v W', Below W.heap.size W W' → tailV _ 76 v W' → K { tmps := #[f 0, f 1, f 2, f 3, f 4, f 5, f 6, f 7, f 8, f 9, f 10, f 11, f 12, f 13, f 14, f 15, f 16, f 17, f 18, f 19, f 20, f 21, f 22, f 23, f 24, f 25, f 26, f 27, f 28, f 29, f 30, f 31, f 32, f 33, f 34, f 35, f 36, f 37, f 38, f 39, f 40, f 41, f 42, f 43, f 44, f 45, f 46, f 47, f 48, f 49, f 50, f 51, f 52, f 53, f 54, f 55, f 56, f 57, f 58, f 59, f 60, f 61, f 62, f 63, f 64, f 65, f 66, f 67, f 68, f 69, f 70, f 71, f 72, f 73, f 74, f 75, v, f 77, f 78, f 79, f 80, f 81, f 82, f 83, f 84, f 85, f 86, f 87, f 88, f 89, f 90, f 91, f 92, f 93, f 94, f 95, f 96, f 97, f 98, f 99, f 100, f 101, f 102, f 103, f 104, f 105, f 106, f 107, f 108, f 109, f 110, f 111, f 112, f 113, f 114, f 115, f 116], defers := [] } W' := hK
      change wpList _ #[_] _ [_] { tmps := #[f 0, f 1, f 2, f 3, f 4, f 5, f 6, f 7, f 8, f 9, f 10, f 11, f 12, f 13, f 14, f 15, f 16, f 17, f 18, f 19, f 20, f 21, f 22, f 23, f 24, f 25, f 26, f 27, f 28, f 29, f 30, f 31, f 32, f 33, f 34, f 35, f 36, f 37, f 38, f 39, f 40, f 41, f 42, f 43, f 44, f 45, f 46, f 47, f 48, f 49, f 50, f 51, f 52, f 53, f 54, f 55, f 56, f 57, f 58, f 59, f 60, f 61, f 62, f 63, f 64, f 65, f 66, f 67, f 68, f 69, f 70, f 71, f 72, f 73, f 74, f 75, f 76, f 77, f 78, f 79, f 80, f 81, f 82, f 83, f 84, f 85, f 86, f 87, f 88, f 89, f 90, f 91, f 92, f 93, f 94, f 95, f 96, f 97, f 98, f 99, f 100, f 101, f 102, f 103, f 104, f 105, f 106, f 107, f 108, f 109, f 110, f 111, f 112, f 113, f 114, f 115, f 116], defers := [] } W
      clear hK hd hold
      simp only [ze4] at HK ⊢
      clear ze4
      have HK := Aside.mk HK
      go_wp2
      exact HK.out _ _ (Below.refl _ _) rfl
    · -- 77 := load 3 t76
      intro f W hW hold hd K hK
      have zg : f 71 = .bool false := hd 71 rfl rfl
      refine .inl ⟨wanted_of (g := 7) (t := 71) (by kernel_rfl) (by kernel_rfl) (of_decide_eq_true (by kernel_rfl)) zg, ?_⟩
      clear zg
      dsimp only [bare]
      have ze76 : f 76 = .pointer (some ⟨w.heap.size, 0, none⟩) := hd 76 rfl rfl
      have HK : ∀ v W', Below W.heap.size W W' → tailV _ 77 v W' → K { tmps := #[f 0, f 1, f 2, f 3, f 4, f 5, f 6, f 7, f 8, f 9, f 10, f 11, f 12, f 13, f 14, f 15, f 16, f 17, f 18, f 19, f 20, f 21, f 22, f 23, f 24, f 25, f 26, f 27, f 28, f 29, f 30, f 31, f 32, f 33, f 34, f 35, f 36, f 37, f 38, f 39, f 40, f 41, f 42, f 43, f 44, f 45, f 46, f 47, f 48, f 49, f 50, f 51, f 52, f 53, f 54, f 55, f 56, f 57, f 58, f 59, f 60, f 61, f 62, f 63, f 64, f 65, f 66, f 67, f 68, f 69, f 70, f 71, f 72, f 73, f 74, f 75, f 76, v, f 78, f 79, f 80, f 81, f 82, f 83, f 84, f 85, f 86, f 87, f 88, f 89, f 90, f 91, f 92, f 93, f 94, f 95, f 96, f 97, f 98, f 99, f 100, f 101, f 102, f 103, f 104, f 105, f 106, f 107, f 108, f 109, f 110, f 111, f 112, f 113, f 114, f 115, f 116], defers := [] } W' := hK
      change wpList _ #[_] _ [_] { tmps := #[f 0, f 1, f 2, f 3, f 4, f 5, f 6, f 7, f 8, f 9, f 10, f 11, f 12, f 13, f 14, f 15, f 16, f 17, f 18, f 19, f 20, f 21, f 22, f 23, f 24, f 25, f 26, f 27, f 28, f 29, f 30, f 31, f 32, f 33, f 34, f 35, f 36, f 37, f 38, f 39, f 40, f 41, f 42, f 43, f 44, f 45, f 46, f 47, f 48, f 49, f 50, f 51, f 52, f 53, f 54, f 55, f 56, f 57, f 58, f 59, f 60, f 61, f 62, f 63, f 64, f 65, f 66, f 67, f 68, f 69, f 70, f 71, f 72, f 73, f 74, f 75, f 76, f 77, f 78, f 79, f 80, f 81, f 82, f 83, f 84, f 85, f 86, f 87, f 88, f 89, f 90, f 91, f 92, f 93, f 94, f 95, f 96, f 97, f 98, f 99, f 100, f 101, f 102, f 103, f 104, f 105, f 106, f 107, f 108, f 109, f 110, f 111, f 112, f 113, f 114, f 115, f 116], defers := [] } W
      clear hK hd hold
      simp only [ze76] at HK ⊢
      clear ze76
      have HK := Aside.mk HK
      have hcell := (cells3 (below_blk HG.out.1 hW)).1
      go_wp2
      exact HK.out _ _ (Below.refl _ _) rfl
    · -- 78 := CALL f19 chert/chertref11.Bytes [t77, <i64 8>] : [3, 3]
      intro f W hW hold hd K hK
      have zg : f 71 = .bool false := hd 71 rfl rfl
      refine .inl ⟨wanted_of (g := 7) (t := 71) (by kernel_rfl) (by kernel_rfl) (of_decide_eq_true (by kernel_rfl)) zg, ?_⟩
      clear zg
      dsimp only [bare]
      have ze77 : f 77 = .int .i64 a := hd 77 rfl rfl
      have HK : ∀ v W', Below W.heap.size W W' → tailV _ 78 v W' → K { tmps := #[f 0, f 1, f 2, f 3, f 4, f 5, f 6, f 7, f 8, f 9, f 10, f 11, f 12, f 13, f 14, f 15, f 16, f 17, f 18, f 19, f 20, f 21, f 22, f 23, f 24, f 25, f 26, f 27, f 28, f 29, f 30, f 31, f 32, f 33, f 34, f 35, f 36, f 37, f 38, f 39, f 40, f 41, f 42, f 43, f 44, f 45, f 46, f 47, f 48, f 49, f 50, f 51, f 52, f 53, f 54, f 55, f 56, f 57, f 58, f 59, f 60, f 61, f 62, f 63, f 64, f 65, f 66, f 67, f 68, f 69, f 70, f 71, f 72, f 73, f 74, f 75, f 76, f 77, v, f 79, f 80, f 81, f 82, f 83, f 84, f 85, f 86, f 87, f 88, f 89, f 90, f 91, f 92, f 93, f 94, f 95, f 96, f 97, f 98, f 99, f 100, f 101, f 102, f 103, f 104, f 105, f 106, f 107, f 108, f 109, f 110, f 111, f 112, f 113, f 114, f 115, f 116], defers := [] } W' := hK
      change wpList _ #[_] _ [_] { tmps := #[f 0, f 1, f 2, f 3, f 4, f 5, f 6, f 7, f 8, f 9, f 10, f 11, f 12, f 13, f 14, f 15, f 16, f 17, f 18, f 19, f 20, f 21, f 22, f 23, f 24, f 25, f 26, f 27, f 28, f 29, f 30, f 31, f 32, f 33, f 34, f 35, f 36, f 37, f 38, f 39, f 40, f 41, f 42, f 43, f 44, f 45, f 46, f 47, f 48, f 49, f 50, f 51, f 52, f 53, f 54, f 55, f 56, f 57, f 58, f 59, f 60, f 61, f 62, f 63, f 64, f 65, f 66, f 67, f 68, f 69, f 70, f 71, f 72, f 73, f 74, f 75, f 76, f 77, f 78, f 79, f 80, f 81, f 82, f 83, f 84, f 85, f 86, f 87, f 88, f 89, f 90, f 91, f 92, f 93, f 94, f 95, f 96, f 97, f 98, f 99, f 100, f 101, f 102, f 103, f 104, f 105, f 106, f 107, f 108, f 109, f 110, f 111, f 112, f 113, f 114, f 115, f 116], defers := [] } W
      clear hK hd hold
      simp only [ze77] at HK ⊢
      clear ze77
      have HK := Aside.mk HK
      go_wp2_with (go_at_call 19; refine (ref_bytes_at a.toNat 8 _ _ W (by have := HFI.out; omega) rfl (by have := HFI.out; omega) (by omega)).mono ?_; rw [HBA.out.1]; rintro e w7 ⟨rfl, hb7⟩)
      exact HK.out _ _ hb7 rfl
    · -- 79 := binOp add 9 t75 t78 9
      intro f W hW hold hd K hK
      have zg : f 71 = .bool false := hd 71 rfl rfl
      refine .inl ⟨wanted_of (g := 7) (t := 71) (by kernel_rfl) (by kernel_rfl) (of_decide_eq_true (by kernel_rfl)) zg, ?_⟩
      clear zg
      dsimp only [bare]
      have ze75 : f 75 = .string (byteB x) := hd 75 rfl rfl
      have ze78 : f 78 = .string (numsB [a]) := hd 78 rfl rfl
      have HK : ∀ v W', Below W.heap.size W W' → tailV _ 79 v W' → K { tmps := #[f 0, f 1, f 2, f 3, f 4, f 5, f 6, f 7, f 8, f 9, f 10, f 11, f 12, f 13, f 14, f 15, f 16, f 17, f 18, f 19, f 20, f 21, f 22, f 23, f 24, f 25, f 26, f 27, f 28, f 29, f 30, f 31, f 32, f 33, f 34, f 35, f 36, f 37, f 38, f 39, f 40, f 41, f 42, f 43, f 44, f 45, f 46, f 47, f 48, f 49, f 50, f 51, f 52, f 53, f 54, f 55, f 56, f 57, f 58, f 59, f 60, f 61, f 62, f 63, f 64, f 65, f 66, f 67, f 68, f 69, f 70, f 71, f 72, f 73, f 74, f 75, f 76, f 77, f 78, v, f 80, f 81, f 82, f 83, f 84, f 85, f 86, f 87, f 88, f 89, f 90, f 91, f 92, f 93, f 94, f 95, f 96, f 97, f 98, f 99, f 100, f 101, f 102, f 103, f 104, f 105, f 106, f 107, f 108, f 109, f 110, f 111, f 112, f 113, f 114, f 115, f 116], defers := [] } W' := hK
      change wpList _ #[_] _ [_] { tmps := #[f 0, f 1, f 2, f 3, f 4, f 5, f 6, f 7, f 8, f 9, f 10, f 11, f 12, f 13, f 14, f 15, f 16, f 17, f 18, f 19, f 20, f 21, f 22, f 23, f 24, f 25, f 26, f 27, f 28, f 29, f 30, f 31, f 32, f 33, f 34, f 35, f 36, f 37, f 38, f 39, f 40, f 41, f 42, f 43, f 44, f 45, f 46, f 47, f 48, f 49, f 50, f 51, f 52, f 53, f 54, f 55, f 56, f 57, f 58, f 59, f 60, f 61, f 62, f 63, f 64, f 65, f 66, f 67, f 68, f 69, f 70, f 71, f 72, f 73, f 74, f 75, f 76, f 77, f 78, f 79, f 80, f 81, f 82, f 83, f 84, f 85, f 86, f 87, f 88, f 89, f 90, f 91, f 92, f 93, f 94, f 95, f 96, f 97, f 98, f 99, f 100, f 101, f 102, f 103, f 104, f 105, f 106, f 107, f 108, f 109, f 110, f 111, f 112, f 113, f 114, f 115, f 116], defers := [] } W
      clear hK hd hold
      simp only [ze75, ze78] at HK ⊢
      clear ze75 ze78
      have HK := Aside.mk HK
      have za := numsB_size [a]; simp only [List.length_cons, List.length_nil] at za; have zx : (byteB x).size = 1 := rfl
      go_wp2
      exact HK.out _ _ (Below.refl _ _) rfl
    · -- 80 := indexAddr 43 t4 <i64 1>
      intro f W hW hold hd K hK
      have zg : f 71 = .bool false := hd 71 rfl rfl
      refine .inl ⟨wanted_of (g := 7) (t := 71) (by kernel_rfl) (by kernel_rfl) (of_decide_eq_true (by kernel_rfl)) zg, ?_⟩
      clear zg
      dsimp only [bare]
      have ze4 : f 4 = .pointer (some ⟨w.heap.size, 0, none⟩) := hold 4 rfl
      have HK : ∀ v W', Below W.heap.size W W' → tailV _ 80 v W' → K { tmps := #[f 0, f 1, f 2, f 3, f 4, f 5, f 6, f 7, f 8, f 9, f 10, f 11, f 12, f 13, f 14, f 15, f 16, f 17, f 18, f 19, f 20, f 21, f 22, f 23, f 24, f 25, f 26, f 27, f 28, f 29, f 30, f 31, f 32, f 33, f 34, f 35, f 36, f 37, f 38, f 39, f 40, f 41, f 42, f 43, f 44, f 45, f 46, f 47, f 48, f 49, f 50, f 51, f 52, f 53, f 54, f 55, f 56, f 57, f 58, f 59, f 60, f 61, f 62, f 63, f 64, f 65, f 66, f 67, f 68, f 69, f 70, f 71, f 72, f 73, f 74, f 75, f 76, f 77, f 78, f 79, v, f 81, f 82, f 83, f 84, f 85, f 86, f 87, f 88, f 89, f 90, f 91, f 92, f 93, f 94, f 95, f 96, f 97, f 98, f 99, f 100, f 101, f 102, f 103, f 104, f 105, f 106, f 107, f 108, f 109, f 110, f 111, f 112, f 113, f 114, f 115, f 116], defers := [] } W' := hK
      change wpList _ #[_] _ [_] { tmps := #[f 0, f 1, f 2, f 3, f 4, f 5, f 6, f 7, f 8, f 9, f 10, f 11, f 12, f 13, f 14, f 15, f 16, f 17, f 18, f 19, f 20, f 21, f 22, f 23, f 24, f 25, f 26, f 27, f 28, f 29, f 30, f 31, f 32, f 33, f 34, f 35, f 36, f 37, f 38, f 39, f 40, f 41, f 42, f 43, f 44, f 45, f 46, f 47, f 48, f 49, f 50, f 51, f 52, f 53, f 54, f 55, f 56, f 57, f 58, f 59, f 60, f 61, f 62, f 63, f 64, f 65, f 66, f 67, f 68, f 69, f 70, f 71, f 72, f 73, f 74, f 75, f 76, f 77, f 78, f 79, f 80, f 81, f 82, f 83, f 84, f 85, f 86, f 87, f 88, f 89, f 90, f 91, f 92, f 93, f 94, f 95, f 96, f 97, f 98, f 99, f 100, f 101, f 102, f 103, f 104, f 105, f 106, f 107, f 108, f 109, f 110, f 111, f 112, f 113, f 114, f 115, f 116], defers := [] } W
      clear hK hd hold
      simp only [ze4] at HK ⊢
      clear ze4
      have HK := Aside.mk HK
      go_wp2
      exact HK.out _ _ (Below.refl _ _) rfl
    · -- 81 := load 3 t80
      intro f W hW hold hd K hK
      have zg : f 71 = .bool false := hd 71 rfl rfl
      refine .inl ⟨wanted_of (g := 7) (t := 71) (by kernel_rfl) (by kernel_rfl) (of_decide_eq_true (by kernel_rfl)) zg, ?_⟩
      clear zg
      dsimp only [bare]
      have ze80 : f 80 = .pointer (some ⟨w.heap.size, 1, none⟩) := hd 80 rfl rfl
      have HK : ∀ v W', Below W.heap.size W W' → tailV _ 81 v W' → K { tmps := #[f 0, f 1, f 2, f 3, f 4, f 5, f 6, f 7, f 8, f 9, f 10, f 11, f 12, f 13, f 14, f 15, f 16, f 17, f 18, f 19, f 20, f 21, f 22, f 23, f 24, f 25, f 26, f 27, f 28, f 29, f 30, f 31, f 32, f 33, f 34, f 35, f 36, f 37, f 38, f 39, f 40, f 41, f 42, f 43, f 44, f 45, f 46, f 47, f 48, f 49, f 50, f 51, f 52, f 53, f 54, f 55, f 56, f 57, f 58, f 59, f 60, f 61, f 62, f 63, f 64, f 65, f 66, f 67, f 68, f 69, f 70, f 71, f 72, f 73, f 74, f 75, f 76, f 77, f 78, f 79, f 80, v, f 82, f 83, f 84, f 85, f 86, f 87, f 88, f 89, f 90, f 91, f 92, f 93, f 94, f 95, f 96, f 97, f 98, f 99, f 100, f 101, f 102, f 103, f 104, f 105, f 106, f 107, f 108, f 109, f 110, f 111, f 112, f 113, f 114, f 115, f 116], defers := [] } W' := hK
      change wpList _ #[_] _ [_] { tmps := #[f 0, f 1, f 2, f 3, f 4, f 5, f 6, f 7, f 8, f 9, f 10, f 11, f 12, f 13, f 14, f 15, f 16, f 17, f 18, f 19, f 20, f 21, f 22, f 23, f 24, f 25, f 26, f 27, f 28, f 29, f 30, f 31, f 32, f 33, f 34, f 35, f 36, f 37, f 38, f 39, f 40, f 41, f 42, f 43, f 44, f 45, f 46, f 47, f 48, f 49, f 50, f 51, f 52, f 53, f 54, f 55, f 56, f 57, f 58, f 59, f 60, f 61, f 62, f 63, f 64, f 65, f 66, f 67, f 68, f 69, f 70, f 71, f 72, f 73, f 74, f 75, f 76, f 77, f 78, f 79, f 80, f 81, f 82, f 83, f 84, f 85, f 86, f 87, f 88, f 89, f 90, f 91, f 92, f 93, f 94, f 95, f 96, f 97, f 98, f 99, f 100, f 101, f 102, f 103, f 104, f 105, f 106, f 107, f 108, f 109, f 110, f 111, f 112, f 113, f 114, f 115, f 116], defers := [] } W
      clear hK hd hold
      simp only [ze80] at HK ⊢
      clear ze80
      have HK := Aside.mk HK
      have hcell := (cells3 (below_blk HG.out.1 hW)).2.1
      go_wp2
      exact HK.out _ _ (Below.refl _ _) rfl
    · -- 82 := CALL f19 chert/chertref11.Bytes [t81, <i64 8>] : [3, 3]
      intro f W hW hold hd K hK
      have zg : f 71 = .bool false := hd 71 rfl rfl
      refine .inl ⟨wanted_of (g := 7) (t := 71) (by kernel_rfl) (by kernel_rfl) (of_decide_eq_true (by kernel_rfl)) zg, ?_⟩
      clear zg
      dsimp only [bare]
      have ze81 : f 81 = .int .i64 b := hd 81 rfl rfl
      have HK : ∀ v W', Below W.heap.size W W' → tailV _ 82 v W' → K { tmps := #[f 0, f 1, f 2, f 3, f 4, f 5, f 6, f 7, f 8, f 9, f 10, f 11, f 12, f 13, f 14, f 15, f 16, f 17, f 18, f 19, f 20, f 21, f 22, f 23, f 24, f 25, f 26, f 27, f 28, f 29, f 30, f 31, f 32, f 33, f 34, f 35, f 36, f 37, f 38, f 39, f 40, f 41, f 42, f 43, f 44, f 45, f 46, f 47, f 48, f 49, f 50, f 51, f 52, f 53, f 54, f 55, f 56, f 57, f 58, f 59, f 60, f 61, f 62, f 63, f 64, f 65, f 66, f 67, f 68, f 69, f 70, f 71, f 72, f 73, f 74, f 75, f 76, f 77, f 78, f 79, f 80, f 81, v, f 83, f 84, f 85, f 86, f 87, f 88, f 89, f 90, f 91, f 92, f 93, f 94, f 95, f 96, f 97, f 98, f 99, f 100, f 101, f 102, f 103, f 104, f 105, f 106, f 107, f 108, f 109, f 110, f 111, f 112, f 113, f 114, f 115, f 116], defers := [] } W' := hK
      change wpList _ #[_] _ [_] { tmps := #[f 0, f 1, f 2, f 3, f 4, f 5, f 6, f 7, f 8, f 9, f 10, f 11, f 12, f 13, f 14, f 15, f 16, f 17, f 18, f 19, f 20, f 21, f 22, f 23, f 24, f 25, f 26, f 27, f 28, f 29, f 30, f 31, f 32, f 33, f 34, f 35, f 36, f 37, f 38, f 39, f 40, f 41, f 42, f 43, f 44, f 45, f 46, f 47, f 48, f 49, f 50, f 51, f 52, f 53, f 54, f 55, f 56, f 57, f 58, f 59, f 60, f 61, f 62, f 63, f 64, f 65, f 66, f 67, f 68, f 69, f 70, f 71, f 72, f 73, f 74, f 75, f 76, f 77, f 78, f 79, f 80, f 81, f 82, f 83, f 84, f 85, f 86, f 87, f 88, f 89, f 90, f 91, f 92, f 93, f 94, f 95, f 96, f 97, f 98, f 99, f 100, f 101, f 102, f 103, f 104, f 105, f 106, f 107, f 108, f 109, f 110, f 111, f 112, f 113, f 114, f 115, f 116], defers := [] } W
      clear hK hd hold
      simp only [ze81] at HK ⊢
      clear ze81
      have HK := Aside.mk HK
      go_wp2_with (go_at_call 19; refine (ref_bytes_at b.toNat 8 _ _ W (by have := HFI.out; omega) rfl (by have := HFI.out; omega) (by omega)).mono ?_; rw [HBA.out.2.1]; rintro e w7 ⟨rfl, hb7⟩)
      exact HK.out _ _ hb7 rfl
    · -- 83 := binOp add 9 t79 t82 9
      intro f W hW hold hd K hK
      have zg : f 71 = .bool false := hd 71 rfl rfl
      refine .inl ⟨wanted_of (g := 7) (t := 71) (by kernel_rfl) (by kernel_rfl) (of_decide_eq_true (by kernel_rfl)) zg, ?_⟩
      clear zg
      dsimp only [bare]
      have ze79 : f 79 = .string (byteB x ++ numsB [a]) := hd 79 rfl rfl
      have ze82 : f 82 = .string (numsB [b]) := hd 82 rfl rfl
      have HK : ∀ v W', Below W.heap.size W W' → tailV _ 83 v W' → K { tmps := #[f 0, f 1, f 2, f 3, f 4, f 5, f 6, f 7, f 8, f 9, f 10, f 11, f 12, f 13, f 14, f 15, f 16, f 17, f 18, f 19, f 20, f 21, f 22, f 23, f 24, f 25, f 26, f 27, f 28, f 29, f 30, f 31, f 32, f 33, f 34, f 35, f 36, f 37, f 38, f 39, f 40, f 41, f 42, f 43, f 44, f 45, f 46, f 47, f 48, f 49, f 50, f 51, f 52, f 53, f 54, f 55, f 56, f 57, f 58, f 59, f 60, f 61, f 62, f 63, f 64, f 65, f 66, f 67, f 68, f 69, f 70, f 71, f 72, f 73, f 74, f 75, f 76, f 77, f 78, f 79, f 80, f 81, f 82, v, f 84, f 85, f 86, f 87, f 88, f 89, f 90, f 91, f 92, f 93, f 94, f 95, f 96, f 97, f 98, f 99, f 100, f 101, f 102, f 103, f 104, f 105, f 106, f 107, f 108, f 109, f 110, f 111, f 112, f 113, f 114, f 115, f 116], defers := [] } W' := hK
      change wpList _ #[_] _ [_] { tmps := #[f 0, f 1, f 2, f 3, f 4, f 5, f 6, f 7, f 8, f 9, f 10, f 11, f 12, f 13, f 14, f 15, f 16, f 17, f 18, f 19, f 20, f 21, f 22, f 23, f 24, f 25, f 26, f 27, f 28, f 29, f 30, f 31, f 32, f 33, f 34, f 35, f 36, f 37, f 38, f 39, f 40, f 41, f 42, f 43, f 44, f 45, f 46, f 47, f 48, f 49, f 50, f 51, f 52, f 53, f 54, f 55, f 56, f 57, f 58, f 59, f 60, f 61, f 62, f 63, f 64, f 65, f 66, f 67, f 68, f 69, f 70, f 71, f 72, f 73, f 74, f 75, f 76, f 77, f 78, f 79, f 80, f 81, f 82, f 83, f 84, f 85, f 86, f 87, f 88, f 89, f 90, f 91, f 92, f 93, f 94, f 95, f 96, f 97, f 98, f 99, f 100, f 101, f 102, f 103, f 104, f 105, f 106, f 107, f 108, f 109, f 110, f 111, f 112, f 113, f 114, f 115, f 116], defers := [] } W
      clear hK hd hold
      simp only [ze79, ze82] at HK ⊢
      clear ze79 ze82
      have HK := Aside.mk HK
      have za := numsB_size [a]; simp only [List.length_cons, List.length_nil] at za; have zb := numsB_size [b]; simp only [List.length_cons, List.length_nil] at zb; have zx : (byteB x).size = 1 := rfl
      go_wp2
      exact HK.out _ _ (Below.refl _ _) rfl
    · -- 84 := indexAddr 43 t4 <i64 2>
      intro f W hW hold hd K hK
      have zg : f 71 = .bool false := hd 71 rfl rfl
      refine .inl ⟨wanted_of (g := 7) (t := 71) (by kernel_rfl) (by kernel_rfl) (of_decide_eq_true (by kernel_rfl)) zg, ?_⟩
      clear zg
      dsimp only [bare]
      have ze4 : f 4 = .pointer (some ⟨w.heap.size, 0, none⟩) := hold 4 rfl
      have HK : ∀ v W', Below W.heap.size W W' → tailV _ 84 v W' → K { tmps := #[f 0, f 1, f 2, f 3, f 4, f 5, f 6, f 7, f 8, f 9, f 10, f 11, f 12, f 13, f 14, f 15, f 16, f 17, f 18, f 19, f 20, f 21, f 22, f 23, f 24, f 25, f 26, f 27, f 28, f 29, f 30, f 31, f 32, f 33, f 34, f 35, f 36, f 37, f 38, f 39, f 40, f 41, f 42, f 43, f 44, f 45, f 46, f 47, f 48, f 49, f 50, f 51, f 52, f 53, f 54, f 55, f 56, f 57, f 58, f 59, f 60, f 61, f 62, f 63, f 64, f 65, f 66, f 67, f 68, f 69, f 70, f 71, f 72, f 73, f 74, f 75, f 76, f 77, f 78, f 79, f 80, f 81, f 82, f 83, v, f 85, f 86, f 87, f 88, f 89, f 90, f 91, f 92, f 93, f 94, f 95, f 96, f 97, f 98, f 99, f 100, f 101, f 102, f 103, f 104, f 105, f 106, f 107, f 108, f 109, f 110, f 111, f 112, f 113, f 114, f 115, f 116], defers := [] } W' := hK
      change wpList _ #[_] _ [_] { tmps := #[f 0, f 1, f 2, f 3, f 4, f 5, f 6, f 7, f 8, f 9, f 10, f 11, f 12, f 13, f 14, f 15, f 16, f 17, f 18, f 19, f 20, f 21, f 22, f 23, f 24, f 25, f 26, f 27, f 28, f 29, f 30, f 31, f 32, f 33, f 34, f 35, f 36, f 37, f 38, f 39, f 40, f 41, f 42, f 43, f 44, f 45, f 46, f 47, f 48, f 49, f 50, f 51, f 52, f 53, f 54, f 55, f 56, f 57, f 58, f 59, f 60, f 61, f 62, f 63, f 64, f 65, f 66, f 67, f 68, f 69, f 70, f 71, f 72, f 73, f 74, f 75, f 76, f 77, f 78, f 79, f 80, f 81, f 82, f 83, f 84, f 85, f 86, f 87, f 88, f 89, f 90, f 91, f 92, f 93, f 94, f 95, f 96, f 97, f 98, f 99, f 100, f 101, f 102, f 103, f 104, f 105, f 106, f 107, f 108, f 109, f 110, f 111, f 112, f 113, f 114, f 115, f 116], defers := [] } W
      clear hK hd hold
      simp only [ze4] at HK ⊢
      clear ze4
      have HK := Aside.mk HK
      go_wp2
      exact HK.out _ _ (Below.refl _ _) rfl
    · -- 85 := load 3 t84
      intro f W hW hold hd K hK
      have zg : f 71 = .bool false := hd 71 rfl rfl
      refine .inl ⟨wanted_of (g := 7) (t := 71) (by kernel_rfl) (by kernel_rfl) (of_decide_eq_true (by kernel_rfl)) zg, ?_⟩
      clear zg
      dsimp only [bare]
      have ze84 : f 84 = .pointer (some ⟨w.heap.size, 2, none⟩) := hd 84 rfl rfl
      have HK : ∀ v W', Below W.heap.size W W' → tailV _ 85 v W' → K { tmps := #[f 0, f 1, f 2, f 3, f 4, f 5, f 6, f 7, f 8, f 9, f 10, f 11, f 12, f 13, f 14, f 15, f 16, f 17, f 18, f 19, f 20, f 21, f 22, f 23, f 24, f 25, f 26, f 27, f 28, f 29, f 30, f 31, f 32, f 33, f 34, f 35, f 36, f 37, f 38, f 39, f 40, f 41, f 42, f 43, f 44, f 45, f 46, f 47, f 48, f 49, f 50, f 51, f 52, f 53, f 54, f 55, f 56, f 57, f 58, f 59, f 60, f 61, f 62, f 63, f 64, f 65, f 66, f 67, f 68, f 69, f 70, f 71, f 72, f 73, f 74, f 75, f 76, f 77, f 78, f 79, f 80, f 81, f 82, f 83, f 84, v, f 86, f 87, f 88, f 89, f 90, f 91, f 92, f 93, f 94, f 95, f 96, f 97, f 98, f 99, f 100, f 101, f 102, f 103, f 104, f 105, f 106, f 107, f 108, f 109, f 110, f 111, f 112, f 113, f 114, f 115, f 116], defers := [] } W' := hK
      change wpList _ #[_] _ [_] { tmps := #[f 0, f 1, f 2, f 3, f 4, f 5, f 6, f 7, f 8, f 9, f 10, f 11, f 12, f 13, f 14, f 15, f 16, f 17, f 18, f 19, f 20, f 21, f 22, f 23, f 24, f 25, f 26, f 27, f 28, f 29, f 30, f 31, f 32, f 33, f 34, f 35, f 36, f 37, f 38, f 39, f 40, f 41, f 42, f 43, f 44, f 45, f 46, f 47, f 48, f 49, f 50, f 51, f 52, f 53, f 54, f 55, f 56, f 57, f 58, f 59, f 60, f 61, f 62, f 63, f 64, f 65, f 66, f 67, f 68, f 69, f 70, f 71, f 72, f 73, f 74, f 75, f 76, f 77, f 78, f 79, f 80, f 81, f 82, f 83, f 84, f 85, f 86, f 87, f 88, f 89, f 90, f 91, f 92, f 93, f 94, f 95, f 96, f 97, f 98, f 99, f 100, f 101, f 102, f 103, f 104, f 105, f 106, f 107, f 108, f 109, f 110, f 111, f 112, f 113, f 114, f 115, f 116], defers := [] } W
      clear hK hd hold
      simp only [ze84] at HK ⊢
      clear ze84
      have HK := Aside.mk HK
      have hcell := (cells3 (below_blk HG.out.1 hW)).2.2
      go_wp2
      exact HK.out _ _ (Below.refl _ _) rfl
    · -- 86 := CALL f19 chert/chertref11.Bytes [t85, <i64 8>] : [3, 3]
      intro f W hW hold hd K hK
      have zg : f 71 = .bool false := hd 71 rfl rfl
      refine .inl ⟨wanted_of (g := 7) (t := 71) (by kernel_rfl) (by kernel_rfl) (of_decide_eq_true (by kernel_rfl)) zg, ?_⟩
      clear zg
      dsimp only [bare]
      have ze85 : f 85 = .int .i64 d := hd 85 rfl rfl
      have HK : ∀ v W', Below W.heap.size W W' → tailV _ 86 v W' → K { tmps := #[f 0, f 1, f 2, f 3, f 4, f 5, f 6, f 7, f 8, f 9, f 10, f 11, f 12, f 13, f 14, f 15, f 16, f 17, f 18, f 19, f 20, f 21, f 22, f 23, f 24, f 25, f 26, f 27, f 28, f 29, f 30, f 31, f 32, f 33, f 34, f 35, f 36, f 37, f 38, f 39, f 40, f 41, f 42, f 43, f 44, f 45, f 46, f 47, f 48, f 49, f 50, f 51, f 52, f 53, f 54, f 55, f 56, f 57, f 58, f 59, f 60, f 61, f 62, f 63, f 64, f 65, f 66, f 67, f 68, f 69, f 70, f 71, f 72, f 73, f 74, f 75, f 76, f 77, f 78, f 79, f 80, f 81, f 82, f 83, f 84, f 85, v, f 87, f 88, f 89, f 90, f 91, f 92, f 93, f 94, f 95, f 96, f 97, f 98, f 99, f 100, f 101, f 102, f 103, f 104, f 105, f 106, f 107, f 108, f 109, f 110, f 111, f 112, f 113, f 114, f 115, f 116], defers := [] } W' := hK
      change wpList _ #[_] _ [_] { tmps := #[f 0, f 1, f 2, f 3, f 4, f 5, f 6, f 7, f 8, f 9, f 10, f 11, f 12, f 13, f 14, f 15, f 16, f 17, f 18, f 19, f 20, f 21, f 22, f 23, f 24, f 25, f 26, f 27, f 28, f 29, f 30, f 31, f 32, f 33, f 34, f 35, f 36, f 37, f 38, f 39, f 40, f 41, f 42, f 43, f 44, f 45, f 46, f 47, f 48, f 49, f 50, f 51, f 52, f 53, f 54, f 55, f 56, f 57, f 58, f 59, f 60, f 61, f 62, f 63, f 64, f 65, f 66, f 67, f 68, f 69, f 70, f 71, f 72, f 73, f 74, f 75, f 76, f 77, f 78, f 79, f 80, f 81, f 82, f 83, f 84, f 85, f 86, f 87, f 88, f 89, f 90, f 91, f 92, f 93, f 94, f 95, f 96, f 97, f 98, f 99, f 100, f 101, f 102, f 103, f 104, f 105, f 106, f 107, f 108, f 109, f 110, f 111, f 112, f 113, f 114, f 115, f 116], defers := [] } W
      clear hK hd hold
      simp only [ze85] at HK ⊢
      clear ze85
      have HK := Aside.mk HK
      go_wp2_with (go_at_call 19; refine (ref_bytes_at d.toNat 8 _ _ W (by have := HFI.out; omega) rfl (by have := HFI.out; omega) (by omega)).mono ?_; rw [HBA.out.2.2]; rintro e w7 ⟨rfl, hb7⟩)
      exact HK.out _ _ hb7 rfl
    · -- 87 := binOp add 9 t83 t86 9
      intro f W hW hold hd K hK
      have zg : f 71 = .bool false := hd 71 rfl rfl
      refine .inl ⟨wanted_of (g := 7) (t := 71) (by kernel_rfl) (by kernel_rfl) (of_decide_eq_true (by kernel_rfl)) zg, ?_⟩
      clear zg
      dsimp only [bare]
      have ze83 : f 83 = .string (byteB x ++ numsB [a] ++ numsB [b]) := hd 83 rfl rfl
      have ze86 : f 86 = .string (numsB [d]) := hd 86 rfl rfl
      have HK : ∀ v W', Below W.heap.size W W' → tailV _ 87 v W' → K { tmps := #[f 0, f 1, f 2, f 3, f 4, f 5, f 6, f 7, f 8, f 9, f 10, f 11, f 12, f 13, f 14, f 15, f 16, f 17, f 18, f 19, f 20, f 21, f 22, f 23, f 24, f 25, f 26, f 27, f 28, f 29, f 30, f 31, f 32, f 33, f 34, f 35, f 36, f 37, f 38, f 39, f 40, f 41, f 42, f 43, f 44, f 45, f 46, f 47, f 48, f 49, f 50, f 51, f 52, f 53, f 54, f 55, f 56, f 57, f 58, f 59, f 60, f 61, f 62, f 63, f 64, f 65, f 66, f 67, f 68, f 69, f 70, f 71, f 72, f 73, f 74, f 75, f 76, f 77, f 78, f 79, f 80, f 81, f 82, f 83, f 84, f 85, f 86, v, f 88, f 89, f 90, f 91, f 92, f 93, f 94, f 95, f 96, f 97, f 98, f 99, f 100, f 101, f 102, f 103, f 104, f 105, f 106, f 107, f 108, f 109, f 110, f 111, f 112, f 113, f 114, f 115, f 116], defers := [] } W' := hK
      change wpList _ #[_] _ [_] { tmps := #[f 0, f 1, f 2, f 3, f 4, f 5, f 6, f 7, f 8, f 9, f 10, f 11, f 12, f 13, f 14, f 15, f 16, f 17, f 18, f 19, f 20, f 21, f 22, f 23, f 24, f 25, f 26, f 27, f 28, f 29, f 30, f 31, f 32, f 33, f 34, f 35, f 36, f 37, f 38, f 39, f 40, f 41, f 42, f 43, f 44, f 45, f 46, f 47, f 48, f 49, f 50, f 51, f 52, f 53, f 54, f 55, f 56, f 57, f 58, f 59, f 60, f 61, f 62, f 63, f 64, f 65, f 66, f 67, f 68, f 69, f 70, f 71, f 72, f 73, f 74, f 75, f 76, f 77, f 78, f 79, f 80, f 81, f 82, f 83, f 84, f 85, f 86, f 87, f 88, f 89, f 90, f 91, f 92, f 93, f 94, f 95, f 96, f 97, f 98, f 99, f 100, f 101, f 102, f 103, f 104, f 105, f 106, f 107, f 108, f 109, f 110, f 111, f 112, f 113, f 114, f 115, f 116], defers := [] } W
      clear hK hd hold
      simp only [ze83, ze86] at HK ⊢
      clear ze83 ze86
      have HK := Aside.mk HK
      have za := numsB_size [a]; simp only [List.length_cons, List.length_nil] at za; have zb := numsB_size [b]; simp only [List.length_cons, List.length_nil] at zb; have zd := numsB_size [d]; simp only [List.length_cons, List.length_nil] at zd; have zx : (byteB x).size = 1 := rfl
      go_wp2
      exact HK.out _ _ (Below.refl _ _) rfl
    · -- 88 := CALL f18 chert/chertref03.Seal [t87] : [9]
      intro f W hW hold hd K hK
      have zg : f 71 = .bool false := hd 71 rfl rfl
      refine .inl ⟨wanted_of (g := 7) (t := 71) (by kernel_rfl) (by kernel_rfl) (of_decide_eq_true (by kernel_rfl)) zg, ?_⟩
      clear zg
      dsimp only [bare]
      have ze87 : f 87 = .string (byteB x ++ numsB [a] ++ numsB [b] ++ numsB [d]) := hd 87 rfl rfl
      have HK : ∀ v W', Below W.heap.size W W' → tailV _ 88 v W' → K { tmps := #[f 0, f 1, f 2, f 3, f 4, f 5, f 6, f 7, f 8, f 9, f 10, f 11, f 12, f 13, f 14, f 15, f 16, f 17, f 18, f 19, f 20, f 21, f 22, f 23, f 24, f 25, f 26, f 27, f 28, f 29, f 30, f 31, f 32, f 33, f 34, f 35, f 36, f 37, f 38, f 39, f 40, f 41, f 42, f 43, f 44, f 45, f 46, f 47, f 48, f 49, f 50, f 51, f 52, f 53, f 54, f 55, f 56, f 57, f 58, f 59, f 60, f 61, f 62, f 63, f 64, f 65, f 66, f 67, f 68, f 69, f 70, f 71, f 72, f 73, f 74, f 75, f 76, f 77, f 78, f 79, f 80, f 81, f 82, f 83, f 84, f 85, f 86, f 87, v, f 89, f 90, f 91, f 92, f 93, f 94, f 95, f 96, f 97, f 98, f 99, f 100, f 101, f 102, f 103, f 104, f 105, f 106, f 107, f 108, f 109, f 110, f 111, f 112, f 113, f 114, f 115, f 116], defers := [] } W' := hK
      change wpList _ #[_] _ [_] { tmps := #[f 0, f 1, f 2, f 3, f 4, f 5, f 6, f 7, f 8, f 9, f 10, f 11, f 12, f 13, f 14, f 15, f 16, f 17, f 18, f 19, f 20, f 21, f 22, f 23, f 24, f 25, f 26, f 27, f 28, f 29, f 30, f 31, f 32, f 33, f 34, f 35, f 36, f 37, f 38, f 39, f 40, f 41, f 42, f 43, f 44, f 45, f 46, f 47, f 48, f 49, f 50, f 51, f 52, f 53, f 54, f 55, f 56, f 57, f 58, f 59, f 60, f 61, f 62, f 63, f 64, f 65, f 66, f 67, f 68, f 69, f 70, f 71, f 72, f 73, f 74, f 75, f 76, f 77, f 78, f 79, f 80, f 81, f 82, f 83, f 84, f 85, f 86, f 87, f 88, f 89, f 90, f 91, f 92, f 93, f 94, f 95, f 96, f 97, f 98, f 99, f 100, f 101, f 102, f 103, f 104, f 105, f 106, f 107, f 108, f 109, f 110, f 111, f 112, f 113, f 114, f 115, f 116], defers := [] } W
      clear hK hd hold
      simp only [ze87] at HK ⊢
      clear ze87
      have HK := Aside.mk HK
      have za := numsB_size [a]; simp only [List.length_cons, List.length_nil] at za; have zb := numsB_size [b]; simp only [List.length_cons, List.length_nil] at zb; have zd := numsB_size [d]; simp only [List.length_cons, List.length_nil] at zd; have zx : (byteB x).size = 1 := rfl
      go_wp2_with (go_at_call 18; refine (ref_seal _ W (by simp only [ByteArray.size_append]; omega)).mono ?_; rw [hTL.out]; rintro e w7 ⟨rfl, hb7⟩)
      exact HK.out _ _ hb7 rfl
    · -- 89 := binOp neq 9 t72 t88 9
      intro f W hW hold hd K hK
      have zg : f 71 = .bool false := hd 71 rfl rfl
      refine .inl ⟨wanted_of (g := 7) (t := 71) (by kernel_rfl) (by kernel_rfl) (of_decide_eq_true (by kernel_rfl)) zg, ?_⟩
      clear zg
      dsimp only [bare]
      have ze72 : f 72 = .string lt := hd 72 rfl rfl
      have ze88 : f 88 = .string lt := hd 88 rfl rfl
      have HK : ∀ v W', Below W.heap.size W W' → tailV _ 89 v W' → K { tmps := #[f 0, f 1, f 2, f 3, f 4, f 5, f 6, f 7, f 8, f 9, f 10, f 11, f 12, f 13, f 14, f 15, f 16, f 17, f 18, f 19, f 20, f 21, f 22, f 23, f 24, f 25, f 26, f 27, f 28, f 29, f 30, f 31, f 32, f 33, f 34, f 35, f 36, f 37, f 38, f 39, f 40, f 41, f 42, f 43, f 44, f 45, f 46, f 47, f 48, f 49, f 50, f 51, f 52, f 53, f 54, f 55, f 56, f 57, f 58, f 59, f 60, f 61, f 62, f 63, f 64, f 65, f 66, f 67, f 68, f 69, f 70, f 71, f 72, f 73, f 74, f 75, f 76, f 77, f 78, f 79, f 80, f 81, f 82, f 83, f 84, f 85, f 86, f 87, f 88, v, f 90, f 91, f 92, f 93, f 94, f 95, f 96, f 97, f 98, f 99, f 100, f 101, f 102, f 103, f 104, f 105, f 106, f 107, f 108, f 109, f 110, f 111, f 112, f 113, f 114, f 115, f 116], defers := [] } W' := hK
      change wpList _ #[_] _ [_] { tmps := #[f 0, f 1, f 2, f 3, f 4, f 5, f 6, f 7, f 8, f 9, f 10, f 11, f 12, f 13, f 14, f 15, f 16, f 17, f 18, f 19, f 20, f 21, f 22, f 23, f 24, f 25, f 26, f 27, f 28, f 29, f 30, f 31, f 32, f 33, f 34, f 35, f 36, f 37, f 38, f 39, f 40, f 41, f 42, f 43, f 44, f 45, f 46, f 47, f 48, f 49, f 50, f 51, f 52, f 53, f 54, f 55, f 56, f 57, f 58, f 59, f 60, f 61, f 62, f 63, f 64, f 65, f 66, f 67, f 68, f 69, f 70, f 71, f 72, f 73, f 74, f 75, f 76, f 77, f 78, f 79, f 80, f 81, f 82, f 83, f 84, f 85, f 86, f 87, f 88, f 89, f 90, f 91, f 92, f 93, f 94, f 95, f 96, f 97, f 98, f 99, f 100, f 101, f 102, f 103, f 104, f 105, f 106, f 107, f 108, f 109, f 110, f 111, f 112, f 113, f 114, f 115, f 116], defers := [] } W
      clear hK hd hold
      simp only [ze72, ze88] at HK ⊢
      clear ze72 ze88
      have HK := Aside.mk HK
      go_wp2
      exact HK.out _ _ (Below.refl _ _) rfl
    · -- 90 := pick t71 <bool(true)> t89
      intro f W hW hold hd K hK
      refine .inl ⟨wanted_free rfl _, ?_⟩
      dsimp only [bare]
      have ze71 : f 71 = .bool false := hd 71 rfl rfl
      have ze89 : f 89 = .bool false := hd 89 rfl rfl
      have HK : ∀ v W', Below W.heap.size W W' → tailV _ 90 v W' → K { tmps := #[f 0, f 1, f 2, f 3, f 4, f 5, f 6, f 7, f 8, f 9, f 10, f 11, f 12, f 13, f 14, f 15, f 16, f 17, f 18, f 19, f 20, f 21, f 22, f 23, f 24, f 25, f 26, f 27, f 28, f 29, f 30, f 31, f 32, f 33, f 34, f 35, f 36, f 37, f 38, f 39, f 40, f 41, f 42, f 43, f 44, f 45, f 46, f 47, f 48, f 49, f 50, f 51, f 52, f 53, f 54, f 55, f 56, f 57, f 58, f 59, f 60, f 61, f 62, f 63, f 64, f 65, f 66, f 67, f 68, f 69, f 70, f 71, f 72, f 73, f 74, f 75, f 76, f 77, f 78, f 79, f 80, f 81, f 82, f 83, f 84, f 85, f 86, f 87, f 88, f 89, v, f 91, f 92, f 93, f 94, f 95, f 96, f 97, f 98, f 99, f 100, f 101, f 102, f 103, f 104, f 105, f 106, f 107, f 108, f 109, f 110, f 111, f 112, f 113, f 114, f 115, f 116], defers := [] } W' := hK
      change wpList _ #[_] _ [_] { tmps := #[f 0, f 1, f 2, f 3, f 4, f 5, f 6, f 7, f 8, f 9, f 10, f 11, f 12, f 13, f 14, f 15, f 16, f 17, f 18, f 19, f 20, f 21, f 22, f 23, f 24, f 25, f 26, f 27, f 28, f 29, f 30, f 31, f 32, f 33, f 34, f 35, f 36, f 37, f 38, f 39, f 40, f 41, f 42, f 43, f 44, f 45, f 46, f 47, f 48, f 49, f 50, f 51, f 52, f 53, f 54, f 55, f 56, f 57, f 58, f 59, f 60, f 61, f 62, f 63, f 64, f 65, f 66, f 67, f 68, f 69, f 70, f 71, f 72, f 73, f 74, f 75, f 76, f 77, f 78, f 79, f 80, f 81, f 82, f 83, f 84, f 85, f 86, f 87, f 88, f 89, f 90, f 91, f 92, f 93, f 94, f 95, f 96, f 97, f 98, f 99, f 100, f 101, f 102, f 103, f 104, f 105, f 106, f 107, f 108, f 109, f 110, f 111, f 112, f 113, f 114, f 115, f 116], defers := [] } W
      clear hK hd hold
      simp only [ze71, ze89] at HK ⊢
      clear ze71 ze89
      have HK := Aside.mk HK
      go_wp2
      exact HK.out _ _ (Below.refl _ _) rfl
    · intro f W hW hold hd aa ha
      replace ha : aa = { tmps := #[f 0, f 1, f 2, f 3, f 4, f 5, f 6, f 7, f 8, f 9, f 10, f 11, f 12, f 13, f 14, f 15, f 16, f 17, f 18, f 19, f 20, f 21, f 22, f 23, f 24, f 25, f 26, f 27, f 28, f 29, f 30, f 31, f 32, f 33, f 34, f 35, f 36, f 37, f 38, f 39, f 40, f 41, f 42, f 43, f 44, f 45, f 46, f 47, f 48, f 49, f 50, f 51, f 52, f 53, f 54, f 55, f 56, f 57, f 58, f 59, f 60, f 61, f 62, f 63, f 64, f 65, f 66, f 67, f 68, f 69, f 70, f 71, f 72, f 73, f 74, f 75, f 76, f 77, f 78, f 79, f 80, f 81, f 82, f 83, f 84, f 85, f 86, f 87, f 88, f 89, f 90, f 91, f 92, f 93, f 94, f 95, f 96, f 97, f 98, f 99, f 100, f 101, f 102, f 103, f 104, f 105, f 106, f 107, f 108, f 109, f 110, f 111, f 112, f 113, f 114, f 115, f 116], defers := [] } := ha
      have ze0 : f 0 = .int .u8 c := hold 0 rfl
      have ze2 : f 2 = .string s := hold 2 rfl
      have ze4 : f 4 = .pointer (some ⟨w.heap.size, 0, none⟩) := hold 4 rfl
      have ze6 : f 6 = .bool false := hold 6 rfl
      have ze7 : f 7 = .pointer (some ⟨p2, 0, none⟩) := hold 7 rfl
      have ze8 : f 8 = .string lt := hold 8 rfl
      have ze9 : f 9 = .bool true := hold 9 rfl
      have ze10 : f 10 = .bool true := hold 10 rfl
      have ze11 : f 11 = .pointer (some ⟨p5, 0, none⟩) := hold 11 rfl
      have ze12 : f 12 = .bool true := hold 12 rfl
      have ze64 : f 64 = .bool true := hd 64 rfl
      have ze65 : f 65 = .bool false := hd 65 rfl
      have ze66 : f 66 = .bool false := hd 66 rfl
      have ze67 : f 67 = labV c a b d := hd 67 rfl
      have ze68 : f 68 = labV c a b d := hd 68 rfl
      have ze69 : f 69 = .bool false := hd 69 rfl
      have ze70 : f 70 = .bool false := hd 70 rfl
      have ze71 : f 71 = .bool false := hd 71 rfl
      have ze72 : f 72 = .string lt := hd 72 rfl
      have ze73 : f 73 = .int .u8 c := hd 73 rfl
      obtain ⟨b74, ze74, r74⟩ : ∃ bb, f 74 = .slice (some ⟨bb, 0, none⟩) 1 1 ∧ W.heap[bb]? = some (.cells #[.int .u8 c] 5 (0, 0)) := hd 74 rfl
      have ze75 : f 75 = .string (byteB x) := hd 75 rfl
      have ze76 : f 76 = .pointer (some ⟨w.heap.size, 0, none⟩) := hd 76 rfl
      have ze77 : f 77 = .int .i64 a := hd 77 rfl
      have ze78 : f 78 = .string (numsB [a]) := hd 78 rfl
      have ze79 : f 79 = .string (byteB x ++ numsB [a]) := hd 79 rfl
      have ze80 : f 80 = .pointer (some ⟨w.heap.size, 1, none⟩) := hd 80 rfl
      have ze81 : f 81 = .int .i64 b := hd 81 rfl
      have ze82 : f 82 = .string (numsB [b]) := hd 82 rfl
      have ze83 : f 83 = .string (byteB x ++ numsB [a] ++ numsB [b]) := hd 83 rfl
      have ze84 : f 84 = .pointer (some ⟨w.heap.size, 2, none⟩) := hd 84 rfl
      have ze85 : f 85 = .int .i64 d := hd 85 rfl
      have ze86 : f 86 = .string (numsB [d]) := hd 86 rfl
      have ze87 : f 87 = .string (byteB x ++ numsB [a] ++ numsB [b] ++ numsB [d]) := hd 87 rfl
      have ze88 : f 88 = .string lt := hd 88 rfl
      have ze89 : f 89 = .bool false := hd 89 rfl
      have ze90 : f 90 = .bool false := hd 90 rfl
      simp only [ze0, ze2, ze4, ze6, ze7, ze8, ze9, ze10, ze11, ze12, ze64, ze65, ze66, ze67, ze68, ze69, ze70, ze71, ze72, ze73, ze74, ze75, ze76, ze77, ze78, ze79, ze80, ze81, ze82, ze83, ze84, ze85, ze86, ze87, ze88, ze89, ze90] at ha
      subst ha
      clear hold hd ze0 ze2 ze4 ze6 ze7 ze8 ze9 ze10 ze11 ze12 ze64 ze65 ze66 ze67 ze68 ze69 ze70 ze71 ze72 ze73 ze74 ze75 ze76 ze77 ze78 ze79 ze80 ze81 ze82 ze83 ze84 ze85 ze86 ze87 ze88 ze89 ze90
      go_upto_region 14 with fail
      have HT : Aside (Below w.heap.size w W) := ⟨HG.out.2.2.2.trans (hW.mono HG.out.2.2.2.size)⟩
      clear HG HGL HFI HBA HTX hTL hW
      go_upto_region 15 with (go_at_call 17; refine (get_label s _ (HN.out.below HT.out)).mono ?_; rw [HRS0.out]; rintro e w9 ⟨rfl, hb9⟩)
      have HU : Aside ((w9.alloc (.cells (labC ec ea eb ed) 45)).heap[w9.heap.size]? = some (.cells (labC ec ea eb ed) 45 (0, 0)) ∧ Below w.heap.size w (w9.alloc (.cells (labC ec ea eb ed) 45))) := ⟨heap_alloc_new _ _, (below_trans HT.out HT.out.size hb9).alloc (Nat.le_trans HT.out.size hb9.size) _⟩
      generalize w9.alloc (.cells (labC ec ea eb ed) 45) = wx at *
      generalize w9.heap.size = px at *
      clear HT hb9
      obtain ⟨k0, k1, k2, k3⟩ := cells4 HU.out.1
      cases gk
      · obtain ⟨rfl, rfl, rfl, rfl⟩ := HG0.out rfl
        clear HG0 HG1
        go_wp2
        go_ret
        exact ⟨rfl, HU.out.2⟩
      · obtain ⟨xe, hxe, hle, hlt⟩ := HG1.out rfl
        clear HG0 HG1
        have HLT := Aside.mk hlt
        have HXE := Aside.mk hxe
        have hle' : (29 : Int) ≤ s.size := by omega
        clear hlt hxe
        go_wp2_with (go_at_call 15; refine (put_label xe ec HXE.out ea eb ed _ (HN.out.below HU.out.2)).mono ?_; rw [HLT.out]; rintro e wz ⟨rfl, hbz⟩)
        go_ret
        exact ⟨by first | rfl | simp, below_trans HU.out.2 HU.out.2.size hbz⟩
      
end Go.Proofs.YtmomphjhlbampaaDoor
