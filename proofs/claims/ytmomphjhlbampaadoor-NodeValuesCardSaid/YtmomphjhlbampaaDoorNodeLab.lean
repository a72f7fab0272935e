/-
  Entries, inodes and labels, written and read.
-/
import Derived.Test.YtmomphjhlbampaaDoorNodeApart
namespace Go.Proofs.YtmomphjhlbampaaDoor
open Go.RowKit

/-- The number that stands at a place of a text. -/
def numAt (s : ByteArray) (i : Nat) : Int := IntKind.i64.wrap (beN ((s.data.toList.drop i).take 8))
theorem number_at (s : ByteArray) (i : Nat) (h : i + 8 ≤ s.size) (W : World) : Calls Tryd.prog 31 #[.string (s.extract i s.size)] W fun e w' => e = .returned (.int .i64 (numAt s i)) ∧ W = w' := by
  have := node_number (s.extract i s.size) W (by simp; omega)
  rwa [extract_take _ _ _ _ h] at this
theorem number_whole (s : ByteArray) (h : 8 ≤ s.size) (W : World) : Calls Tryd.prog 31 #[.string s] W fun e w' => e = .returned (.int .i64 (numAt s 0)) ∧ W = w' := node_number s W h

set_option maxHeartbeats 1000000 in
theorem put_entry (n : Int) (w : World) :
    Calls Tryd.prog 21 #[.int .i64 n] w fun e w' => e = .returned (.string (numsB [n])) ∧ Below w.heap.size w w' := by
  go_enter Tryd.func21, Tryd.ntmps21
  go_wp2_with (go_at_call 27; refine (node_numbers (some ⟨w.heap.size, 0, none⟩) 1 1 [n] _ rfl (by omega) (rd_ints rfl rfl (heap_alloc_new _ _))).mono ?_; rintro e w1 ⟨rfl, hb1⟩)
  go_ret
  exact ⟨rfl, ((Below.refl _ _).alloc (Nat.le_refl _) _).trans (hb1.mono (by simp))⟩

def entOk (s : ByteArray) : Bool := decide (s.size = 8) && fitsB (numAt s 0)
def entN (s : ByteArray) : Int := bif entOk s then numAt s 0 else 0
set_option maxHeartbeats 1000000 in
theorem get_entry (s : ByteArray) (w : World) :
    Calls Tryd.prog 23 #[.string s] w fun e w' => e = .returned (.tuple #[.int .i64 (entN s), .bool (entOk s)]) ∧ Below w.heap.size w w' := by
  have hNum := fun (h : 8 ≤ s.size) W => number_whole s h W
  obtain ⟨q, hq⟩ : ∃ q, q = numAt s 0 := ⟨_, rfl⟩
  unfold entN entOk
  rw [← hq] at hNum ⊢
  clear hq
  by_cases h8 : s.size = 8
  · have h8' : ((s.size : Int) == 8) = true := by simp; omega
    have HN := Aside.mk (fun W => hNum (by omega) W)
    have hF : ∀ (W : World) (gg : Nat), W.heap[gg]? = some (.cells #[.int .i64 q] 3 (0, 0)) → Calls Tryd.prog 32 #[.slice (some ⟨gg, 0, none⟩) 1 1] W fun e w' => e = .returned (.bool (fitsB q)) ∧ W = w' := fun W gg hw => by
      have := node_fits (some ⟨gg, 0, none⟩) 1 1 [q] W rfl (by omega) (rd_one hw)
      simpa using this
    have HF := Aside.mk hF
    clear hF hNum
    have h8'' : (s.size : Int) = 8 := by omega
    rw [decide_eq_true h8]
    clear h8
    cases hf : fitsB q
    · rw [hf] at HF
      go_enter Tryd.func23, Tryd.ntmps23
      go_wp2_with (first | (go_at_call 31; refine (HN.out _).mono ?_; rintro e w1 ⟨rfl, rfl⟩) | (go_at_call 32; refine (HF.out _ _ (heap_alloc_new _ _)).mono ?_; rintro e w1 ⟨rfl, rfl⟩))
      go_ret2
      exact ⟨rfl, (Below.refl _ _).alloc (Nat.le_refl _) _⟩
    · rw [hf] at HF
      go_enter Tryd.func23, Tryd.ntmps23
      go_wp2_with (first | (go_at_call 31; refine (HN.out _).mono ?_; rintro e w1 ⟨rfl, rfl⟩) | (go_at_call 32; refine (HF.out _ _ (heap_alloc_new _ _)).mono ?_; rintro e w1 ⟨rfl, rfl⟩))
      go_ret2
      exact ⟨rfl, (Below.refl _ _).alloc (Nat.le_refl _) _⟩
  · have h8' : ((s.size : Int) == 8) = false := by simp; omega
    have h8'' : ¬ (s.size : Int) = 8 := by omega
    rw [decide_eq_false h8]
    clear hNum h8
    go_enter Tryd.func23, Tryd.ntmps23
    go_wp2
    go_ret2
    exact ⟨rfl, Below.refl _ _⟩

abbrev labV (c : Int) (a b d : Int) : Value := .agg #[.int .u8 c, .int .i64 a, .int .i64 b, .int .i64 d]
abbrev labC (c : Int) (a b d : Int) : Array Value := #[.int .u8 c, .int .i64 a, .int .i64 b, .int .i64 d]
def labOk (c : UInt8) (a b d : Int) : Bool := decide (65 ≤ c.toNat ∧ c.toNat ≤ 90) && (fitsB a && (fitsB b && fitsB d))
def labT (c : UInt8) (a b d : Int) : ByteArray := sealed (byteB c ++ numsB [a, b, d])
def labB (c : UInt8) (a b d : Int) : ByteArray := bif labOk c a b d then labT c a b d else ⟨#[]⟩
theorem fits3 (a b d : Int) (W : World) (g : Nat) (h : W.heap[g]? = some (.cells #[.int .i64 a, .int .i64 b, .int .i64 d] 3 (0, 0))) :
    Calls Tryd.prog 32 #[.slice (some ⟨g, 0, none⟩) 3 3] W fun e w' => e = .returned (.bool (fitsB a && (fitsB b && fitsB d))) ∧ W = w' := by
  have := node_fits (some ⟨g, 0, none⟩) 3 3 [a, b, d] W rfl (by omega) (rd_ints rfl rfl h)
  simpa using this
theorem fits2 (a b : Int) (W : World) (g : Nat) (h : W.heap[g]? = some (.cells #[.int .i64 a, .int .i64 b] 3 (0, 0))) :
    Calls Tryd.prog 32 #[.slice (some ⟨g, 0, none⟩) 2 2] W fun e w' => e = .returned (.bool (fitsB a && fitsB b)) ∧ W = w' := by
  have := node_fits (some ⟨g, 0, none⟩) 2 2 [a, b] W rfl (by omega) (rd_ints rfl rfl h)
  simpa using this

set_option maxHeartbeats 4000000 in
theorem put_label (x : UInt8) (c : Int) (hc : (x.toNat : Int) = c) (a b d : Int) (w : World) (hn : Nib w) :
    Calls Tryd.prog 15 #[labV c a b d] w fun e w' => e = .returned (.tuple #[.string (labB x a b d), .bool (labOk x a b d)]) ∧ Below w.heap.size w w' := by
  by_cases hx : 65 ≤ x.toNat ∧ x.toNat ≤ 90
  · have h1 : 65 ≤ c := by omega
    have h2 : c ≤ 90 := by omega
    have HX := Aside.mk hx
    cases hf : (fitsB a && (fitsB b && fitsB d))
    · have hl : labOk x a b d = false := by unfold labOk; rw [hf, Bool.and_false]
      unfold labB
      rw [hl]
      have HF := Aside.mk hf
      clear hf hl hx hc
      go_enter Tryd.func15, Tryd.ntmps15
      go_wp2_with (go_at_call 32; refine (fits3 a b d _ _ (new_two _ _ _)).mono ?_; rw [HF.out]; rintro e w1 ⟨rfl, rfl⟩)
      go_ret2
      exact ⟨rfl, ((Below.refl _ _).alloc (Nat.le_refl _) _).alloc (by simp) _⟩
    · have hl : labOk x a b d = true := by unfold labOk; rw [hf, decide_eq_true hx]; rfl
      unfold labB
      rw [hl]
      have HF := Aside.mk hf
      have HC := Aside.mk hc
      clear hf hl hx hc
      go_enter Tryd.func15, Tryd.ntmps15
      go_upto_region 3 with (go_at_call 32; refine (fits3 a b d _ _ (new_two _ _ _)).mono ?_; rw [HF.out]; rintro e w1 ⟨rfl, rfl⟩)
      have HA : Aside (((w.alloc (.cells (labC c a b d) 45)).alloc (.cells #[.int .i64 a, .int .i64 b, .int .i64 d] 3)).heap[w.heap.size]? = some (.cells (labC c a b d) 45 (0, 0)) ∧ w.heap.size < ((w.alloc (.cells (labC c a b d) 45)).alloc (.cells #[.int .i64 a, .int .i64 b, .int .i64 d] 3)).heap.size ∧ Below w.heap.size w ((w.alloc (.cells (labC c a b d) 45)).alloc (.cells #[.int .i64 a, .int .i64 b, .int .i64 d] 3)) ∧ Nib ((w.alloc (.cells (labC c a b d) 45)).alloc (.cells #[.int .i64 a, .int .i64 b, .int .i64 d] 3))) :=
        ⟨row_alloc (heap_alloc_new _ _) _, by simp; omega, ((Below.refl _ _).alloc (Nat.le_refl _) _).alloc (by simp) _, (hn.alloc _).alloc _⟩
      generalize (w.alloc (.cells (labC c a b d) 45)).alloc (.cells #[.int .i64 a, .int .i64 b, .int .i64 d] 3) = w1 at *
      clear hn
      refine wp_region_rel (by kernel_rfl) (by kernel_rfl) (rel_small (by kernel_rfl)) (tailV [(2, .val (.string (labT x a b d))), (3, .val (.bool true)), (23, .val (.pointer (some ⟨w.heap.size, 0, none⟩))), (24, .val (.int .u8 c)), (25, .row #[.int .u8 c] 5 1), (26, .val (.string (byteB x))), (27, .val (.pointer (some ⟨w.heap.size, 1, none⟩))), (28, .val (.int .i64 a)), (29, .val (.pointer (some ⟨w.heap.size, 2, none⟩))), (30, .val (.int .i64 b)), (31, .val (.pointer (some ⟨w.heap.size, 3, none⟩))), (32, .val (.int .i64 d)), (33, .row #[.int .i64 a, .int .i64 b, .int .i64 d] 3 3), (34, .val (.string (numsB [a, b, d]))), (35, .val (.string (byteB x ++ numsB [a, b, d]))), (36, .val (.string (labT x a b d)))]) (tailV_stable _) ⟨?_, ?_, ?_, ?_, ?_, ?_, ?_, ?_, ?_, ?_, ?_, ?_, ?_, ?_, ?_, ?_, trivial⟩ ?_
      · -- 23 := fieldAddr 45 t1 0
        intro f W hW hold hd K hK
        have ze1 : f 1 = .pointer (some ⟨w.heap.size, 0, none⟩) := hold 1 rfl
        have HK : ∀ v W', Below W.heap.size W W' → tailV _ 23 v W' → K { tmps := #[f 0, f 1, f 2, f 3, f 4, f 5, f 6, f 7, f 8, f 9, f 10, f 11, f 12, f 13, f 14, f 15, f 16, f 17, f 18, f 19, f 20, f 21, f 22, v, f 24, f 25, f 26, f 27, f 28, f 29, f 30, f 31, f 32, f 33, f 34, f 35, f 36], defers := [] } W' := hK
        change wpList _ #[_] _ [_] { tmps := #[f 0, f 1, f 2, f 3, f 4, f 5, f 6, f 7, f 8, f 9, f 10, f 11, f 12, f 13, f 14, f 15, f 16, f 17, f 18, f 19, f 20, f 21, f 22, f 23, f 24, f 25, f 26, f 27, f 28, f 29, f 30, f 31, f 32, f 33, f 34, f 35, f 36], defers := [] } W
        clear hK hd hold
        simp only [ze1] at HK ⊢
        clear ze1
        have HK := Aside.mk HK
        go_wp2
        exact HK.out _ _ (Below.refl _ _) rfl
      · -- 24 := load 5 t23
        intro f W hW hold hd K hK
        have ze23 : f 23 = .pointer (some ⟨w.heap.size, 0, none⟩) := hd 23 rfl rfl
        have HK : ∀ v W', Below W.heap.size W W' → tailV _ 24 v W' → K { tmps := #[f 0, f 1, f 2, f 3, f 4, f 5, f 6, f 7, f 8, f 9, f 10, f 11, f 12, f 13, f 14, f 15, f 16, f 17, f 18, f 19, f 20, f 21, f 22, f 23, v, f 25, f 26, f 27, f 28, f 29, f 30, f 31, f 32, f 33, f 34, f 35, f 36], defers := [] } W' := hK
        change wpList _ #[_] _ [_] { tmps := #[f 0, f 1, f 2, f 3, f 4, f 5, f 6, f 7, f 8, f 9, f 10, f 11, f 12, f 13, f 14, f 15, f 16, f 17, f 18, f 19, f 20, f 21, f 22, f 23, f 24, f 25, f 26, f 27, f 28, f 29, f 30, f 31, f 32, f 33, f 34, f 35, f 36], defers := [] } W
        clear hK hd hold
        simp only [ze23] at HK ⊢
        clear ze23
        have HK := Aside.mk HK
        have hh := (hW.block _ (HA.out.2.1)).trans (HA.out.1); have hcell := cell_of_row W (w.heap.size) 0 _ _ _ hh; clear hh
        go_wp2
        exact HK.out _ _ (Below.refl _ _) rfl
      · -- 25 := buildSlice 51 1 [(0, t24)]
        intro f W hW hold hd K hK
        have ze24 : f 24 = .int .u8 c := hd 24 rfl rfl
        have HK : ∀ v W', Below W.heap.size W W' → tailV _ 25 v W' → K { tmps := #[f 0, f 1, f 2, f 3, f 4, f 5, f 6, f 7, f 8, f 9, f 10, f 11, f 12, f 13, f 14, f 15, f 16, f 17, f 18, f 19, f 20, f 21, f 22, f 23, f 24, v, f 26, f 27, f 28, f 29, f 30, f 31, f 32, f 33, f 34, f 35, f 36], defers := [] } W' := hK
        change wpList _ #[_] _ [_] { tmps := #[f 0, f 1, f 2, f 3, f 4, f 5, f 6, f 7, f 8, f 9, f 10, f 11, f 12, f 13, f 14, f 15, f 16, f 17, f 18, f 19, f 20, f 21, f 22, f 23, f 24, f 25, f 26, f 27, f 28, f 29, f 30, f 31, f 32, f 33, f 34, f 35, f 36], defers := [] } W
        clear hK hd hold
        simp only [ze24] at HK ⊢
        clear ze24
        have HK := Aside.mk HK
        go_wp2
        exact HK.out _ _ ((Below.refl _ _).alloc (Nat.le_refl _) _) ⟨_, rfl, heap_alloc_new _ _⟩
      · -- 26 := convert 51 9 t25
        intro f W hW hold hd K hK
        obtain ⟨b25, ze25, r25⟩ : ∃ bb, f 25 = .slice (some ⟨bb, 0, none⟩) 1 1 ∧ W.heap[bb]? = some (.cells #[.int .u8 c] 5 (0, 0)) := hd 25 rfl rfl
        have HK : ∀ v W', Below W.heap.size W W' → tailV _ 26 v W' → K { tmps := #[f 0, f 1, f 2, f 3, f 4, f 5, f 6, f 7, f 8, f 9, f 10, f 11, f 12, f 13, f 14, f 15, f 16, f 17, f 18, f 19, f 20, f 21, f 22, f 23, f 24, f 25, v, f 27, f 28, f 29, f 30, f 31, f 32, f 33, f 34, f 35, f 36], defers := [] } W' := hK
        change wpList _ #[_] _ [_] { tmps := #[f 0, f 1, f 2, f 3, f 4, f 5, f 6, f 7, f 8, f 9, f 10, f 11, f 12, f 13, f 14, f 15, f 16, f 17, f 18, f 19, f 20, f 21, f 22, f 23, f 24, f 25, f 26, f 27, f 28, f 29, f 30, f 31, f 32, f 33, f 34, f 35, f 36], defers := [] } W
        clear hK hd hold
        simp only [ze25] at HK ⊢
        clear ze25
        have HK := Aside.mk HK
        have hcv := row_text (n := 1) (l := [x]) rfl (by simp [bytesV, HC.out]) (by decide) r25
        go_wp2
        exact HK.out _ _ (Below.refl _ _) rfl
      · -- 27 := fieldAddr 45 t1 1
        intro f W hW hold hd K hK
        have ze1 : f 1 = .pointer (some ⟨w.heap.size, 0, none⟩) := hold 1 rfl
        have HK : ∀ v W', Below W.heap.size W W' → tailV _ 27 v W' → K { tmps := #[f 0, f 1, f 2, f 3, f 4, f 5, f 6, f 7, f 8, f 9, f 10, f 11, f 12, f 13, f 14, f 15, f 16, f 17, f 18, f 19, f 20, f 21, f 22, f 23, f 24, f 25, f 26, v, f 28, f 29, f 30, f 31, f 32, f 33, f 34, f 35, f 36], defers := [] } W' := hK
        change wpList _ #[_] _ [_] { tmps := #[f 0, f 1, f 2, f 3, f 4, f 5, f 6, f 7, f 8, f 9, f 10, f 11, f 12, f 13, f 14, f 15, f 16, f 17, f 18, f 19, f 20, f 21, f 22, f 23, f 24, f 25, f 26, f 27, f 28, f 29, f 30, f 31, f 32, f 33, f 34, f 35, f 36], defers := [] } W
        clear hK hd hold
        simp only [ze1] at HK ⊢
        clear ze1
        have HK := Aside.mk HK
        go_wp2
        exact HK.out _ _ (Below.refl _ _) rfl
      · -- 28 := load 3 t27
        intro f W hW hold hd K hK
        have ze27 : f 27 = .pointer (some ⟨w.heap.size, 1, none⟩) := hd 27 rfl rfl
        have HK : ∀ v W', Below W.heap.size W W' → tailV _ 28 v W' → K { tmps := #[f 0, f 1, f 2, f 3, f 4, f 5, f 6, f 7, f 8, f 9, f 10, f 11, f 12, f 13, f 14, f 15, f 16, f 17, f 18, f 19, f 20, f 21, f 22, f 23, f 24, f 25, f 26, f 27, v, f 29, f 30, f 31, f 32, f 33, f 34, f 35, f 36], defers := [] } W' := hK
        change wpList _ #[_] _ [_] { tmps := #[f 0, f 1, f 2, f 3, f 4, f 5, f 6, f 7, f 8, f 9, f 10, f 11, f 12, f 13, f 14, f 15, f 16, f 17, f 18, f 19, f 20, f 21, f 22, f 23, f 24, f 25, f 26, f 27, f 28, f 29, f 30, f 31, f 32, f 33, f 34, f 35, f 36], defers := [] } W
        clear hK hd hold
        simp only [ze27] at HK ⊢
        clear ze27
        have HK := Aside.mk HK
        have hh := (hW.block _ (HA.out.2.1)).trans (HA.out.1); have hcell := cell_of_row W (w.heap.size) 1 _ _ _ hh; clear hh
        go_wp2
        exact HK.out _ _ (Below.refl _ _) rfl
      · -- 29 := fieldAddr 45 t1 2
        intro f W hW hold hd K hK
        have ze1 : f 1 = .pointer (some ⟨w.heap.size, 0, none⟩) := hold 1 rfl
        have HK : ∀ v W', Below W.heap.size W W' → tailV _ 29 v W' → K { tmps := #[f 0, f 1, f 2, f 3, f 4, f 5, f 6, f 7, f 8, f 9, f 10, f 11, f 12, f 13, f 14, f 15, f 16, f 17, f 18, f 19, f 20, f 21, f 22, f 23, f 24, f 25, f 26, f 27, f 28, v, f 30, f 31, f 32, f 33, f 34, f 35, f 36], defers := [] } W' := hK
        change wpList _ #[_] _ [_] { tmps := #[f 0, f 1, f 2, f 3, f 4, f 5, f 6, f 7, f 8, f 9, f 10, f 11, f 12, f 13, f 14, f 15, f 16, f 17, f 18, f 19, f 20, f 21, f 22, f 23, f 24, f 25, f 26, f 27, f 28, f 29, f 30, f 31, f 32, f 33, f 34, f 35, f 36], defers := [] } W
        clear hK hd hold
        simp only [ze1] at HK ⊢
        clear ze1
        have HK := Aside.mk HK
        go_wp2
        exact HK.out _ _ (Below.refl _ _) rfl
      · -- 30 := load 3 t29
        intro f W hW hold hd K hK
        have ze29 : f 29 = .pointer (some ⟨w.heap.size, 2, none⟩) := hd 29 rfl rfl
        have HK : ∀ v W', Below W.heap.size W W' → tailV _ 30 v W' → K { tmps := #[f 0, f 1, f 2, f 3, f 4, f 5, f 6, f 7, f 8, f 9, f 10, f 11, f 12, f 13, f 14, f 15, f 16, f 17, f 18, f 19, f 20, f 21, f 22, f 23, f 24, f 25, f 26, f 27, f 28, f 29, v, f 31, f 32, f 33, f 34, f 35, f 36], defers := [] } W' := hK
        change wpList _ #[_] _ [_] { tmps := #[f 0, f 1, f 2, f 3, f 4, f 5, f 6, f 7, f 8, f 9, f 10, f 11, f 12, f 13, f 14, f 15, f 16, f 17, f 18, f 19, f 20, f 21, f 22, f 23, f 24, f 25, f 26, f 27, f 28, f 29, f 30, f 31, f 32, f 33, f 34, f 35, f 36], defers := [] } W
        clear hK hd hold
        simp only [ze29] at HK ⊢
        clear ze29
        have HK := Aside.mk HK
        have hh := (hW.block _ (HA.out.2.1)).trans (HA.out.1); have hcell := cell_of_row W (w.heap.size) 2 _ _ _ hh; clear hh
        go_wp2
        exact HK.out _ _ (Below.refl _ _) rfl
      · -- 31 := fieldAddr 45 t1 3
        intro f W hW hold hd K hK
        have ze1 : f 1 = .pointer (some ⟨w.heap.size, 0, none⟩) := hold 1 rfl
        have HK : ∀ v W', Below W.heap.size W W' → tailV _ 31 v W' → K { tmps := #[f 0, f 1, f 2, f 3, f 4, f 5, f 6, f 7, f 8, f 9, f 10, f 11, f 12, f 13, f 14, f 15, f 16, f 17, f 18, f 19, f 20, f 21, f 22, f 23, f 24, f 25, f 26, f 27, f 28, f 29, f 30, v, f 32, f 33, f 34, f 35, f 36], defers := [] } W' := hK
        change wpList _ #[_] _ [_] { tmps := #[f 0, f 1, f 2, f 3, f 4, f 5, f 6, f 7, f 8, f 9, f 10, f 11, f 12, f 13, f 14, f 15, f 16, f 17, f 18, f 19, f 20, f 21, f 22, f 23, f 24, f 25, f 26, f 27, f 28, f 29, f 30, f 31, f 32, f 33, f 34, f 35, f 36], defers := [] } W
        clear hK hd hold
        simp only [ze1] at HK ⊢
        clear ze1
        have HK := Aside.mk HK
        go_wp2
        exact HK.out _ _ (Below.refl _ _) rfl
      · -- 32 := load 3 t31
        intro f W hW hold hd K hK
        have ze31 : f 31 = .pointer (some ⟨w.heap.size, 3, none⟩) := hd 31 rfl rfl
        have HK : ∀ v W', Below W.heap.size W W' → tailV _ 32 v W' → K { tmps := #[f 0, f 1, f 2, f 3, f 4, f 5, f 6, f 7, f 8, f 9, f 10, f 11, f 12, f 13, f 14, f 15, f 16, f 17, f 18, f 19, f 20, f 21, f 22, f 23, f 24, f 25, f 26, f 27, f 28, f 29, f 30, f 31, v, f 33, f 34, f 35, f 36], defers := [] } W' := hK
        change wpList _ #[_] _ [_] { tmps := #[f 0, f 1, f 2, f 3, f 4, f 5, f 6, f 7, f 8, f 9, f 10, f 11, f 12, f 13, f 14, f 15, f 16, f 17, f 18, f 19, f 20, f 21, f 22, f 23, f 24, f 25, f 26, f 27, f 28, f 29, f 30, f 31, f 32, f 33, f 34, f 35, f 36], defers := [] } W
        clear hK hd hold
        simp only [ze31] at HK ⊢
        clear ze31
        have HK := Aside.mk HK
        have hh := (hW.block _ (HA.out.2.1)).trans (HA.out.1); have hcell := cell_of_row W (w.heap.size) 3 _ _ _ hh; clear hh
        go_wp2
        exact HK.out _ _ (Below.refl _ _) rfl
      · -- 33 := buildSlice 72 3 [(0, t28), (1, t30), (2, t32)]
        intro f W hW hold hd K hK
        have ze28 : f 28 = .int .i64 a := hd 28 rfl rfl
        have ze30 : f 30 = .int .i64 b := hd 30 rfl rfl
        have ze32 : f 32 = .int .i64 d := hd 32 rfl rfl
        have HK : ∀ v W', Below W.heap.size W W' → tailV _ 33 v W' → K { tmps := #[f 0, f 1, f 2, f 3, f 4, f 5, f 6, f 7, f 8, f 9, f 10, f 11, f 12, f 13, f 14, f 15, f 16, f 17, f 18, f 19, f 20, f 21, f 22, f 23, f 24, f 25, f 26, f 27, f 28, f 29, f 30, f 31, f 32, v, f 34, f 35, f 36], defers := [] } W' := hK
        change wpList _ #[_] _ [_] { tmps := #[f 0, f 1, f 2, f 3, f 4, f 5, f 6, f 7, f 8, f 9, f 10, f 11, f 12, f 13, f 14, f 15, f 16, f 17, f 18, f 19, f 20, f 21, f 22, f 23, f 24, f 25, f 26, f 27, f 28, f 29, f 30, f 31, f 32, f 33, f 34, f 35, f 36], defers := [] } W
        clear hK hd hold
        simp only [ze28, ze30, ze32] at HK ⊢
        clear ze28 ze30 ze32
        have HK := Aside.mk HK
        go_wp2
        exact HK.out _ _ ((Below.refl _ _).alloc (Nat.le_refl _) _) ⟨_, rfl, heap_alloc_new _ _⟩
      · -- 34 := CALL f27 chert/node.numbers [t33] : [72]
        intro f W hW hold hd K hK
        obtain ⟨b33, ze33, r33⟩ : ∃ bb, f 33 = .slice (some ⟨bb, 0, none⟩) 3 3 ∧ W.heap[bb]? = some (.cells #[.int .i64 a, .int .i64 b, .int .i64 d] 3 (0, 0)) := hd 33 rfl rfl
        have HK : ∀ v W', Below W.heap.size W W' → tailV _ 34 v W' → K { tmps := #[f 0, f 1, f 2, f 3, f 4, f 5, f 6, f 7, f 8, f 9, f 10, f 11, f 12, f 13, f 14, f 15, f 16, f 17, f 18, f 19, f 20, f 21, f 22, f 23, f 24, f 25, f 26, f 27, f 28, f 29, f 30, f 31, f 32, f 33, v, f 35, f 36], defers := [] } W' := hK
        change wpList _ #[_] _ [_] { tmps := #[f 0, f 1, f 2, f 3, f 4, f 5, f 6, f 7, f 8, f 9, f 10, f 11, f 12, f 13, f 14, f 15, f 16, f 17, f 18, f 19, f 20, f 21, f 22, f 23, f 24, f 25, f 26, f 27, f 28, f 29, f 30, f 31, f 32, f 33, f 34, f 35, f 36], defers := [] } W
        clear hK hd hold
        simp only [ze33] at HK ⊢
        clear ze33
        have HK := Aside.mk HK
        go_wp2_with (go_at_call 27; refine (node_numbers (some ⟨b33, 0, none⟩) 3 3 [a, b, d] W rfl (by omega) (rd_ints rfl rfl r33)).mono ?_; rintro e w2 ⟨rfl, hb2⟩)
        exact HK.out _ _ hb2 rfl
      · -- 35 := binOp add 9 t26 t34 9
        intro f W hW hold hd K hK
        have ze26 : f 26 = .string (byteB x) := hd 26 rfl rfl
        have ze34 : f 34 = .string (numsB [a, b, d]) := hd 34 rfl rfl
        have HK : ∀ v W', Below W.heap.size W W' → tailV _ 35 v W' → K { tmps := #[f 0, f 1, f 2, f 3, f 4, f 5, f 6, f 7, f 8, f 9, f 10, f 11, f 12, f 13, f 14, f 15, f 16, f 17, f 18, f 19, f 20, f 21, f 22, f 23, f 24, f 25, f 26, f 27, f 28, f 29, f 30, f 31, f 32, f 33, f 34, v, f 36], defers := [] } W' := hK
        change wpList _ #[_] _ [_] { tmps := #[f 0, f 1, f 2, f 3, f 4, f 5, f 6, f 7, f 8, f 9, f 10, f 11, f 12, f 13, f 14, f 15, f 16, f 17, f 18, f 19, f 20, f 21, f 22, f 23, f 24, f 25, f 26, f 27, f 28, f 29, f 30, f 31, f 32, f 33, f 34, f 35, f 36], defers := [] } W
        clear hK hd hold
        simp only [ze26, ze34] at HK ⊢
        clear ze26 ze34
        have HK := Aside.mk HK
        have hz := numsB_size [a, b, d]; have hz1 : (byteB x).size = 1 := rfl; simp only [List.length_cons, List.length_nil] at hz
        go_wp2
        exact HK.out _ _ (Below.refl _ _) rfl
      · -- 36 := CALL f28 chert/crc.Seal [t35] : [9]
        intro f W hW hold hd K hK
        have ze35 : f 35 = .string (byteB x ++ numsB [a, b, d]) := hd 35 rfl rfl
        have HK : ∀ v W', Below W.heap.size W W' → tailV _ 36 v W' → K { tmps := #[f 0, f 1, f 2, f 3, f 4, f 5, f 6, f 7, f 8, f 9, f 10, f 11, f 12, f 13, f 14, f 15, f 16, f 17, f 18, f 19, f 20, f 21, f 22, f 23, f 24, f 25, f 26, f 27, f 28, f 29, f 30, f 31, f 32, f 33, f 34, f 35, v], defers := [] } W' := hK
        change wpList _ #[_] _ [_] { tmps := #[f 0, f 1, f 2, f 3, f 4, f 5, f 6, f 7, f 8, f 9, f 10, f 11, f 12, f 13, f 14, f 15, f 16, f 17, f 18, f 19, f 20, f 21, f 22, f 23, f 24, f 25, f 26, f 27, f 28, f 29, f 30, f 31, f 32, f 33, f 34, f 35, f 36], defers := [] } W
        clear hK hd hold
        simp only [ze35] at HK ⊢
        clear ze35
        have HK := Aside.mk HK
        have hz := numsB_size [a, b, d]; have hz1 : (byteB x).size = 1 := rfl; simp only [List.length_cons, List.length_nil] at hz
        go_wp2_with (go_at_call 28; refine (crc_seal _ W (by simp only [ByteArray.size_append]; omega) (HA.out.2.2.2.below hW)).mono ?_; rintro e w2 ⟨rfl, hb2⟩)
        exact HK.out _ _ hb2 rfl
      · -- 2 := assign t36
        intro f W hW hold hd K hK
        have ze36 : f 36 = .string (labT x a b d) := hd 36 rfl rfl
        have HK : ∀ v W', Below W.heap.size W W' → tailV _ 2 v W' → K { tmps := #[f 0, f 1, v, f 3, f 4, f 5, f 6, f 7, f 8, f 9, f 10, f 11, f 12, f 13, f 14, f 15, f 16, f 17, f 18, f 19, f 20, f 21, f 22, f 23, f 24, f 25, f 26, f 27, f 28, f 29, f 30, f 31, f 32, f 33, f 34, f 35, f 36], defers := [] } W' := hK
        change wpList _ #[_] _ [_] { tmps := #[f 0, f 1, f 2, f 3, f 4, f 5, f 6, f 7, f 8, f 9, f 10, f 11, f 12, f 13, f 14, f 15, f 16, f 17, f 18, f 19, f 20, f 21, f 22, f 23, f 24, f 25, f 26, f 27, f 28, f 29, f 30, f 31, f 32, f 33, f 34, f 35, f 36], defers := [] } W
        clear hK hd hold
        simp only [ze36] at HK ⊢
        clear ze36
        have HK := Aside.mk HK
        go_wp2
        exact HK.out _ _ (Below.refl _ _) rfl
      · -- 3 := assign <bool(true)>
        intro f W hW hold hd K hK
        have HK : ∀ v W', Below W.heap.size W W' → tailV _ 3 v W' → K { tmps := #[f 0, f 1, f 2, v, f 4, f 5, f 6, f 7, f 8, f 9, f 10, f 11, f 12, f 13, f 14, f 15, f 16, f 17, f 18, f 19, f 20, f 21, f 22, f 23, f 24, f 25, f 26, f 27, f 28, f 29, f 30, f 31, f 32, f 33, f 34, f 35, f 36], defers := [] } W' := hK
        change wpList _ #[_] _ [_] { tmps := #[f 0, f 1, f 2, f 3, f 4, f 5, f 6, f 7, f 8, f 9, f 10, f 11, f 12, f 13, f 14, f 15, f 16, f 17, f 18, f 19, f 20, f 21, f 22, f 23, f 24, f 25, f 26, f 27, f 28, f 29, f 30, f 31, f 32, f 33, f 34, f 35, f 36], defers := [] } W
        clear hK hd hold
        have HK := Aside.mk HK
        go_wp2
        exact HK.out _ _ (Below.refl _ _) rfl
      · intro f W hW hold hd aa ha
        replace ha : aa = { tmps := #[f 0, f 1, f 2, f 3, f 4, f 5, f 6, f 7, f 8, f 9, f 10, f 11, f 12, f 13, f 14, f 15, f 16, f 17, f 18, f 19, f 20, f 21, f 22, f 23, f 24, f 25, f 26, f 27, f 28, f 29, f 30, f 31, f 32, f 33, f 34, f 35, f 36], defers := [] } := ha
        have ze0 : f 0 = labV c a b d := hold 0 rfl
        have ze1 : f 1 = .pointer (some ⟨w.heap.size, 0, none⟩) := hold 1 rfl
        have ze2 : f 2 = .string (labT x a b d) := hd 2 rfl
        have ze3 : f 3 = .bool true := hd 3 rfl
        have ze23 : f 23 = .pointer (some ⟨w.heap.size, 0, none⟩) := hd 23 rfl
        have ze24 : f 24 = .int .u8 c := hd 24 rfl
        obtain ⟨b25, ze25, r25⟩ : ∃ bb, f 25 = .slice (some ⟨bb, 0, none⟩) 1 1 ∧ W.heap[bb]? = some (.cells #[.int .u8 c] 5 (0, 0)) := hd 25 rfl
        have ze26 : f 26 = .string (byteB x) := hd 26 rfl
        have ze27 : f 27 = .pointer (some ⟨w.heap.size, 1, none⟩) := hd 27 rfl
        have ze28 : f 28 = .int .i64 a := hd 28 rfl
        have ze29 : f 29 = .pointer (some ⟨w.heap.size, 2, none⟩) := hd 29 rfl
        have ze30 : f 30 = .int .i64 b := hd 30 rfl
        have ze31 : f 31 = .pointer (some ⟨w.heap.size, 3, none⟩) := hd 31 rfl
        have ze32 : f 32 = .int .i64 d := hd 32 rfl
        obtain ⟨b33, ze33, r33⟩ : ∃ bb, f 33 = .slice (some ⟨bb, 0, none⟩) 3 3 ∧ W.heap[bb]? = some (.cells #[.int .i64 a, .int .i64 b, .int .i64 d] 3 (0, 0)) := hd 33 rfl
        have ze34 : f 34 = .string (numsB [a, b, d]) := hd 34 rfl
        have ze35 : f 35 = .string (byteB x ++ numsB [a, b, d]) := hd 35 rfl
        have ze36 : f 36 = .string (labT x a b d) := hd 36 rfl
        simp only [ze0, ze1, ze2, ze3, ze23, ze24, ze25, ze26, ze27, ze28, ze29, ze30, ze31, ze32, ze33, ze34, ze35, ze36] at ha
        subst ha
        clear hold hd ze0 ze1 ze2 ze3 ze23 ze24 ze25 ze26 ze27 ze28 ze29 ze30 ze31 ze32 ze33 ze34 ze35 ze36
        go_wp2
        go_ret2
        exact ⟨rfl, HA.out.2.2.1.trans (hW.mono (Nat.le_of_lt HA.out.2.1))⟩
  · have hl : labOk x a b d = false := by unfold labOk; rw [decide_eq_false hx]; rfl
    unfold labB
    rw [hl]
    have h3 : c < 65 ∨ (65 ≤ c ∧ 90 < c) := by omega
    clear hx hl hc
    rcases h3 with h | ⟨h, h'⟩
    all_goals
      go_enter Tryd.func15, Tryd.ntmps15
      go_wp2
      go_ret2
      exact ⟨rfl, (Below.refl _ _).alloc (Nat.le_refl _) _⟩

abbrev inoV (g : Bool) (a b : Int) : Value := .agg #[.bool g, .int .i64 a, .int .i64 b]
def byte0 (s : ByteArray) : UInt8 := s.data.toList.getD 0 0
def inoOk (s : ByteArray) : Bool := decide (s.size = 17) && (decide ((byte0 s).toNat ≤ 1) && (fitsB (numAt s 1) && fitsB (numAt s 9)))
def inoR (s : ByteArray) : Value := .tuple #[bif inoOk s then inoV (decide ((byte0 s).toNat = 1)) (numAt s 1) (numAt s 9) else inoV false 0 0, .bool (inoOk s)]

set_option maxHeartbeats 4000000 in
theorem get_inode (s : ByteArray) (w : World) :
    Calls Tryd.prog 22 #[.string s] w fun e w' => e = .returned (inoR s) ∧ Below w.heap.size w w' := by
  have hr : ∀ ok, ok = inoOk s → inoR s = .tuple #[bif ok then inoV (decide ((byte0 s).toNat = 1)) (numAt s 1) (numAt s 9) else inoV false 0 0, .bool ok] := fun ok h => by subst h; rfl
  by_cases h17 : s.size = 17
  · have h17' : ((s.size : Int) == 17) = true := by simp; omega
    have hz0 : 0 < s.size := by omega
    have hb0 : (s[0]'hz0).toNat = (byte0 s).toNat := by rw [byte_of rfl]; rfl
    have h17'' : (s.size : Int) = 17 := by omega
    by_cases hf : (byte0 s).toNat ≤ 1
    · have HN1 := Aside.mk (fun W => number_at s 1 (by omega) W)
      have HN9 := Aside.mk (fun W => number_at s 9 (by omega) W)
      have HOK : Aside (inoOk s = (fitsB (numAt s 1) && fitsB (numAt s 9))) := ⟨by unfold inoOk; rw [decide_eq_true h17, decide_eq_true hf]; rfl⟩
      have HR := Aside.mk hr
      obtain ⟨R, hR⟩ : ∃ R, R = inoR s := ⟨_, rfl⟩
      rw [← hR] at HR ⊢
      clear hR hr
      have hs17 : 17 ≤ s.size := by omega
      have hs17' : (17 : Int) ≤ s.size := by omega
      have hf' : ((byte0 s).toNat : Int) ≤ 1 := by omega
      obtain ⟨g, hg⟩ : ∃ g, g = decide ((byte0 s).toNat = 1) := ⟨_, rfl⟩
      have hg2 : (((byte0 s).toNat : Int) == 1) = g := by rw [hg, Bool.eq_iff_iff]; simp; omega
      have HG2 := Aside.mk hg2
      rw [← hg] at HR
      generalize (byte0 s).toNat = f0 at *
      generalize numAt s 1 = a at *
      generalize numAt s 9 = b at *
      have HB0 := Aside.mk hb0
      clear h17 h17' hf hg hg2
      go_enter Tryd.func22, Tryd.ntmps22
      go_upto_region 3 with fail
      clear h17''
      have HA : Aside ((w.alloc (.cells #[.bool false, .int .i64 0, .int .i64 0] 55)).heap[w.heap.size]? = some (.cells #[.bool false, .int .i64 0, .int .i64 0] 55 (0, 0)) ∧ w.heap.size < (w.alloc (.cells #[.bool false, .int .i64 0, .int .i64 0] 55)).heap.size ∧ Below w.heap.size w (w.alloc (.cells #[.bool false, .int .i64 0, .int .i64 0] 55))) :=
        ⟨heap_alloc_new _ _, by simp, (Below.refl _ _).alloc (Nat.le_refl _) _⟩
      generalize w.alloc (.cells #[.bool false, .int .i64 0, .int .i64 0] 55) = w1 at *
      refine wp_region_tail (by kernel_rfl) (by kernel_rfl) (rel_small (by kernel_rfl)) (tailV [(4, .own #[.bool false, .int .i64 0, .int .i64 0] 55 w1.heap.size), (14, .val (.string s)), (15, .val (.int .u8 f0)), (16, .val (.bool g)), (17, .val (.string s)), (18, .val (.string (s.extract 1 s.size))), (19, .val (.int .i64 a)), (20, .val (.string s)), (21, .val (.string (s.extract 9 s.size))), (22, .val (.int .i64 b)), (23, .val (inoV g a b))]) (tailV_stable _) ⟨?_, ?_, ?_, ?_, ?_, ?_, ?_, ?_, ?_, ?_, ?_, ?_⟩
      · -- 14 := move t0
        intro f W hW hold hd K hK
        have ze0 : f 0 = .string s := hold 0 rfl
        have HK : ∀ v W', Below W.heap.size W W' → tailV _ 14 v W' → K { tmps := #[f 0, f 1, f 2, f 3, f 4, f 5, f 6, f 7, f 8, f 9, f 10, f 11, f 12, f 13, v, f 15, f 16, f 17, f 18, f 19, f 20, f 21, f 22, f 23, f 24, f 25, f 26, f 27, f 28, f 29, f 30, f 31, f 32], defers := [] } W' := hK
        change wpList _ #[_] _ [_] { tmps := #[f 0, f 1, f 2, f 3, f 4, f 5, f 6, f 7, f 8, f 9, f 10, f 11, f 12, f 13, f 14, f 15, f 16, f 17, f 18, f 19, f 20, f 21, f 22, f 23, f 24, f 25, f 26, f 27, f 28, f 29, f 30, f 31, f 32], defers := [] } W
        clear hK hd hold
        simp only [ze0] at HK ⊢
        clear ze0
        have HK := Aside.mk HK
        go_wp2
        exact HK.out _ _ (Below.refl _ _) rfl
      · -- 15 := index 9 t14 <i64 0>
        intro f W hW hold hd K hK
        have ze14 : f 14 = .string s := hd 14 rfl rfl
        have HK : ∀ v W', Below W.heap.size W W' → tailV _ 15 v W' → K { tmps := #[f 0, f 1, f 2, f 3, f 4, f 5, f 6, f 7, f 8, f 9, f 10, f 11, f 12, f 13, f 14, v, f 16, f 17, f 18, f 19, f 20, f 21, f 22, f 23, f 24, f 25, f 26, f 27, f 28, f 29, f 30, f 31, f 32], defers := [] } W' := hK
        change wpList _ #[_] _ [_] { tmps := #[f 0, f 1, f 2, f 3, f 4, f 5, f 6, f 7, f 8, f 9, f 10, f 11, f 12, f 13, f 14, f 15, f 16, f 17, f 18, f 19, f 20, f 21, f 22, f 23, f 24, f 25, f 26, f 27, f 28, f 29, f 30, f 31, f 32], defers := [] } W
        clear hK hd hold
        simp only [ze14] at HK ⊢
        clear ze14
        have HK := Aside.mk HK
        go_wp2
        exact HK.out _ _ (Below.refl _ _) rfl
      · -- 16 := binOp eql 5 t15 <u8 1> 5
        intro f W hW hold hd K hK
        have ze15 : f 15 = .int .u8 f0 := hd 15 rfl rfl
        have HK : ∀ v W', Below W.heap.size W W' → tailV _ 16 v W' → K { tmps := #[f 0, f 1, f 2, f 3, f 4, f 5, f 6, f 7, f 8, f 9, f 10, f 11, f 12, f 13, f 14, f 15, v, f 17, f 18, f 19, f 20, f 21, f 22, f 23, f 24, f 25, f 26, f 27, f 28, f 29, f 30, f 31, f 32], defers := [] } W' := hK
        change wpList _ #[_] _ [_] { tmps := #[f 0, f 1, f 2, f 3, f 4, f 5, f 6, f 7, f 8, f 9, f 10, f 11, f 12, f 13, f 14, f 15, f 16, f 17, f 18, f 19, f 20, f 21, f 22, f 23, f 24, f 25, f 26, f 27, f 28, f 29, f 30, f 31, f 32], defers := [] } W
        clear hK hd hold
        simp only [ze15] at HK ⊢
        clear ze15
        have HK := Aside.mk HK
        have hg2 := HG2.out
        go_wp2
        exact HK.out _ _ (Below.refl _ _) rfl
      · -- 17 := move t0
        intro f W hW hold hd K hK
        have ze0 : f 0 = .string s := hold 0 rfl
        have HK : ∀ v W', Below W.heap.size W W' → tailV _ 17 v W' → K { tmps := #[f 0, f 1, f 2, f 3, f 4, f 5, f 6, f 7, f 8, f 9, f 10, f 11, f 12, f 13, f 14, f 15, f 16, v, f 18, f 19, f 20, f 21, f 22, f 23, f 24, f 25, f 26, f 27, f 28, f 29, f 30, f 31, f 32], defers := [] } W' := hK
        change wpList _ #[_] _ [_] { tmps := #[f 0, f 1, f 2, f 3, f 4, f 5, f 6, f 7, f 8, f 9, f 10, f 11, f 12, f 13, f 14, f 15, f 16, f 17, f 18, f 19, f 20, f 21, f 22, f 23, f 24, f 25, f 26, f 27, f 28, f 29, f 30, f 31, f 32], defers := [] } W
        clear hK hd hold
        simp only [ze0] at HK ⊢
        clear ze0
        have HK := Aside.mk HK
        go_wp2
        exact HK.out _ _ (Below.refl _ _) rfl
      · -- 18 := slice 9 t17 <i64 1> - -
        intro f W hW hold hd K hK
        have ze17 : f 17 = .string s := hd 17 rfl rfl
        have HK : ∀ v W', Below W.heap.size W W' → tailV _ 18 v W' → K { tmps := #[f 0, f 1, f 2, f 3, f 4, f 5, f 6, f 7, f 8, f 9, f 10, f 11, f 12, f 13, f 14, f 15, f 16, f 17, v, f 19, f 20, f 21, f 22, f 23, f 24, f 25, f 26, f 27, f 28, f 29, f 30, f 31, f 32], defers := [] } W' := hK
        change wpList _ #[_] _ [_] { tmps := #[f 0, f 1, f 2, f 3, f 4, f 5, f 6, f 7, f 8, f 9, f 10, f 11, f 12, f 13, f 14, f 15, f 16, f 17, f 18, f 19, f 20, f 21, f 22, f 23, f 24, f 25, f 26, f 27, f 28, f 29, f 30, f 31, f 32], defers := [] } W
        clear hK hd hold
        simp only [ze17] at HK ⊢
        clear ze17
        have HK := Aside.mk HK
        go_wp2
        exact HK.out _ _ (Below.refl _ _) rfl
      · -- 19 := CALL f31 chert/node.number [t18] : [9]
        intro f W hW hold hd K hK
        have ze18 : f 18 = .string (s.extract 1 s.size) := hd 18 rfl rfl
        have HK : ∀ v W', Below W.heap.size W W' → tailV _ 19 v W' → K { tmps := #[f 0, f 1, f 2, f 3, f 4, f 5, f 6, f 7, f 8, f 9, f 10, f 11, f 12, f 13, f 14, f 15, f 16, f 17, f 18, v, f 20, f 21, f 22, f 23, f 24, f 25, f 26, f 27, f 28, f 29, f 30, f 31, f 32], defers := [] } W' := hK
        change wpList _ #[_] _ [_] { tmps := #[f 0, f 1, f 2, f 3, f 4, f 5, f 6, f 7, f 8, f 9, f 10, f 11, f 12, f 13, f 14, f 15, f 16, f 17, f 18, f 19, f 20, f 21, f 22, f 23, f 24, f 25, f 26, f 27, f 28, f 29, f 30, f 31, f 32], defers := [] } W
        clear hK hd hold
        simp only [ze18] at HK ⊢
        clear ze18
        have HK := Aside.mk HK
        go_wp2_with (go_at_call 31; refine (HN1.out W).mono ?_; rintro e w3 ⟨rfl, rfl⟩)
        exact HK.out _ _ (Below.refl _ _) rfl
      · -- 20 := move t0
        intro f W hW hold hd K hK
        have ze0 : f 0 = .string s := hold 0 rfl
        have HK : ∀ v W', Below W.heap.size W W' → tailV _ 20 v W' → K { tmps := #[f 0, f 1, f 2, f 3, f 4, f 5, f 6, f 7, f 8, f 9, f 10, f 11, f 12, f 13, f 14, f 15, f 16, f 17, f 18, f 19, v, f 21, f 22, f 23, f 24, f 25, f 26, f 27, f 28, f 29, f 30, f 31, f 32], defers := [] } W' := hK
        change wpList _ #[_] _ [_] { tmps := #[f 0, f 1, f 2, f 3, f 4, f 5, f 6, f 7, f 8, f 9, f 10, f 11, f 12, f 13, f 14, f 15, f 16, f 17, f 18, f 19, f 20, f 21, f 22, f 23, f 24, f 25, f 26, f 27, f 28, f 29, f 30, f 31, f 32], defers := [] } W
        clear hK hd hold
        simp only [ze0] at HK ⊢
        clear ze0
        have HK := Aside.mk HK
        go_wp2
        exact HK.out _ _ (Below.refl _ _) rfl
      · -- 21 := slice 9 t20 <i64 9> - -
        intro f W hW hold hd K hK
        have ze20 : f 20 = .string s := hd 20 rfl rfl
        have HK : ∀ v W', Below W.heap.size W W' → tailV _ 21 v W' → K { tmps := #[f 0, f 1, f 2, f 3, f 4, f 5, f 6, f 7, f 8, f 9, f 10, f 11, f 12, f 13, f 14, f 15, f 16, f 17, f 18, f 19, f 20, v, f 22, f 23, f 24, f 25, f 26, f 27, f 28, f 29, f 30, f 31, f 32], defers := [] } W' := hK
        change wpList _ #[_] _ [_] { tmps := #[f 0, f 1, f 2, f 3, f 4, f 5, f 6, f 7, f 8, f 9, f 10, f 11, f 12, f 13, f 14, f 15, f 16, f 17, f 18, f 19, f 20, f 21, f 22, f 23, f 24, f 25, f 26, f 27, f 28, f 29, f 30, f 31, f 32], defers := [] } W
        clear hK hd hold
        simp only [ze20] at HK ⊢
        clear ze20
        have HK := Aside.mk HK
        go_wp2
        exact HK.out _ _ (Below.refl _ _) rfl
      · -- 22 := CALL f31 chert/node.number [t21] : [9]
        intro f W hW hold hd K hK
        have ze21 : f 21 = .string (s.extract 9 s.size) := hd 21 rfl rfl
        have HK : ∀ v W', Below W.heap.size W W' → tailV _ 22 v W' → K { tmps := #[f 0, f 1, f 2, f 3, f 4, f 5, f 6, f 7, f 8, f 9, f 10, f 11, f 12, f 13, f 14, f 15, f 16, f 17, f 18, f 19, f 20, f 21, v, f 23, f 24, f 25, f 26, f 27, f 28, f 29, f 30, f 31, f 32], defers := [] } W' := hK
        change wpList _ #[_] _ [_] { tmps := #[f 0, f 1, f 2, f 3, f 4, f 5, f 6, f 7, f 8, f 9, f 10, f 11, f 12, f 13, f 14, f 15, f 16, f 17, f 18, f 19, f 20, f 21, f 22, f 23, f 24, f 25, f 26, f 27, f 28, f 29, f 30, f 31, f 32], defers := [] } W
        clear hK hd hold
        simp only [ze21] at HK ⊢
        clear ze21
        have HK := Aside.mk HK
        go_wp2_with (go_at_call 31; refine (HN9.out W).mono ?_; rintro e w3 ⟨rfl, rfl⟩)
        exact HK.out _ _ (Below.refl _ _) rfl
      · -- 23 := build 55 [(0, t16), (1, t19), (2, t22)]
        intro f W hW hold hd K hK
        have ze16 : f 16 = .bool g := hd 16 rfl rfl
        have ze19 : f 19 = .int .i64 a := hd 19 rfl rfl
        have ze22 : f 22 = .int .i64 b := hd 22 rfl rfl
        have HK : ∀ v W', Below W.heap.size W W' → tailV _ 23 v W' → K { tmps := #[f 0, f 1, f 2, f 3, f 4, f 5, f 6, f 7, f 8, f 9, f 10, f 11, f 12, f 13, f 14, f 15, f 16, f 17, f 18, f 19, f 20, f 21, f 22, v, f 24, f 25, f 26, f 27, f 28, f 29, f 30, f 31, f 32], defers := [] } W' := hK
        change wpList _ #[_] _ [_] { tmps := #[f 0, f 1, f 2, f 3, f 4, f 5, f 6, f 7, f 8, f 9, f 10, f 11, f 12, f 13, f 14, f 15, f 16, f 17, f 18, f 19, f 20, f 21, f 22, f 23, f 24, f 25, f 26, f 27, f 28, f 29, f 30, f 31, f 32], defers := [] } W
        clear hK hd hold
        simp only [ze16, ze19, ze22] at HK ⊢
        clear ze16 ze19 ze22
        have HK := Aside.mk HK
        go_wp2
        exact HK.out _ _ (Below.refl _ _) rfl
      · -- 4 := alloc 55
        intro f W hW hold hd K hK
        have HK : ∀ v W', Below W.heap.size W W' → tailV _ 4 v W' → K { tmps := #[f 0, f 1, f 2, f 3, v, f 5, f 6, f 7, f 8, f 9, f 10, f 11, f 12, f 13, f 14, f 15, f 16, f 17, f 18, f 19, f 20, f 21, f 22, f 23, f 24, f 25, f 26, f 27, f 28, f 29, f 30, f 31, f 32], defers := [] } W' := hK
        change wpList _ #[_] _ [_] { tmps := #[f 0, f 1, f 2, f 3, f 4, f 5, f 6, f 7, f 8, f 9, f 10, f 11, f 12, f 13, f 14, f 15, f 16, f 17, f 18, f 19, f 20, f 21, f 22, f 23, f 24, f 25, f 26, f 27, f 28, f 29, f 30, f 31, f 32], defers := [] } W
        clear hK hd hold
        have HK := Aside.mk HK
        go_wp2
        exact HK.out _ _ ((Below.refl _ _).alloc (Nat.le_refl _) _) ⟨_, rfl, hW.size, heap_alloc_new _ _⟩
      · -- the last: store 55 t4 t23
        intro f W hW hold hd K hK
        have ze0 : f 0 = .string s := hold 0 rfl
        have ze2 : f 2 = .pointer (some ⟨w.heap.size, 0, none⟩) := hold 2 rfl
        have ze3 : f 3 = .bool false := hold 3 rfl
        obtain ⟨b4, ze4, l4, r4⟩ : ∃ bb, f 4 = .pointer (some ⟨bb, 0, none⟩) ∧ w1.heap.size ≤ bb ∧ W.heap[bb]? = some (.cells #[.bool false, .int .i64 0, .int .i64 0] 55 (0, 0)) := hd 4 rfl
        have ze14 : f 14 = .string s := hd 14 rfl
        have ze15 : f 15 = .int .u8 f0 := hd 15 rfl
        have ze16 : f 16 = .bool g := hd 16 rfl
        have ze17 : f 17 = .string s := hd 17 rfl
        have ze18 : f 18 = .string (s.extract 1 s.size) := hd 18 rfl
        have ze19 : f 19 = .int .i64 a := hd 19 rfl
        have ze20 : f 20 = .string s := hd 20 rfl
        have ze21 : f 21 = .string (s.extract 9 s.size) := hd 21 rfl
        have ze22 : f 22 = .int .i64 b := hd 22 rfl
        have ze23 : f 23 = inoV g a b := hd 23 rfl
        change wpList _ #[_] _ [_] { tmps := #[f 0, f 1, f 2, f 3, f 4, f 5, f 6, f 7, f 8, f 9, f 10, f 11, f 12, f 13, f 14, f 15, f 16, f 17, f 18, f 19, f 20, f 21, f 22, f 23, f 24, f 25, f 26, f 27, f 28, f 29, f 30, f 31, f 32], defers := [] } W
        simp only [ze0, ze2, ze3, ze4, ze14, ze15, ze16, ze17, ze18, ze19, ze20, ze21, ze22, ze23]
        clear hold hd ze0 ze2 ze3 ze4 ze14 ze15 ze16 ze17 ze18 ze19 ze20 ze21 ze22 ze23
        have HK := Aside.mk hK
        clear hK
        obtain ⟨c0, d0⟩ := row_cell (r4) 0 (v := .bool false) rfl
        obtain ⟨c1, d1⟩ := row_cell (r4) 1 (v := .int .i64 0) rfl
        obtain ⟨c2, d2⟩ := row_cell (r4) 2 (v := .int .i64 0) rfl
        go_wp2
        refine HK.out _ _ ?_
        clear HK c0 c1 c2 d0 d1 d2
        have hne : w.heap.size ≠ b4 := by have := HA.out.2.1; omega
        have f0' : (((W.setCell ⟨b4, 0, none⟩ (.bool g)).setCell ⟨b4, 1, none⟩ (.int .i64 a)).setCell ⟨b4, 2, none⟩ (.int .i64 b)).heap[b4]? = some (.cells #[.bool g, .int .i64 a, .int .i64 b] 55 (0, 0)) := (row_set (row_set (row_set r4 _) _) _)
        have f1' : (((W.setCell ⟨b4, 0, none⟩ (.bool g)).setCell ⟨b4, 1, none⟩ (.int .i64 a)).setCell ⟨b4, 2, none⟩ (.int .i64 b)).heap[w.heap.size]? = some (.cells #[.bool false, .int .i64 0, .int .i64 0] 55 (0, 0)) := (row_other (row_other (row_other ((hW.block _ HA.out.2.1).trans HA.out.1) hne _) hne _) hne _)
        have f2' : Below w.heap.size w (((W.setCell ⟨b4, 0, none⟩ (.bool g)).setCell ⟨b4, 1, none⟩ (.int .i64 a)).setCell ⟨b4, 2, none⟩ (.int .i64 b)) := (Below.setCell (Below.setCell (Below.setCell (HA.out.2.2.trans (hW.mono (Nat.le_of_lt HA.out.2.1))) (show w.heap.size ≤ b4 by have := HA.out.2.1; omega) _) (show w.heap.size ≤ b4 by have := HA.out.2.1; omega) _) (show w.heap.size ≤ b4 by have := HA.out.2.1; omega) _)
        have f3' : w.heap.size < (((W.setCell ⟨b4, 0, none⟩ (.bool g)).setCell ⟨b4, 1, none⟩ (.int .i64 a)).setCell ⟨b4, 2, none⟩ (.int .i64 b)).heap.size := by have := HA.out.2.1; have := hW.size; simp; omega
        have H3 := Aside.mk (And.intro f0' (And.intro f1' (And.intro f2' f3')))
        clear f0' f1' f2' f3'
        generalize (((W.setCell ⟨b4, 0, none⟩ (.bool g)).setCell ⟨b4, 1, none⟩ (.int .i64 a)).setCell ⟨b4, 2, none⟩ (.int .i64 b)) = w3 at *
        clear hne r4 l4
        clear hW W
        have hnb := heap_lt H3.out.1
        obtain ⟨c0, d0⟩ := row_cell (H3.out.1) 0 (v := .bool g) rfl
        obtain ⟨c1, d1⟩ := row_cell (H3.out.1) 1 (v := .int .i64 a) rfl
        obtain ⟨c2, d2⟩ := row_cell (H3.out.1) 2 (v := .int .i64 b) rfl
        cases hok : (fitsB a && fitsB b)
        · have HF := Aside.mk hok
          have HR2 := HR.out false (by rw [HOK.out, hok])
          clear hok HN1 HN9
          go_upto_region 5 with (go_at_call 32; refine (fits2 a b _ _ (heap_alloc_new _ _)).mono ?_; rw [HF.out]; rintro e w4 ⟨rfl, rfl⟩)
          clear c0 c1 c2 d0 d1 d2
          have H4 : Aside ((w3.alloc (.cells #[.int .i64 a, .int .i64 b] 3)).heap[w.heap.size]? = some (.cells #[.bool false, .int .i64 0, .int .i64 0] 55 (0, 0)) ∧ Below w.heap.size w (w3.alloc (.cells #[.int .i64 a, .int .i64 b] 3))) :=
            ⟨row_alloc H3.out.2.1 _, H3.out.2.2.1.alloc (Nat.le_of_lt H3.out.2.2.2) _⟩
          generalize w3.alloc (.cells #[.int .i64 a, .int .i64 b] 3) = w4 at *
          obtain ⟨c0, d0⟩ := row_cell (H4.out.1) 0 (v := .bool false) rfl
          obtain ⟨c1, d1⟩ := row_cell (H4.out.1) 1 (v := .int .i64 0) rfl
          obtain ⟨c2, d2⟩ := row_cell (H4.out.1) 2 (v := .int .i64 0) rfl
          go_wp2
          clear c0 c1 c2 d0 d1 d2
          have hfin : (((w4.setCell ⟨w.heap.size, 0, none⟩ (.bool false)).setCell ⟨w.heap.size, 1, none⟩ (.int .i64 0)).setCell ⟨w.heap.size, 2, none⟩ (.int .i64 0)).heap[w.heap.size]? = some (.cells #[.bool false, .int .i64 0, .int .i64 0] 55 (0, 0)) := (row_set (row_set (row_set (H4.out.1) _) _) _)
          have hbl : Below w.heap.size w (((w4.setCell ⟨w.heap.size, 0, none⟩ (.bool false)).setCell ⟨w.heap.size, 1, none⟩ (.int .i64 0)).setCell ⟨w.heap.size, 2, none⟩ (.int .i64 0)) := (Below.setCell (Below.setCell (Below.setCell (H4.out.2) (Nat.le_refl _) _) (Nat.le_refl _) _) (Nat.le_refl _) _)
          obtain ⟨q0, _⟩ := row_cell (hfin) 0 (v := .bool false) rfl
          obtain ⟨q1, _⟩ := row_cell (hfin) 1 (v := .int .i64 0) rfl
          obtain ⟨q2, _⟩ := row_cell (hfin) 2 (v := .int .i64 0) rfl
          exact bodyPost_ret (v := (.tuple #[inoV false 0 0, .bool false])) (by simp [results, Tryd.results22, go_sem, q0, q1, q2]) rfl ⟨ret_eq HR2.symm, hbl⟩
        · have HF := Aside.mk hok
          have HR2 := HR.out true (by rw [HOK.out, hok])
          clear hok HN1 HN9
          go_upto_region 6 with (go_at_call 32; refine (fits2 a b _ _ (heap_alloc_new _ _)).mono ?_; rw [HF.out]; rintro e w4 ⟨rfl, rfl⟩)
          clear c0 c1 c2 d0 d1 d2
          have H4 : Aside ((w3.alloc (.cells #[.int .i64 a, .int .i64 b] 3)).heap[w.heap.size]? = some (.cells #[.bool false, .int .i64 0, .int .i64 0] 55 (0, 0)) ∧ Below w.heap.size w (w3.alloc (.cells #[.int .i64 a, .int .i64 b] 3)) ∧ (w3.alloc (.cells #[.int .i64 a, .int .i64 b] 3)).heap[b4]? = some (.cells #[.bool g, .int .i64 a, .int .i64 b] 55 (0, 0))) :=
            ⟨row_alloc H3.out.2.1 _, H3.out.2.2.1.alloc (Nat.le_of_lt H3.out.2.2.2) _, row_alloc H3.out.1 _⟩
          generalize w3.alloc (.cells #[.int .i64 a, .int .i64 b] 3) = w4 at *
          obtain ⟨c0, d0⟩ := row_cell (H4.out.1) 0 (v := .bool false) rfl
          obtain ⟨c1, d1⟩ := row_cell (H4.out.1) 1 (v := .int .i64 0) rfl
          obtain ⟨c2, d2⟩ := row_cell (H4.out.1) 2 (v := .int .i64 0) rfl
          obtain ⟨x0, y0⟩ := row_cell (H4.out.2.2) 0 (v := .bool g) rfl
          obtain ⟨x1, y1⟩ := row_cell (H4.out.2.2) 1 (v := .int .i64 a) rfl
          obtain ⟨x2, y2⟩ := row_cell (H4.out.2.2) 2 (v := .int .i64 b) rfl
          go_wp2
          clear c0 c1 c2 d0 d1 d2 x0 x1 x2 y0 y1 y2
          have hfin : (((w4.setCell ⟨w.heap.size, 0, none⟩ (.bool g)).setCell ⟨w.heap.size, 1, none⟩ (.int .i64 a)).setCell ⟨w.heap.size, 2, none⟩ (.int .i64 b)).heap[w.heap.size]? = some (.cells #[.bool g, .int .i64 a, .int .i64 b] 55 (0, 0)) := (row_set (row_set (row_set (H4.out.1) _) _) _)
          have hbl : Below w.heap.size w (((w4.setCell ⟨w.heap.size, 0, none⟩ (.bool g)).setCell ⟨w.heap.size, 1, none⟩ (.int .i64 a)).setCell ⟨w.heap.size, 2, none⟩ (.int .i64 b)) := (Below.setCell (Below.setCell (Below.setCell (H4.out.2.1) (Nat.le_refl _) _) (Nat.le_refl _) _) (Nat.le_refl _) _)
          obtain ⟨q0, _⟩ := row_cell (hfin) 0 (v := .bool g) rfl
          obtain ⟨q1, _⟩ := row_cell (hfin) 1 (v := .int .i64 a) rfl
          obtain ⟨q2, _⟩ := row_cell (hfin) 2 (v := .int .i64 b) rfl
          exact bodyPost_ret (v := (.tuple #[inoV g a b, .bool true])) (by simp [results, Tryd.results22, go_sem, q0, q1, q2]) rfl ⟨ret_eq HR2.symm, hbl⟩
    · have hf' : (1 : Int) < (byte0 s).toNat := by omega
      have HR2 := hr false (by unfold inoOk; rw [decide_eq_false hf, Bool.false_and, Bool.and_false])
      clear hr
      generalize inoR s = R at *
      generalize (byte0 s).toNat = f0 at *
      clear h17 h17' hf
      go_enter Tryd.func22, Tryd.ntmps22
      go_wp2
      exact bodyPost_ret (v := .tuple #[inoV false 0 0, .bool false]) (by simp [results, Tryd.results22, go_sem]) rfl ⟨ret_eq HR2.symm, (Below.refl _ _).alloc (Nat.le_refl _) _⟩
  · have h17' : ((s.size : Int) == 17) = false := by simp; omega
    have h17'' : ¬ (s.size : Int) = 17 := by omega
    have HR2 := hr false (by unfold inoOk; rw [decide_eq_false h17, Bool.false_and])
    clear hr
    generalize inoR s = R at *
    clear h17
    go_enter Tryd.func22, Tryd.ntmps22
    go_wp2
    exact bodyPost_ret (v := .tuple #[inoV false 0 0, .bool false]) (by simp [results, Tryd.results22, go_sem]) rfl ⟨ret_eq HR2.symm, (Below.refl _ _).alloc (Nat.le_refl _) _⟩

def getOk (s : ByteArray) : Bool := decide (29 ≤ s.size) && (labOk (byte0 (s.extract 0 29)) (numAt (s.extract 0 29) 1) (numAt (s.extract 0 29) 9) (numAt (s.extract 0 29) 17) &&
  decide (labT (byte0 (s.extract 0 29)) (numAt (s.extract 0 29) 1) (numAt (s.extract 0 29) 9) (numAt (s.extract 0 29) 17) = s.extract 0 29))
def labR (s : ByteArray) : Value := .tuple #[bif getOk s then labV (byte0 (s.extract 0 29)).toNat (numAt (s.extract 0 29) 1) (numAt (s.extract 0 29) 9) (numAt (s.extract 0 29) 17) else labV 0 0 0 0, .bool (getOk s)]

set_option maxHeartbeats 4000000 in
theorem get_label (s : ByteArray) (w : World) (hn : Nib w) :
    Calls Tryd.prog 17 #[.string s] w fun e w' => e = .returned (labR s) ∧ Below w.heap.size w w' := by
  by_cases h29 : s.size < 29
  · have h29' : (s.size : Int) < 29 := by omega
    have HR2 : labR s = .tuple #[labV 0 0 0 0, .bool false] := by unfold labR getOk; rw [decide_eq_false (by omega)]; rfl
    clear h29
    generalize labR s = R at *
    go_enter Tryd.func17, Tryd.ntmps17
    go_wp2
    exact bodyPost_ret (v := .tuple #[labV 0 0 0 0, .bool false]) (by simp [results, Tryd.results17, go_sem]) rfl ⟨ret_eq HR2.symm, (Below.refl _ _).alloc (Nat.le_refl _) _⟩
  have hr : ∀ ok, ok = (labOk (byte0 (s.extract 0 29)) (numAt (s.extract 0 29) 1) (numAt (s.extract 0 29) 9) (numAt (s.extract 0 29) 17) && decide (labT (byte0 (s.extract 0 29)) (numAt (s.extract 0 29) 1) (numAt (s.extract 0 29) 9) (numAt (s.extract 0 29) 17) = s.extract 0 29)) →
      labR s = .tuple #[bif ok then labV (byte0 (s.extract 0 29)).toNat (numAt (s.extract 0 29) 1) (numAt (s.extract 0 29) 9) (numAt (s.extract 0 29) 17) else labV 0 0 0 0, .bool ok] := fun ok h => by
    unfold labR
    have : getOk s = ok := by unfold getOk; rw [decide_eq_true (by omega), h]; rfl
    rw [this]
  have hlen : 29 ≤ s.size := by omega
  have hlen' : (29 : Int) ≤ s.size := by omega
  have htz : (s.extract 0 29).size = 29 := by simp; omega
  have HR := Aside.mk hr
  have HTZ := Aside.mk htz
  clear hr h29 htz
  generalize labR s = R at *
  go_enter Tryd.func17, Tryd.ntmps17
  go_upto_region 4 with fail
  generalize s.extract 0 29 = t at *
  have hts : t.size = 29 := HTZ.out
  have ht29 : 29 ≤ t.size := by omega
  have ht29' : (29 : Int) ≤ t.size := by omega
  have hz0 : 0 < t.size := by omega
  have HB0 : Aside ((t[0]'hz0).toNat = (byte0 t).toNat) := ⟨by rw [byte_of rfl]; rfl⟩
  have HN1 := Aside.mk (fun W => number_at t 1 (by omega) W)
  have HN9 := Aside.mk (fun W => number_at t 9 (by omega) W)
  have HN17 := Aside.mk (fun W => number_at t 17 (by omega) W)
  clear hts HTZ
  generalize hx : byte0 t = x at *
  obtain ⟨c, hc⟩ : ∃ c : Int, (x.toNat : Int) = c := ⟨_, rfl⟩
  generalize numAt t 1 = a at *
  generalize numAt t 9 = b at *
  generalize numAt t 17 = d at *
  rw [hc] at HR
  have HC := Aside.mk hc
  clear hc hx
  have HA : Aside ((w.alloc (.cells (labC 0 0 0 0) 45)).heap[w.heap.size]? = some (.cells (labC 0 0 0 0) 45 (0, 0)) ∧ w.heap.size < (w.alloc (.cells (labC 0 0 0 0) 45)).heap.size ∧ Below w.heap.size w (w.alloc (.cells (labC 0 0 0 0) 45)) ∧ Nib (w.alloc (.cells (labC 0 0 0 0) 45))) :=
    ⟨heap_alloc_new _ _, by simp, (Below.refl _ _).alloc (Nat.le_refl _) _, hn.alloc _⟩
  have HNib := Aside.mk hn
  clear hn
  generalize w.alloc (.cells (labC 0 0 0 0) 45) = w1 at *
  refine wp_region_tail (by kernel_rfl) (by kernel_rfl) (rel_small (by kernel_rfl)) (tailV [(4, .own (labC 0 0 0 0) 45 w1.heap.size), (13, .val (.string t)), (14, .val (.int .u8 c)), (15, .val (.string t)), (16, .val (.string (t.extract 1 t.size))), (17, .val (.int .i64 a)), (18, .val (.string t)), (19, .val (.string (t.extract 9 t.size))), (20, .val (.int .i64 b)), (21, .val (.string t)), (22, .val (.string (t.extract 17 t.size))), (23, .val (.int .i64 d)), (24, .val (labV c a b d))]) (tailV_stable _) ⟨?_, ?_, ?_, ?_, ?_, ?_, ?_, ?_, ?_, ?_, ?_, ?_, ?_, ?_⟩
  · -- 13 := move t0
    intro f W hW hold hd K hK
    have ze0 : f 0 = .string t := hold 0 rfl
    have HK : ∀ v W', Below W.heap.size W W' → tailV _ 13 v W' → K { tmps := #[f 0, f 1, f 2, f 3, f 4, f 5, f 6, f 7, f 8, f 9, f 10, f 11, f 12, v, f 14, f 15, f 16, f 17, f 18, f 19, f 20, f 21, f 22, f 23, f 24, f 25, f 26, f 27, f 28, f 29, f 30, f 31, f 32, f 33, f 34, f 35, f 36, f 37, f 38], defers := [] } W' := hK
    change wpList _ #[_] _ [_] { tmps := #[f 0, f 1, f 2, f 3, f 4, f 5, f 6, f 7, f 8, f 9, f 10, f 11, f 12, f 13, f 14, f 15, f 16, f 17, f 18, f 19, f 20, f 21, f 22, f 23, f 24, f 25, f 26, f 27, f 28, f 29, f 30, f 31, f 32, f 33, f 34, f 35, f 36, f 37, f 38], defers := [] } W
    clear hK hd hold
    simp only [ze0] at HK ⊢
    clear ze0
    have HK := Aside.mk HK
    go_wp2
    exact HK.out _ _ (Below.refl _ _) rfl
  · -- 14 := index 9 t13 <i64 0>
    intro f W hW hold hd K hK
    have ze13 : f 13 = .string t := hd 13 rfl rfl
    have HK : ∀ v W', Below W.heap.size W W' → tailV _ 14 v W' → K { tmps := #[f 0, f 1, f 2, f 3, f 4, f 5, f 6, f 7, f 8, f 9, f 10, f 11, f 12, f 13, v, f 15, f 16, f 17, f 18, f 19, f 20, f 21, f 22, f 23, f 24, f 25, f 26, f 27, f 28, f 29, f 30, f 31, f 32, f 33, f 34, f 35, f 36, f 37, f 38], defers := [] } W' := hK
    change wpList _ #[_] _ [_] { tmps := #[f 0, f 1, f 2, f 3, f 4, f 5, f 6, f 7, f 8, f 9, f 10, f 11, f 12, f 13, f 14, f 15, f 16, f 17, f 18, f 19, f 20, f 21, f 22, f 23, f 24, f 25, f 26, f 27, f 28, f 29, f 30, f 31, f 32, f 33, f 34, f 35, f 36, f 37, f 38], defers := [] } W
    clear hK hd hold
    simp only [ze13] at HK ⊢
    clear ze13
    have HK := Aside.mk HK
    have hb0 := HB0.out; have hc := HC.out
    go_wp2
    exact HK.out _ _ (Below.refl _ _) rfl
  · -- 15 := move t0
    intro f W hW hold hd K hK
    have ze0 : f 0 = .string t := hold 0 rfl
    have HK : ∀ v W', Below W.heap.size W W' → tailV _ 15 v W' → K { tmps := #[f 0, f 1, f 2, f 3, f 4, f 5, f 6, f 7, f 8, f 9, f 10, f 11, f 12, f 13, f 14, v, f 16, f 17, f 18, f 19, f 20, f 21, f 22, f 23, f 24, f 25, f 26, f 27, f 28, f 29, f 30, f 31, f 32, f 33, f 34, f 35, f 36, f 37, f 38], defers := [] } W' := hK
    change wpList _ #[_] _ [_] { tmps := #[f 0, f 1, f 2, f 3, f 4, f 5, f 6, f 7, f 8, f 9, f 10, f 11, f 12, f 13, f 14, f 15, f 16, f 17, f 18, f 19, f 20, f 21, f 22, f 23, f 24, f 25, f 26, f 27, f 28, f 29, f 30, f 31, f 32, f 33, f 34, f 35, f 36, f 37, f 38], defers := [] } W
    clear hK hd hold
    simp only [ze0] at HK ⊢
    clear ze0
    have HK := Aside.mk HK
    go_wp2
    exact HK.out _ _ (Below.refl _ _) rfl
  · -- 16 := slice 9 t15 <i64 1> - -
    intro f W hW hold hd K hK
    have ze15 : f 15 = .string t := hd 15 rfl rfl
    have HK : ∀ v W', Below W.heap.size W W' → tailV _ 16 v W' → K { tmps := #[f 0, f 1, f 2, f 3, f 4, f 5, f 6, f 7, f 8, f 9, f 10, f 11, f 12, f 13, f 14, f 15, v, f 17, f 18, f 19, f 20, f 21, f 22, f 23, f 24, f 25, f 26, f 27, f 28, f 29, f 30, f 31, f 32, f 33, f 34, f 35, f 36, f 37, f 38], defers := [] } W' := hK
    change wpList _ #[_] _ [_] { tmps := #[f 0, f 1, f 2, f 3, f 4, f 5, f 6, f 7, f 8, f 9, f 10, f 11, f 12, f 13, f 14, f 15, f 16, f 17, f 18, f 19, f 20, f 21, f 22, f 23, f 24, f 25, f 26, f 27, f 28, f 29, f 30, f 31, f 32, f 33, f 34, f 35, f 36, f 37, f 38], defers := [] } W
    clear hK hd hold
    simp only [ze15] at HK ⊢
    clear ze15
    have HK := Aside.mk HK
    go_wp2
    exact HK.out _ _ (Below.refl _ _) rfl
  · -- 17 := CALL f31 chert/node.number [t16] : [9]
    intro f W hW hold hd K hK
    have ze16 : f 16 = .string (t.extract 1 t.size) := hd 16 rfl rfl
    have HK : ∀ v W', Below W.heap.size W W' → tailV _ 17 v W' → K { tmps := #[f 0, f 1, f 2, f 3, f 4, f 5, f 6, f 7, f 8, f 9, f 10, f 11, f 12, f 13, f 14, f 15, f 16, v, f 18, f 19, f 20, f 21, f 22, f 23, f 24, f 25, f 26, f 27, f 28, f 29, f 30, f 31, f 32, f 33, f 34, f 35, f 36, f 37, f 38], defers := [] } W' := hK
    change wpList _ #[_] _ [_] { tmps := #[f 0, f 1, f 2, f 3, f 4, f 5, f 6, f 7, f 8, f 9, f 10, f 11, f 12, f 13, f 14, f 15, f 16, f 17, f 18, f 19, f 20, f 21, f 22, f 23, f 24, f 25, f 26, f 27, f 28, f 29, f 30, f 31, f 32, f 33, f 34, f 35, f 36, f 37, f 38], defers := [] } W
    clear hK hd hold
    simp only [ze16] at HK ⊢
    clear ze16
    have HK := Aside.mk HK
    go_wp2_with (go_at_call 31; refine (HN1.out W).mono ?_; rintro e w3 ⟨rfl, rfl⟩)
    exact HK.out _ _ (Below.refl _ _) rfl
  · -- 18 := move t0
    intro f W hW hold hd K hK
    have ze0 : f 0 = .string t := hold 0 rfl
    have HK : ∀ v W', Below W.heap.size W W' → tailV _ 18 v W' → K { tmps := #[f 0, f 1, f 2, f 3, f 4, f 5, f 6, f 7, f 8, f 9, f 10, f 11, f 12, f 13, f 14, f 15, f 16, f 17, v, f 19, f 20, f 21, f 22, f 23, f 24, f 25, f 26, f 27, f 28, f 29, f 30, f 31, f 32, f 33, f 34, f 35, f 36, f 37, f 38], defers := [] } W' := hK
    change wpList _ #[_] _ [_] { tmps := #[f 0, f 1, f 2, f 3, f 4, f 5, f 6, f 7, f 8, f 9, f 10, f 11, f 12, f 13, f 14, f 15, f 16, f 17, f 18, f 19, f 20, f 21, f 22, f 23, f 24, f 25, f 26, f 27, f 28, f 29, f 30, f 31, f 32, f 33, f 34, f 35, f 36, f 37, f 38], defers := [] } W
    clear hK hd hold
    simp only [ze0] at HK ⊢
    clear ze0
    have HK := Aside.mk HK
    go_wp2
    exact HK.out _ _ (Below.refl _ _) rfl
  · -- 19 := slice 9 t18 <i64 9> - -
    intro f W hW hold hd K hK
    have ze18 : f 18 = .string t := hd 18 rfl rfl
    have HK : ∀ v W', Below W.heap.size W W' → tailV _ 19 v W' → K { tmps := #[f 0, f 1, f 2, f 3, f 4, f 5, f 6, f 7, f 8, f 9, f 10, f 11, f 12, f 13, f 14, f 15, f 16, f 17, f 18, v, f 20, f 21, f 22, f 23, f 24, f 25, f 26, f 27, f 28, f 29, f 30, f 31, f 32, f 33, f 34, f 35, f 36, f 37, f 38], defers := [] } W' := hK
    change wpList _ #[_] _ [_] { tmps := #[f 0, f 1, f 2, f 3, f 4, f 5, f 6, f 7, f 8, f 9, f 10, f 11, f 12, f 13, f 14, f 15, f 16, f 17, f 18, f 19, f 20, f 21, f 22, f 23, f 24, f 25, f 26, f 27, f 28, f 29, f 30, f 31, f 32, f 33, f 34, f 35, f 36, f 37, f 38], defers := [] } W
    clear hK hd hold
    simp only [ze18] at HK ⊢
    clear ze18
    have HK := Aside.mk HK
    go_wp2
    exact HK.out _ _ (Below.refl _ _) rfl
  · -- 20 := CALL f31 chert/node.number [t19] : [9]
    intro f W hW hold hd K hK
    have ze19 : f 19 = .string (t.extract 9 t.size) := hd 19 rfl rfl
    have HK : ∀ v W', Below W.heap.size W W' → tailV _ 20 v W' → K { tmps := #[f 0, f 1, f 2, f 3, f 4, f 5, f 6, f 7, f 8, f 9, f 10, f 11, f 12, f 13, f 14, f 15, f 16, f 17, f 18, f 19, v, f 21, f 22, f 23, f 24, f 25, f 26, f 27, f 28, f 29, f 30, f 31, f 32, f 33, f 34, f 35, f 36, f 37, f 38], defers := [] } W' := hK
    change wpList _ #[_] _ [_] { tmps := #[f 0, f 1, f 2, f 3, f 4, f 5, f 6, f 7, f 8, f 9, f 10, f 11, f 12, f 13, f 14, f 15, f 16, f 17, f 18, f 19, f 20, f 21, f 22, f 23, f 24, f 25, f 26, f 27, f 28, f 29, f 30, f 31, f 32, f 33, f 34, f 35, f 36, f 37, f 38], defers := [] } W
    clear hK hd hold
    simp only [ze19] at HK ⊢
    clear ze19
    have HK := Aside.mk HK
    go_wp2_with (go_at_call 31; refine (HN9.out W).mono ?_; rintro e w3 ⟨rfl, rfl⟩)
    exact HK.out _ _ (Below.refl _ _) rfl
  · -- 21 := move t0
    intro f W hW hold hd K hK
    have ze0 : f 0 = .string t := hold 0 rfl
    have HK : ∀ v W', Below W.heap.size W W' → tailV _ 21 v W' → K { tmps := #[f 0, f 1, f 2, f 3, f 4, f 5, f 6, f 7, f 8, f 9, f 10, f 11, f 12, f 13, f 14, f 15, f 16, f 17, f 18, f 19, f 20, v, f 22, f 23, f 24, f 25, f 26, f 27, f 28, f 29, f 30, f 31, f 32, f 33, f 34, f 35, f 36, f 37, f 38], defers := [] } W' := hK
    change wpList _ #[_] _ [_] { tmps := #[f 0, f 1, f 2, f 3, f 4, f 5, f 6, f 7, f 8, f 9, f 10, f 11, f 12, f 13, f 14, f 15, f 16, f 17, f 18, f 19, f 20, f 21, f 22, f 23, f 24, f 25, f 26, f 27, f 28, f 29, f 30, f 31, f 32, f 33, f 34, f 35, f 36, f 37, f 38], defers := [] } W
    clear hK hd hold
    simp only [ze0] at HK ⊢
    clear ze0
    have HK := Aside.mk HK
    go_wp2
    exact HK.out _ _ (Below.refl _ _) rfl
  · -- 22 := slice 9 t21 <i64 17> - -
    intro f W hW hold hd K hK
    have ze21 : f 21 = .string t := hd 21 rfl rfl
    have HK : ∀ v W', Below W.heap.size W W' → tailV _ 22 v W' → K { tmps := #[f 0, f 1, f 2, f 3, f 4, f 5, f 6, f 7, f 8, f 9, f 10, f 11, f 12, f 13, f 14, f 15, f 16, f 17, f 18, f 19, f 20, f 21, v, f 23, f 24, f 25, f 26, f 27, f 28, f 29, f 30, f 31, f 32, f 33, f 34, f 35, f 36, f 37, f 38], defers := [] } W' := hK
    change wpList _ #[_] _ [_] { tmps := #[f 0, f 1, f 2, f 3, f 4, f 5, f 6, f 7, f 8, f 9, f 10, f 11, f 12, f 13, f 14, f 15, f 16, f 17, f 18, f 19, f 20, f 21, f 22, f 23, f 24, f 25, f 26, f 27, f 28, f 29, f 30, f 31, f 32, f 33, f 34, f 35, f 36, f 37, f 38], defers := [] } W
    clear hK hd hold
    simp only [ze21] at HK ⊢
    clear ze21
    have HK := Aside.mk HK
    go_wp2
    exact HK.out _ _ (Below.refl _ _) rfl
  · -- 23 := CALL f31 chert/node.number [t22] : [9]
    intro f W hW hold hd K hK
    have ze22 : f 22 = .string (t.extract 17 t.size) := hd 22 rfl rfl
    have HK : ∀ v W', Below W.heap.size W W' → tailV _ 23 v W' → K { tmps := #[f 0, f 1, f 2, f 3, f 4, f 5, f 6, f 7, f 8, f 9, f 10, f 11, f 12, f 13, f 14, f 15, f 16, f 17, f 18, f 19, f 20, f 21, f 22, v, f 24, f 25, f 26, f 27, f 28, f 29, f 30, f 31, f 32, f 33, f 34, f 35, f 36, f 37, f 38], defers := [] } W' := hK
    change wpList _ #[_] _ [_] { tmps := #[f 0, f 1, f 2, f 3, f 4, f 5, f 6, f 7, f 8, f 9, f 10, f 11, f 12, f 13, f 14, f 15, f 16, f 17, f 18, f 19, f 20, f 21, f 22, f 23, f 24, f 25, f 26, f 27, f 28, f 29, f 30, f 31, f 32, f 33, f 34, f 35, f 36, f 37, f 38], defers := [] } W
    clear hK hd hold
    simp only [ze22] at HK ⊢
    clear ze22
    have HK := Aside.mk HK
    go_wp2_with (go_at_call 31; refine (HN17.out W).mono ?_; rintro e w3 ⟨rfl, rfl⟩)
    exact HK.out _ _ (Below.refl _ _) rfl
  · -- 24 := build 45 [(0, t14), (1, t17), (2, t20), (3, t23)]
    intro f W hW hold hd K hK
    have ze14 : f 14 = .int .u8 c := hd 14 rfl rfl
    have ze17 : f 17 = .int .i64 a := hd 17 rfl rfl
    have ze20 : f 20 = .int .i64 b := hd 20 rfl rfl
    have ze23 : f 23 = .int .i64 d := hd 23 rfl rfl
    have HK : ∀ v W', Below W.heap.size W W' → tailV _ 24 v W' → K { tmps := #[f 0, f 1, f 2, f 3, f 4, f 5, f 6, f 7, f 8, f 9, f 10, f 11, f 12, f 13, f 14, f 15, f 16, f 17, f 18, f 19, f 20, f 21, f 22, f 23, v, f 25, f 26, f 27, f 28, f 29, f 30, f 31, f 32, f 33, f 34, f 35, f 36, f 37, f 38], defers := [] } W' := hK
    change wpList _ #[_] _ [_] { tmps := #[f 0, f 1, f 2, f 3, f 4, f 5, f 6, f 7, f 8, f 9, f 10, f 11, f 12, f 13, f 14, f 15, f 16, f 17, f 18, f 19, f 20, f 21, f 22, f 23, f 24, f 25, f 26, f 27, f 28, f 29, f 30, f 31, f 32, f 33, f 34, f 35, f 36, f 37, f 38], defers := [] } W
    clear hK hd hold
    simp only [ze14, ze17, ze20, ze23] at HK ⊢
    clear ze14 ze17 ze20 ze23
    have HK := Aside.mk HK
    go_wp2
    exact HK.out _ _ (Below.refl _ _) rfl
  · -- 4 := alloc 45
    intro f W hW hold hd K hK
    have HK : ∀ v W', Below W.heap.size W W' → tailV _ 4 v W' → K { tmps := #[f 0, f 1, f 2, f 3, v, f 5, f 6, f 7, f 8, f 9, f 10, f 11, f 12, f 13, f 14, f 15, f 16, f 17, f 18, f 19, f 20, f 21, f 22, f 23, f 24, f 25, f 26, f 27, f 28, f 29, f 30, f 31, f 32, f 33, f 34, f 35, f 36, f 37, f 38], defers := [] } W' := hK
    change wpList _ #[_] _ [_] { tmps := #[f 0, f 1, f 2, f 3, f 4, f 5, f 6, f 7, f 8, f 9, f 10, f 11, f 12, f 13, f 14, f 15, f 16, f 17, f 18, f 19, f 20, f 21, f 22, f 23, f 24, f 25, f 26, f 27, f 28, f 29, f 30, f 31, f 32, f 33, f 34, f 35, f 36, f 37, f 38], defers := [] } W
    clear hK hd hold
    have HK := Aside.mk HK
    go_wp2
    exact HK.out _ _ ((Below.refl _ _).alloc (Nat.le_refl _) _) ⟨_, rfl, hW.size, heap_alloc_new _ _⟩
  · -- the last: store 45 t4 t24
    intro f W hW hold hd K hK
    have ze0 : f 0 = .string t := hold 0 rfl
    have ze2 : f 2 = .pointer (some ⟨w.heap.size, 0, none⟩) := hold 2 rfl
    have ze3 : f 3 = .bool false := hold 3 rfl
    obtain ⟨b4, ze4, l4, r4⟩ : ∃ bb, f 4 = .pointer (some ⟨bb, 0, none⟩) ∧ w1.heap.size ≤ bb ∧ W.heap[bb]? = some (.cells (labC 0 0 0 0) 45 (0, 0)) := hd 4 rfl
    have ze13 : f 13 = .string t := hd 13 rfl
    have ze14 : f 14 = .int .u8 c := hd 14 rfl
    have ze15 : f 15 = .string t := hd 15 rfl
    have ze16 : f 16 = .string (t.extract 1 t.size) := hd 16 rfl
    have ze17 : f 17 = .int .i64 a := hd 17 rfl
    have ze18 : f 18 = .string t := hd 18 rfl
    have ze19 : f 19 = .string (t.extract 9 t.size) := hd 19 rfl
    have ze20 : f 20 = .int .i64 b := hd 20 rfl
    have ze21 : f 21 = .string t := hd 21 rfl
    have ze22 : f 22 = .string (t.extract 17 t.size) := hd 22 rfl
    have ze23 : f 23 = .int .i64 d := hd 23 rfl
    have ze24 : f 24 = labV c a b d := hd 24 rfl
    change wpList _ #[_] _ [_] { tmps := #[f 0, f 1, f 2, f 3, f 4, f 5, f 6, f 7, f 8, f 9, f 10, f 11, f 12, f 13, f 14, f 15, f 16, f 17, f 18, f 19, f 20, f 21, f 22, f 23, f 24, f 25, f 26, f 27, f 28, f 29, f 30, f 31, f 32, f 33, f 34, f 35, f 36, f 37, f 38], defers := [] } W
    simp only [ze0, ze2, ze3, ze4, ze13, ze14, ze15, ze16, ze17, ze18, ze19, ze20, ze21, ze22, ze23, ze24]
    clear hold hd ze0 ze2 ze3 ze4 ze13 ze14 ze15 ze16 ze17 ze18 ze19 ze20 ze21 ze22 ze23 ze24
    have HK := Aside.mk hK
    clear hK
    obtain ⟨c0, d0⟩ := row_cell (r4) 0 (v := .int .u8 0) rfl
    obtain ⟨c1, d1⟩ := row_cell (r4) 1 (v := .int .i64 0) rfl
    obtain ⟨c2, d2⟩ := row_cell (r4) 2 (v := .int .i64 0) rfl
    obtain ⟨c3, d3⟩ := row_cell (r4) 3 (v := .int .i64 0) rfl
    go_wp2
    refine HK.out _ _ ?_
    clear HK c0 c1 c2 c3 d0 d1 d2 d3
    have hne : w.heap.size ≠ b4 := by have := HA.out.2.1; omega
    have f0' : ((((W.setCell ⟨b4, 0, none⟩ (.int .u8 c)).setCell ⟨b4, 1, none⟩ (.int .i64 a)).setCell ⟨b4, 2, none⟩ (.int .i64 b)).setCell ⟨b4, 3, none⟩ (.int .i64 d)).heap[b4]? = some (.cells #[.int .u8 c, .int .i64 a, .int .i64 b, .int .i64 d] 45 (0, 0)) := (row_set (row_set (row_set (row_set r4 _) _) _) _)
    have f1' : ((((W.setCell ⟨b4, 0, none⟩ (.int .u8 c)).setCell ⟨b4, 1, none⟩ (.int .i64 a)).setCell ⟨b4, 2, none⟩ (.int .i64 b)).setCell ⟨b4, 3, none⟩ (.int .i64 d)).heap[w.heap.size]? = some (.cells #[.int .u8 0, .int .i64 0, .int .i64 0, .int .i64 0] 45 (0, 0)) := (row_other (row_other (row_other (row_other ((hW.block _ HA.out.2.1).trans HA.out.1) hne _) hne _) hne _) hne _)
    have f2' : Below w.heap.size w ((((W.setCell ⟨b4, 0, none⟩ (.int .u8 c)).setCell ⟨b4, 1, none⟩ (.int .i64 a)).setCell ⟨b4, 2, none⟩ (.int .i64 b)).setCell ⟨b4, 3, none⟩ (.int .i64 d)) := (Below.setCell (Below.setCell (Below.setCell (Below.setCell (HA.out.2.2.1.trans (hW.mono (Nat.le_of_lt HA.out.2.1))) (show w.heap.size ≤ b4 by have := HA.out.2.1; omega) _) (show w.heap.size ≤ b4 by have := HA.out.2.1; omega) _) (show w.heap.size ≤ b4 by have := HA.out.2.1; omega) _) (show w.heap.size ≤ b4 by have := HA.out.2.1; omega) _)
    have f3' : w.heap.size < ((((W.setCell ⟨b4, 0, none⟩ (.int .u8 c)).setCell ⟨b4, 1, none⟩ (.int .i64 a)).setCell ⟨b4, 2, none⟩ (.int .i64 b)).setCell ⟨b4, 3, none⟩ (.int .i64 d)).heap.size := by have := HA.out.2.1; have := hW.size; simp; omega
    have H3 := Aside.mk (And.intro f0' (And.intro f1' (And.intro f2' f3')))
    clear f0' f1' f2' f3'
    generalize ((((W.setCell ⟨b4, 0, none⟩ (.int .u8 c)).setCell ⟨b4, 1, none⟩ (.int .i64 a)).setCell ⟨b4, 2, none⟩ (.int .i64 b)).setCell ⟨b4, 3, none⟩ (.int .i64 d)) = w3 at *
    clear hne r4 l4
    clear hW W
    have hnb := heap_lt H3.out.1
    clear HN1 HN9 HN17 HB0
    obtain ⟨c0, d0⟩ := row_cell (H3.out.1) 0 (v := .int .u8 c) rfl
    obtain ⟨c1, d1⟩ := row_cell (H3.out.1) 1 (v := .int .i64 a) rfl
    obtain ⟨c2, d2⟩ := row_cell (H3.out.1) 2 (v := .int .i64 b) rfl
    obtain ⟨c3, d3⟩ := row_cell (H3.out.1) 3 (v := .int .i64 d) rfl
    cases hok : labOk x a b d
    · have HR2 := HR.out false (by rw [hok]; rfl)
      have HOK := Aside.mk hok
      clear hok
      go_upto_region 7 with (go_at_call 15; refine (put_label x c HC.out a b d _ (HNib.out.below H3.out.2.2.1)).mono ?_; rw [HOK.out]; rintro e w4 ⟨rfl, hb4⟩)
      clear c0 c1 c2 c3 d0 d1 d2 d3
      have H4 : Aside (w4.heap[w.heap.size]? = some (.cells (labC 0 0 0 0) 45 (0, 0)) ∧ Below w.heap.size w w4) := ⟨below_blk H3.out.2.1 hb4, below_trans H3.out.2.2.1 (Nat.le_of_lt H3.out.2.2.2) hb4⟩
      obtain ⟨c0, d0⟩ := row_cell (H4.out.1) 0 (v := .int .u8 0) rfl
      obtain ⟨c1, d1⟩ := row_cell (H4.out.1) 1 (v := .int .i64 0) rfl
      obtain ⟨c2, d2⟩ := row_cell (H4.out.1) 2 (v := .int .i64 0) rfl
      obtain ⟨c3, d3⟩ := row_cell (H4.out.1) 3 (v := .int .i64 0) rfl
      go_wp2
      clear c0 c1 c2 c3 d0 d1 d2 d3
      have hfin : ((((w4.setCell ⟨w.heap.size, 0, none⟩ (.int .u8 0)).setCell ⟨w.heap.size, 1, none⟩ (.int .i64 0)).setCell ⟨w.heap.size, 2, none⟩ (.int .i64 0)).setCell ⟨w.heap.size, 3, none⟩ (.int .i64 0)).heap[w.heap.size]? = some (.cells #[.int .u8 0, .int .i64 0, .int .i64 0, .int .i64 0] 45 (0, 0)) := (row_set (row_set (row_set (row_set (H4.out.1) _) _) _) _)
      have hbl : Below w.heap.size w ((((w4.setCell ⟨w.heap.size, 0, none⟩ (.int .u8 0)).setCell ⟨w.heap.size, 1, none⟩ (.int .i64 0)).setCell ⟨w.heap.size, 2, none⟩ (.int .i64 0)).setCell ⟨w.heap.size, 3, none⟩ (.int .i64 0)) := (Below.setCell (Below.setCell (Below.setCell (Below.setCell (H4.out.2) (Nat.le_refl _) _) (Nat.le_refl _) _) (Nat.le_refl _) _) (Nat.le_refl _) _)
      obtain ⟨q0, _⟩ := row_cell (hfin) 0 (v := .int .u8 0) rfl
      obtain ⟨q1, _⟩ := row_cell (hfin) 1 (v := .int .i64 0) rfl
      obtain ⟨q2, _⟩ := row_cell (hfin) 2 (v := .int .i64 0) rfl
      obtain ⟨q3, _⟩ := row_cell (hfin) 3 (v := .int .i64 0) rfl
      exact bodyPost_ret (v := (.tuple #[labV 0 0 0 0, .bool false])) (by simp [results, Tryd.results17, go_sem, q0, q1, q2, q3]) rfl ⟨ret_eq HR2.symm, hbl⟩
    · have hlb : labB x a b d = labT x a b d := by unfold labB; rw [hok]; rfl
      by_cases hs : labT x a b d = t
      · have HR2 := HR.out true (by rw [hok, decide_eq_true hs]; rfl)
        have HOK := Aside.mk hok
        rw [hs] at hlb
        have HLB := Aside.mk hlb
        clear hok hs hlb
        go_upto_region 8 with (go_at_call 15; refine (put_label x c HC.out a b d _ (HNib.out.below H3.out.2.2.1)).mono ?_; rw [HOK.out, HLB.out]; rintro e w4 ⟨rfl, hb4⟩)
        clear c0 c1 c2 c3 d0 d1 d2 d3
        have H4 : Aside (w4.heap[w.heap.size]? = some (.cells (labC 0 0 0 0) 45 (0, 0)) ∧ Below w.heap.size w w4 ∧ w4.heap[b4]? = some (.cells (labC c a b d) 45 (0, 0))) := ⟨below_blk H3.out.2.1 hb4, below_trans H3.out.2.2.1 (Nat.le_of_lt H3.out.2.2.2) hb4, below_blk H3.out.1 hb4⟩
        obtain ⟨x0, y0⟩ := row_cell (H4.out.2.2) 0 (v := .int .u8 c) rfl
        obtain ⟨x1, y1⟩ := row_cell (H4.out.2.2) 1 (v := .int .i64 a) rfl
        obtain ⟨x2, y2⟩ := row_cell (H4.out.2.2) 2 (v := .int .i64 b) rfl
        obtain ⟨x3, y3⟩ := row_cell (H4.out.2.2) 3 (v := .int .i64 d) rfl
        obtain ⟨c0, d0⟩ := row_cell (H4.out.1) 0 (v := .int .u8 0) rfl
        obtain ⟨c1, d1⟩ := row_cell (H4.out.1) 1 (v := .int .i64 0) rfl
        obtain ⟨c2, d2⟩ := row_cell (H4.out.1) 2 (v := .int .i64 0) rfl
        obtain ⟨c3, d3⟩ := row_cell (H4.out.1) 3 (v := .int .i64 0) rfl
        go_wp2
        clear c0 c1 c2 c3 d0 d1 d2 d3 x0 x1 x2 x3 y0 y1 y2 y3
        have hfin : ((((w4.setCell ⟨w.heap.size, 0, none⟩ (.int .u8 c)).setCell ⟨w.heap.size, 1, none⟩ (.int .i64 a)).setCell ⟨w.heap.size, 2, none⟩ (.int .i64 b)).setCell ⟨w.heap.size, 3, none⟩ (.int .i64 d)).heap[w.heap.size]? = some (.cells #[.int .u8 c, .int .i64 a, .int .i64 b, .int .i64 d] 45 (0, 0)) := (row_set (row_set (row_set (row_set (H4.out.1) _) _) _) _)
        have hbl : Below w.heap.size w ((((w4.setCell ⟨w.heap.size, 0, none⟩ (.int .u8 c)).setCell ⟨w.heap.size, 1, none⟩ (.int .i64 a)).setCell ⟨w.heap.size, 2, none⟩ (.int .i64 b)).setCell ⟨w.heap.size, 3, none⟩ (.int .i64 d)) := (Below.setCell (Below.setCell (Below.setCell (Below.setCell (H4.out.2.1) (Nat.le_refl _) _) (Nat.le_refl _) _) (Nat.le_refl _) _) (Nat.le_refl _) _)
        obtain ⟨q0, _⟩ := row_cell (hfin) 0 (v := .int .u8 c) rfl
        obtain ⟨q1, _⟩ := row_cell (hfin) 1 (v := .int .i64 a) rfl
        obtain ⟨q2, _⟩ := row_cell (hfin) 2 (v := .int .i64 b) rfl
        obtain ⟨q3, _⟩ := row_cell (hfin) 3 (v := .int .i64 d) rfl
        exact bodyPost_ret (v := (.tuple #[labV c a b d, .bool true])) (by simp [results, Tryd.results17, go_sem, q0, q1, q2, q3]) rfl ⟨ret_eq HR2.symm, hbl⟩
      · have HR2 := HR.out false (by rw [decide_eq_false hs, Bool.and_false])
        have HOK := Aside.mk hok
        have HLB := Aside.mk hlb
        have hs2 : ((labT x a b d).toList == t.toList) = false := by rw [str_eq, decide_eq_false hs]
        clear hok hs hlb
        generalize labT x a b d = t2 at *
        go_upto_region 7 with (go_at_call 15; refine (put_label x c HC.out a b d _ (HNib.out.below H3.out.2.2.1)).mono ?_; rw [HOK.out, HLB.out]; rintro e w4 ⟨rfl, hb4⟩)
        clear c0 c1 c2 c3 d0 d1 d2 d3
        have H4 : Aside (w4.heap[w.heap.size]? = some (.cells (labC 0 0 0 0) 45 (0, 0)) ∧ Below w.heap.size w w4) := ⟨below_blk H3.out.2.1 hb4, below_trans H3.out.2.2.1 (Nat.le_of_lt H3.out.2.2.2) hb4⟩
        obtain ⟨c0, d0⟩ := row_cell (H4.out.1) 0 (v := .int .u8 0) rfl
        obtain ⟨c1, d1⟩ := row_cell (H4.out.1) 1 (v := .int .i64 0) rfl
        obtain ⟨c2, d2⟩ := row_cell (H4.out.1) 2 (v := .int .i64 0) rfl
        obtain ⟨c3, d3⟩ := row_cell (H4.out.1) 3 (v := .int .i64 0) rfl
        go_wp2
        clear c0 c1 c2 c3 d0 d1 d2 d3
        have hfin : ((((w4.setCell ⟨w.heap.size, 0, none⟩ (.int .u8 0)).setCell ⟨w.heap.size, 1, none⟩ (.int .i64 0)).setCell ⟨w.heap.size, 2, none⟩ (.int .i64 0)).setCell ⟨w.heap.size, 3, none⟩ (.int .i64 0)).heap[w.heap.size]? = some (.cells #[.int .u8 0, .int .i64 0, .int .i64 0, .int .i64 0] 45 (0, 0)) := (row_set (row_set (row_set (row_set (H4.out.1) _) _) _) _)
        have hbl : Below w.heap.size w ((((w4.setCell ⟨w.heap.size, 0, none⟩ (.int .u8 0)).setCell ⟨w.heap.size, 1, none⟩ (.int .i64 0)).setCell ⟨w.heap.size, 2, none⟩ (.int .i64 0)).setCell ⟨w.heap.size, 3, none⟩ (.int .i64 0)) := (Below.setCell (Below.setCell (Below.setCell (Below.setCell (H4.out.2) (Nat.le_refl _) _) (Nat.le_refl _) _) (Nat.le_refl _) _) (Nat.le_refl _) _)
        obtain ⟨q0, _⟩ := row_cell (hfin) 0 (v := .int .u8 0) rfl
        obtain ⟨q1, _⟩ := row_cell (hfin) 1 (v := .int .i64 0) rfl
        obtain ⟨q2, _⟩ := row_cell (hfin) 2 (v := .int .i64 0) rfl
        obtain ⟨q3, _⟩ := row_cell (hfin) 3 (v := .int .i64 0) rfl
        exact bodyPost_ret (v := (.tuple #[labV 0 0 0 0, .bool false])) (by simp [results, Tryd.results17, go_sem, q0, q1, q2, q3]) rfl ⟨ret_eq HR2.symm, hbl⟩
    end Go.Proofs.YtmomphjhlbampaaDoor
