/-
  A node's bytes, by the document.
-/
import Derived.Test.YtmomphjhlbampaaDoorNodeEnc
import Derived.Test.YtmomphjhlbampaaDoorSealed
namespace Go.Proofs.YtmomphjhlbampaaDoor
open Go.RowKit

theorem be_byte (x : UInt8) : be 1 x.toNat = byteB x := by
  have : UInt8.ofNat x.toNat = x := by simp
  unfold be beL beL
  rw [this]; rfl
theorem be_k (n : Nat) : be 1 n = byteB (UInt8.ofNat n) := rfl
theorem be_v {n : Nat} (h : n < 256) : be 2 n = ⟨#[0, UInt8.ofNat n]⟩ := by
  have h0 : n / 256 = 0 := by omega
  unfold be beL beL
  rw [h0]; rfl
theorem be_q {q : Int} (h : 0 ≤ q ∧ q ≤ 1099511627776) : be 8 q.toNat = numsB [q] := by
  have : u64 q = q.toNat := by unfold u64; omega
  unfold numsB be numsL
  simp [this]
theorem cat_sizes (X k v : ByteArray) : X ++ byteB (UInt8.ofNat k.size) ++ ⟨#[0, UInt8.ofNat v.size]⟩ = X ++ sizesB k v := by
  apply bytes_ext
  simp [sizesB]

set_option maxHeartbeats 1000000 in
theorem ref_encode12_bad (q : Int) (g l : Bool) (k v : ByteArray) (w : World) (hg : goodN q g k v = false) :
    Calls Tryd.prog 11 #[nodeV q g l k v] w fun e w' => e = .returned (.string ⟨#[]⟩) ∧ Below w.heap.size w w' := by
  have HG := Aside.mk hg
  clear hg
  go_enter Tryd.func11, Tryd.ntmps11
  go_wp2_with (go_at_call 12; refine (ref_good12 q g l k v _).mono ?_; rw [HG.out]; rintro e w1 ⟨rfl, hb1⟩)
  go_ret
  exact ⟨rfl, ((Below.refl _ _).alloc (Nat.le_refl _) _).trans (hb1.mono (by simp))⟩

set_option maxHeartbeats 4000000 in
theorem ref_encode12_good (q : Int) (g l : Bool) (k v : ByteArray) (w : World) (hg : goodN q g k v = true) :
    Calls Tryd.prog 11 #[nodeV q g l k v] w fun e w' => e = .returned (.string (sealed (headB q g l k v ++ k ++ v))) ∧ Below w.heap.size w w' := by
  have HG := Aside.mk hg
  obtain ⟨hq0, hq1, hk1, hk2, hv2, _⟩ := goodN_iff.1 hg
  clear hg
  have HB := Aside.mk (And.intro (be_byte (flB g l)) (And.intro (be_q ⟨hq0, hq1⟩) (be_v (n := v.size) (by omega))))
  have HCat := Aside.mk (cat_sizes (byteB 78 ++ byteB (flB g l) ++ numsB [q]) k v)
  go_enter Tryd.func11, Tryd.ntmps11
  go_upto_region 3 with (go_at_call 12; refine (ref_good12 q g l k v _).mono ?_; rw [HG.out]; rintro e w1 ⟨rfl, hb1⟩)
  have h0 : w1.heap[w.heap.size]? = some (.cells (nodeC q g l k v) 27 (0, 0)) := (hb1.block _ (by simp)).trans (heap_alloc_new _ _)
  have hlt : w.heap.size < w1.heap.size := Nat.lt_of_lt_of_le (by simp) hb1.size
  have hb0 : Below w.heap.size w w1 := ((Below.refl _ _).alloc (Nat.le_refl _) _).trans (hb1.mono (by simp))
  have H0 := Aside.mk (And.intro h0 (And.intro hlt hb0))
  clear h0 hlt hb0 hb1
  refine wp_region_rel (by kernel_rfl) (by kernel_rfl) (rel_small (by kernel_rfl)) (relV [(3, .val (.string (headB q g l k v))), (7, .val (.pointer (some ⟨w.heap.size, 1, none⟩))), (8, .val (.bool g)), (9, .val (.int .i64 (bitI g))), (10, .val (.pointer (some ⟨w.heap.size, 2, none⟩))), (11, .val (.bool l)), (12, .val (.int .i64 (bitI l))), (13, .val (.int .i64 (2 * bitI l))), (14, .val (.int .i64 (bitI g + 2 * bitI l))), (15, .val (.string (byteB (flB g l)))), (16, .val (.string (byteB 78 ++ byteB (flB g l)))), (17, .val (.pointer (some ⟨w.heap.size, 0, none⟩))), (18, .val (.int .i64 q)), (19, .val (.string (numsB [q]))), (20, .val (.string ((byteB 78 ++ byteB (flB g l)) ++ numsB [q]))), (21, .val (.pointer (some ⟨w.heap.size, 3, none⟩))), (22, .val (.string k)), (23, .val (.int .i64 (k.size : Int))), (24, .val (.string (byteB (UInt8.ofNat k.size)))), (25, .val (.string (((byteB 78 ++ byteB (flB g l)) ++ numsB [q]) ++ byteB (UInt8.ofNat k.size)))), (26, .val (.pointer (some ⟨w.heap.size, 4, none⟩))), (27, .val (.string v)), (28, .val (.int .i64 (v.size : Int))), (29, .val (.string ⟨#[0, UInt8.ofNat v.size]⟩)), (30, .val (.string (headB q g l k v)))]) (relV_stable _) ⟨?_, ?_, ?_, ?_, ?_, ?_, ?_, ?_, ?_, ?_, ?_, ?_, ?_, ?_, ?_, ?_, ?_, ?_, ?_, ?_, ?_, ?_, ?_, ?_, ?_, trivial⟩ ?_
  · -- 7 := fieldAddr 27 t1 1
    intro f W hW hold hd K hK
    have e1 : f 1 = .pointer (some ⟨w.heap.size, 0, none⟩) := hold 1 rfl
    have HK : ∀ v W', Below W.heap.size W W' → relV _ 7 v W' → K { tmps := #[f 0, f 1, f 2, f 3, f 4, f 5, f 6, v, f 8, f 9, f 10, f 11, f 12, f 13, f 14, f 15, f 16, f 17, f 18, f 19, f 20, f 21, f 22, f 23, f 24, f 25, f 26, f 27, f 28, f 29, f 30, f 31, f 32, f 33, f 34, f 35, f 36, f 37, f 38], defers := [] } W' := hK
    change wpList _ #[_] _ [_] { tmps := #[f 0, f 1, f 2, f 3, f 4, f 5, f 6, f 7, f 8, f 9, f 10, f 11, f 12, f 13, f 14, f 15, f 16, f 17, f 18, f 19, f 20, f 21, f 22, f 23, f 24, f 25, f 26, f 27, f 28, f 29, f 30, f 31, f 32, f 33, f 34, f 35, f 36, f 37, f 38], defers := [] } W
    clear hK hd hold
    simp only [e1] at HK ⊢
    clear e1
    have HK := Aside.mk HK
    go_wp2
    exact HK.out _ _ (Below.refl _ _) rfl
  · -- 8 := load 4 t7
    intro f W hW hold hd K hK
    have e7 : f 7 = (.pointer (some ⟨w.heap.size, 1, none⟩)) := hd 7 rfl rfl
    have HK : ∀ v W', Below W.heap.size W W' → relV _ 8 v W' → K { tmps := #[f 0, f 1, f 2, f 3, f 4, f 5, f 6, f 7, v, f 9, f 10, f 11, f 12, f 13, f 14, f 15, f 16, f 17, f 18, f 19, f 20, f 21, f 22, f 23, f 24, f 25, f 26, f 27, f 28, f 29, f 30, f 31, f 32, f 33, f 34, f 35, f 36, f 37, f 38], defers := [] } W' := hK
    change wpList _ #[_] _ [_] { tmps := #[f 0, f 1, f 2, f 3, f 4, f 5, f 6, f 7, f 8, f 9, f 10, f 11, f 12, f 13, f 14, f 15, f 16, f 17, f 18, f 19, f 20, f 21, f 22, f 23, f 24, f 25, f 26, f 27, f 28, f 29, f 30, f 31, f 32, f 33, f 34, f 35, f 36, f 37, f 38], defers := [] } W
    clear hK hd hold
    simp only [e7] at HK ⊢
    clear e7
    have HK := Aside.mk HK
    have hh := (hW.block _ H0.out.2.1).trans H0.out.1; have hcell := cell_of_row W w.heap.size 1 _ _ _ hh; clear hh
    go_wp2
    exact HK.out _ _ (Below.refl _ _) rfl
  · -- 9 := CALL f29 chert/chertref12.flag [t8] : [4]
    intro f W hW hold hd K hK
    have e8 : f 8 = (.bool g) := hd 8 rfl rfl
    have HK : ∀ v W', Below W.heap.size W W' → relV _ 9 v W' → K { tmps := #[f 0, f 1, f 2, f 3, f 4, f 5, f 6, f 7, f 8, v, f 10, f 11, f 12, f 13, f 14, f 15, f 16, f 17, f 18, f 19, f 20, f 21, f 22, f 23, f 24, f 25, f 26, f 27, f 28, f 29, f 30, f 31, f 32, f 33, f 34, f 35, f 36, f 37, f 38], defers := [] } W' := hK
    change wpList _ #[_] _ [_] { tmps := #[f 0, f 1, f 2, f 3, f 4, f 5, f 6, f 7, f 8, f 9, f 10, f 11, f 12, f 13, f 14, f 15, f 16, f 17, f 18, f 19, f 20, f 21, f 22, f 23, f 24, f 25, f 26, f 27, f 28, f 29, f 30, f 31, f 32, f 33, f 34, f 35, f 36, f 37, f 38], defers := [] } W
    clear hK hd hold
    simp only [e8] at HK ⊢
    clear e8
    have HK := Aside.mk HK
    go_wp2_with (go_at_call 29; refine (ref_flag g W).mono ?_; rintro e w2 ⟨rfl, rfl⟩)
    exact HK.out _ _ (Below.refl _ _) rfl
  · -- 10 := fieldAddr 27 t1 2
    intro f W hW hold hd K hK
    have e1 : f 1 = .pointer (some ⟨w.heap.size, 0, none⟩) := hold 1 rfl
    have HK : ∀ v W', Below W.heap.size W W' → relV _ 10 v W' → K { tmps := #[f 0, f 1, f 2, f 3, f 4, f 5, f 6, f 7, f 8, f 9, v, f 11, f 12, f 13, f 14, f 15, f 16, f 17, f 18, f 19, f 20, f 21, f 22, f 23, f 24, f 25, f 26, f 27, f 28, f 29, f 30, f 31, f 32, f 33, f 34, f 35, f 36, f 37, f 38], defers := [] } W' := hK
    change wpList _ #[_] _ [_] { tmps := #[f 0, f 1, f 2, f 3, f 4, f 5, f 6, f 7, f 8, f 9, f 10, f 11, f 12, f 13, f 14, f 15, f 16, f 17, f 18, f 19, f 20, f 21, f 22, f 23, f 24, f 25, f 26, f 27, f 28, f 29, f 30, f 31, f 32, f 33, f 34, f 35, f 36, f 37, f 38], defers := [] } W
    clear hK hd hold
    simp only [e1] at HK ⊢
    clear e1
    have HK := Aside.mk HK
    go_wp2
    exact HK.out _ _ (Below.refl _ _) rfl
  · -- 11 := load 4 t10
    intro f W hW hold hd K hK
    have e10 : f 10 = (.pointer (some ⟨w.heap.size, 2, none⟩)) := hd 10 rfl rfl
    have HK : ∀ v W', Below W.heap.size W W' → relV _ 11 v W' → K { tmps := #[f 0, f 1, f 2, f 3, f 4, f 5, f 6, f 7, f 8, f 9, f 10, v, f 12, f 13, f 14, f 15, f 16, f 17, f 18, f 19, f 20, f 21, f 22, f 23, f 24, f 25, f 26, f 27, f 28, f 29, f 30, f 31, f 32, f 33, f 34, f 35, f 36, f 37, f 38], defers := [] } W' := hK
    change wpList _ #[_] _ [_] { tmps := #[f 0, f 1, f 2, f 3, f 4, f 5, f 6, f 7, f 8, f 9, f 10, f 11, f 12, f 13, f 14, f 15, f 16, f 17, f 18, f 19, f 20, f 21, f 22, f 23, f 24, f 25, f 26, f 27, f 28, f 29, f 30, f 31, f 32, f 33, f 34, f 35, f 36, f 37, f 38], defers := [] } W
    clear hK hd hold
    simp only [e10] at HK ⊢
    clear e10
    have HK := Aside.mk HK
    have hh := (hW.block _ H0.out.2.1).trans H0.out.1; have hcell := cell_of_row W w.heap.size 2 _ _ _ hh; clear hh
    go_wp2
    exact HK.out _ _ (Below.refl _ _) rfl
  · -- 12 := CALL f29 chert/chertref12.flag [t11] : [4]
    intro f W hW hold hd K hK
    have e11 : f 11 = (.bool l) := hd 11 rfl rfl
    have HK : ∀ v W', Below W.heap.size W W' → relV _ 12 v W' → K { tmps := #[f 0, f 1, f 2, f 3, f 4, f 5, f 6, f 7, f 8, f 9, f 10, f 11, v, f 13, f 14, f 15, f 16, f 17, f 18, f 19, f 20, f 21, f 22, f 23, f 24, f 25, f 26, f 27, f 28, f 29, f 30, f 31, f 32, f 33, f 34, f 35, f 36, f 37, f 38], defers := [] } W' := hK
    change wpList _ #[_] _ [_] { tmps := #[f 0, f 1, f 2, f 3, f 4, f 5, f 6, f 7, f 8, f 9, f 10, f 11, f 12, f 13, f 14, f 15, f 16, f 17, f 18, f 19, f 20, f 21, f 22, f 23, f 24, f 25, f 26, f 27, f 28, f 29, f 30, f 31, f 32, f 33, f 34, f 35, f 36, f 37, f 38], defers := [] } W
    clear hK hd hold
    simp only [e11] at HK ⊢
    clear e11
    have HK := Aside.mk HK
    go_wp2_with (go_at_call 29; refine (ref_flag l W).mono ?_; rintro e w2 ⟨rfl, rfl⟩)
    exact HK.out _ _ (Below.refl _ _) rfl
  · -- 13 := binOp mul 3 <i64 2> t12 3
    intro f W hW hold hd K hK
    have e12 : f 12 = (.int .i64 (bitI l)) := hd 12 rfl rfl
    have HK : ∀ v W', Below W.heap.size W W' → relV _ 13 v W' → K { tmps := #[f 0, f 1, f 2, f 3, f 4, f 5, f 6, f 7, f 8, f 9, f 10, f 11, f 12, v, f 14, f 15, f 16, f 17, f 18, f 19, f 20, f 21, f 22, f 23, f 24, f 25, f 26, f 27, f 28, f 29, f 30, f 31, f 32, f 33, f 34, f 35, f 36, f 37, f 38], defers := [] } W' := hK
    change wpList _ #[_] _ [_] { tmps := #[f 0, f 1, f 2, f 3, f 4, f 5, f 6, f 7, f 8, f 9, f 10, f 11, f 12, f 13, f 14, f 15, f 16, f 17, f 18, f 19, f 20, f 21, f 22, f 23, f 24, f 25, f 26, f 27, f 28, f 29, f 30, f 31, f 32, f 33, f 34, f 35, f 36, f 37, f 38], defers := [] } W
    clear hK hd hold
    simp only [e12] at HK ⊢
    clear e12
    have HK := Aside.mk HK
    have hm : IntKind.i64.wrap (2 * bitI l) = 2 * bitI l := by cases l <;> rfl
    go_wp2
    exact HK.out _ _ (Below.refl _ _) rfl
  · -- 14 := binOp add 3 t9 t13 3
    intro f W hW hold hd K hK
    have e9 : f 9 = (.int .i64 (bitI g)) := hd 9 rfl rfl
    have e13 : f 13 = (.int .i64 (2 * bitI l)) := hd 13 rfl rfl
    have HK : ∀ v W', Below W.heap.size W W' → relV _ 14 v W' → K { tmps := #[f 0, f 1, f 2, f 3, f 4, f 5, f 6, f 7, f 8, f 9, f 10, f 11, f 12, f 13, v, f 15, f 16, f 17, f 18, f 19, f 20, f 21, f 22, f 23, f 24, f 25, f 26, f 27, f 28, f 29, f 30, f 31, f 32, f 33, f 34, f 35, f 36, f 37, f 38], defers := [] } W' := hK
    change wpList _ #[_] _ [_] { tmps := #[f 0, f 1, f 2, f 3, f 4, f 5, f 6, f 7, f 8, f 9, f 10, f 11, f 12, f 13, f 14, f 15, f 16, f 17, f 18, f 19, f 20, f 21, f 22, f 23, f 24, f 25, f 26, f 27, f 28, f 29, f 30, f 31, f 32, f 33, f 34, f 35, f 36, f 37, f 38], defers := [] } W
    clear hK hd hold
    simp only [e9, e13] at HK ⊢
    clear e9 e13
    have HK := Aside.mk HK
    have hm : IntKind.i64.wrap (bitI g + 2 * bitI l) = bitI g + 2 * bitI l := by cases g <;> cases l <;> rfl
    go_wp2
    exact HK.out _ _ (Below.refl _ _) rfl
  · -- 15 := CALL f19 chert/chertref11.Bytes [t14, <i64 1>] : [3, 3]
    intro f W hW hold hd K hK
    have e14 : f 14 = (.int .i64 (bitI g + 2 * bitI l)) := hd 14 rfl rfl
    have HK : ∀ v W', Below W.heap.size W W' → relV _ 15 v W' → K { tmps := #[f 0, f 1, f 2, f 3, f 4, f 5, f 6, f 7, f 8, f 9, f 10, f 11, f 12, f 13, f 14, v, f 16, f 17, f 18, f 19, f 20, f 21, f 22, f 23, f 24, f 25, f 26, f 27, f 28, f 29, f 30, f 31, f 32, f 33, f 34, f 35, f 36, f 37, f 38], defers := [] } W' := hK
    change wpList _ #[_] _ [_] { tmps := #[f 0, f 1, f 2, f 3, f 4, f 5, f 6, f 7, f 8, f 9, f 10, f 11, f 12, f 13, f 14, f 15, f 16, f 17, f 18, f 19, f 20, f 21, f 22, f 23, f 24, f 25, f 26, f 27, f 28, f 29, f 30, f 31, f 32, f 33, f 34, f 35, f 36, f 37, f 38], defers := [] } W
    clear hK hd hold
    simp only [e14] at HK ⊢
    clear e14
    have HK := Aside.mk HK
    have hlt := (flB g l).toNat_lt
    go_wp2_with (go_at_call 19; refine (ref_bytes_at (flB g l).toNat 1 _ _ W (flB_nat g l).symm rfl (by omega) (by omega)).mono ?_; rintro e w2 ⟨rfl, hb2⟩)
    refine HK.out _ _ hb2 ?_; change Value.string _ = Value.string _; first | rfl | rw [HB.out.1]
  · -- 16 := binOp add 9 <string({data=[78]})> t15 9
    intro f W hW hold hd K hK
    have e15 : f 15 = (.string (byteB (flB g l))) := hd 15 rfl rfl
    have HK : ∀ v W', Below W.heap.size W W' → relV _ 16 v W' → K { tmps := #[f 0, f 1, f 2, f 3, f 4, f 5, f 6, f 7, f 8, f 9, f 10, f 11, f 12, f 13, f 14, f 15, v, f 17, f 18, f 19, f 20, f 21, f 22, f 23, f 24, f 25, f 26, f 27, f 28, f 29, f 30, f 31, f 32, f 33, f 34, f 35, f 36, f 37, f 38], defers := [] } W' := hK
    change wpList _ #[_] _ [_] { tmps := #[f 0, f 1, f 2, f 3, f 4, f 5, f 6, f 7, f 8, f 9, f 10, f 11, f 12, f 13, f 14, f 15, f 16, f 17, f 18, f 19, f 20, f 21, f 22, f 23, f 24, f 25, f 26, f 27, f 28, f 29, f 30, f 31, f 32, f 33, f 34, f 35, f 36, f 37, f 38], defers := [] } W
    clear hK hd hold
    simp only [e15] at HK ⊢
    clear e15
    have HK := Aside.mk HK
    have hz1 : (byteB (flB g l)).size = 1 := rfl
    go_wp2
    exact HK.out _ _ (Below.refl _ _) rfl
  · -- 17 := fieldAddr 27 t1 0
    intro f W hW hold hd K hK
    have e1 : f 1 = .pointer (some ⟨w.heap.size, 0, none⟩) := hold 1 rfl
    have HK : ∀ v W', Below W.heap.size W W' → relV _ 17 v W' → K { tmps := #[f 0, f 1, f 2, f 3, f 4, f 5, f 6, f 7, f 8, f 9, f 10, f 11, f 12, f 13, f 14, f 15, f 16, v, f 18, f 19, f 20, f 21, f 22, f 23, f 24, f 25, f 26, f 27, f 28, f 29, f 30, f 31, f 32, f 33, f 34, f 35, f 36, f 37, f 38], defers := [] } W' := hK
    change wpList _ #[_] _ [_] { tmps := #[f 0, f 1, f 2, f 3, f 4, f 5, f 6, f 7, f 8, f 9, f 10, f 11, f 12, f 13, f 14, f 15, f 16, f 17, f 18, f 19, f 20, f 21, f 22, f 23, f 24, f 25, f 26, f 27, f 28, f 29, f 30, f 31, f 32, f 33, f 34, f 35, f 36, f 37, f 38], defers := [] } W
    clear hK hd hold
    simp only [e1] at HK ⊢
    clear e1
    have HK := Aside.mk HK
    go_wp2
    exact HK.out _ _ (Below.refl _ _) rfl
  · -- 18 := load 3 t17
    intro f W hW hold hd K hK
    have e17 : f 17 = (.pointer (some ⟨w.heap.size, 0, none⟩)) := hd 17 rfl rfl
    have HK : ∀ v W', Below W.heap.size W W' → relV _ 18 v W' → K { tmps := #[f 0, f 1, f 2, f 3, f 4, f 5, f 6, f 7, f 8, f 9, f 10, f 11, f 12, f 13, f 14, f 15, f 16, f 17, v, f 19, f 20, f 21, f 22, f 23, f 24, f 25, f 26, f 27, f 28, f 29, f 30, f 31, f 32, f 33, f 34, f 35, f 36, f 37, f 38], defers := [] } W' := hK
    change wpList _ #[_] _ [_] { tmps := #[f 0, f 1, f 2, f 3, f 4, f 5, f 6, f 7, f 8, f 9, f 10, f 11, f 12, f 13, f 14, f 15, f 16, f 17, f 18, f 19, f 20, f 21, f 22, f 23, f 24, f 25, f 26, f 27, f 28, f 29, f 30, f 31, f 32, f 33, f 34, f 35, f 36, f 37, f 38], defers := [] } W
    clear hK hd hold
    simp only [e17] at HK ⊢
    clear e17
    have HK := Aside.mk HK
    have hh := (hW.block _ H0.out.2.1).trans H0.out.1; have hcell := cell_of_row W w.heap.size 0 _ _ _ hh; clear hh
    go_wp2
    exact HK.out _ _ (Below.refl _ _) rfl
  · -- 19 := CALL f19 chert/chertref11.Bytes [t18, <i64 8>] : [3, 3]
    intro f W hW hold hd K hK
    have e18 : f 18 = (.int .i64 q) := hd 18 rfl rfl
    have HK : ∀ v W', Below W.heap.size W W' → relV _ 19 v W' → K { tmps := #[f 0, f 1, f 2, f 3, f 4, f 5, f 6, f 7, f 8, f 9, f 10, f 11, f 12, f 13, f 14, f 15, f 16, f 17, f 18, v, f 20, f 21, f 22, f 23, f 24, f 25, f 26, f 27, f 28, f 29, f 30, f 31, f 32, f 33, f 34, f 35, f 36, f 37, f 38], defers := [] } W' := hK
    change wpList _ #[_] _ [_] { tmps := #[f 0, f 1, f 2, f 3, f 4, f 5, f 6, f 7, f 8, f 9, f 10, f 11, f 12, f 13, f 14, f 15, f 16, f 17, f 18, f 19, f 20, f 21, f 22, f 23, f 24, f 25, f 26, f 27, f 28, f 29, f 30, f 31, f 32, f 33, f 34, f 35, f 36, f 37, f 38], defers := [] } W
    clear hK hd hold
    simp only [e18] at HK ⊢
    clear e18
    have HK := Aside.mk HK
    go_wp2_with (go_at_call 19; refine (ref_bytes_at q.toNat 8 _ _ W (by omega) rfl (by omega) (by omega)).mono ?_; rintro e w2 ⟨rfl, hb2⟩)
    refine HK.out _ _ hb2 ?_; change Value.string _ = Value.string _; first | rfl | rw [HB.out.2.1]
  · -- 20 := binOp add 9 t16 t19 9
    intro f W hW hold hd K hK
    have e16 : f 16 = (.string (byteB 78 ++ byteB (flB g l))) := hd 16 rfl rfl
    have e19 : f 19 = (.string (numsB [q])) := hd 19 rfl rfl
    have HK : ∀ v W', Below W.heap.size W W' → relV _ 20 v W' → K { tmps := #[f 0, f 1, f 2, f 3, f 4, f 5, f 6, f 7, f 8, f 9, f 10, f 11, f 12, f 13, f 14, f 15, f 16, f 17, f 18, f 19, v, f 21, f 22, f 23, f 24, f 25, f 26, f 27, f 28, f 29, f 30, f 31, f 32, f 33, f 34, f 35, f 36, f 37, f 38], defers := [] } W' := hK
    change wpList _ #[_] _ [_] { tmps := #[f 0, f 1, f 2, f 3, f 4, f 5, f 6, f 7, f 8, f 9, f 10, f 11, f 12, f 13, f 14, f 15, f 16, f 17, f 18, f 19, f 20, f 21, f 22, f 23, f 24, f 25, f 26, f 27, f 28, f 29, f 30, f 31, f 32, f 33, f 34, f 35, f 36, f 37, f 38], defers := [] } W
    clear hK hd hold
    simp only [e16, e19] at HK ⊢
    clear e16 e19
    have HK := Aside.mk HK
    have hz := numsB_size [q]; have hz1 : (byteB 78 ++ byteB (flB g l)).size = 2 := rfl; simp only [List.length_cons, List.length_nil] at hz
    go_wp2
    exact HK.out _ _ (Below.refl _ _) rfl
  · -- 21 := fieldAddr 27 t1 3
    intro f W hW hold hd K hK
    have e1 : f 1 = .pointer (some ⟨w.heap.size, 0, none⟩) := hold 1 rfl
    have HK : ∀ v W', Below W.heap.size W W' → relV _ 21 v W' → K { tmps := #[f 0, f 1, f 2, f 3, f 4, f 5, f 6, f 7, f 8, f 9, f 10, f 11, f 12, f 13, f 14, f 15, f 16, f 17, f 18, f 19, f 20, v, f 22, f 23, f 24, f 25, f 26, f 27, f 28, f 29, f 30, f 31, f 32, f 33, f 34, f 35, f 36, f 37, f 38], defers := [] } W' := hK
    change wpList _ #[_] _ [_] { tmps := #[f 0, f 1, f 2, f 3, f 4, f 5, f 6, f 7, f 8, f 9, f 10, f 11, f 12, f 13, f 14, f 15, f 16, f 17, f 18, f 19, f 20, f 21, f 22, f 23, f 24, f 25, f 26, f 27, f 28, f 29, f 30, f 31, f 32, f 33, f 34, f 35, f 36, f 37, f 38], defers := [] } W
    clear hK hd hold
    simp only [e1] at HK ⊢
    clear e1
    have HK := Aside.mk HK
    go_wp2
    exact HK.out _ _ (Below.refl _ _) rfl
  · -- 22 := load 9 t21
    intro f W hW hold hd K hK
    have e21 : f 21 = (.pointer (some ⟨w.heap.size, 3, none⟩)) := hd 21 rfl rfl
    have HK : ∀ v W', Below W.heap.size W W' → relV _ 22 v W' → K { tmps := #[f 0, f 1, f 2, f 3, f 4, f 5, f 6, f 7, f 8, f 9, f 10, f 11, f 12, f 13, f 14, f 15, f 16, f 17, f 18, f 19, f 20, f 21, v, f 23, f 24, f 25, f 26, f 27, f 28, f 29, f 30, f 31, f 32, f 33, f 34, f 35, f 36, f 37, f 38], defers := [] } W' := hK
    change wpList _ #[_] _ [_] { tmps := #[f 0, f 1, f 2, f 3, f 4, f 5, f 6, f 7, f 8, f 9, f 10, f 11, f 12, f 13, f 14, f 15, f 16, f 17, f 18, f 19, f 20, f 21, f 22, f 23, f 24, f 25, f 26, f 27, f 28, f 29, f 30, f 31, f 32, f 33, f 34, f 35, f 36, f 37, f 38], defers := [] } W
    clear hK hd hold
    simp only [e21] at HK ⊢
    clear e21
    have HK := Aside.mk HK
    have hh := (hW.block _ H0.out.2.1).trans H0.out.1; have hcell := cell_of_row W w.heap.size 3 _ _ _ hh; clear hh
    go_wp2
    exact HK.out _ _ (Below.refl _ _) rfl
  · -- 23 := BUILTIN len [t22] : [9]
    intro f W hW hold hd K hK
    have e22 : f 22 = (.string k) := hd 22 rfl rfl
    have HK : ∀ v W', Below W.heap.size W W' → relV _ 23 v W' → K { tmps := #[f 0, f 1, f 2, f 3, f 4, f 5, f 6, f 7, f 8, f 9, f 10, f 11, f 12, f 13, f 14, f 15, f 16, f 17, f 18, f 19, f 20, f 21, f 22, v, f 24, f 25, f 26, f 27, f 28, f 29, f 30, f 31, f 32, f 33, f 34, f 35, f 36, f 37, f 38], defers := [] } W' := hK
    change wpList _ #[_] _ [_] { tmps := #[f 0, f 1, f 2, f 3, f 4, f 5, f 6, f 7, f 8, f 9, f 10, f 11, f 12, f 13, f 14, f 15, f 16, f 17, f 18, f 19, f 20, f 21, f 22, f 23, f 24, f 25, f 26, f 27, f 28, f 29, f 30, f 31, f 32, f 33, f 34, f 35, f 36, f 37, f 38], defers := [] } W
    clear hK hd hold
    simp only [e22] at HK ⊢
    clear e22
    have HK := Aside.mk HK
    go_wp2
    exact HK.out _ _ (Below.refl _ _) rfl
  · -- 24 := CALL f19 chert/chertref11.Bytes [t23, <i64 1>] : [3, 3]
    intro f W hW hold hd K hK
    have e23 : f 23 = (.int .i64 (k.size : Int)) := hd 23 rfl rfl
    have HK : ∀ v W', Below W.heap.size W W' → relV _ 24 v W' → K { tmps := #[f 0, f 1, f 2, f 3, f 4, f 5, f 6, f 7, f 8, f 9, f 10, f 11, f 12, f 13, f 14, f 15, f 16, f 17, f 18, f 19, f 20, f 21, f 22, f 23, v, f 25, f 26, f 27, f 28, f 29, f 30, f 31, f 32, f 33, f 34, f 35, f 36, f 37, f 38], defers := [] } W' := hK
    change wpList _ #[_] _ [_] { tmps := #[f 0, f 1, f 2, f 3, f 4, f 5, f 6, f 7, f 8, f 9, f 10, f 11, f 12, f 13, f 14, f 15, f 16, f 17, f 18, f 19, f 20, f 21, f 22, f 23, f 24, f 25, f 26, f 27, f 28, f 29, f 30, f 31, f 32, f 33, f 34, f 35, f 36, f 37, f 38], defers := [] } W
    clear hK hd hold
    simp only [e23] at HK ⊢
    clear e23
    have HK := Aside.mk HK
    go_wp2_with (go_at_call 19; refine (ref_bytes_at k.size 1 _ _ W rfl rfl (by omega) (by omega)).mono ?_; rintro e w2 ⟨rfl, hb2⟩)
    exact HK.out _ _ hb2 rfl
  · -- 25 := binOp add 9 t20 t24 9
    intro f W hW hold hd K hK
    have e20 : f 20 = (.string ((byteB 78 ++ byteB (flB g l)) ++ numsB [q])) := hd 20 rfl rfl
    have e24 : f 24 = (.string (byteB (UInt8.ofNat k.size))) := hd 24 rfl rfl
    have HK : ∀ v W', Below W.heap.size W W' → relV _ 25 v W' → K { tmps := #[f 0, f 1, f 2, f 3, f 4, f 5, f 6, f 7, f 8, f 9, f 10, f 11, f 12, f 13, f 14, f 15, f 16, f 17, f 18, f 19, f 20, f 21, f 22, f 23, f 24, v, f 26, f 27, f 28, f 29, f 30, f 31, f 32, f 33, f 34, f 35, f 36, f 37, f 38], defers := [] } W' := hK
    change wpList _ #[_] _ [_] { tmps := #[f 0, f 1, f 2, f 3, f 4, f 5, f 6, f 7, f 8, f 9, f 10, f 11, f 12, f 13, f 14, f 15, f 16, f 17, f 18, f 19, f 20, f 21, f 22, f 23, f 24, f 25, f 26, f 27, f 28, f 29, f 30, f 31, f 32, f 33, f 34, f 35, f 36, f 37, f 38], defers := [] } W
    clear hK hd hold
    simp only [e20, e24] at HK ⊢
    clear e20 e24
    have HK := Aside.mk HK
    have hz1 : (byteB (UInt8.ofNat k.size)).size = 1 := rfl; have hz : ((byteB 78 ++ byteB (flB g l)) ++ numsB [q]).size = 10 := by rw [ByteArray.size_append, numsB_size]; rfl
    go_wp2
    exact HK.out _ _ (Below.refl _ _) rfl
  · -- 26 := fieldAddr 27 t1 4
    intro f W hW hold hd K hK
    have e1 : f 1 = .pointer (some ⟨w.heap.size, 0, none⟩) := hold 1 rfl
    have HK : ∀ v W', Below W.heap.size W W' → relV _ 26 v W' → K { tmps := #[f 0, f 1, f 2, f 3, f 4, f 5, f 6, f 7, f 8, f 9, f 10, f 11, f 12, f 13, f 14, f 15, f 16, f 17, f 18, f 19, f 20, f 21, f 22, f 23, f 24, f 25, v, f 27, f 28, f 29, f 30, f 31, f 32, f 33, f 34, f 35, f 36, f 37, f 38], defers := [] } W' := hK
    change wpList _ #[_] _ [_] { tmps := #[f 0, f 1, f 2, f 3, f 4, f 5, f 6, f 7, f 8, f 9, f 10, f 11, f 12, f 13, f 14, f 15, f 16, f 17, f 18, f 19, f 20, f 21, f 22, f 23, f 24, f 25, f 26, f 27, f 28, f 29, f 30, f 31, f 32, f 33, f 34, f 35, f 36, f 37, f 38], defers := [] } W
    clear hK hd hold
    simp only [e1] at HK ⊢
    clear e1
    have HK := Aside.mk HK
    go_wp2
    exact HK.out _ _ (Below.refl _ _) rfl
  · -- 27 := load 9 t26
    intro f W hW hold hd K hK
    have e26 : f 26 = (.pointer (some ⟨w.heap.size, 4, none⟩)) := hd 26 rfl rfl
    have HK : ∀ v W', Below W.heap.size W W' → relV _ 27 v W' → K { tmps := #[f 0, f 1, f 2, f 3, f 4, f 5, f 6, f 7, f 8, f 9, f 10, f 11, f 12, f 13, f 14, f 15, f 16, f 17, f 18, f 19, f 20, f 21, f 22, f 23, f 24, f 25, f 26, v, f 28, f 29, f 30, f 31, f 32, f 33, f 34, f 35, f 36, f 37, f 38], defers := [] } W' := hK
    change wpList _ #[_] _ [_] { tmps := #[f 0, f 1, f 2, f 3, f 4, f 5, f 6, f 7, f 8, f 9, f 10, f 11, f 12, f 13, f 14, f 15, f 16, f 17, f 18, f 19, f 20, f 21, f 22, f 23, f 24, f 25, f 26, f 27, f 28, f 29, f 30, f 31, f 32, f 33, f 34, f 35, f 36, f 37, f 38], defers := [] } W
    clear hK hd hold
    simp only [e26] at HK ⊢
    clear e26
    have HK := Aside.mk HK
    have hh := (hW.block _ H0.out.2.1).trans H0.out.1; have hcell := cell_of_row W w.heap.size 4 _ _ _ hh; clear hh
    go_wp2
    exact HK.out _ _ (Below.refl _ _) rfl
  · -- 28 := BUILTIN len [t27] : [9]
    intro f W hW hold hd K hK
    have e27 : f 27 = (.string v) := hd 27 rfl rfl
    have HK : ∀ v W', Below W.heap.size W W' → relV _ 28 v W' → K { tmps := #[f 0, f 1, f 2, f 3, f 4, f 5, f 6, f 7, f 8, f 9, f 10, f 11, f 12, f 13, f 14, f 15, f 16, f 17, f 18, f 19, f 20, f 21, f 22, f 23, f 24, f 25, f 26, f 27, v, f 29, f 30, f 31, f 32, f 33, f 34, f 35, f 36, f 37, f 38], defers := [] } W' := hK
    change wpList _ #[_] _ [_] { tmps := #[f 0, f 1, f 2, f 3, f 4, f 5, f 6, f 7, f 8, f 9, f 10, f 11, f 12, f 13, f 14, f 15, f 16, f 17, f 18, f 19, f 20, f 21, f 22, f 23, f 24, f 25, f 26, f 27, f 28, f 29, f 30, f 31, f 32, f 33, f 34, f 35, f 36, f 37, f 38], defers := [] } W
    clear hK hd hold
    simp only [e27] at HK ⊢
    clear e27
    have HK := Aside.mk HK
    go_wp2
    exact HK.out _ _ (Below.refl _ _) rfl
  · -- 29 := CALL f19 chert/chertref11.Bytes [t28, <i64 2>] : [3, 3]
    intro f W hW hold hd K hK
    have e28 : f 28 = (.int .i64 (v.size : Int)) := hd 28 rfl rfl
    have HK : ∀ v W', Below W.heap.size W W' → relV _ 29 v W' → K { tmps := #[f 0, f 1, f 2, f 3, f 4, f 5, f 6, f 7, f 8, f 9, f 10, f 11, f 12, f 13, f 14, f 15, f 16, f 17, f 18, f 19, f 20, f 21, f 22, f 23, f 24, f 25, f 26, f 27, f 28, v, f 30, f 31, f 32, f 33, f 34, f 35, f 36, f 37, f 38], defers := [] } W' := hK
    change wpList _ #[_] _ [_] { tmps := #[f 0, f 1, f 2, f 3, f 4, f 5, f 6, f 7, f 8, f 9, f 10, f 11, f 12, f 13, f 14, f 15, f 16, f 17, f 18, f 19, f 20, f 21, f 22, f 23, f 24, f 25, f 26, f 27, f 28, f 29, f 30, f 31, f 32, f 33, f 34, f 35, f 36, f 37, f 38], defers := [] } W
    clear hK hd hold
    simp only [e28] at HK ⊢
    clear e28
    have HK := Aside.mk HK
    go_wp2_with (go_at_call 19; refine (ref_bytes_at v.size 2 _ _ W rfl rfl (by omega) (by omega)).mono ?_; rintro e w2 ⟨rfl, hb2⟩)
    refine HK.out _ _ hb2 ?_; change Value.string _ = Value.string _; first | rfl | rw [HB.out.2.2]
  · -- 30 := binOp add 9 t25 t29 9
    intro f W hW hold hd K hK
    have e25 : f 25 = (.string (((byteB 78 ++ byteB (flB g l)) ++ numsB [q]) ++ byteB (UInt8.ofNat k.size))) := hd 25 rfl rfl
    have e29 : f 29 = (.string ⟨#[0, UInt8.ofNat v.size]⟩) := hd 29 rfl rfl
    have HK : ∀ v W', Below W.heap.size W W' → relV _ 30 v W' → K { tmps := #[f 0, f 1, f 2, f 3, f 4, f 5, f 6, f 7, f 8, f 9, f 10, f 11, f 12, f 13, f 14, f 15, f 16, f 17, f 18, f 19, f 20, f 21, f 22, f 23, f 24, f 25, f 26, f 27, f 28, f 29, v, f 31, f 32, f 33, f 34, f 35, f 36, f 37, f 38], defers := [] } W' := hK
    change wpList _ #[_] _ [_] { tmps := #[f 0, f 1, f 2, f 3, f 4, f 5, f 6, f 7, f 8, f 9, f 10, f 11, f 12, f 13, f 14, f 15, f 16, f 17, f 18, f 19, f 20, f 21, f 22, f 23, f 24, f 25, f 26, f 27, f 28, f 29, f 30, f 31, f 32, f 33, f 34, f 35, f 36, f 37, f 38], defers := [] } W
    clear hK hd hold
    simp only [e25, e29] at HK ⊢
    clear e25 e29
    have HK := Aside.mk HK
    have hz1 : (⟨#[0, UInt8.ofNat v.size]⟩ : ByteArray).size = 2 := rfl; have hz : (((byteB 78 ++ byteB (flB g l)) ++ numsB [q]) ++ byteB (UInt8.ofNat k.size)).size = 11 := by rw [ByteArray.size_append, ByteArray.size_append, numsB_size]; rfl
    go_wp2
    refine HK.out _ _ (Below.refl _ _) ?_; change Value.string _ = Value.string _; rw [HCat.out]; rfl
  · -- 3 := assign t30
    intro f W hW hold hd K hK
    have e30 : f 30 = (.string (headB q g l k v)) := hd 30 rfl rfl
    have HK : ∀ v W', Below W.heap.size W W' → relV _ 3 v W' → K { tmps := #[f 0, f 1, f 2, v, f 4, f 5, f 6, f 7, f 8, f 9, f 10, f 11, f 12, f 13, f 14, f 15, f 16, f 17, f 18, f 19, f 20, f 21, f 22, f 23, f 24, f 25, f 26, f 27, f 28, f 29, f 30, f 31, f 32, f 33, f 34, f 35, f 36, f 37, f 38], defers := [] } W' := hK
    change wpList _ #[_] _ [_] { tmps := #[f 0, f 1, f 2, f 3, f 4, f 5, f 6, f 7, f 8, f 9, f 10, f 11, f 12, f 13, f 14, f 15, f 16, f 17, f 18, f 19, f 20, f 21, f 22, f 23, f 24, f 25, f 26, f 27, f 28, f 29, f 30, f 31, f 32, f 33, f 34, f 35, f 36, f 37, f 38], defers := [] } W
    clear hK hd hold
    simp only [e30] at HK ⊢
    clear e30
    have HK := Aside.mk HK
    go_wp2
    exact HK.out _ _ (Below.refl _ _) rfl
  · intro f W hW hold hd aa ha
    replace ha : aa = { tmps := #[f 0, f 1, f 2, f 3, f 4, f 5, f 6, f 7, f 8, f 9, f 10, f 11, f 12, f 13, f 14, f 15, f 16, f 17, f 18, f 19, f 20, f 21, f 22, f 23, f 24, f 25, f 26, f 27, f 28, f 29, f 30, f 31, f 32, f 33, f 34, f 35, f 36, f 37, f 38], defers := [] } := ha
    have e0 : f 0 = nodeV q g l k v := hold 0 rfl
    have e1 : f 1 = .pointer (some ⟨w.heap.size, 0, none⟩) := hold 1 rfl
    have e2 : f 2 = .string ⟨#[]⟩ := hold 2 rfl
    have e3 : f 3 = (.string (headB q g l k v)) := hd 3 rfl
    have e7 : f 7 = (.pointer (some ⟨w.heap.size, 1, none⟩)) := hd 7 rfl
    have e8 : f 8 = (.bool g) := hd 8 rfl
    have e9 : f 9 = (.int .i64 (bitI g)) := hd 9 rfl
    have e10 : f 10 = (.pointer (some ⟨w.heap.size, 2, none⟩)) := hd 10 rfl
    have e11 : f 11 = (.bool l) := hd 11 rfl
    have e12 : f 12 = (.int .i64 (bitI l)) := hd 12 rfl
    have e13 : f 13 = (.int .i64 (2 * bitI l)) := hd 13 rfl
    have e14 : f 14 = (.int .i64 (bitI g + 2 * bitI l)) := hd 14 rfl
    have e15 : f 15 = (.string (byteB (flB g l))) := hd 15 rfl
    have e16 : f 16 = (.string (byteB 78 ++ byteB (flB g l))) := hd 16 rfl
    have e17 : f 17 = (.pointer (some ⟨w.heap.size, 0, none⟩)) := hd 17 rfl
    have e18 : f 18 = (.int .i64 q) := hd 18 rfl
    have e19 : f 19 = (.string (numsB [q])) := hd 19 rfl
    have e20 : f 20 = (.string ((byteB 78 ++ byteB (flB g l)) ++ numsB [q])) := hd 20 rfl
    have e21 : f 21 = (.pointer (some ⟨w.heap.size, 3, none⟩)) := hd 21 rfl
    have e22 : f 22 = (.string k) := hd 22 rfl
    have e23 : f 23 = (.int .i64 (k.size : Int)) := hd 23 rfl
    have e24 : f 24 = (.string (byteB (UInt8.ofNat k.size))) := hd 24 rfl
    have e25 : f 25 = (.string (((byteB 78 ++ byteB (flB g l)) ++ numsB [q]) ++ byteB (UInt8.ofNat k.size))) := hd 25 rfl
    have e26 : f 26 = (.pointer (some ⟨w.heap.size, 4, none⟩)) := hd 26 rfl
    have e27 : f 27 = (.string v) := hd 27 rfl
    have e28 : f 28 = (.int .i64 (v.size : Int)) := hd 28 rfl
    have e29 : f 29 = (.string ⟨#[0, UInt8.ofNat v.size]⟩) := hd 29 rfl
    have e30 : f 30 = (.string (headB q g l k v)) := hd 30 rfl
    simp only [e0, e1, e2, e3, e7, e8, e9, e10, e11, e12, e13, e14, e15, e16, e17, e18, e19, e20, e21, e22, e23, e24, e25, e26, e27, e28, e29, e30] at ha
    subst ha
    clear hold hd e0 e1 e2 e3 e7 e8 e9 e10 e11 e12 e13 e14 e15 e16 e17 e18 e19 e20 e21 e22 e23 e24 e25 e26 e27 e28 e29 e30
    have hz := headB_size q g l k v
    have h3 := (hW.block _ H0.out.2.1).trans H0.out.1
    have c3 := cell_of_row W w.heap.size 3 _ _ _ h3
    have c4 := cell_of_row W w.heap.size 4 _ _ _ h3
    clear h3 HCat HB
    generalize hgen : headB q g l k v = hh at *
    have HH := Aside.mk hgen
    clear hgen
    go_wp2_with (go_at_call 18; refine (ref_seal _ W (by simp only [ByteArray.size_append]; omega)).mono ?_; rintro e w3 ⟨rfl, hb3⟩)
    go_ret
    obtain ⟨hgen⟩ := HH
    subst hgen
    exact ⟨rfl, (H0.out.2.2.trans (hW.mono (Nat.le_of_lt H0.out.2.1))).trans (hb3.mono (Nat.le_trans (Nat.le_of_lt H0.out.2.1) hW.size))⟩

theorem node_encode (q : Int) (g l : Bool) (k v : ByteArray) (w : World) (hn : Nib w) :
    Calls Tryd.prog 10 #[nodeV q g l k v] w fun e w' => e = .returned (.tuple #[.string (encB q g l k v), .bool (goodN q g k v)]) ∧ Below w.heap.size w w' := by
  unfold encB
  by_cases h : goodN q g k v = true
  · rw [if_pos h, h]; exact node_encode_good q g l k v w h hn
  · rw [if_neg h, Bool.eq_false_iff.2 h]; exact node_encode_bad q g l k v w (Bool.eq_false_iff.2 h)
theorem ref_encode12 (q : Int) (g l : Bool) (k v : ByteArray) (w : World) :
    Calls Tryd.prog 11 #[nodeV q g l k v] w fun e w' => e = .returned (.string (encB q g l k v)) ∧ Below w.heap.size w w' := by
  unfold encB
  by_cases h : goodN q g k v = true
  · rw [if_pos h]; exact ref_encode12_good q g l k v w h
  · rw [if_neg h]; exact ref_encode12_bad q g l k v w (Bool.eq_false_iff.2 h)
end Go.Proofs.YtmomphjhlbampaaDoor
