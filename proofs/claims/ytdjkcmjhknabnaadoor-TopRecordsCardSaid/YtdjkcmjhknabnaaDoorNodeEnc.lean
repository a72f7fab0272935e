/-
  A node's bytes.
-/
import Derived.Test.YtdjkcmjhknabnaaDoorNodePut
import Derived.Test.YtdjkcmjhknabnaaDoorCrcSealWalks
namespace Go.Proofs.YtdjkcmjhknabnaaDoor
open Go.RowKit

def flB (g l : Bool) : UInt8 := (if g then 1 else 0) + (if l then 2 else 0)
theorem flB_nat (g l : Bool) : ((flB g l).toNat : Int) = bitI g + 2 * bitI l := by cases g <;> cases l <;> rfl
def sizesB (k v : ByteArray) : ByteArray := ⟨#[UInt8.ofNat k.size, 0, UInt8.ofNat v.size]⟩
def headB (q : Int) (g l : Bool) (k v : ByteArray) : ByteArray := byteB 78 ++ byteB (flB g l) ++ numsB [q] ++ sizesB k v
theorem headB_size (q : Int) (g l : Bool) (k v : ByteArray) : (headB q g l k v).size = 13 := by
  unfold headB
  rw [ByteArray.size_append, ByteArray.size_append, ByteArray.size_append, numsB_size]
  rfl
def encB (q : Int) (g l : Bool) (k v : ByteArray) : ByteArray := if goodN q g k v then sealed (headB q g l k v ++ k ++ v) else ⟨#[]⟩
theorem goodN_iff {q : Int} {g : Bool} {k v : ByteArray} : goodN q g k v = true ↔ 0 ≤ q ∧ q ≤ 1099511627776 ∧ 1 ≤ k.size ∧ k.size ≤ 64 ∧ v.size ≤ 200 ∧ (g = true → v.size = 0) := by
  unfold goodN; exact decide_eq_true_iff

set_option maxHeartbeats 1000000 in
theorem node_encode_bad (q : Int) (g l : Bool) (k v : ByteArray) (w : World) (hg : goodN q g k v = false) :
    Calls Tryd.prog 5 #[nodeV q g l k v] w fun e w' => e = .returned (.tuple #[.string ⟨#[]⟩, .bool false]) ∧ Below w.heap.size w w' := by
  have HG := Aside.mk hg
  clear hg
  go_enter Tryd.func5, Tryd.ntmps5
  go_wp2_with (go_at_call 13; refine (node_good q g l k v _).mono ?_; rw [HG.out]; rintro e w1 ⟨rfl, hb1⟩)
  go_ret2
  exact ⟨rfl, ((Below.refl _ _).alloc (Nat.le_refl _) _).trans (hb1.mono (by simp))⟩

set_option maxHeartbeats 4000000 in
theorem node_encode_good (q : Int) (g l : Bool) (k v : ByteArray) (w : World) (hg : goodN q g k v = true) (hn : Nib w) :
    Calls Tryd.prog 5 #[nodeV q g l k v] w fun e w' => e = .returned (.tuple #[.string (sealed (headB q g l k v ++ k ++ v)), .bool true]) ∧ Below w.heap.size w w' := by
  have HG := Aside.mk hg
  have HN := Aside.mk hn
  obtain ⟨_, _, hk1, hk2, hv2, _⟩ := goodN_iff.1 hg
  clear hg hn
  go_enter Tryd.func5, Tryd.ntmps5
  go_upto_region 3 with (go_at_call 13; refine (node_good q g l k v _).mono ?_; rw [HG.out]; rintro e w1 ⟨rfl, hb1⟩)
  have h0 : w1.heap[w.heap.size]? = some (.cells (nodeC q g l k v) 30 (0, 0)) := (hb1.block _ (by simp)).trans (heap_alloc_new _ _)
  have hlt : w.heap.size < w1.heap.size := Nat.lt_of_lt_of_le (by simp) hb1.size
  have hb0 : Below w.heap.size w w1 := ((Below.refl _ _).alloc (Nat.le_refl _) _).trans (hb1.mono (by simp))
  have H0 := Aside.mk (And.intro h0 (And.intro hlt hb0))
  clear h0 hlt hb0 hb1
  refine wp_region_rel (by kernel_rfl) (by kernel_rfl) (rel_small (by kernel_rfl)) (relV [(4, .val (.string (headB q g l k v))), (8, .val (.pointer (some ⟨w.heap.size, 1, none⟩))), (9, .val (.bool g)), (10, .val (.int .u8 (bitI g))), (11, .val (.pointer (some ⟨w.heap.size, 2, none⟩))), (12, .val (.bool l)), (13, .val (.int .u8 (bitI l))), (14, .val (.int .u8 (2 * bitI l))), (15, .val (.int .u8 (bitI g + 2 * bitI l))), (16, .row #[.int .u8 (bitI g + 2 * bitI l)] 5 1), (17, .val (.string (byteB (flB g l)))), (18, .val (.string (byteB 78 ++ byteB (flB g l)))), (19, .val (.pointer (some ⟨w.heap.size, 0, none⟩))), (20, .val (.int .i64 q)), (21, .row #[.int .i64 q] 3 1), (22, .val (.string (numsB [q]))), (23, .val (.string ((byteB 78 ++ byteB (flB g l)) ++ numsB [q]))), (24, .val (.pointer (some ⟨w.heap.size, 3, none⟩))), (25, .val (.string k)), (26, .val (.int .i64 (k.size : Int))), (27, .val (.int .u8 (k.size : Int))), (28, .val (.pointer (some ⟨w.heap.size, 4, none⟩))), (29, .val (.string v)), (30, .val (.int .i64 (v.size : Int))), (31, .val (.int .i64 0)), (32, .val (.int .u8 0)), (33, .val (.pointer (some ⟨w.heap.size, 4, none⟩))), (34, .val (.string v)), (35, .val (.int .i64 (v.size : Int))), (36, .val (.int .u8 (v.size : Int))), (37, .row #[.int .u8 (k.size : Int), .int .u8 0, .int .u8 (v.size : Int)] 5 3), (38, .val (.string (sizesB k v))), (39, .val (.string (headB q g l k v)))]) (relV_stable _) ⟨?_, ?_, ?_, ?_, ?_, ?_, ?_, ?_, ?_, ?_, ?_, ?_, ?_, ?_, ?_, ?_, ?_, ?_, ?_, ?_, ?_, ?_, ?_, ?_, ?_, ?_, ?_, ?_, ?_, ?_, ?_, ?_, ?_, trivial⟩ ?_
  · -- 8 := fieldAddr 26 t1 1
    intro f W hW hold hd K hK
    have e1 : f 1 = .pointer (some ⟨w.heap.size, 0, none⟩) := hold 1 rfl
    have HK : ∀ v W', Below W.heap.size W W' → relV _ 8 v W' → K { tmps := #[f 0, f 1, f 2, f 3, f 4, f 5, f 6, f 7, v, f 9, f 10, f 11, f 12, f 13, f 14, f 15, f 16, f 17, f 18, f 19, f 20, f 21, f 22, f 23, f 24, f 25, f 26, f 27, f 28, f 29, f 30, f 31, f 32, f 33, f 34, f 35, f 36, f 37, f 38, f 39, f 40, f 41, f 42, f 43, f 44, f 45, f 46, f 47], defers := [] } W' := hK
    change wpList _ #[_] _ [_] { tmps := #[f 0, f 1, f 2, f 3, f 4, f 5, f 6, f 7, f 8, f 9, f 10, f 11, f 12, f 13, f 14, f 15, f 16, f 17, f 18, f 19, f 20, f 21, f 22, f 23, f 24, f 25, f 26, f 27, f 28, f 29, f 30, f 31, f 32, f 33, f 34, f 35, f 36, f 37, f 38, f 39, f 40, f 41, f 42, f 43, f 44, f 45, f 46, f 47], defers := [] } W
    clear hK hd hold
    simp only [e1] at HK ⊢
    clear e1
    have HK := Aside.mk HK
    go_wp2
    exact HK.out _ _ (Below.refl _ _) rfl
  · -- 9 := load 4 t8
    intro f W hW hold hd K hK
    have e8 : f 8 = (.pointer (some ⟨w.heap.size, 1, none⟩)) := hd 8 rfl rfl
    have HK : ∀ v W', Below W.heap.size W W' → relV _ 9 v W' → K { tmps := #[f 0, f 1, f 2, f 3, f 4, f 5, f 6, f 7, f 8, v, f 10, f 11, f 12, f 13, f 14, f 15, f 16, f 17, f 18, f 19, f 20, f 21, f 22, f 23, f 24, f 25, f 26, f 27, f 28, f 29, f 30, f 31, f 32, f 33, f 34, f 35, f 36, f 37, f 38, f 39, f 40, f 41, f 42, f 43, f 44, f 45, f 46, f 47], defers := [] } W' := hK
    change wpList _ #[_] _ [_] { tmps := #[f 0, f 1, f 2, f 3, f 4, f 5, f 6, f 7, f 8, f 9, f 10, f 11, f 12, f 13, f 14, f 15, f 16, f 17, f 18, f 19, f 20, f 21, f 22, f 23, f 24, f 25, f 26, f 27, f 28, f 29, f 30, f 31, f 32, f 33, f 34, f 35, f 36, f 37, f 38, f 39, f 40, f 41, f 42, f 43, f 44, f 45, f 46, f 47], defers := [] } W
    clear hK hd hold
    simp only [e8] at HK ⊢
    clear e8
    have HK := Aside.mk HK
    have hh := (hW.block _ H0.out.2.1).trans H0.out.1; have hcell := cell_of_row W w.heap.size 1 _ _ _ hh; clear hh
    go_wp2
    exact HK.out _ _ (Below.refl _ _) rfl
  · -- 10 := CALL f26 chert/node.bit [t9] : [4]
    intro f W hW hold hd K hK
    have e9 : f 9 = (.bool g) := hd 9 rfl rfl
    have HK : ∀ v W', Below W.heap.size W W' → relV _ 10 v W' → K { tmps := #[f 0, f 1, f 2, f 3, f 4, f 5, f 6, f 7, f 8, f 9, v, f 11, f 12, f 13, f 14, f 15, f 16, f 17, f 18, f 19, f 20, f 21, f 22, f 23, f 24, f 25, f 26, f 27, f 28, f 29, f 30, f 31, f 32, f 33, f 34, f 35, f 36, f 37, f 38, f 39, f 40, f 41, f 42, f 43, f 44, f 45, f 46, f 47], defers := [] } W' := hK
    change wpList _ #[_] _ [_] { tmps := #[f 0, f 1, f 2, f 3, f 4, f 5, f 6, f 7, f 8, f 9, f 10, f 11, f 12, f 13, f 14, f 15, f 16, f 17, f 18, f 19, f 20, f 21, f 22, f 23, f 24, f 25, f 26, f 27, f 28, f 29, f 30, f 31, f 32, f 33, f 34, f 35, f 36, f 37, f 38, f 39, f 40, f 41, f 42, f 43, f 44, f 45, f 46, f 47], defers := [] } W
    clear hK hd hold
    simp only [e9] at HK ⊢
    clear e9
    have HK := Aside.mk HK
    go_wp2_with (go_at_call 14; refine (node_bit g W).mono ?_; rintro e w2 ⟨rfl, rfl⟩)
    exact HK.out _ _ (Below.refl _ _) rfl
  · -- 11 := fieldAddr 26 t1 2
    intro f W hW hold hd K hK
    have e1 : f 1 = .pointer (some ⟨w.heap.size, 0, none⟩) := hold 1 rfl
    have HK : ∀ v W', Below W.heap.size W W' → relV _ 11 v W' → K { tmps := #[f 0, f 1, f 2, f 3, f 4, f 5, f 6, f 7, f 8, f 9, f 10, v, f 12, f 13, f 14, f 15, f 16, f 17, f 18, f 19, f 20, f 21, f 22, f 23, f 24, f 25, f 26, f 27, f 28, f 29, f 30, f 31, f 32, f 33, f 34, f 35, f 36, f 37, f 38, f 39, f 40, f 41, f 42, f 43, f 44, f 45, f 46, f 47], defers := [] } W' := hK
    change wpList _ #[_] _ [_] { tmps := #[f 0, f 1, f 2, f 3, f 4, f 5, f 6, f 7, f 8, f 9, f 10, f 11, f 12, f 13, f 14, f 15, f 16, f 17, f 18, f 19, f 20, f 21, f 22, f 23, f 24, f 25, f 26, f 27, f 28, f 29, f 30, f 31, f 32, f 33, f 34, f 35, f 36, f 37, f 38, f 39, f 40, f 41, f 42, f 43, f 44, f 45, f 46, f 47], defers := [] } W
    clear hK hd hold
    simp only [e1] at HK ⊢
    clear e1
    have HK := Aside.mk HK
    go_wp2
    exact HK.out _ _ (Below.refl _ _) rfl
  · -- 12 := load 4 t11
    intro f W hW hold hd K hK
    have e11 : f 11 = (.pointer (some ⟨w.heap.size, 2, none⟩)) := hd 11 rfl rfl
    have HK : ∀ v W', Below W.heap.size W W' → relV _ 12 v W' → K { tmps := #[f 0, f 1, f 2, f 3, f 4, f 5, f 6, f 7, f 8, f 9, f 10, f 11, v, f 13, f 14, f 15, f 16, f 17, f 18, f 19, f 20, f 21, f 22, f 23, f 24, f 25, f 26, f 27, f 28, f 29, f 30, f 31, f 32, f 33, f 34, f 35, f 36, f 37, f 38, f 39, f 40, f 41, f 42, f 43, f 44, f 45, f 46, f 47], defers := [] } W' := hK
    change wpList _ #[_] _ [_] { tmps := #[f 0, f 1, f 2, f 3, f 4, f 5, f 6, f 7, f 8, f 9, f 10, f 11, f 12, f 13, f 14, f 15, f 16, f 17, f 18, f 19, f 20, f 21, f 22, f 23, f 24, f 25, f 26, f 27, f 28, f 29, f 30, f 31, f 32, f 33, f 34, f 35, f 36, f 37, f 38, f 39, f 40, f 41, f 42, f 43, f 44, f 45, f 46, f 47], defers := [] } W
    clear hK hd hold
    simp only [e11] at HK ⊢
    clear e11
    have HK := Aside.mk HK
    have hh := (hW.block _ H0.out.2.1).trans H0.out.1; have hcell := cell_of_row W w.heap.size 2 _ _ _ hh; clear hh
    go_wp2
    exact HK.out _ _ (Below.refl _ _) rfl
  · -- 13 := CALL f26 chert/node.bit [t12] : [4]
    intro f W hW hold hd K hK
    have e12 : f 12 = (.bool l) := hd 12 rfl rfl
    have HK : ∀ v W', Below W.heap.size W W' → relV _ 13 v W' → K { tmps := #[f 0, f 1, f 2, f 3, f 4, f 5, f 6, f 7, f 8, f 9, f 10, f 11, f 12, v, f 14, f 15, f 16, f 17, f 18, f 19, f 20, f 21, f 22, f 23, f 24, f 25, f 26, f 27, f 28, f 29, f 30, f 31, f 32, f 33, f 34, f 35, f 36, f 37, f 38, f 39, f 40, f 41, f 42, f 43, f 44, f 45, f 46, f 47], defers := [] } W' := hK
    change wpList _ #[_] _ [_] { tmps := #[f 0, f 1, f 2, f 3, f 4, f 5, f 6, f 7, f 8, f 9, f 10, f 11, f 12, f 13, f 14, f 15, f 16, f 17, f 18, f 19, f 20, f 21, f 22, f 23, f 24, f 25, f 26, f 27, f 28, f 29, f 30, f 31, f 32, f 33, f 34, f 35, f 36, f 37, f 38, f 39, f 40, f 41, f 42, f 43, f 44, f 45, f 46, f 47], defers := [] } W
    clear hK hd hold
    simp only [e12] at HK ⊢
    clear e12
    have HK := Aside.mk HK
    go_wp2_with (go_at_call 14; refine (node_bit l W).mono ?_; rintro e w2 ⟨rfl, rfl⟩)
    exact HK.out _ _ (Below.refl _ _) rfl
  · -- 14 := binOp mul 5 <u8 2> t13 5
    intro f W hW hold hd K hK
    have e13 : f 13 = (.int .u8 (bitI l)) := hd 13 rfl rfl
    have HK : ∀ v W', Below W.heap.size W W' → relV _ 14 v W' → K { tmps := #[f 0, f 1, f 2, f 3, f 4, f 5, f 6, f 7, f 8, f 9, f 10, f 11, f 12, f 13, v, f 15, f 16, f 17, f 18, f 19, f 20, f 21, f 22, f 23, f 24, f 25, f 26, f 27, f 28, f 29, f 30, f 31, f 32, f 33, f 34, f 35, f 36, f 37, f 38, f 39, f 40, f 41, f 42, f 43, f 44, f 45, f 46, f 47], defers := [] } W' := hK
    change wpList _ #[_] _ [_] { tmps := #[f 0, f 1, f 2, f 3, f 4, f 5, f 6, f 7, f 8, f 9, f 10, f 11, f 12, f 13, f 14, f 15, f 16, f 17, f 18, f 19, f 20, f 21, f 22, f 23, f 24, f 25, f 26, f 27, f 28, f 29, f 30, f 31, f 32, f 33, f 34, f 35, f 36, f 37, f 38, f 39, f 40, f 41, f 42, f 43, f 44, f 45, f 46, f 47], defers := [] } W
    clear hK hd hold
    simp only [e13] at HK ⊢
    clear e13
    have HK := Aside.mk HK
    have hm : IntKind.u8.wrap (2 * bitI l) = 2 * bitI l := by cases l <;> rfl
    go_wp2
    exact HK.out _ _ (Below.refl _ _) rfl
  · -- 15 := binOp add 5 t10 t14 5
    intro f W hW hold hd K hK
    have e10 : f 10 = (.int .u8 (bitI g)) := hd 10 rfl rfl
    have e14 : f 14 = (.int .u8 (2 * bitI l)) := hd 14 rfl rfl
    have HK : ∀ v W', Below W.heap.size W W' → relV _ 15 v W' → K { tmps := #[f 0, f 1, f 2, f 3, f 4, f 5, f 6, f 7, f 8, f 9, f 10, f 11, f 12, f 13, f 14, v, f 16, f 17, f 18, f 19, f 20, f 21, f 22, f 23, f 24, f 25, f 26, f 27, f 28, f 29, f 30, f 31, f 32, f 33, f 34, f 35, f 36, f 37, f 38, f 39, f 40, f 41, f 42, f 43, f 44, f 45, f 46, f 47], defers := [] } W' := hK
    change wpList _ #[_] _ [_] { tmps := #[f 0, f 1, f 2, f 3, f 4, f 5, f 6, f 7, f 8, f 9, f 10, f 11, f 12, f 13, f 14, f 15, f 16, f 17, f 18, f 19, f 20, f 21, f 22, f 23, f 24, f 25, f 26, f 27, f 28, f 29, f 30, f 31, f 32, f 33, f 34, f 35, f 36, f 37, f 38, f 39, f 40, f 41, f 42, f 43, f 44, f 45, f 46, f 47], defers := [] } W
    clear hK hd hold
    simp only [e10, e14] at HK ⊢
    clear e10 e14
    have HK := Aside.mk HK
    have hm : IntKind.u8.wrap (bitI g + 2 * bitI l) = bitI g + 2 * bitI l := by cases g <;> cases l <;> rfl
    go_wp2
    exact HK.out _ _ (Below.refl _ _) rfl
  · -- 16 := buildSlice 51 1 [(0, t15)]
    intro f W hW hold hd K hK
    have e15 : f 15 = (.int .u8 (bitI g + 2 * bitI l)) := hd 15 rfl rfl
    have HK : ∀ v W', Below W.heap.size W W' → relV _ 16 v W' → K { tmps := #[f 0, f 1, f 2, f 3, f 4, f 5, f 6, f 7, f 8, f 9, f 10, f 11, f 12, f 13, f 14, f 15, v, f 17, f 18, f 19, f 20, f 21, f 22, f 23, f 24, f 25, f 26, f 27, f 28, f 29, f 30, f 31, f 32, f 33, f 34, f 35, f 36, f 37, f 38, f 39, f 40, f 41, f 42, f 43, f 44, f 45, f 46, f 47], defers := [] } W' := hK
    change wpList _ #[_] _ [_] { tmps := #[f 0, f 1, f 2, f 3, f 4, f 5, f 6, f 7, f 8, f 9, f 10, f 11, f 12, f 13, f 14, f 15, f 16, f 17, f 18, f 19, f 20, f 21, f 22, f 23, f 24, f 25, f 26, f 27, f 28, f 29, f 30, f 31, f 32, f 33, f 34, f 35, f 36, f 37, f 38, f 39, f 40, f 41, f 42, f 43, f 44, f 45, f 46, f 47], defers := [] } W
    clear hK hd hold
    simp only [e15] at HK ⊢
    clear e15
    have HK := Aside.mk HK
    go_wp2
    exact HK.out _ _ ((Below.refl _ _).alloc (Nat.le_refl _) _) ⟨_, rfl, heap_alloc_new _ _⟩
  · -- 17 := convert 51 9 t16
    intro f W hW hold hd K hK
    obtain ⟨b16, e16, r16⟩ : ∃ bb, f 16 = .slice (some ⟨bb, 0, none⟩) 1 1 ∧ W.heap[bb]? = some (.cells #[.int .u8 (bitI g + 2 * bitI l)] 5 (0, 0)) := hd 16 rfl rfl
    have HK : ∀ v W', Below W.heap.size W W' → relV _ 17 v W' → K { tmps := #[f 0, f 1, f 2, f 3, f 4, f 5, f 6, f 7, f 8, f 9, f 10, f 11, f 12, f 13, f 14, f 15, f 16, v, f 18, f 19, f 20, f 21, f 22, f 23, f 24, f 25, f 26, f 27, f 28, f 29, f 30, f 31, f 32, f 33, f 34, f 35, f 36, f 37, f 38, f 39, f 40, f 41, f 42, f 43, f 44, f 45, f 46, f 47], defers := [] } W' := hK
    change wpList _ #[_] _ [_] { tmps := #[f 0, f 1, f 2, f 3, f 4, f 5, f 6, f 7, f 8, f 9, f 10, f 11, f 12, f 13, f 14, f 15, f 16, f 17, f 18, f 19, f 20, f 21, f 22, f 23, f 24, f 25, f 26, f 27, f 28, f 29, f 30, f 31, f 32, f 33, f 34, f 35, f 36, f 37, f 38, f 39, f 40, f 41, f 42, f 43, f 44, f 45, f 46, f 47], defers := [] } W
    clear hK hd hold
    simp only [e16] at HK ⊢
    clear e16
    have HK := Aside.mk HK
    have hcv := row_text (n := 1) (l := [flB g l]) rfl (by simp [bytesV, flB_nat]) (by decide) r16
    go_wp2
    exact HK.out _ _ (Below.refl _ _) rfl
  · -- 18 := binOp add 9 <string({data=[78]})> t17 9
    intro f W hW hold hd K hK
    have e17 : f 17 = (.string (byteB (flB g l))) := hd 17 rfl rfl
    have HK : ∀ v W', Below W.heap.size W W' → relV _ 18 v W' → K { tmps := #[f 0, f 1, f 2, f 3, f 4, f 5, f 6, f 7, f 8, f 9, f 10, f 11, f 12, f 13, f 14, f 15, f 16, f 17, v, f 19, f 20, f 21, f 22, f 23, f 24, f 25, f 26, f 27, f 28, f 29, f 30, f 31, f 32, f 33, f 34, f 35, f 36, f 37, f 38, f 39, f 40, f 41, f 42, f 43, f 44, f 45, f 46, f 47], defers := [] } W' := hK
    change wpList _ #[_] _ [_] { tmps := #[f 0, f 1, f 2, f 3, f 4, f 5, f 6, f 7, f 8, f 9, f 10, f 11, f 12, f 13, f 14, f 15, f 16, f 17, f 18, f 19, f 20, f 21, f 22, f 23, f 24, f 25, f 26, f 27, f 28, f 29, f 30, f 31, f 32, f 33, f 34, f 35, f 36, f 37, f 38, f 39, f 40, f 41, f 42, f 43, f 44, f 45, f 46, f 47], defers := [] } W
    clear hK hd hold
    simp only [e17] at HK ⊢
    clear e17
    have HK := Aside.mk HK
    have hz1 : (byteB (flB g l)).size = 1 := rfl
    go_wp2
    exact HK.out _ _ (Below.refl _ _) rfl
  · -- 19 := fieldAddr 26 t1 0
    intro f W hW hold hd K hK
    have e1 : f 1 = .pointer (some ⟨w.heap.size, 0, none⟩) := hold 1 rfl
    have HK : ∀ v W', Below W.heap.size W W' → relV _ 19 v W' → K { tmps := #[f 0, f 1, f 2, f 3, f 4, f 5, f 6, f 7, f 8, f 9, f 10, f 11, f 12, f 13, f 14, f 15, f 16, f 17, f 18, v, f 20, f 21, f 22, f 23, f 24, f 25, f 26, f 27, f 28, f 29, f 30, f 31, f 32, f 33, f 34, f 35, f 36, f 37, f 38, f 39, f 40, f 41, f 42, f 43, f 44, f 45, f 46, f 47], defers := [] } W' := hK
    change wpList _ #[_] _ [_] { tmps := #[f 0, f 1, f 2, f 3, f 4, f 5, f 6, f 7, f 8, f 9, f 10, f 11, f 12, f 13, f 14, f 15, f 16, f 17, f 18, f 19, f 20, f 21, f 22, f 23, f 24, f 25, f 26, f 27, f 28, f 29, f 30, f 31, f 32, f 33, f 34, f 35, f 36, f 37, f 38, f 39, f 40, f 41, f 42, f 43, f 44, f 45, f 46, f 47], defers := [] } W
    clear hK hd hold
    simp only [e1] at HK ⊢
    clear e1
    have HK := Aside.mk HK
    go_wp2
    exact HK.out _ _ (Below.refl _ _) rfl
  · -- 20 := load 3 t19
    intro f W hW hold hd K hK
    have e19 : f 19 = (.pointer (some ⟨w.heap.size, 0, none⟩)) := hd 19 rfl rfl
    have HK : ∀ v W', Below W.heap.size W W' → relV _ 20 v W' → K { tmps := #[f 0, f 1, f 2, f 3, f 4, f 5, f 6, f 7, f 8, f 9, f 10, f 11, f 12, f 13, f 14, f 15, f 16, f 17, f 18, f 19, v, f 21, f 22, f 23, f 24, f 25, f 26, f 27, f 28, f 29, f 30, f 31, f 32, f 33, f 34, f 35, f 36, f 37, f 38, f 39, f 40, f 41, f 42, f 43, f 44, f 45, f 46, f 47], defers := [] } W' := hK
    change wpList _ #[_] _ [_] { tmps := #[f 0, f 1, f 2, f 3, f 4, f 5, f 6, f 7, f 8, f 9, f 10, f 11, f 12, f 13, f 14, f 15, f 16, f 17, f 18, f 19, f 20, f 21, f 22, f 23, f 24, f 25, f 26, f 27, f 28, f 29, f 30, f 31, f 32, f 33, f 34, f 35, f 36, f 37, f 38, f 39, f 40, f 41, f 42, f 43, f 44, f 45, f 46, f 47], defers := [] } W
    clear hK hd hold
    simp only [e19] at HK ⊢
    clear e19
    have HK := Aside.mk HK
    have hh := (hW.block _ H0.out.2.1).trans H0.out.1; have hcell := cell_of_row W w.heap.size 0 _ _ _ hh; clear hh
    go_wp2
    exact HK.out _ _ (Below.refl _ _) rfl
  · -- 21 := buildSlice 72 1 [(0, t20)]
    intro f W hW hold hd K hK
    have e20 : f 20 = (.int .i64 q) := hd 20 rfl rfl
    have HK : ∀ v W', Below W.heap.size W W' → relV _ 21 v W' → K { tmps := #[f 0, f 1, f 2, f 3, f 4, f 5, f 6, f 7, f 8, f 9, f 10, f 11, f 12, f 13, f 14, f 15, f 16, f 17, f 18, f 19, f 20, v, f 22, f 23, f 24, f 25, f 26, f 27, f 28, f 29, f 30, f 31, f 32, f 33, f 34, f 35, f 36, f 37, f 38, f 39, f 40, f 41, f 42, f 43, f 44, f 45, f 46, f 47], defers := [] } W' := hK
    change wpList _ #[_] _ [_] { tmps := #[f 0, f 1, f 2, f 3, f 4, f 5, f 6, f 7, f 8, f 9, f 10, f 11, f 12, f 13, f 14, f 15, f 16, f 17, f 18, f 19, f 20, f 21, f 22, f 23, f 24, f 25, f 26, f 27, f 28, f 29, f 30, f 31, f 32, f 33, f 34, f 35, f 36, f 37, f 38, f 39, f 40, f 41, f 42, f 43, f 44, f 45, f 46, f 47], defers := [] } W
    clear hK hd hold
    simp only [e20] at HK ⊢
    clear e20
    have HK := Aside.mk HK
    go_wp2
    exact HK.out _ _ ((Below.refl _ _).alloc (Nat.le_refl _) _) ⟨_, rfl, heap_alloc_new _ _⟩
  · -- 22 := CALL f27 chert/node.numbers [t21] : [72]
    intro f W hW hold hd K hK
    obtain ⟨b21, e21, r21⟩ : ∃ bb, f 21 = .slice (some ⟨bb, 0, none⟩) 1 1 ∧ W.heap[bb]? = some (.cells #[.int .i64 q] 3 (0, 0)) := hd 21 rfl rfl
    have HK : ∀ v W', Below W.heap.size W W' → relV _ 22 v W' → K { tmps := #[f 0, f 1, f 2, f 3, f 4, f 5, f 6, f 7, f 8, f 9, f 10, f 11, f 12, f 13, f 14, f 15, f 16, f 17, f 18, f 19, f 20, f 21, v, f 23, f 24, f 25, f 26, f 27, f 28, f 29, f 30, f 31, f 32, f 33, f 34, f 35, f 36, f 37, f 38, f 39, f 40, f 41, f 42, f 43, f 44, f 45, f 46, f 47], defers := [] } W' := hK
    change wpList _ #[_] _ [_] { tmps := #[f 0, f 1, f 2, f 3, f 4, f 5, f 6, f 7, f 8, f 9, f 10, f 11, f 12, f 13, f 14, f 15, f 16, f 17, f 18, f 19, f 20, f 21, f 22, f 23, f 24, f 25, f 26, f 27, f 28, f 29, f 30, f 31, f 32, f 33, f 34, f 35, f 36, f 37, f 38, f 39, f 40, f 41, f 42, f 43, f 44, f 45, f 46, f 47], defers := [] } W
    clear hK hd hold
    simp only [e21] at HK ⊢
    clear e21
    have HK := Aside.mk HK
    go_wp2_with (go_at_call 15; refine (node_numbers (some ⟨b21, 0, none⟩) 1 1 [q] W rfl (by omega) (rd_ints rfl rfl r21)).mono ?_; rintro e w2 ⟨rfl, hb2⟩)
    exact HK.out _ _ hb2 rfl
  · -- 23 := binOp add 9 t18 t22 9
    intro f W hW hold hd K hK
    have e18 : f 18 = (.string (byteB 78 ++ byteB (flB g l))) := hd 18 rfl rfl
    have e22 : f 22 = (.string (numsB [q])) := hd 22 rfl rfl
    have HK : ∀ v W', Below W.heap.size W W' → relV _ 23 v W' → K { tmps := #[f 0, f 1, f 2, f 3, f 4, f 5, f 6, f 7, f 8, f 9, f 10, f 11, f 12, f 13, f 14, f 15, f 16, f 17, f 18, f 19, f 20, f 21, f 22, v, f 24, f 25, f 26, f 27, f 28, f 29, f 30, f 31, f 32, f 33, f 34, f 35, f 36, f 37, f 38, f 39, f 40, f 41, f 42, f 43, f 44, f 45, f 46, f 47], defers := [] } W' := hK
    change wpList _ #[_] _ [_] { tmps := #[f 0, f 1, f 2, f 3, f 4, f 5, f 6, f 7, f 8, f 9, f 10, f 11, f 12, f 13, f 14, f 15, f 16, f 17, f 18, f 19, f 20, f 21, f 22, f 23, f 24, f 25, f 26, f 27, f 28, f 29, f 30, f 31, f 32, f 33, f 34, f 35, f 36, f 37, f 38, f 39, f 40, f 41, f 42, f 43, f 44, f 45, f 46, f 47], defers := [] } W
    clear hK hd hold
    simp only [e18, e22] at HK ⊢
    clear e18 e22
    have HK := Aside.mk HK
    have hz := numsB_size [q]; have hz1 : (byteB 78 ++ byteB (flB g l)).size = 2 := rfl; simp only [List.length_cons, List.length_nil] at hz
    go_wp2
    exact HK.out _ _ (Below.refl _ _) rfl
  · -- 24 := fieldAddr 26 t1 3
    intro f W hW hold hd K hK
    have e1 : f 1 = .pointer (some ⟨w.heap.size, 0, none⟩) := hold 1 rfl
    have HK : ∀ v W', Below W.heap.size W W' → relV _ 24 v W' → K { tmps := #[f 0, f 1, f 2, f 3, f 4, f 5, f 6, f 7, f 8, f 9, f 10, f 11, f 12, f 13, f 14, f 15, f 16, f 17, f 18, f 19, f 20, f 21, f 22, f 23, v, f 25, f 26, f 27, f 28, f 29, f 30, f 31, f 32, f 33, f 34, f 35, f 36, f 37, f 38, f 39, f 40, f 41, f 42, f 43, f 44, f 45, f 46, f 47], defers := [] } W' := hK
    change wpList _ #[_] _ [_] { tmps := #[f 0, f 1, f 2, f 3, f 4, f 5, f 6, f 7, f 8, f 9, f 10, f 11, f 12, f 13, f 14, f 15, f 16, f 17, f 18, f 19, f 20, f 21, f 22, f 23, f 24, f 25, f 26, f 27, f 28, f 29, f 30, f 31, f 32, f 33, f 34, f 35, f 36, f 37, f 38, f 39, f 40, f 41, f 42, f 43, f 44, f 45, f 46, f 47], defers := [] } W
    clear hK hd hold
    simp only [e1] at HK ⊢
    clear e1
    have HK := Aside.mk HK
    go_wp2
    exact HK.out _ _ (Below.refl _ _) rfl
  · -- 25 := load 9 t24
    intro f W hW hold hd K hK
    have e24 : f 24 = (.pointer (some ⟨w.heap.size, 3, none⟩)) := hd 24 rfl rfl
    have HK : ∀ v W', Below W.heap.size W W' → relV _ 25 v W' → K { tmps := #[f 0, f 1, f 2, f 3, f 4, f 5, f 6, f 7, f 8, f 9, f 10, f 11, f 12, f 13, f 14, f 15, f 16, f 17, f 18, f 19, f 20, f 21, f 22, f 23, f 24, v, f 26, f 27, f 28, f 29, f 30, f 31, f 32, f 33, f 34, f 35, f 36, f 37, f 38, f 39, f 40, f 41, f 42, f 43, f 44, f 45, f 46, f 47], defers := [] } W' := hK
    change wpList _ #[_] _ [_] { tmps := #[f 0, f 1, f 2, f 3, f 4, f 5, f 6, f 7, f 8, f 9, f 10, f 11, f 12, f 13, f 14, f 15, f 16, f 17, f 18, f 19, f 20, f 21, f 22, f 23, f 24, f 25, f 26, f 27, f 28, f 29, f 30, f 31, f 32, f 33, f 34, f 35, f 36, f 37, f 38, f 39, f 40, f 41, f 42, f 43, f 44, f 45, f 46, f 47], defers := [] } W
    clear hK hd hold
    simp only [e24] at HK ⊢
    clear e24
    have HK := Aside.mk HK
    have hh := (hW.block _ H0.out.2.1).trans H0.out.1; have hcell := cell_of_row W w.heap.size 3 _ _ _ hh; clear hh
    go_wp2
    exact HK.out _ _ (Below.refl _ _) rfl
  · -- 26 := BUILTIN len [t25] : [9]
    intro f W hW hold hd K hK
    have e25 : f 25 = (.string k) := hd 25 rfl rfl
    have HK : ∀ v W', Below W.heap.size W W' → relV _ 26 v W' → K { tmps := #[f 0, f 1, f 2, f 3, f 4, f 5, f 6, f 7, f 8, f 9, f 10, f 11, f 12, f 13, f 14, f 15, f 16, f 17, f 18, f 19, f 20, f 21, f 22, f 23, f 24, f 25, v, f 27, f 28, f 29, f 30, f 31, f 32, f 33, f 34, f 35, f 36, f 37, f 38, f 39, f 40, f 41, f 42, f 43, f 44, f 45, f 46, f 47], defers := [] } W' := hK
    change wpList _ #[_] _ [_] { tmps := #[f 0, f 1, f 2, f 3, f 4, f 5, f 6, f 7, f 8, f 9, f 10, f 11, f 12, f 13, f 14, f 15, f 16, f 17, f 18, f 19, f 20, f 21, f 22, f 23, f 24, f 25, f 26, f 27, f 28, f 29, f 30, f 31, f 32, f 33, f 34, f 35, f 36, f 37, f 38, f 39, f 40, f 41, f 42, f 43, f 44, f 45, f 46, f 47], defers := [] } W
    clear hK hd hold
    simp only [e25] at HK ⊢
    clear e25
    have HK := Aside.mk HK
    go_wp2
    exact HK.out _ _ (Below.refl _ _) rfl
  · -- 27 := convert 3 5 t26
    intro f W hW hold hd K hK
    have e26 : f 26 = (.int .i64 (k.size : Int)) := hd 26 rfl rfl
    have HK : ∀ v W', Below W.heap.size W W' → relV _ 27 v W' → K { tmps := #[f 0, f 1, f 2, f 3, f 4, f 5, f 6, f 7, f 8, f 9, f 10, f 11, f 12, f 13, f 14, f 15, f 16, f 17, f 18, f 19, f 20, f 21, f 22, f 23, f 24, f 25, f 26, v, f 28, f 29, f 30, f 31, f 32, f 33, f 34, f 35, f 36, f 37, f 38, f 39, f 40, f 41, f 42, f 43, f 44, f 45, f 46, f 47], defers := [] } W' := hK
    change wpList _ #[_] _ [_] { tmps := #[f 0, f 1, f 2, f 3, f 4, f 5, f 6, f 7, f 8, f 9, f 10, f 11, f 12, f 13, f 14, f 15, f 16, f 17, f 18, f 19, f 20, f 21, f 22, f 23, f 24, f 25, f 26, f 27, f 28, f 29, f 30, f 31, f 32, f 33, f 34, f 35, f 36, f 37, f 38, f 39, f 40, f 41, f 42, f 43, f 44, f 45, f 46, f 47], defers := [] } W
    clear hK hd hold
    simp only [e26] at HK ⊢
    clear e26
    have HK := Aside.mk HK
    go_wp2
    refine HK.out _ _ (Below.refl _ _) ?_; change Value.int _ _ = Value.int _ _; first | rfl | (congr 1; done) | (congr 1; omega)
  · -- 28 := fieldAddr 26 t1 4
    intro f W hW hold hd K hK
    have e1 : f 1 = .pointer (some ⟨w.heap.size, 0, none⟩) := hold 1 rfl
    have HK : ∀ v W', Below W.heap.size W W' → relV _ 28 v W' → K { tmps := #[f 0, f 1, f 2, f 3, f 4, f 5, f 6, f 7, f 8, f 9, f 10, f 11, f 12, f 13, f 14, f 15, f 16, f 17, f 18, f 19, f 20, f 21, f 22, f 23, f 24, f 25, f 26, f 27, v, f 29, f 30, f 31, f 32, f 33, f 34, f 35, f 36, f 37, f 38, f 39, f 40, f 41, f 42, f 43, f 44, f 45, f 46, f 47], defers := [] } W' := hK
    change wpList _ #[_] _ [_] { tmps := #[f 0, f 1, f 2, f 3, f 4, f 5, f 6, f 7, f 8, f 9, f 10, f 11, f 12, f 13, f 14, f 15, f 16, f 17, f 18, f 19, f 20, f 21, f 22, f 23, f 24, f 25, f 26, f 27, f 28, f 29, f 30, f 31, f 32, f 33, f 34, f 35, f 36, f 37, f 38, f 39, f 40, f 41, f 42, f 43, f 44, f 45, f 46, f 47], defers := [] } W
    clear hK hd hold
    simp only [e1] at HK ⊢
    clear e1
    have HK := Aside.mk HK
    go_wp2
    exact HK.out _ _ (Below.refl _ _) rfl
  · -- 29 := load 9 t28
    intro f W hW hold hd K hK
    have e28 : f 28 = (.pointer (some ⟨w.heap.size, 4, none⟩)) := hd 28 rfl rfl
    have HK : ∀ v W', Below W.heap.size W W' → relV _ 29 v W' → K { tmps := #[f 0, f 1, f 2, f 3, f 4, f 5, f 6, f 7, f 8, f 9, f 10, f 11, f 12, f 13, f 14, f 15, f 16, f 17, f 18, f 19, f 20, f 21, f 22, f 23, f 24, f 25, f 26, f 27, f 28, v, f 30, f 31, f 32, f 33, f 34, f 35, f 36, f 37, f 38, f 39, f 40, f 41, f 42, f 43, f 44, f 45, f 46, f 47], defers := [] } W' := hK
    change wpList _ #[_] _ [_] { tmps := #[f 0, f 1, f 2, f 3, f 4, f 5, f 6, f 7, f 8, f 9, f 10, f 11, f 12, f 13, f 14, f 15, f 16, f 17, f 18, f 19, f 20, f 21, f 22, f 23, f 24, f 25, f 26, f 27, f 28, f 29, f 30, f 31, f 32, f 33, f 34, f 35, f 36, f 37, f 38, f 39, f 40, f 41, f 42, f 43, f 44, f 45, f 46, f 47], defers := [] } W
    clear hK hd hold
    simp only [e28] at HK ⊢
    clear e28
    have HK := Aside.mk HK
    have hh := (hW.block _ H0.out.2.1).trans H0.out.1; have hcell := cell_of_row W w.heap.size 4 _ _ _ hh; clear hh
    go_wp2
    exact HK.out _ _ (Below.refl _ _) rfl
  · -- 30 := BUILTIN len [t29] : [9]
    intro f W hW hold hd K hK
    have e29 : f 29 = (.string v) := hd 29 rfl rfl
    have HK : ∀ v W', Below W.heap.size W W' → relV _ 30 v W' → K { tmps := #[f 0, f 1, f 2, f 3, f 4, f 5, f 6, f 7, f 8, f 9, f 10, f 11, f 12, f 13, f 14, f 15, f 16, f 17, f 18, f 19, f 20, f 21, f 22, f 23, f 24, f 25, f 26, f 27, f 28, f 29, v, f 31, f 32, f 33, f 34, f 35, f 36, f 37, f 38, f 39, f 40, f 41, f 42, f 43, f 44, f 45, f 46, f 47], defers := [] } W' := hK
    change wpList _ #[_] _ [_] { tmps := #[f 0, f 1, f 2, f 3, f 4, f 5, f 6, f 7, f 8, f 9, f 10, f 11, f 12, f 13, f 14, f 15, f 16, f 17, f 18, f 19, f 20, f 21, f 22, f 23, f 24, f 25, f 26, f 27, f 28, f 29, f 30, f 31, f 32, f 33, f 34, f 35, f 36, f 37, f 38, f 39, f 40, f 41, f 42, f 43, f 44, f 45, f 46, f 47], defers := [] } W
    clear hK hd hold
    simp only [e29] at HK ⊢
    clear e29
    have HK := Aside.mk HK
    go_wp2
    exact HK.out _ _ (Below.refl _ _) rfl
  · -- 31 := binOp shr 3 t30 <u64 8> 66
    intro f W hW hold hd K hK
    have e30 : f 30 = (.int .i64 (v.size : Int)) := hd 30 rfl rfl
    have HK : ∀ v W', Below W.heap.size W W' → relV _ 31 v W' → K { tmps := #[f 0, f 1, f 2, f 3, f 4, f 5, f 6, f 7, f 8, f 9, f 10, f 11, f 12, f 13, f 14, f 15, f 16, f 17, f 18, f 19, f 20, f 21, f 22, f 23, f 24, f 25, f 26, f 27, f 28, f 29, f 30, v, f 32, f 33, f 34, f 35, f 36, f 37, f 38, f 39, f 40, f 41, f 42, f 43, f 44, f 45, f 46, f 47], defers := [] } W' := hK
    change wpList _ #[_] _ [_] { tmps := #[f 0, f 1, f 2, f 3, f 4, f 5, f 6, f 7, f 8, f 9, f 10, f 11, f 12, f 13, f 14, f 15, f 16, f 17, f 18, f 19, f 20, f 21, f 22, f 23, f 24, f 25, f 26, f 27, f 28, f 29, f 30, f 31, f 32, f 33, f 34, f 35, f 36, f 37, f 38, f 39, f 40, f 41, f 42, f 43, f 44, f 45, f 46, f 47], defers := [] } W
    clear hK hd hold
    simp only [e30] at HK ⊢
    clear e30
    have HK := Aside.mk HK
    go_wp2
    refine HK.out _ _ (Below.refl _ _) ?_; change Value.int _ _ = Value.int _ _; first | rfl | (congr 1; done) | (congr 1; omega)
  · -- 32 := convert 3 5 t31
    intro f W hW hold hd K hK
    have e31 : f 31 = (.int .i64 0) := hd 31 rfl rfl
    have HK : ∀ v W', Below W.heap.size W W' → relV _ 32 v W' → K { tmps := #[f 0, f 1, f 2, f 3, f 4, f 5, f 6, f 7, f 8, f 9, f 10, f 11, f 12, f 13, f 14, f 15, f 16, f 17, f 18, f 19, f 20, f 21, f 22, f 23, f 24, f 25, f 26, f 27, f 28, f 29, f 30, f 31, v, f 33, f 34, f 35, f 36, f 37, f 38, f 39, f 40, f 41, f 42, f 43, f 44, f 45, f 46, f 47], defers := [] } W' := hK
    change wpList _ #[_] _ [_] { tmps := #[f 0, f 1, f 2, f 3, f 4, f 5, f 6, f 7, f 8, f 9, f 10, f 11, f 12, f 13, f 14, f 15, f 16, f 17, f 18, f 19, f 20, f 21, f 22, f 23, f 24, f 25, f 26, f 27, f 28, f 29, f 30, f 31, f 32, f 33, f 34, f 35, f 36, f 37, f 38, f 39, f 40, f 41, f 42, f 43, f 44, f 45, f 46, f 47], defers := [] } W
    clear hK hd hold
    simp only [e31] at HK ⊢
    clear e31
    have HK := Aside.mk HK
    go_wp2
    refine HK.out _ _ (Below.refl _ _) ?_; change Value.int _ _ = Value.int _ _; first | rfl | (congr 1; done) | (congr 1; omega)
  · -- 33 := fieldAddr 26 t1 4
    intro f W hW hold hd K hK
    have e1 : f 1 = .pointer (some ⟨w.heap.size, 0, none⟩) := hold 1 rfl
    have HK : ∀ v W', Below W.heap.size W W' → relV _ 33 v W' → K { tmps := #[f 0, f 1, f 2, f 3, f 4, f 5, f 6, f 7, f 8, f 9, f 10, f 11, f 12, f 13, f 14, f 15, f 16, f 17, f 18, f 19, f 20, f 21, f 22, f 23, f 24, f 25, f 26, f 27, f 28, f 29, f 30, f 31, f 32, v, f 34, f 35, f 36, f 37, f 38, f 39, f 40, f 41, f 42, f 43, f 44, f 45, f 46, f 47], defers := [] } W' := hK
    change wpList _ #[_] _ [_] { tmps := #[f 0, f 1, f 2, f 3, f 4, f 5, f 6, f 7, f 8, f 9, f 10, f 11, f 12, f 13, f 14, f 15, f 16, f 17, f 18, f 19, f 20, f 21, f 22, f 23, f 24, f 25, f 26, f 27, f 28, f 29, f 30, f 31, f 32, f 33, f 34, f 35, f 36, f 37, f 38, f 39, f 40, f 41, f 42, f 43, f 44, f 45, f 46, f 47], defers := [] } W
    clear hK hd hold
    simp only [e1] at HK ⊢
    clear e1
    have HK := Aside.mk HK
    go_wp2
    exact HK.out _ _ (Below.refl _ _) rfl
  · -- 34 := load 9 t33
    intro f W hW hold hd K hK
    have e33 : f 33 = (.pointer (some ⟨w.heap.size, 4, none⟩)) := hd 33 rfl rfl
    have HK : ∀ v W', Below W.heap.size W W' → relV _ 34 v W' → K { tmps := #[f 0, f 1, f 2, f 3, f 4, f 5, f 6, f 7, f 8, f 9, f 10, f 11, f 12, f 13, f 14, f 15, f 16, f 17, f 18, f 19, f 20, f 21, f 22, f 23, f 24, f 25, f 26, f 27, f 28, f 29, f 30, f 31, f 32, f 33, v, f 35, f 36, f 37, f 38, f 39, f 40, f 41, f 42, f 43, f 44, f 45, f 46, f 47], defers := [] } W' := hK
    change wpList _ #[_] _ [_] { tmps := #[f 0, f 1, f 2, f 3, f 4, f 5, f 6, f 7, f 8, f 9, f 10, f 11, f 12, f 13, f 14, f 15, f 16, f 17, f 18, f 19, f 20, f 21, f 22, f 23, f 24, f 25, f 26, f 27, f 28, f 29, f 30, f 31, f 32, f 33, f 34, f 35, f 36, f 37, f 38, f 39, f 40, f 41, f 42, f 43, f 44, f 45, f 46, f 47], defers := [] } W
    clear hK hd hold
    simp only [e33] at HK ⊢
    clear e33
    have HK := Aside.mk HK
    have hh := (hW.block _ H0.out.2.1).trans H0.out.1; have hcell := cell_of_row W w.heap.size 4 _ _ _ hh; clear hh
    go_wp2
    exact HK.out _ _ (Below.refl _ _) rfl
  · -- 35 := BUILTIN len [t34] : [9]
    intro f W hW hold hd K hK
    have e34 : f 34 = (.string v) := hd 34 rfl rfl
    have HK : ∀ v W', Below W.heap.size W W' → relV _ 35 v W' → K { tmps := #[f 0, f 1, f 2, f 3, f 4, f 5, f 6, f 7, f 8, f 9, f 10, f 11, f 12, f 13, f 14, f 15, f 16, f 17, f 18, f 19, f 20, f 21, f 22, f 23, f 24, f 25, f 26, f 27, f 28, f 29, f 30, f 31, f 32, f 33, f 34, v, f 36, f 37, f 38, f 39, f 40, f 41, f 42, f 43, f 44, f 45, f 46, f 47], defers := [] } W' := hK
    change wpList _ #[_] _ [_] { tmps := #[f 0, f 1, f 2, f 3, f 4, f 5, f 6, f 7, f 8, f 9, f 10, f 11, f 12, f 13, f 14, f 15, f 16, f 17, f 18, f 19, f 20, f 21, f 22, f 23, f 24, f 25, f 26, f 27, f 28, f 29, f 30, f 31, f 32, f 33, f 34, f 35, f 36, f 37, f 38, f 39, f 40, f 41, f 42, f 43, f 44, f 45, f 46, f 47], defers := [] } W
    clear hK hd hold
    simp only [e34] at HK ⊢
    clear e34
    have HK := Aside.mk HK
    go_wp2
    exact HK.out _ _ (Below.refl _ _) rfl
  · -- 36 := convert 3 5 t35
    intro f W hW hold hd K hK
    have e35 : f 35 = (.int .i64 (v.size : Int)) := hd 35 rfl rfl
    have HK : ∀ v W', Below W.heap.size W W' → relV _ 36 v W' → K { tmps := #[f 0, f 1, f 2, f 3, f 4, f 5, f 6, f 7, f 8, f 9, f 10, f 11, f 12, f 13, f 14, f 15, f 16, f 17, f 18, f 19, f 20, f 21, f 22, f 23, f 24, f 25, f 26, f 27, f 28, f 29, f 30, f 31, f 32, f 33, f 34, f 35, v, f 37, f 38, f 39, f 40, f 41, f 42, f 43, f 44, f 45, f 46, f 47], defers := [] } W' := hK
    change wpList _ #[_] _ [_] { tmps := #[f 0, f 1, f 2, f 3, f 4, f 5, f 6, f 7, f 8, f 9, f 10, f 11, f 12, f 13, f 14, f 15, f 16, f 17, f 18, f 19, f 20, f 21, f 22, f 23, f 24, f 25, f 26, f 27, f 28, f 29, f 30, f 31, f 32, f 33, f 34, f 35, f 36, f 37, f 38, f 39, f 40, f 41, f 42, f 43, f 44, f 45, f 46, f 47], defers := [] } W
    clear hK hd hold
    simp only [e35] at HK ⊢
    clear e35
    have HK := Aside.mk HK
    go_wp2
    refine HK.out _ _ (Below.refl _ _) ?_; change Value.int _ _ = Value.int _ _; first | rfl | (congr 1; done) | (congr 1; omega)
  · -- 37 := buildSlice 51 3 [(0, t27), (1, t32), (2, t36)]
    intro f W hW hold hd K hK
    have e27 : f 27 = (.int .u8 (k.size : Int)) := hd 27 rfl rfl
    have e32 : f 32 = (.int .u8 0) := hd 32 rfl rfl
    have e36 : f 36 = (.int .u8 (v.size : Int)) := hd 36 rfl rfl
    have HK : ∀ v W', Below W.heap.size W W' → relV _ 37 v W' → K { tmps := #[f 0, f 1, f 2, f 3, f 4, f 5, f 6, f 7, f 8, f 9, f 10, f 11, f 12, f 13, f 14, f 15, f 16, f 17, f 18, f 19, f 20, f 21, f 22, f 23, f 24, f 25, f 26, f 27, f 28, f 29, f 30, f 31, f 32, f 33, f 34, f 35, f 36, v, f 38, f 39, f 40, f 41, f 42, f 43, f 44, f 45, f 46, f 47], defers := [] } W' := hK
    change wpList _ #[_] _ [_] { tmps := #[f 0, f 1, f 2, f 3, f 4, f 5, f 6, f 7, f 8, f 9, f 10, f 11, f 12, f 13, f 14, f 15, f 16, f 17, f 18, f 19, f 20, f 21, f 22, f 23, f 24, f 25, f 26, f 27, f 28, f 29, f 30, f 31, f 32, f 33, f 34, f 35, f 36, f 37, f 38, f 39, f 40, f 41, f 42, f 43, f 44, f 45, f 46, f 47], defers := [] } W
    clear hK hd hold
    simp only [e27, e32, e36] at HK ⊢
    clear e27 e32 e36
    have HK := Aside.mk HK
    go_wp2
    exact HK.out _ _ ((Below.refl _ _).alloc (Nat.le_refl _) _) ⟨_, rfl, heap_alloc_new _ _⟩
  · -- 38 := convert 51 9 t37
    intro f W hW hold hd K hK
    obtain ⟨b37, e37, r37⟩ : ∃ bb, f 37 = .slice (some ⟨bb, 0, none⟩) 3 3 ∧ W.heap[bb]? = some (.cells #[.int .u8 (k.size : Int), .int .u8 0, .int .u8 (v.size : Int)] 5 (0, 0)) := hd 37 rfl rfl
    have HK : ∀ v W', Below W.heap.size W W' → relV _ 38 v W' → K { tmps := #[f 0, f 1, f 2, f 3, f 4, f 5, f 6, f 7, f 8, f 9, f 10, f 11, f 12, f 13, f 14, f 15, f 16, f 17, f 18, f 19, f 20, f 21, f 22, f 23, f 24, f 25, f 26, f 27, f 28, f 29, f 30, f 31, f 32, f 33, f 34, f 35, f 36, f 37, v, f 39, f 40, f 41, f 42, f 43, f 44, f 45, f 46, f 47], defers := [] } W' := hK
    change wpList _ #[_] _ [_] { tmps := #[f 0, f 1, f 2, f 3, f 4, f 5, f 6, f 7, f 8, f 9, f 10, f 11, f 12, f 13, f 14, f 15, f 16, f 17, f 18, f 19, f 20, f 21, f 22, f 23, f 24, f 25, f 26, f 27, f 28, f 29, f 30, f 31, f 32, f 33, f 34, f 35, f 36, f 37, f 38, f 39, f 40, f 41, f 42, f 43, f 44, f 45, f 46, f 47], defers := [] } W
    clear hK hd hold
    simp only [e37] at HK ⊢
    clear e37
    have HK := Aside.mk HK
    have hcv := row_text (n := 3) (l := [UInt8.ofNat k.size, 0, UInt8.ofNat v.size]) rfl (by simp [bytesV, UInt8.toNat_ofNat']; omega) (by decide) r37
    go_wp2
    exact HK.out _ _ (Below.refl _ _) rfl
  · -- 39 := binOp add 9 t23 t38 9
    intro f W hW hold hd K hK
    have e23 : f 23 = (.string ((byteB 78 ++ byteB (flB g l)) ++ numsB [q])) := hd 23 rfl rfl
    have e38 : f 38 = (.string (sizesB k v)) := hd 38 rfl rfl
    have HK : ∀ v W', Below W.heap.size W W' → relV _ 39 v W' → K { tmps := #[f 0, f 1, f 2, f 3, f 4, f 5, f 6, f 7, f 8, f 9, f 10, f 11, f 12, f 13, f 14, f 15, f 16, f 17, f 18, f 19, f 20, f 21, f 22, f 23, f 24, f 25, f 26, f 27, f 28, f 29, f 30, f 31, f 32, f 33, f 34, f 35, f 36, f 37, f 38, v, f 40, f 41, f 42, f 43, f 44, f 45, f 46, f 47], defers := [] } W' := hK
    change wpList _ #[_] _ [_] { tmps := #[f 0, f 1, f 2, f 3, f 4, f 5, f 6, f 7, f 8, f 9, f 10, f 11, f 12, f 13, f 14, f 15, f 16, f 17, f 18, f 19, f 20, f 21, f 22, f 23, f 24, f 25, f 26, f 27, f 28, f 29, f 30, f 31, f 32, f 33, f 34, f 35, f 36, f 37, f 38, f 39, f 40, f 41, f 42, f 43, f 44, f 45, f 46, f 47], defers := [] } W
    clear hK hd hold
    simp only [e23, e38] at HK ⊢
    clear e23 e38
    have HK := Aside.mk HK
    have hz1 : (sizesB k v).size = 3 := rfl; have hz : ((byteB 78 ++ byteB (flB g l)) ++ numsB [q]).size = 10 := by rw [ByteArray.size_append, numsB_size]; rfl
    go_wp2
    exact HK.out _ _ (Below.refl _ _) rfl
  · -- 4 := assign t39
    intro f W hW hold hd K hK
    have e39 : f 39 = (.string (headB q g l k v)) := hd 39 rfl rfl
    have HK : ∀ v W', Below W.heap.size W W' → relV _ 4 v W' → K { tmps := #[f 0, f 1, f 2, f 3, v, f 5, f 6, f 7, f 8, f 9, f 10, f 11, f 12, f 13, f 14, f 15, f 16, f 17, f 18, f 19, f 20, f 21, f 22, f 23, f 24, f 25, f 26, f 27, f 28, f 29, f 30, f 31, f 32, f 33, f 34, f 35, f 36, f 37, f 38, f 39, f 40, f 41, f 42, f 43, f 44, f 45, f 46, f 47], defers := [] } W' := hK
    change wpList _ #[_] _ [_] { tmps := #[f 0, f 1, f 2, f 3, f 4, f 5, f 6, f 7, f 8, f 9, f 10, f 11, f 12, f 13, f 14, f 15, f 16, f 17, f 18, f 19, f 20, f 21, f 22, f 23, f 24, f 25, f 26, f 27, f 28, f 29, f 30, f 31, f 32, f 33, f 34, f 35, f 36, f 37, f 38, f 39, f 40, f 41, f 42, f 43, f 44, f 45, f 46, f 47], defers := [] } W
    clear hK hd hold
    simp only [e39] at HK ⊢
    clear e39
    have HK := Aside.mk HK
    go_wp2
    exact HK.out _ _ (Below.refl _ _) rfl
  · intro f W hW hold hd aa ha
    replace ha : aa = { tmps := #[f 0, f 1, f 2, f 3, f 4, f 5, f 6, f 7, f 8, f 9, f 10, f 11, f 12, f 13, f 14, f 15, f 16, f 17, f 18, f 19, f 20, f 21, f 22, f 23, f 24, f 25, f 26, f 27, f 28, f 29, f 30, f 31, f 32, f 33, f 34, f 35, f 36, f 37, f 38, f 39, f 40, f 41, f 42, f 43, f 44, f 45, f 46, f 47], defers := [] } := ha
    have e0 : f 0 = nodeV q g l k v := hold 0 rfl
    have e1 : f 1 = .pointer (some ⟨w.heap.size, 0, none⟩) := hold 1 rfl
    have e2 : f 2 = .string ⟨#[]⟩ := hold 2 rfl
    have e3 : f 3 = .bool false := hold 3 rfl
    have e4 : f 4 = (.string (headB q g l k v)) := hd 4 rfl
    have e8 : f 8 = (.pointer (some ⟨w.heap.size, 1, none⟩)) := hd 8 rfl
    have e9 : f 9 = (.bool g) := hd 9 rfl
    have e10 : f 10 = (.int .u8 (bitI g)) := hd 10 rfl
    have e11 : f 11 = (.pointer (some ⟨w.heap.size, 2, none⟩)) := hd 11 rfl
    have e12 : f 12 = (.bool l) := hd 12 rfl
    have e13 : f 13 = (.int .u8 (bitI l)) := hd 13 rfl
    have e14 : f 14 = (.int .u8 (2 * bitI l)) := hd 14 rfl
    have e15 : f 15 = (.int .u8 (bitI g + 2 * bitI l)) := hd 15 rfl
    have e17 : f 17 = (.string (byteB (flB g l))) := hd 17 rfl
    have e18 : f 18 = (.string (byteB 78 ++ byteB (flB g l))) := hd 18 rfl
    have e19 : f 19 = (.pointer (some ⟨w.heap.size, 0, none⟩)) := hd 19 rfl
    have e20 : f 20 = (.int .i64 q) := hd 20 rfl
    have e22 : f 22 = (.string (numsB [q])) := hd 22 rfl
    have e23 : f 23 = (.string ((byteB 78 ++ byteB (flB g l)) ++ numsB [q])) := hd 23 rfl
    have e24 : f 24 = (.pointer (some ⟨w.heap.size, 3, none⟩)) := hd 24 rfl
    have e25 : f 25 = (.string k) := hd 25 rfl
    have e26 : f 26 = (.int .i64 (k.size : Int)) := hd 26 rfl
    have e27 : f 27 = (.int .u8 (k.size : Int)) := hd 27 rfl
    have e28 : f 28 = (.pointer (some ⟨w.heap.size, 4, none⟩)) := hd 28 rfl
    have e29 : f 29 = (.string v) := hd 29 rfl
    have e30 : f 30 = (.int .i64 (v.size : Int)) := hd 30 rfl
    have e31 : f 31 = (.int .i64 0) := hd 31 rfl
    have e32 : f 32 = (.int .u8 0) := hd 32 rfl
    have e33 : f 33 = (.pointer (some ⟨w.heap.size, 4, none⟩)) := hd 33 rfl
    have e34 : f 34 = (.string v) := hd 34 rfl
    have e35 : f 35 = (.int .i64 (v.size : Int)) := hd 35 rfl
    have e36 : f 36 = (.int .u8 (v.size : Int)) := hd 36 rfl
    have e38 : f 38 = (.string (sizesB k v)) := hd 38 rfl
    have e39 : f 39 = (.string (headB q g l k v)) := hd 39 rfl
    simp only [e0, e1, e2, e3, e4, e8, e9, e10, e11, e12, e13, e14, e15, e17, e18, e19, e20, e22, e23, e24, e25, e26, e27, e28, e29, e30, e31, e32, e33, e34, e35, e36, e38, e39] at ha
    subst ha
    clear hold hd e0 e1 e2 e3 e4 e8 e9 e10 e11 e12 e13 e14 e15 e17 e18 e19 e20 e22 e23 e24 e25 e26 e27 e28 e29 e30 e31 e32 e33 e34 e35 e36 e38 e39
    have hz := headB_size q g l k v
    have hn2 := Aside.mk (HN.out.below (H0.out.2.2.trans (hW.mono (Nat.le_of_lt H0.out.2.1))))
    have h3 := (hW.block _ H0.out.2.1).trans H0.out.1
    have c3 := cell_of_row W w.heap.size 3 _ _ _ h3
    have c4 := cell_of_row W w.heap.size 4 _ _ _ h3
    clear h3
    generalize hgen : headB q g l k v = hh at *
    have HH := Aside.mk hgen
    clear hgen
    go_wp2_with (go_at_call 16; refine (crc_seal _ W (by simp only [ByteArray.size_append]; omega) hn2.out).mono ?_; rintro e w3 ⟨rfl, hb3⟩)
    go_ret2
    obtain ⟨hgen⟩ := HH
    subst hgen
    exact ⟨rfl, (H0.out.2.2.trans (hW.mono (Nat.le_of_lt H0.out.2.1))).trans (hb3.mono (Nat.le_trans (Nat.le_of_lt H0.out.2.1) hW.size))⟩
end Go.Proofs.YtdjkcmjhknabnaaDoor
