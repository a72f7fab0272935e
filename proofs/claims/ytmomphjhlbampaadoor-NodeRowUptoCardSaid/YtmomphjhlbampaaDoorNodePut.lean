/-
  Inodes, names and labels as texts.
-/
import Derived.Test.YtmomphjhlbampaaDoorNodeMade
import Derived.Test.YtmomphjhlbampaaDoorRel
namespace Go.Proofs.YtmomphjhlbampaaDoor
open Go.RowKit

/-- One byte's text. -/
abbrev byteB (x : UInt8) : ByteArray := ⟨#[x]⟩
abbrev flagB (b : Bool) : UInt8 := if b then 1 else 0
theorem flag_nat (b : Bool) : ((flagB b).toNat : Int) = bitI b := by cases b <;> rfl
theorem row_text {W : World} {g : Nat} {cs : Array Value} {l : List UInt8} {n : Nat} (hn : l.length = n) (hc : cs.toList = bytesV l) (hm : n ≤ maxLen) (hw : W.heap[g]? = some (.cells cs 5 (0, 0))) :
    (convert 51 9 (.slice (some ⟨g, 0, none⟩) n n)).run Tryd.prog W = .ok (.string ⟨l.toArray⟩) W := by
  have hs : cs.size = n := by rw [← Array.length_toList, hc, bytesV_length, hn]
  have h : Row W 0 5 1 (.slice (some ⟨g, 0, none⟩) n n) n (bytesV l) := ⟨by simp [bytesV_length, hn], .inr ⟨_, 0, n, _, _, rfl, Nat.zero_le _, hw, Nat.le_refl _, hm, by omega, fun i _ => by simp only []; omega, by rw [List.drop_zero, hc, List.take_of_length_le (by simp [bytesV, hn])]⟩⟩
  exact h.toString Tryd.underlying51 Tryd.underlying5 Tryd.underlying9
theorem rd_ints {w : World} {g : Nat} {cs : Array Value} {l : List Int} {t : TypeId} {n : Nat} (hl : l.length = n) (hc : cs.toList = intsV l) (h : w.heap[g]? = some (.cells cs t (0, 0))) : Rd w (some ⟨g, 0, none⟩) n (fun i => .int .i64 (l.getD i 0)) := by
  intro k hk
  have hg : g < w.heap.size := by
    rcases Nat.lt_or_ge g w.heap.size with h1 | h1
    · exact h1
    · rw [Array.getElem?_eq_none h1] at h; cases h
  refine ⟨_, 0, rfl, hg, ?_⟩
  have hk2 : cs[k]? = some (.int .i64 (l.getD k 0)) := by
    rw [← Array.getElem?_toList, hc]
    simp [intsV, List.getD, show k < l.length by omega]
  have := cell_of_row w g k cs t (0, 0) h
  rw [Nat.zero_add]
  rw [this, hk2]

theorem numsB_size (l : List Int) : (numsB l).size = 8 * l.length := by rw [← data_len]; exact numsL_length l

def inodeB (d : Bool) (a b : Int) : ByteArray := byteB (flagB d) ++ numsB [a, b]
set_option maxHeartbeats 2000000 in
theorem put_inode (d : Bool) (a b : Int) (w : World) :
    Calls Tryd.prog 20 #[.agg #[.bool d, .int .i64 a, .int .i64 b]] w fun e w' => e = .returned (.string (inodeB d a b)) ∧ Below w.heap.size w w' := by
  go_enter Tryd.func20, Tryd.ntmps20
  go_upto_region 1 with fail
  have h0 : (w.alloc (.cells #[.bool d, .int .i64 a, .int .i64 b] 55)).heap[w.heap.size]? = some (.cells #[.bool d, .int .i64 a, .int .i64 b] 55 (0, 0)) := heap_alloc_new _ _
  have hlt : w.heap.size < (w.alloc (.cells #[.bool d, .int .i64 a, .int .i64 b] 55)).heap.size := by simp
  have hb0 : Below w.heap.size w (w.alloc (.cells #[.bool d, .int .i64 a, .int .i64 b] 55)) := (Below.refl _ _).alloc (Nat.le_refl _) _
  generalize w.alloc (.cells #[.bool d, .int .i64 a, .int .i64 b] 55) = w0 at *
  have H0 := Aside.mk (And.intro h0 (And.intro hlt hb0))
  clear h0 hlt hb0
  refine wp_region_rel (by kernel_rfl) (by kernel_rfl) (rel_small (by kernel_rfl)) (relV [(2, .val (.string (inodeB d a b))), (3, .val (.pointer (some ⟨w.heap.size, 0, none⟩))), (4, .val (.bool d)), (5, .val (.int .u8 (bitI d))), (6, .row #[.int .u8 (bitI d)] 5 1), (7, .val (.string (byteB (flagB d)))), (8, .val (.pointer (some ⟨w.heap.size, 1, none⟩))), (9, .val (.int .i64 a)), (10, .val (.pointer (some ⟨w.heap.size, 2, none⟩))), (11, .val (.int .i64 b)), (12, .row #[.int .i64 a, .int .i64 b] 3 2), (13, .val (.string (numsB [a, b]))), (14, .val (.string (inodeB d a b)))]) (relV_stable _) ⟨?_, ?_, ?_, ?_, ?_, ?_, ?_, ?_, ?_, ?_, ?_, ?_, ?_, trivial⟩ ?_
  · -- 3 := fieldAddr 55 t1 0
    intro f W hW hold hd K hK
    have e1 : f 1 = .pointer (some ⟨w.heap.size, 0, none⟩) := hold 1 rfl
    have HK : ∀ v W', Below W.heap.size W W' → relV _ 3 v W' → K { tmps := #[f 0, f 1, f 2, v, f 4, f 5, f 6, f 7, f 8, f 9, f 10, f 11, f 12, f 13, f 14], defers := [] } W' := hK
    change wpList _ #[_] _ [_] { tmps := #[f 0, f 1, f 2, f 3, f 4, f 5, f 6, f 7, f 8, f 9, f 10, f 11, f 12, f 13, f 14], defers := [] } W
    clear hK hd hold
    simp only [e1] at HK ⊢
    clear e1
    have HK := Aside.mk HK
    go_wp2
    exact HK.out _ _ (Below.refl _ _) rfl
  · -- 4 := load 4 t3
    intro f W hW hold hd K hK
    have e3 : f 3 = (.pointer (some ⟨w.heap.size, 0, none⟩)) := hd 3 rfl rfl
    have HK : ∀ v W', Below W.heap.size W W' → relV _ 4 v W' → K { tmps := #[f 0, f 1, f 2, f 3, v, f 5, f 6, f 7, f 8, f 9, f 10, f 11, f 12, f 13, f 14], defers := [] } W' := hK
    change wpList _ #[_] _ [_] { tmps := #[f 0, f 1, f 2, f 3, f 4, f 5, f 6, f 7, f 8, f 9, f 10, f 11, f 12, f 13, f 14], defers := [] } W
    clear hK hd hold
    simp only [e3] at HK ⊢
    clear e3
    have HK := Aside.mk HK
    have hh := (hW.block _ H0.out.2.1).trans H0.out.1; have hcell := cell_of_row W w.heap.size 0 _ _ _ hh; clear hh
    go_wp2
    exact HK.out _ _ (Below.refl _ _) rfl
  · -- 5 := CALL f26 chert/node.bit [t4] : [4]
    intro f W hW hold hd K hK
    have e4 : f 4 = (.bool d) := hd 4 rfl rfl
    have HK : ∀ v W', Below W.heap.size W W' → relV _ 5 v W' → K { tmps := #[f 0, f 1, f 2, f 3, f 4, v, f 6, f 7, f 8, f 9, f 10, f 11, f 12, f 13, f 14], defers := [] } W' := hK
    change wpList _ #[_] _ [_] { tmps := #[f 0, f 1, f 2, f 3, f 4, f 5, f 6, f 7, f 8, f 9, f 10, f 11, f 12, f 13, f 14], defers := [] } W
    clear hK hd hold
    simp only [e4] at HK ⊢
    clear e4
    have HK := Aside.mk HK
    go_wp2_with (go_at_call 26; refine (node_bit d W).mono ?_; rintro e w1 ⟨rfl, rfl⟩)
    exact HK.out _ _ (Below.refl _ _) rfl
  · -- 6 := buildSlice 51 1 [(0, t5)]
    intro f W hW hold hd K hK
    have e5 : f 5 = (.int .u8 (bitI d)) := hd 5 rfl rfl
    have HK : ∀ v W', Below W.heap.size W W' → relV _ 6 v W' → K { tmps := #[f 0, f 1, f 2, f 3, f 4, f 5, v, f 7, f 8, f 9, f 10, f 11, f 12, f 13, f 14], defers := [] } W' := hK
    change wpList _ #[_] _ [_] { tmps := #[f 0, f 1, f 2, f 3, f 4, f 5, f 6, f 7, f 8, f 9, f 10, f 11, f 12, f 13, f 14], defers := [] } W
    clear hK hd hold
    simp only [e5] at HK ⊢
    clear e5
    have HK := Aside.mk HK
    go_wp2
    exact HK.out _ _ ((Below.refl _ _).alloc (Nat.le_refl _) _) ⟨_, rfl, heap_alloc_new _ _⟩
  · -- 7 := convert 51 9 t6
    intro f W hW hold hd K hK
    obtain ⟨b6, e6, r6⟩ : ∃ bb, f 6 = .slice (some ⟨bb, 0, none⟩) 1 1 ∧ W.heap[bb]? = some (.cells #[.int .u8 (bitI d)] 5 (0, 0)) := hd 6 rfl rfl
    have HK : ∀ v W', Below W.heap.size W W' → relV _ 7 v W' → K { tmps := #[f 0, f 1, f 2, f 3, f 4, f 5, f 6, v, f 8, f 9, f 10, f 11, f 12, f 13, f 14], defers := [] } W' := hK
    change wpList _ #[_] _ [_] { tmps := #[f 0, f 1, f 2, f 3, f 4, f 5, f 6, f 7, f 8, f 9, f 10, f 11, f 12, f 13, f 14], defers := [] } W
    clear hK hd hold
    simp only [e6] at HK ⊢
    clear e6
    have HK := Aside.mk HK
    have hcv := row_text (n := 1) (l := [flagB d]) rfl (by simp [bytesV]; cases d <;> rfl) (by decide) r6
    go_wp2
    exact HK.out _ _ (Below.refl _ _) rfl
  · -- 8 := fieldAddr 55 t1 1
    intro f W hW hold hd K hK
    have e1 : f 1 = .pointer (some ⟨w.heap.size, 0, none⟩) := hold 1 rfl
    have HK : ∀ v W', Below W.heap.size W W' → relV _ 8 v W' → K { tmps := #[f 0, f 1, f 2, f 3, f 4, f 5, f 6, f 7, v, f 9, f 10, f 11, f 12, f 13, f 14], defers := [] } W' := hK
    change wpList _ #[_] _ [_] { tmps := #[f 0, f 1, f 2, f 3, f 4, f 5, f 6, f 7, f 8, f 9, f 10, f 11, f 12, f 13, f 14], defers := [] } W
    clear hK hd hold
    simp only [e1] at HK ⊢
    clear e1
    have HK := Aside.mk HK
    go_wp2
    exact HK.out _ _ (Below.refl _ _) rfl
  · -- 9 := load 3 t8
    intro f W hW hold hd K hK
    have e8 : f 8 = (.pointer (some ⟨w.heap.size, 1, none⟩)) := hd 8 rfl rfl
    have HK : ∀ v W', Below W.heap.size W W' → relV _ 9 v W' → K { tmps := #[f 0, f 1, f 2, f 3, f 4, f 5, f 6, f 7, f 8, v, f 10, f 11, f 12, f 13, f 14], defers := [] } W' := hK
    change wpList _ #[_] _ [_] { tmps := #[f 0, f 1, f 2, f 3, f 4, f 5, f 6, f 7, f 8, f 9, f 10, f 11, f 12, f 13, f 14], defers := [] } W
    clear hK hd hold
    simp only [e8] at HK ⊢
    clear e8
    have HK := Aside.mk HK
    have hh := (hW.block _ H0.out.2.1).trans H0.out.1; have hcell := cell_of_row W w.heap.size 1 _ _ _ hh; clear hh
    go_wp2
    exact HK.out _ _ (Below.refl _ _) rfl
  · -- 10 := fieldAddr 55 t1 2
    intro f W hW hold hd K hK
    have e1 : f 1 = .pointer (some ⟨w.heap.size, 0, none⟩) := hold 1 rfl
    have HK : ∀ v W', Below W.heap.size W W' → relV _ 10 v W' → K { tmps := #[f 0, f 1, f 2, f 3, f 4, f 5, f 6, f 7, f 8, f 9, v, f 11, f 12, f 13, f 14], defers := [] } W' := hK
    change wpList _ #[_] _ [_] { tmps := #[f 0, f 1, f 2, f 3, f 4, f 5, f 6, f 7, f 8, f 9, f 10, f 11, f 12, f 13, f 14], defers := [] } W
    clear hK hd hold
    simp only [e1] at HK ⊢
    clear e1
    have HK := Aside.mk HK
    go_wp2
    exact HK.out _ _ (Below.refl _ _) rfl
  · -- 11 := load 3 t10
    intro f W hW hold hd K hK
    have e10 : f 10 = (.pointer (some ⟨w.heap.size, 2, none⟩)) := hd 10 rfl rfl
    have HK : ∀ v W', Below W.heap.size W W' → relV _ 11 v W' → K { tmps := #[f 0, f 1, f 2, f 3, f 4, f 5, f 6, f 7, f 8, f 9, f 10, v, f 12, f 13, f 14], defers := [] } W' := hK
    change wpList _ #[_] _ [_] { tmps := #[f 0, f 1, f 2, f 3, f 4, f 5, f 6, f 7, f 8, f 9, f 10, f 11, f 12, f 13, f 14], defers := [] } W
    clear hK hd hold
    simp only [e10] at HK ⊢
    clear e10
    have HK := Aside.mk HK
    have hh := (hW.block _ H0.out.2.1).trans H0.out.1; have hcell := cell_of_row W w.heap.size 2 _ _ _ hh; clear hh
    go_wp2
    exact HK.out _ _ (Below.refl _ _) rfl
  · -- 12 := buildSlice 72 2 [(0, t9), (1, t11)]
    intro f W hW hold hd K hK
    have e9 : f 9 = (.int .i64 a) := hd 9 rfl rfl
    have e11 : f 11 = (.int .i64 b) := hd 11 rfl rfl
    have HK : ∀ v W', Below W.heap.size W W' → relV _ 12 v W' → K { tmps := #[f 0, f 1, f 2, f 3, f 4, f 5, f 6, f 7, f 8, f 9, f 10, f 11, v, f 13, f 14], defers := [] } W' := hK
    change wpList _ #[_] _ [_] { tmps := #[f 0, f 1, f 2, f 3, f 4, f 5, f 6, f 7, f 8, f 9, f 10, f 11, f 12, f 13, f 14], defers := [] } W
    clear hK hd hold
    simp only [e9, e11] at HK ⊢
    clear e9 e11
    have HK := Aside.mk HK
    go_wp2
    exact HK.out _ _ ((Below.refl _ _).alloc (Nat.le_refl _) _) ⟨_, rfl, heap_alloc_new _ _⟩
  · -- 13 := CALL f27 chert/node.numbers [t12] : [72]
    intro f W hW hold hd K hK
    obtain ⟨b12, e12, r12⟩ : ∃ bb, f 12 = .slice (some ⟨bb, 0, none⟩) 2 2 ∧ W.heap[bb]? = some (.cells #[.int .i64 a, .int .i64 b] 3 (0, 0)) := hd 12 rfl rfl
    have HK : ∀ v W', Below W.heap.size W W' → relV _ 13 v W' → K { tmps := #[f 0, f 1, f 2, f 3, f 4, f 5, f 6, f 7, f 8, f 9, f 10, f 11, f 12, v, f 14], defers := [] } W' := hK
    change wpList _ #[_] _ [_] { tmps := #[f 0, f 1, f 2, f 3, f 4, f 5, f 6, f 7, f 8, f 9, f 10, f 11, f 12, f 13, f 14], defers := [] } W
    clear hK hd hold
    simp only [e12] at HK ⊢
    clear e12
    have HK := Aside.mk HK
    go_wp2_with (go_at_call 27; refine (node_numbers (some ⟨b12, 0, none⟩) 2 2 [a, b] W rfl (by omega) (rd_ints rfl rfl r12)).mono ?_; rintro e w1 ⟨rfl, hb1⟩)
    exact HK.out _ _ hb1 rfl
  · -- 14 := binOp add 9 t7 t13 9
    intro f W hW hold hd K hK
    have e7 : f 7 = (.string (byteB (flagB d))) := hd 7 rfl rfl
    have e13 : f 13 = (.string (numsB [a, b])) := hd 13 rfl rfl
    have HK : ∀ v W', Below W.heap.size W W' → relV _ 14 v W' → K { tmps := #[f 0, f 1, f 2, f 3, f 4, f 5, f 6, f 7, f 8, f 9, f 10, f 11, f 12, f 13, v], defers := [] } W' := hK
    change wpList _ #[_] _ [_] { tmps := #[f 0, f 1, f 2, f 3, f 4, f 5, f 6, f 7, f 8, f 9, f 10, f 11, f 12, f 13, f 14], defers := [] } W
    clear hK hd hold
    simp only [e7, e13] at HK ⊢
    clear e7 e13
    have HK := Aside.mk HK
    have hz := numsB_size [a, b]; have hz1 : (byteB (flagB d)).size = 1 := rfl; simp only [List.length_cons, List.length_nil] at hz
    go_wp2
    exact HK.out _ _ (Below.refl _ _) rfl
  · -- 2 := assign t14
    intro f W hW hold hd K hK
    have e14 : f 14 = (.string (inodeB d a b)) := hd 14 rfl rfl
    have HK : ∀ v W', Below W.heap.size W W' → relV _ 2 v W' → K { tmps := #[f 0, f 1, v, f 3, f 4, f 5, f 6, f 7, f 8, f 9, f 10, f 11, f 12, f 13, f 14], defers := [] } W' := hK
    change wpList _ #[_] _ [_] { tmps := #[f 0, f 1, f 2, f 3, f 4, f 5, f 6, f 7, f 8, f 9, f 10, f 11, f 12, f 13, f 14], defers := [] } W
    clear hK hd hold
    simp only [e14] at HK ⊢
    clear e14
    have HK := Aside.mk HK
    go_wp2
    exact HK.out _ _ (Below.refl _ _) rfl
  · intro f W hW hold hd aa ha
    replace ha : aa = { tmps := #[f 0, f 1, f 2, f 3, f 4, f 5, f 6, f 7, f 8, f 9, f 10, f 11, f 12, f 13, f 14], defers := [] } := ha
    have e1 : f 1 = .pointer (some ⟨w.heap.size, 0, none⟩) := hold 1 rfl
    have e2 : f 2 = (.string (inodeB d a b)) := hd 2 rfl
    have e3 : f 3 = (.pointer (some ⟨w.heap.size, 0, none⟩)) := hd 3 rfl
    have e4 : f 4 = (.bool d) := hd 4 rfl
    have e5 : f 5 = (.int .u8 (bitI d)) := hd 5 rfl
    have e7 : f 7 = (.string (byteB (flagB d))) := hd 7 rfl
    have e8 : f 8 = (.pointer (some ⟨w.heap.size, 1, none⟩)) := hd 8 rfl
    have e9 : f 9 = (.int .i64 a) := hd 9 rfl
    have e10 : f 10 = (.pointer (some ⟨w.heap.size, 2, none⟩)) := hd 10 rfl
    have e11 : f 11 = (.int .i64 b) := hd 11 rfl
    have e13 : f 13 = (.string (numsB [a, b])) := hd 13 rfl
    have e14 : f 14 = (.string (inodeB d a b)) := hd 14 rfl
    simp only [e1, e2, e3, e4, e5, e7, e8, e9, e10, e11, e13, e14] at ha
    subst ha
    clear hold hd e1 e2 e3 e4 e5 e7 e8 e9 e10 e11 e13 e14
    go_wp2
    go_ret
    exact ⟨rfl, H0.out.2.2.trans (hW.mono (Nat.le_of_lt H0.out.2.1))⟩
end Go.Proofs.YtmomphjhlbampaaDoor
