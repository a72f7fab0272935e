/-
  Plain data as the blocks of both.
-/
import Derived.Test.YtaganococolodaaWearRefScrub
import Derived.Test.YtaganococolodaaRelSeq
namespace Go.Proofs.Ytaganococolodaa
open Go.RowKit Go.Sort

def Blk.cells (b : Blk) : Array Value := #[.int .i64 b.er, .int .i64 b.rd, .bool b.us, .bool b.wo]
/-- The cells of the first k blocks. -/
def kV (f : Nat → Blk) : Nat → List Value
  | 0 => []
  | k + 1 => kV f k ++ (f k).cells.toList
theorem kV_len (f : Nat → Blk) : ∀ k, (kV f k).length = k * 4
  | 0 => rfl
  | k + 1 => by simp [kV, kV_len f k, Blk.cells]; omega
theorem kV_at (f : Nat → Blk) {i j : Nat} (hj : j < 4) : ∀ {k : Nat}, i < k → (kV f k)[i * 4 + j]? = (f i).cells.toList[j]?
  | k + 1, h => by
    have hl := kV_len f k
    simp only [kV]
    by_cases e : i = k
    · subst e
      rw [List.getElem?_append_right (by omega), hl]
      congr 1; omega
    · rw [List.getElem?_append_left (by omega)]
      exact kV_at f hj (show i < k by omega)
theorem brd_of_row {W : World} {B : Nat} {T : TypeId} {A : Option Addr} {n c : Nat} {f : Nat → Blk} (h : Row W B T 4 (.slice A n c) n (kV f n)) : BRd W A n f := by
  intro k hk
  obtain ⟨g, off, cap, e, _, hlt, _⟩ := h.form (by omega)
  injection e with e e1 e2
  subst e; subst e2
  have hc : ∀ j, j < 4 → W.cell? ⟨g, off + k * 4 + j, none⟩ = (f k).cells.toList[j]? := fun j hj => by
    have hk4 := kV_at f hj hk
    have hcl : (f k).cells.toList.length = 4 := rfl
    rw [List.getElem?_eq_getElem (show j < (f k).cells.toList.length by omega)] at hk4 ⊢
    have := h.cells rfl (k * 4 + j) _ hk4
    rwa [add_plain, ← Nat.add_assoc] at this
  exact ⟨g, off, rfl, hlt, hc 0 (by omega), hc 1 (by omega), hc 2 (by omega), hc 3 (by omega)⟩
theorem infoBlk2 : (Try.prog.info? 42).map (fun i => (i.zero, i.size, i.bytes)) = some (some (.agg #[.int .i64 0, .int .i64 0, .bool false, .bool false]), 4, 24) := by kernel_rfl
/-- Rows of two types lie apart. -/
theorem rows_apart {W : World} {B B' : Nat} {T T' : TypeId} {v v' : Value} {n n' s s' : Nat} {xs xs' : List Value} (h : Row W B T s v n xs) (h' : Row W B' T' s' v' n' xs') (hT : T ≠ T') : v'.ownBlock = none ∨ v'.ownBlock ≠ v.ownBlock := by
  cases hv' : v'.ownBlock with
  | none => exact .inl rfl
  | some b =>
    right
    intro e
    obtain ⟨_, _, cur, fr, h1⟩ := h'.blk b hv'
    obtain ⟨_, _, cur2, fr2, h2⟩ := h.blk b e.symm
    rw [h1] at h2
    injection h2 with h2
    injection h2 with _ h2 _
    exact hT h2.symm
theorem src_lit {W : World} {b : Nat} {cs : Array Value} {e : TypeId} {size : Nat} (h : W.heap[b]? = some (.cells cs e (0, 0))) (hs : cs.toList.length = 1 * size) : Src W size (.slice (some ⟨b, 0, none⟩) 1 1) 1 cs.toList :=
  ⟨hs, .inr ⟨_, _, rfl, fun j u hu => by rw [add_plain, cell_of_row _ b (0 + j) _ _ _ h]; simpa using hu⟩⟩
structure BothAt (w : World) (f : Nat → Blk) (v4 v5 : Value) (k : Nat) (wr : World) : Prop where
  bel : Below w.heap.size w wr
  r4 : Row wr w.heap.size 27 4 v4 k (kV f k)
  r5 : Row wr w.heap.size 42 4 v5 k (kV f k)
set_option maxRecDepth 20000 in
set_option maxHeartbeats 4000000 in
theorem law_both (A : Option Addr) (n c : Nat) (f0 : Nat → Blk) (w : World) (hn : n ≤ 5864062014805) (hc : n ≤ c) (hcm : c ≤ 9223372036854775807) (hR : BRd w A n f0) :
    Calls Try.prog 8 #[.slice A n c] w fun e w' => ∃ v4 v5, e = .returned (.tuple #[v4, v5]) ∧ BothAt w f0 v4 v5 n w' := by
  have HR := Aside.mk hR
  clear hR
  go_enter Try.func8, Try.ntmps8
  go_wp2
  go_loopw [4, 5, 6] (fun s4 s5 s6 wr => ∃ k : Nat, k ≤ n ∧ s6 = .int .i64 k ∧ Aside (BothAt w f0 s4 s5 k wr)) (fun _ _ s6 _ => n - (intOf s6).toNat)
  case atStart => exact ⟨0, Nat.zero_le _, rfl, ⟨Below.refl _ _, Row.nil _ _ _ _, Row.nil _ _ _ _⟩⟩
  case round =>
    obtain ⟨k, hk, rfl, HB⟩ := hrel
    by_cases hlt : k < n
    · obtain ⟨g, off, rfl, hcell⟩ := HR.out.cells hlt
      have hk1 : IntKind.i64.wrap ((k : Int) + 1) = (k : Int) + 1 := by rw [IntKind.wrap_i64]; omega
      obtain ⟨c0, c1, c2, c3⟩ := hcell w.heap.size wr (Nat.le_refl _) HB.out.bel
      have hkn : (k : Int) < (n : Int) := by omega
      have hk0 : (0 : Int) ≤ (k : Int) := by omega
      have HCE : Aside (∀ wz, Below w.heap.size w wz → wz.cell? ⟨g, off + k * 4, none⟩ = some (.int .i64 (f0 k).er) ∧ wz.cell? ⟨g, off + k * 4 + 1, none⟩ = some (.int .i64 (f0 k).rd) ∧ wz.cell? ⟨g, off + k * 4 + 2, none⟩ = some (.bool (f0 k).us) ∧ wz.cell? ⟨g, off + k * 4 + 3, none⟩ = some (.bool (f0 k).wo)) := ⟨fun wz hz => hcell w.heap.size wz (Nat.le_refl _) hz⟩
      have hcl : (f0 k).cells = #[.int .i64 (f0 k).er, .int .i64 (f0 k).rd, .bool (f0 k).us, .bool (f0 k).wo] := rfl
      have HK : Aside (kV f0 (k + 1) = kV f0 k ++ (#[.int .i64 (f0 k).er, .int .i64 (f0 k).rd, .bool (f0 k).us, .bool (f0 k).wo] : Array Value).toList) := ⟨rfl⟩
      clear hcell hcl
      generalize (f0 k).er = xe at *
      generalize (f0 k).rd = xr at *
      generalize (f0 k).us = xu at *
      generalize (f0 k).wo = xw at *
      go_upto_region 6 with fail
      refine wp_region_seq 23 (by kernel_rfl) (by kernel_rfl) (rel_small (by kernel_rfl)) (tailV [(13, .val (u4)), (14, .val (.slice (some ⟨g, off, none⟩) n c)), (15, .val (.int .i64 k)), (16, .val (.pointer (some ⟨g, off + k * 4, none⟩))), (17, .val (.pointer (some ⟨g, off + k * 4, none⟩))), (18, .val (.int .i64 xe)), (19, .val (.slice (some ⟨g, off, none⟩) n c)), (20, .val (.int .i64 k)), (21, .val (.pointer (some ⟨g, off + k * 4, none⟩))), (22, .val (.pointer (some ⟨g, off + k * 4 + 1, none⟩))), (23, .val (.int .i64 xr)), (24, .val (.slice (some ⟨g, off, none⟩) n c)), (25, .val (.int .i64 k)), (26, .val (.pointer (some ⟨g, off + k * 4, none⟩))), (27, .val (.pointer (some ⟨g, off + k * 4 + 2, none⟩))), (28, .val (.bool xu)), (29, .val (.slice (some ⟨g, off, none⟩) n c)), (30, .val (.int .i64 k)), (31, .val (.pointer (some ⟨g, off + k * 4, none⟩))), (32, .val (.pointer (some ⟨g, off + k * 4 + 3, none⟩))), (33, .val (.bool xw)), (34, .val (.agg #[.int .i64 xe, .int .i64 xr, .bool xu, .bool xw])), (35, .row #[.int .i64 xe, .int .i64 xr, .bool xu, .bool xw] 27 1)]) (tailV_stable _) ⟨?_, ?_, ?_, ?_, ?_, ?_, ?_, ?_, ?_, ?_, ?_, ?_, ?_, ?_, ?_, ?_, ?_, ?_, ?_, ?_, ?_, ?_, ?_, trivial⟩ ?_
      · -- 13 := move t4
        intro f W hW hold hd K hK
        refine .inl ⟨wanted_free rfl _, ?_⟩
        dsimp only [bare]
        have ze4 : f 4 = u4 := hold 4 rfl
        have HK : ∀ v W', Below W.heap.size W W' → tailV _ 13 v W' → K { tmps := #[f 0, f 1, f 2, f 3, f 4, f 5, f 6, f 7, f 8, f 9, f 10, f 11, f 12, v, f 14, f 15, f 16, f 17, f 18, f 19, f 20, f 21, f 22, f 23, f 24, f 25, f 26, f 27, f 28, f 29, f 30, f 31, f 32, f 33, f 34, f 35, f 36, f 37, f 38, f 39, f 40, f 41, f 42, f 43, f 44, f 45, f 46, f 47, f 48, f 49, f 50, f 51, f 52, f 53, f 54, f 55, f 56, f 57, f 58, f 59, f 60, f 61, f 62], defers := [] } W' := hK
        change wpList _ #[_] _ [_] { tmps := #[f 0, f 1, f 2, f 3, f 4, f 5, f 6, f 7, f 8, f 9, f 10, f 11, f 12, f 13, f 14, f 15, f 16, f 17, f 18, f 19, f 20, f 21, f 22, f 23, f 24, f 25, f 26, f 27, f 28, f 29, f 30, f 31, f 32, f 33, f 34, f 35, f 36, f 37, f 38, f 39, f 40, f 41, f 42, f 43, f 44, f 45, f 46, f 47, f 48, f 49, f 50, f 51, f 52, f 53, f 54, f 55, f 56, f 57, f 58, f 59, f 60, f 61, f 62], defers := [] } W
        clear hK hd hold
        simp only [ze4] at HK ⊢
        clear ze4
        have HK := Aside.mk HK
        go_wp2
        exact HK.out _ _ (Below.refl _ _) rfl
      · -- 14 := move t0
        intro f W hW hold hd K hK
        refine .inl ⟨wanted_free rfl _, ?_⟩
        dsimp only [bare]
        have ze0 : f 0 = .slice (some ⟨g, off, none⟩) n c := hold 0 rfl
        have HK : ∀ v W', Below W.heap.size W W' → tailV _ 14 v W' → K { tmps := #[f 0, f 1, f 2, f 3, f 4, f 5, f 6, f 7, f 8, f 9, f 10, f 11, f 12, f 13, v, f 15, f 16, f 17, f 18, f 19, f 20, f 21, f 22, f 23, f 24, f 25, f 26, f 27, f 28, f 29, f 30, f 31, f 32, f 33, f 34, f 35, f 36, f 37, f 38, f 39, f 40, f 41, f 42, f 43, f 44, f 45, f 46, f 47, f 48, f 49, f 50, f 51, f 52, f 53, f 54, f 55, f 56, f 57, f 58, f 59, f 60, f 61, f 62], defers := [] } W' := hK
        change wpList _ #[_] _ [_] { tmps := #[f 0, f 1, f 2, f 3, f 4, f 5, f 6, f 7, f 8, f 9, f 10, f 11, f 12, f 13, f 14, f 15, f 16, f 17, f 18, f 19, f 20, f 21, f 22, f 23, f 24, f 25, f 26, f 27, f 28, f 29, f 30, f 31, f 32, f 33, f 34, f 35, f 36, f 37, f 38, f 39, f 40, f 41, f 42, f 43, f 44, f 45, f 46, f 47, f 48, f 49, f 50, f 51, f 52, f 53, f 54, f 55, f 56, f 57, f 58, f 59, f 60, f 61, f 62], defers := [] } W
        clear hK hd hold
        simp only [ze0] at HK ⊢
        clear ze0
        have HK := Aside.mk HK
        go_wp2
        exact HK.out _ _ (Below.refl _ _) rfl
      · -- 15 := move t6
        intro f W hW hold hd K hK
        refine .inl ⟨wanted_free rfl _, ?_⟩
        dsimp only [bare]
        have ze6 : f 6 = .int .i64 k := hold 6 rfl
        have HK : ∀ v W', Below W.heap.size W W' → tailV _ 15 v W' → K { tmps := #[f 0, f 1, f 2, f 3, f 4, f 5, f 6, f 7, f 8, f 9, f 10, f 11, f 12, f 13, f 14, v, f 16, f 17, f 18, f 19, f 20, f 21, f 22, f 23, f 24, f 25, f 26, f 27, f 28, f 29, f 30, f 31, f 32, f 33, f 34, f 35, f 36, f 37, f 38, f 39, f 40, f 41, f 42, f 43, f 44, f 45, f 46, f 47, f 48, f 49, f 50, f 51, f 52, f 53, f 54, f 55, f 56, f 57, f 58, f 59, f 60, f 61, f 62], defers := [] } W' := hK
        change wpList _ #[_] _ [_] { tmps := #[f 0, f 1, f 2, f 3, f 4, f 5, f 6, f 7, f 8, f 9, f 10, f 11, f 12, f 13, f 14, f 15, f 16, f 17, f 18, f 19, f 20, f 21, f 22, f 23, f 24, f 25, f 26, f 27, f 28, f 29, f 30, f 31, f 32, f 33, f 34, f 35, f 36, f 37, f 38, f 39, f 40, f 41, f 42, f 43, f 44, f 45, f 46, f 47, f 48, f 49, f 50, f 51, f 52, f 53, f 54, f 55, f 56, f 57, f 58, f 59, f 60, f 61, f 62], defers := [] } W
        clear hK hd hold
        simp only [ze6] at HK ⊢
        clear ze6
        have HK := Aside.mk HK
        go_wp2
        exact HK.out _ _ (Below.refl _ _) rfl
      · -- 16 := indexAddr 29 t14 t15
        intro f W hW hold hd K hK
        refine .inl ⟨wanted_free rfl _, ?_⟩
        dsimp only [bare]
        have ze14 : f 14 = .slice (some ⟨g, off, none⟩) n c := hd 14 rfl rfl
        have ze15 : f 15 = .int .i64 k := hd 15 rfl rfl
        have HK : ∀ v W', Below W.heap.size W W' → tailV _ 16 v W' → K { tmps := #[f 0, f 1, f 2, f 3, f 4, f 5, f 6, f 7, f 8, f 9, f 10, f 11, f 12, f 13, f 14, f 15, v, f 17, f 18, f 19, f 20, f 21, f 22, f 23, f 24, f 25, f 26, f 27, f 28, f 29, f 30, f 31, f 32, f 33, f 34, f 35, f 36, f 37, f 38, f 39, f 40, f 41, f 42, f 43, f 44, f 45, f 46, f 47, f 48, f 49, f 50, f 51, f 52, f 53, f 54, f 55, f 56, f 57, f 58, f 59, f 60, f 61, f 62], defers := [] } W' := hK
        change wpList _ #[_] _ [_] { tmps := #[f 0, f 1, f 2, f 3, f 4, f 5, f 6, f 7, f 8, f 9, f 10, f 11, f 12, f 13, f 14, f 15, f 16, f 17, f 18, f 19, f 20, f 21, f 22, f 23, f 24, f 25, f 26, f 27, f 28, f 29, f 30, f 31, f 32, f 33, f 34, f 35, f 36, f 37, f 38, f 39, f 40, f 41, f 42, f 43, f 44, f 45, f 46, f 47, f 48, f 49, f 50, f 51, f 52, f 53, f 54, f 55, f 56, f 57, f 58, f 59, f 60, f 61, f 62], defers := [] } W
        clear hK hd hold
        simp only [ze14, ze15] at HK ⊢
        clear ze14 ze15
        have HK := Aside.mk HK
        go_wp2
        exact HK.out _ _ (Below.refl _ _) rfl
      · -- 17 := fieldAddr 38 t16 0
        intro f W hW hold hd K hK
        refine .inl ⟨wanted_free rfl _, ?_⟩
        dsimp only [bare]
        have ze16 : f 16 = .pointer (some ⟨g, off + k * 4, none⟩) := hd 16 rfl rfl
        have HK : ∀ v W', Below W.heap.size W W' → tailV _ 17 v W' → K { tmps := #[f 0, f 1, f 2, f 3, f 4, f 5, f 6, f 7, f 8, f 9, f 10, f 11, f 12, f 13, f 14, f 15, f 16, v, f 18, f 19, f 20, f 21, f 22, f 23, f 24, f 25, f 26, f 27, f 28, f 29, f 30, f 31, f 32, f 33, f 34, f 35, f 36, f 37, f 38, f 39, f 40, f 41, f 42, f 43, f 44, f 45, f 46, f 47, f 48, f 49, f 50, f 51, f 52, f 53, f 54, f 55, f 56, f 57, f 58, f 59, f 60, f 61, f 62], defers := [] } W' := hK
        change wpList _ #[_] _ [_] { tmps := #[f 0, f 1, f 2, f 3, f 4, f 5, f 6, f 7, f 8, f 9, f 10, f 11, f 12, f 13, f 14, f 15, f 16, f 17, f 18, f 19, f 20, f 21, f 22, f 23, f 24, f 25, f 26, f 27, f 28, f 29, f 30, f 31, f 32, f 33, f 34, f 35, f 36, f 37, f 38, f 39, f 40, f 41, f 42, f 43, f 44, f 45, f 46, f 47, f 48, f 49, f 50, f 51, f 52, f 53, f 54, f 55, f 56, f 57, f 58, f 59, f 60, f 61, f 62], defers := [] } W
        clear hK hd hold
        simp only [ze16] at HK ⊢
        clear ze16
        have HK := Aside.mk HK
        go_wp2
        exact HK.out _ _ (Below.refl _ _) rfl
      · -- 18 := load 3 t17
        intro f W hW hold hd K hK
        refine .inl ⟨wanted_free rfl _, ?_⟩
        dsimp only [bare]
        have ze17 : f 17 = .pointer (some ⟨g, off + k * 4, none⟩) := hd 17 rfl rfl
        have HK : ∀ v W', Below W.heap.size W W' → tailV _ 18 v W' → K { tmps := #[f 0, f 1, f 2, f 3, f 4, f 5, f 6, f 7, f 8, f 9, f 10, f 11, f 12, f 13, f 14, f 15, f 16, f 17, v, f 19, f 20, f 21, f 22, f 23, f 24, f 25, f 26, f 27, f 28, f 29, f 30, f 31, f 32, f 33, f 34, f 35, f 36, f 37, f 38, f 39, f 40, f 41, f 42, f 43, f 44, f 45, f 46, f 47, f 48, f 49, f 50, f 51, f 52, f 53, f 54, f 55, f 56, f 57, f 58, f 59, f 60, f 61, f 62], defers := [] } W' := hK
        change wpList _ #[_] _ [_] { tmps := #[f 0, f 1, f 2, f 3, f 4, f 5, f 6, f 7, f 8, f 9, f 10, f 11, f 12, f 13, f 14, f 15, f 16, f 17, f 18, f 19, f 20, f 21, f 22, f 23, f 24, f 25, f 26, f 27, f 28, f 29, f 30, f 31, f 32, f 33, f 34, f 35, f 36, f 37, f 38, f 39, f 40, f 41, f 42, f 43, f 44, f 45, f 46, f 47, f 48, f 49, f 50, f 51, f 52, f 53, f 54, f 55, f 56, f 57, f 58, f 59, f 60, f 61, f 62], defers := [] } W
        clear hK hd hold
        simp only [ze17] at HK ⊢
        clear ze17
        have HK := Aside.mk HK
        have hcc := HCE.out W (HB.out.bel.trans (hW.mono HB.out.bel.size)); obtain ⟨c0, c1, c2, c3⟩ := hcc
        go_wp2
        exact HK.out _ _ (Below.refl _ _) rfl
      · -- 19 := move t0
        intro f W hW hold hd K hK
        refine .inl ⟨wanted_free rfl _, ?_⟩
        dsimp only [bare]
        have ze0 : f 0 = .slice (some ⟨g, off, none⟩) n c := hold 0 rfl
        have HK : ∀ v W', Below W.heap.size W W' → tailV _ 19 v W' → K { tmps := #[f 0, f 1, f 2, f 3, f 4, f 5, f 6, f 7, f 8, f 9, f 10, f 11, f 12, f 13, f 14, f 15, f 16, f 17, f 18, v, f 20, f 21, f 22, f 23, f 24, f 25, f 26, f 27, f 28, f 29, f 30, f 31, f 32, f 33, f 34, f 35, f 36, f 37, f 38, f 39, f 40, f 41, f 42, f 43, f 44, f 45, f 46, f 47, f 48, f 49, f 50, f 51, f 52, f 53, f 54, f 55, f 56, f 57, f 58, f 59, f 60, f 61, f 62], defers := [] } W' := hK
        change wpList _ #[_] _ [_] { tmps := #[f 0, f 1, f 2, f 3, f 4, f 5, f 6, f 7, f 8, f 9, f 10, f 11, f 12, f 13, f 14, f 15, f 16, f 17, f 18, f 19, f 20, f 21, f 22, f 23, f 24, f 25, f 26, f 27, f 28, f 29, f 30, f 31, f 32, f 33, f 34, f 35, f 36, f 37, f 38, f 39, f 40, f 41, f 42, f 43, f 44, f 45, f 46, f 47, f 48, f 49, f 50, f 51, f 52, f 53, f 54, f 55, f 56, f 57, f 58, f 59, f 60, f 61, f 62], defers := [] } W
        clear hK hd hold
        simp only [ze0] at HK ⊢
        clear ze0
        have HK := Aside.mk HK
        go_wp2
        exact HK.out _ _ (Below.refl _ _) rfl
      · -- 20 := move t6
        intro f W hW hold hd K hK
        refine .inl ⟨wanted_free rfl _, ?_⟩
        dsimp only [bare]
        have ze6 : f 6 = .int .i64 k := hold 6 rfl
        have HK : ∀ v W', Below W.heap.size W W' → tailV _ 20 v W' → K { tmps := #[f 0, f 1, f 2, f 3, f 4, f 5, f 6, f 7, f 8, f 9, f 10, f 11, f 12, f 13, f 14, f 15, f 16, f 17, f 18, f 19, v, f 21, f 22, f 23, f 24, f 25, f 26, f 27, f 28, f 29, f 30, f 31, f 32, f 33, f 34, f 35, f 36, f 37, f 38, f 39, f 40, f 41, f 42, f 43, f 44, f 45, f 46, f 47, f 48, f 49, f 50, f 51, f 52, f 53, f 54, f 55, f 56, f 57, f 58, f 59, f 60, f 61, f 62], defers := [] } W' := hK
        change wpList _ #[_] _ [_] { tmps := #[f 0, f 1, f 2, f 3, f 4, f 5, f 6, f 7, f 8, f 9, f 10, f 11, f 12, f 13, f 14, f 15, f 16, f 17, f 18, f 19, f 20, f 21, f 22, f 23, f 24, f 25, f 26, f 27, f 28, f 29, f 30, f 31, f 32, f 33, f 34, f 35, f 36, f 37, f 38, f 39, f 40, f 41, f 42, f 43, f 44, f 45, f 46, f 47, f 48, f 49, f 50, f 51, f 52, f 53, f 54, f 55, f 56, f 57, f 58, f 59, f 60, f 61, f 62], defers := [] } W
        clear hK hd hold
        simp only [ze6] at HK ⊢
        clear ze6
        have HK := Aside.mk HK
        go_wp2
        exact HK.out _ _ (Below.refl _ _) rfl
      · -- 21 := indexAddr 29 t19 t20
        intro f W hW hold hd K hK
        refine .inl ⟨wanted_free rfl _, ?_⟩
        dsimp only [bare]
        have ze19 : f 19 = .slice (some ⟨g, off, none⟩) n c := hd 19 rfl rfl
        have ze20 : f 20 = .int .i64 k := hd 20 rfl rfl
        have HK : ∀ v W', Below W.heap.size W W' → tailV _ 21 v W' → K { tmps := #[f 0, f 1, f 2, f 3, f 4, f 5, f 6, f 7, f 8, f 9, f 10, f 11, f 12, f 13, f 14, f 15, f 16, f 17, f 18, f 19, f 20, v, f 22, f 23, f 24, f 25, f 26, f 27, f 28, f 29, f 30, f 31, f 32, f 33, f 34, f 35, f 36, f 37, f 38, f 39, f 40, f 41, f 42, f 43, f 44, f 45, f 46, f 47, f 48, f 49, f 50, f 51, f 52, f 53, f 54, f 55, f 56, f 57, f 58, f 59, f 60, f 61, f 62], defers := [] } W' := hK
        change wpList _ #[_] _ [_] { tmps := #[f 0, f 1, f 2, f 3, f 4, f 5, f 6, f 7, f 8, f 9, f 10, f 11, f 12, f 13, f 14, f 15, f 16, f 17, f 18, f 19, f 20, f 21, f 22, f 23, f 24, f 25, f 26, f 27, f 28, f 29, f 30, f 31, f 32, f 33, f 34, f 35, f 36, f 37, f 38, f 39, f 40, f 41, f 42, f 43, f 44, f 45, f 46, f 47, f 48, f 49, f 50, f 51, f 52, f 53, f 54, f 55, f 56, f 57, f 58, f 59, f 60, f 61, f 62], defers := [] } W
        clear hK hd hold
        simp only [ze19, ze20] at HK ⊢
        clear ze19 ze20
        have HK := Aside.mk HK
        go_wp2
        exact HK.out _ _ (Below.refl _ _) rfl
      · -- 22 := fieldAddr 38 t21 1
        intro f W hW hold hd K hK
        refine .inl ⟨wanted_free rfl _, ?_⟩
        dsimp only [bare]
        have ze21 : f 21 = .pointer (some ⟨g, off + k * 4, none⟩) := hd 21 rfl rfl
        have HK : ∀ v W', Below W.heap.size W W' → tailV _ 22 v W' → K { tmps := #[f 0, f 1, f 2, f 3, f 4, f 5, f 6, f 7, f 8, f 9, f 10, f 11, f 12, f 13, f 14, f 15, f 16, f 17, f 18, f 19, f 20, f 21, v, f 23, f 24, f 25, f 26, f 27, f 28, f 29, f 30, f 31, f 32, f 33, f 34, f 35, f 36, f 37, f 38, f 39, f 40, f 41, f 42, f 43, f 44, f 45, f 46, f 47, f 48, f 49, f 50, f 51, f 52, f 53, f 54, f 55, f 56, f 57, f 58, f 59, f 60, f 61, f 62], defers := [] } W' := hK
        change wpList _ #[_] _ [_] { tmps := #[f 0, f 1, f 2, f 3, f 4, f 5, f 6, f 7, f 8, f 9, f 10, f 11, f 12, f 13, f 14, f 15, f 16, f 17, f 18, f 19, f 20, f 21, f 22, f 23, f 24, f 25, f 26, f 27, f 28, f 29, f 30, f 31, f 32, f 33, f 34, f 35, f 36, f 37, f 38, f 39, f 40, f 41, f 42, f 43, f 44, f 45, f 46, f 47, f 48, f 49, f 50, f 51, f 52, f 53, f 54, f 55, f 56, f 57, f 58, f 59, f 60, f 61, f 62], defers := [] } W
        clear hK hd hold
        simp only [ze21] at HK ⊢
        clear ze21
        have HK := Aside.mk HK
        go_wp2
        exact HK.out _ _ (Below.refl _ _) rfl
      · -- 23 := load 3 t22
        intro f W hW hold hd K hK
        refine .inl ⟨wanted_free rfl _, ?_⟩
        dsimp only [bare]
        have ze22 : f 22 = .pointer (some ⟨g, off + k * 4 + 1, none⟩) := hd 22 rfl rfl
        have HK : ∀ v W', Below W.heap.size W W' → tailV _ 23 v W' → K { tmps := #[f 0, f 1, f 2, f 3, f 4, f 5, f 6, f 7, f 8, f 9, f 10, f 11, f 12, f 13, f 14, f 15, f 16, f 17, f 18, f 19, f 20, f 21, f 22, v, f 24, f 25, f 26, f 27, f 28, f 29, f 30, f 31, f 32, f 33, f 34, f 35, f 36, f 37, f 38, f 39, f 40, f 41, f 42, f 43, f 44, f 45, f 46, f 47, f 48, f 49, f 50, f 51, f 52, f 53, f 54, f 55, f 56, f 57, f 58, f 59, f 60, f 61, f 62], defers := [] } W' := hK
        change wpList _ #[_] _ [_] { tmps := #[f 0, f 1, f 2, f 3, f 4, f 5, f 6, f 7, f 8, f 9, f 10, f 11, f 12, f 13, f 14, f 15, f 16, f 17, f 18, f 19, f 20, f 21, f 22, f 23, f 24, f 25, f 26, f 27, f 28, f 29, f 30, f 31, f 32, f 33, f 34, f 35, f 36, f 37, f 38, f 39, f 40, f 41, f 42, f 43, f 44, f 45, f 46, f 47, f 48, f 49, f 50, f 51, f 52, f 53, f 54, f 55, f 56, f 57, f 58, f 59, f 60, f 61, f 62], defers := [] } W
        clear hK hd hold
        simp only [ze22] at HK ⊢
        clear ze22
        have HK := Aside.mk HK
        have hcc := HCE.out W (HB.out.bel.trans (hW.mono HB.out.bel.size)); obtain ⟨c0, c1, c2, c3⟩ := hcc
        go_wp2
        exact HK.out _ _ (Below.refl _ _) rfl
      · -- 24 := move t0
        intro f W hW hold hd K hK
        refine .inl ⟨wanted_free rfl _, ?_⟩
        dsimp only [bare]
        have ze0 : f 0 = .slice (some ⟨g, off, none⟩) n c := hold 0 rfl
        have HK : ∀ v W', Below W.heap.size W W' → tailV _ 24 v W' → K { tmps := #[f 0, f 1, f 2, f 3, f 4, f 5, f 6, f 7, f 8, f 9, f 10, f 11, f 12, f 13, f 14, f 15, f 16, f 17, f 18, f 19, f 20, f 21, f 22, f 23, v, f 25, f 26, f 27, f 28, f 29, f 30, f 31, f 32, f 33, f 34, f 35, f 36, f 37, f 38, f 39, f 40, f 41, f 42, f 43, f 44, f 45, f 46, f 47, f 48, f 49, f 50, f 51, f 52, f 53, f 54, f 55, f 56, f 57, f 58, f 59, f 60, f 61, f 62], defers := [] } W' := hK
        change wpList _ #[_] _ [_] { tmps := #[f 0, f 1, f 2, f 3, f 4, f 5, f 6, f 7, f 8, f 9, f 10, f 11, f 12, f 13, f 14, f 15, f 16, f 17, f 18, f 19, f 20, f 21, f 22, f 23, f 24, f 25, f 26, f 27, f 28, f 29, f 30, f 31, f 32, f 33, f 34, f 35, f 36, f 37, f 38, f 39, f 40, f 41, f 42, f 43, f 44, f 45, f 46, f 47, f 48, f 49, f 50, f 51, f 52, f 53, f 54, f 55, f 56, f 57, f 58, f 59, f 60, f 61, f 62], defers := [] } W
        clear hK hd hold
        simp only [ze0] at HK ⊢
        clear ze0
        have HK := Aside.mk HK
        go_wp2
        exact HK.out _ _ (Below.refl _ _) rfl
      · -- 25 := move t6
        intro f W hW hold hd K hK
        refine .inl ⟨wanted_free rfl _, ?_⟩
        dsimp only [bare]
        have ze6 : f 6 = .int .i64 k := hold 6 rfl
        have HK : ∀ v W', Below W.heap.size W W' → tailV _ 25 v W' → K { tmps := #[f 0, f 1, f 2, f 3, f 4, f 5, f 6, f 7, f 8, f 9, f 10, f 11, f 12, f 13, f 14, f 15, f 16, f 17, f 18, f 19, f 20, f 21, f 22, f 23, f 24, v, f 26, f 27, f 28, f 29, f 30, f 31, f 32, f 33, f 34, f 35, f 36, f 37, f 38, f 39, f 40, f 41, f 42, f 43, f 44, f 45, f 46, f 47, f 48, f 49, f 50, f 51, f 52, f 53, f 54, f 55, f 56, f 57, f 58, f 59, f 60, f 61, f 62], defers := [] } W' := hK
        change wpList _ #[_] _ [_] { tmps := #[f 0, f 1, f 2, f 3, f 4, f 5, f 6, f 7, f 8, f 9, f 10, f 11, f 12, f 13, f 14, f 15, f 16, f 17, f 18, f 19, f 20, f 21, f 22, f 23, f 24, f 25, f 26, f 27, f 28, f 29, f 30, f 31, f 32, f 33, f 34, f 35, f 36, f 37, f 38, f 39, f 40, f 41, f 42, f 43, f 44, f 45, f 46, f 47, f 48, f 49, f 50, f 51, f 52, f 53, f 54, f 55, f 56, f 57, f 58, f 59, f 60, f 61, f 62], defers := [] } W
        clear hK hd hold
        simp only [ze6] at HK ⊢
        clear ze6
        have HK := Aside.mk HK
        go_wp2
        exact HK.out _ _ (Below.refl _ _) rfl
      · -- 26 := indexAddr 29 t24 t25
        intro f W hW hold hd K hK
        refine .inl ⟨wanted_free rfl _, ?_⟩
        dsimp only [bare]
        have ze24 : f 24 = .slice (some ⟨g, off, none⟩) n c := hd 24 rfl rfl
        have ze25 : f 25 = .int .i64 k := hd 25 rfl rfl
        have HK : ∀ v W', Below W.heap.size W W' → tailV _ 26 v W' → K { tmps := #[f 0, f 1, f 2, f 3, f 4, f 5, f 6, f 7, f 8, f 9, f 10, f 11, f 12, f 13, f 14, f 15, f 16, f 17, f 18, f 19, f 20, f 21, f 22, f 23, f 24, f 25, v, f 27, f 28, f 29, f 30, f 31, f 32, f 33, f 34, f 35, f 36, f 37, f 38, f 39, f 40, f 41, f 42, f 43, f 44, f 45, f 46, f 47, f 48, f 49, f 50, f 51, f 52, f 53, f 54, f 55, f 56, f 57, f 58, f 59, f 60, f 61, f 62], defers := [] } W' := hK
        change wpList _ #[_] _ [_] { tmps := #[f 0, f 1, f 2, f 3, f 4, f 5, f 6, f 7, f 8, f 9, f 10, f 11, f 12, f 13, f 14, f 15, f 16, f 17, f 18, f 19, f 20, f 21, f 22, f 23, f 24, f 25, f 26, f 27, f 28, f 29, f 30, f 31, f 32, f 33, f 34, f 35, f 36, f 37, f 38, f 39, f 40, f 41, f 42, f 43, f 44, f 45, f 46, f 47, f 48, f 49, f 50, f 51, f 52, f 53, f 54, f 55, f 56, f 57, f 58, f 59, f 60, f 61, f 62], defers := [] } W
        clear hK hd hold
        simp only [ze24, ze25] at HK ⊢
        clear ze24 ze25
        have HK := Aside.mk HK
        go_wp2
        exact HK.out _ _ (Below.refl _ _) rfl
      · -- 27 := fieldAddr 38 t26 2
        intro f W hW hold hd K hK
        refine .inl ⟨wanted_free rfl _, ?_⟩
        dsimp only [bare]
        have ze26 : f 26 = .pointer (some ⟨g, off + k * 4, none⟩) := hd 26 rfl rfl
        have HK : ∀ v W', Below W.heap.size W W' → tailV _ 27 v W' → K { tmps := #[f 0, f 1, f 2, f 3, f 4, f 5, f 6, f 7, f 8, f 9, f 10, f 11, f 12, f 13, f 14, f 15, f 16, f 17, f 18, f 19, f 20, f 21, f 22, f 23, f 24, f 25, f 26, v, f 28, f 29, f 30, f 31, f 32, f 33, f 34, f 35, f 36, f 37, f 38, f 39, f 40, f 41, f 42, f 43, f 44, f 45, f 46, f 47, f 48, f 49, f 50, f 51, f 52, f 53, f 54, f 55, f 56, f 57, f 58, f 59, f 60, f 61, f 62], defers := [] } W' := hK
        change wpList _ #[_] _ [_] { tmps := #[f 0, f 1, f 2, f 3, f 4, f 5, f 6, f 7, f 8, f 9, f 10, f 11, f 12, f 13, f 14, f 15, f 16, f 17, f 18, f 19, f 20, f 21, f 22, f 23, f 24, f 25, f 26, f 27, f 28, f 29, f 30, f 31, f 32, f 33, f 34, f 35, f 36, f 37, f 38, f 39, f 40, f 41, f 42, f 43, f 44, f 45, f 46, f 47, f 48, f 49, f 50, f 51, f 52, f 53, f 54, f 55, f 56, f 57, f 58, f 59, f 60, f 61, f 62], defers := [] } W
        clear hK hd hold
        simp only [ze26] at HK ⊢
        clear ze26
        have HK := Aside.mk HK
        go_wp2
        exact HK.out _ _ (Below.refl _ _) rfl
      · -- 28 := load 4 t27
        intro f W hW hold hd K hK
        refine .inl ⟨wanted_free rfl _, ?_⟩
        dsimp only [bare]
        have ze27 : f 27 = .pointer (some ⟨g, off + k * 4 + 2, none⟩) := hd 27 rfl rfl
        have HK : ∀ v W', Below W.heap.size W W' → tailV _ 28 v W' → K { tmps := #[f 0, f 1, f 2, f 3, f 4, f 5, f 6, f 7, f 8, f 9, f 10, f 11, f 12, f 13, f 14, f 15, f 16, f 17, f 18, f 19, f 20, f 21, f 22, f 23, f 24, f 25, f 26, f 27, v, f 29, f 30, f 31, f 32, f 33, f 34, f 35, f 36, f 37, f 38, f 39, f 40, f 41, f 42, f 43, f 44, f 45, f 46, f 47, f 48, f 49, f 50, f 51, f 52, f 53, f 54, f 55, f 56, f 57, f 58, f 59, f 60, f 61, f 62], defers := [] } W' := hK
        change wpList _ #[_] _ [_] { tmps := #[f 0, f 1, f 2, f 3, f 4, f 5, f 6, f 7, f 8, f 9, f 10, f 11, f 12, f 13, f 14, f 15, f 16, f 17, f 18, f 19, f 20, f 21, f 22, f 23, f 24, f 25, f 26, f 27, f 28, f 29, f 30, f 31, f 32, f 33, f 34, f 35, f 36, f 37, f 38, f 39, f 40, f 41, f 42, f 43, f 44, f 45, f 46, f 47, f 48, f 49, f 50, f 51, f 52, f 53, f 54, f 55, f 56, f 57, f 58, f 59, f 60, f 61, f 62], defers := [] } W
        clear hK hd hold
        simp only [ze27] at HK ⊢
        clear ze27
        have HK := Aside.mk HK
        have hcc := HCE.out W (HB.out.bel.trans (hW.mono HB.out.bel.size)); obtain ⟨c0, c1, c2, c3⟩ := hcc
        go_wp2
        exact HK.out _ _ (Below.refl _ _) rfl
      · -- 29 := move t0
        intro f W hW hold hd K hK
        refine .inl ⟨wanted_free rfl _, ?_⟩
        dsimp only [bare]
        have ze0 : f 0 = .slice (some ⟨g, off, none⟩) n c := hold 0 rfl
        have HK : ∀ v W', Below W.heap.size W W' → tailV _ 29 v W' → K { tmps := #[f 0, f 1, f 2, f 3, f 4, f 5, f 6, f 7, f 8, f 9, f 10, f 11, f 12, f 13, f 14, f 15, f 16, f 17, f 18, f 19, f 20, f 21, f 22, f 23, f 24, f 25, f 26, f 27, f 28, v, f 30, f 31, f 32, f 33, f 34, f 35, f 36, f 37, f 38, f 39, f 40, f 41, f 42, f 43, f 44, f 45, f 46, f 47, f 48, f 49, f 50, f 51, f 52, f 53, f 54, f 55, f 56, f 57, f 58, f 59, f 60, f 61, f 62], defers := [] } W' := hK
        change wpList _ #[_] _ [_] { tmps := #[f 0, f 1, f 2, f 3, f 4, f 5, f 6, f 7, f 8, f 9, f 10, f 11, f 12, f 13, f 14, f 15, f 16, f 17, f 18, f 19, f 20, f 21, f 22, f 23, f 24, f 25, f 26, f 27, f 28, f 29, f 30, f 31, f 32, f 33, f 34, f 35, f 36, f 37, f 38, f 39, f 40, f 41, f 42, f 43, f 44, f 45, f 46, f 47, f 48, f 49, f 50, f 51, f 52, f 53, f 54, f 55, f 56, f 57, f 58, f 59, f 60, f 61, f 62], defers := [] } W
        clear hK hd hold
        simp only [ze0] at HK ⊢
        clear ze0
        have HK := Aside.mk HK
        go_wp2
        exact HK.out _ _ (Below.refl _ _) rfl
      · -- 30 := move t6
        intro f W hW hold hd K hK
        refine .inl ⟨wanted_free rfl _, ?_⟩
        dsimp only [bare]
        have ze6 : f 6 = .int .i64 k := hold 6 rfl
        have HK : ∀ v W', Below W.heap.size W W' → tailV _ 30 v W' → K { tmps := #[f 0, f 1, f 2, f 3, f 4, f 5, f 6, f 7, f 8, f 9, f 10, f 11, f 12, f 13, f 14, f 15, f 16, f 17, f 18, f 19, f 20, f 21, f 22, f 23, f 24, f 25, f 26, f 27, f 28, f 29, v, f 31, f 32, f 33, f 34, f 35, f 36, f 37, f 38, f 39, f 40, f 41, f 42, f 43, f 44, f 45, f 46, f 47, f 48, f 49, f 50, f 51, f 52, f 53, f 54, f 55, f 56, f 57, f 58, f 59, f 60, f 61, f 62], defers := [] } W' := hK
        change wpList _ #[_] _ [_] { tmps := #[f 0, f 1, f 2, f 3, f 4, f 5, f 6, f 7, f 8, f 9, f 10, f 11, f 12, f 13, f 14, f 15, f 16, f 17, f 18, f 19, f 20, f 21, f 22, f 23, f 24, f 25, f 26, f 27, f 28, f 29, f 30, f 31, f 32, f 33, f 34, f 35, f 36, f 37, f 38, f 39, f 40, f 41, f 42, f 43, f 44, f 45, f 46, f 47, f 48, f 49, f 50, f 51, f 52, f 53, f 54, f 55, f 56, f 57, f 58, f 59, f 60, f 61, f 62], defers := [] } W
        clear hK hd hold
        simp only [ze6] at HK ⊢
        clear ze6
        have HK := Aside.mk HK
        go_wp2
        exact HK.out _ _ (Below.refl _ _) rfl
      · -- 31 := indexAddr 29 t29 t30
        intro f W hW hold hd K hK
        refine .inl ⟨wanted_free rfl _, ?_⟩
        dsimp only [bare]
        have ze29 : f 29 = .slice (some ⟨g, off, none⟩) n c := hd 29 rfl rfl
        have ze30 : f 30 = .int .i64 k := hd 30 rfl rfl
        have HK : ∀ v W', Below W.heap.size W W' → tailV _ 31 v W' → K { tmps := #[f 0, f 1, f 2, f 3, f 4, f 5, f 6, f 7, f 8, f 9, f 10, f 11, f 12, f 13, f 14, f 15, f 16, f 17, f 18, f 19, f 20, f 21, f 22, f 23, f 24, f 25, f 26, f 27, f 28, f 29, f 30, v, f 32, f 33, f 34, f 35, f 36, f 37, f 38, f 39, f 40, f 41, f 42, f 43, f 44, f 45, f 46, f 47, f 48, f 49, f 50, f 51, f 52, f 53, f 54, f 55, f 56, f 57, f 58, f 59, f 60, f 61, f 62], defers := [] } W' := hK
        change wpList _ #[_] _ [_] { tmps := #[f 0, f 1, f 2, f 3, f 4, f 5, f 6, f 7, f 8, f 9, f 10, f 11, f 12, f 13, f 14, f 15, f 16, f 17, f 18, f 19, f 20, f 21, f 22, f 23, f 24, f 25, f 26, f 27, f 28, f 29, f 30, f 31, f 32, f 33, f 34, f 35, f 36, f 37, f 38, f 39, f 40, f 41, f 42, f 43, f 44, f 45, f 46, f 47, f 48, f 49, f 50, f 51, f 52, f 53, f 54, f 55, f 56, f 57, f 58, f 59, f 60, f 61, f 62], defers := [] } W
        clear hK hd hold
        simp only [ze29, ze30] at HK ⊢
        clear ze29 ze30
        have HK := Aside.mk HK
        go_wp2
        exact HK.out _ _ (Below.refl _ _) rfl
      · -- 32 := fieldAddr 38 t31 3
        intro f W hW hold hd K hK
        refine .inl ⟨wanted_free rfl _, ?_⟩
        dsimp only [bare]
        have ze31 : f 31 = .pointer (some ⟨g, off + k * 4, none⟩) := hd 31 rfl rfl
        have HK : ∀ v W', Below W.heap.size W W' → tailV _ 32 v W' → K { tmps := #[f 0, f 1, f 2, f 3, f 4, f 5, f 6, f 7, f 8, f 9, f 10, f 11, f 12, f 13, f 14, f 15, f 16, f 17, f 18, f 19, f 20, f 21, f 22, f 23, f 24, f 25, f 26, f 27, f 28, f 29, f 30, f 31, v, f 33, f 34, f 35, f 36, f 37, f 38, f 39, f 40, f 41, f 42, f 43, f 44, f 45, f 46, f 47, f 48, f 49, f 50, f 51, f 52, f 53, f 54, f 55, f 56, f 57, f 58, f 59, f 60, f 61, f 62], defers := [] } W' := hK
        change wpList _ #[_] _ [_] { tmps := #[f 0, f 1, f 2, f 3, f 4, f 5, f 6, f 7, f 8, f 9, f 10, f 11, f 12, f 13, f 14, f 15, f 16, f 17, f 18, f 19, f 20, f 21, f 22, f 23, f 24, f 25, f 26, f 27, f 28, f 29, f 30, f 31, f 32, f 33, f 34, f 35, f 36, f 37, f 38, f 39, f 40, f 41, f 42, f 43, f 44, f 45, f 46, f 47, f 48, f 49, f 50, f 51, f 52, f 53, f 54, f 55, f 56, f 57, f 58, f 59, f 60, f 61, f 62], defers := [] } W
        clear hK hd hold
        simp only [ze31] at HK ⊢
        clear ze31
        have HK := Aside.mk HK
        go_wp2
        exact HK.out _ _ (Below.refl _ _) rfl
      · -- 33 := load 4 t32
        intro f W hW hold hd K hK
        refine .inl ⟨wanted_free rfl _, ?_⟩
        dsimp only [bare]
        have ze32 : f 32 = .pointer (some ⟨g, off + k * 4 + 3, none⟩) := hd 32 rfl rfl
        have HK : ∀ v W', Below W.heap.size W W' → tailV _ 33 v W' → K { tmps := #[f 0, f 1, f 2, f 3, f 4, f 5, f 6, f 7, f 8, f 9, f 10, f 11, f 12, f 13, f 14, f 15, f 16, f 17, f 18, f 19, f 20, f 21, f 22, f 23, f 24, f 25, f 26, f 27, f 28, f 29, f 30, f 31, f 32, v, f 34, f 35, f 36, f 37, f 38, f 39, f 40, f 41, f 42, f 43, f 44, f 45, f 46, f 47, f 48, f 49, f 50, f 51, f 52, f 53, f 54, f 55, f 56, f 57, f 58, f 59, f 60, f 61, f 62], defers := [] } W' := hK
        change wpList _ #[_] _ [_] { tmps := #[f 0, f 1, f 2, f 3, f 4, f 5, f 6, f 7, f 8, f 9, f 10, f 11, f 12, f 13, f 14, f 15, f 16, f 17, f 18, f 19, f 20, f 21, f 22, f 23, f 24, f 25, f 26, f 27, f 28, f 29, f 30, f 31, f 32, f 33, f 34, f 35, f 36, f 37, f 38, f 39, f 40, f 41, f 42, f 43, f 44, f 45, f 46, f 47, f 48, f 49, f 50, f 51, f 52, f 53, f 54, f 55, f 56, f 57, f 58, f 59, f 60, f 61, f 62], defers := [] } W
        clear hK hd hold
        simp only [ze32] at HK ⊢
        clear ze32
        have HK := Aside.mk HK
        have hcc := HCE.out W (HB.out.bel.trans (hW.mono HB.out.bel.size)); obtain ⟨c0, c1, c2, c3⟩ := hcc
        go_wp2
        exact HK.out _ _ (Below.refl _ _) rfl
      · -- 34 := build 27 [(0, t18), (1, t23), (2, t28), (3, t33)]
        intro f W hW hold hd K hK
        refine .inl ⟨wanted_free rfl _, ?_⟩
        dsimp only [bare]
        have ze18 : f 18 = .int .i64 xe := hd 18 rfl rfl
        have ze23 : f 23 = .int .i64 xr := hd 23 rfl rfl
        have ze28 : f 28 = .bool xu := hd 28 rfl rfl
        have ze33 : f 33 = .bool xw := hd 33 rfl rfl
        have HK : ∀ v W', Below W.heap.size W W' → tailV _ 34 v W' → K { tmps := #[f 0, f 1, f 2, f 3, f 4, f 5, f 6, f 7, f 8, f 9, f 10, f 11, f 12, f 13, f 14, f 15, f 16, f 17, f 18, f 19, f 20, f 21, f 22, f 23, f 24, f 25, f 26, f 27, f 28, f 29, f 30, f 31, f 32, f 33, v, f 35, f 36, f 37, f 38, f 39, f 40, f 41, f 42, f 43, f 44, f 45, f 46, f 47, f 48, f 49, f 50, f 51, f 52, f 53, f 54, f 55, f 56, f 57, f 58, f 59, f 60, f 61, f 62], defers := [] } W' := hK
        change wpList _ #[_] _ [_] { tmps := #[f 0, f 1, f 2, f 3, f 4, f 5, f 6, f 7, f 8, f 9, f 10, f 11, f 12, f 13, f 14, f 15, f 16, f 17, f 18, f 19, f 20, f 21, f 22, f 23, f 24, f 25, f 26, f 27, f 28, f 29, f 30, f 31, f 32, f 33, f 34, f 35, f 36, f 37, f 38, f 39, f 40, f 41, f 42, f 43, f 44, f 45, f 46, f 47, f 48, f 49, f 50, f 51, f 52, f 53, f 54, f 55, f 56, f 57, f 58, f 59, f 60, f 61, f 62], defers := [] } W
        clear hK hd hold
        simp only [ze18, ze23, ze28, ze33] at HK ⊢
        clear ze18 ze23 ze28 ze33
        have HK := Aside.mk HK
        go_wp2
        exact HK.out _ _ (Below.refl _ _) rfl
      · -- 35 := buildSlice 23 1 [(0, t34)]
        intro f W hW hold hd K hK
        refine .inl ⟨wanted_free rfl _, ?_⟩
        dsimp only [bare]
        have ze34 : f 34 = .agg #[.int .i64 xe, .int .i64 xr, .bool xu, .bool xw] := hd 34 rfl rfl
        have HK : ∀ v W', Below W.heap.size W W' → tailV _ 35 v W' → K { tmps := #[f 0, f 1, f 2, f 3, f 4, f 5, f 6, f 7, f 8, f 9, f 10, f 11, f 12, f 13, f 14, f 15, f 16, f 17, f 18, f 19, f 20, f 21, f 22, f 23, f 24, f 25, f 26, f 27, f 28, f 29, f 30, f 31, f 32, f 33, f 34, v, f 36, f 37, f 38, f 39, f 40, f 41, f 42, f 43, f 44, f 45, f 46, f 47, f 48, f 49, f 50, f 51, f 52, f 53, f 54, f 55, f 56, f 57, f 58, f 59, f 60, f 61, f 62], defers := [] } W' := hK
        change wpList _ #[_] _ [_] { tmps := #[f 0, f 1, f 2, f 3, f 4, f 5, f 6, f 7, f 8, f 9, f 10, f 11, f 12, f 13, f 14, f 15, f 16, f 17, f 18, f 19, f 20, f 21, f 22, f 23, f 24, f 25, f 26, f 27, f 28, f 29, f 30, f 31, f 32, f 33, f 34, f 35, f 36, f 37, f 38, f 39, f 40, f 41, f 42, f 43, f 44, f 45, f 46, f 47, f 48, f 49, f 50, f 51, f 52, f 53, f 54, f 55, f 56, f 57, f 58, f 59, f 60, f 61, f 62], defers := [] } W
        clear hK hd hold
        simp only [ze34] at HK ⊢
        clear ze34
        have HK := Aside.mk HK
        go_wp2
        exact HK.out _ _ ((Below.refl _ _).alloc (Nat.le_refl _) _) ⟨_, rfl, heap_alloc_new _ _⟩
      · intro f W hW hold hd aa ha
        replace ha := ha.trans (rel_puts hold)
        have ze13 : f 13 = u4 := hd 13 rfl
        have ze14 : f 14 = .slice (some ⟨g, off, none⟩) n c := hd 14 rfl
        have ze15 : f 15 = .int .i64 k := hd 15 rfl
        have ze16 : f 16 = .pointer (some ⟨g, off + k * 4, none⟩) := hd 16 rfl
        have ze17 : f 17 = .pointer (some ⟨g, off + k * 4, none⟩) := hd 17 rfl
        have ze18 : f 18 = .int .i64 xe := hd 18 rfl
        have ze19 : f 19 = .slice (some ⟨g, off, none⟩) n c := hd 19 rfl
        have ze20 : f 20 = .int .i64 k := hd 20 rfl
        have ze21 : f 21 = .pointer (some ⟨g, off + k * 4, none⟩) := hd 21 rfl
        have ze22 : f 22 = .pointer (some ⟨g, off + k * 4 + 1, none⟩) := hd 22 rfl
        have ze23 : f 23 = .int .i64 xr := hd 23 rfl
        have ze24 : f 24 = .slice (some ⟨g, off, none⟩) n c := hd 24 rfl
        have ze25 : f 25 = .int .i64 k := hd 25 rfl
        have ze26 : f 26 = .pointer (some ⟨g, off + k * 4, none⟩) := hd 26 rfl
        have ze27 : f 27 = .pointer (some ⟨g, off + k * 4 + 2, none⟩) := hd 27 rfl
        have ze28 : f 28 = .bool xu := hd 28 rfl
        have ze29 : f 29 = .slice (some ⟨g, off, none⟩) n c := hd 29 rfl
        have ze30 : f 30 = .int .i64 k := hd 30 rfl
        have ze31 : f 31 = .pointer (some ⟨g, off + k * 4, none⟩) := hd 31 rfl
        have ze32 : f 32 = .pointer (some ⟨g, off + k * 4 + 3, none⟩) := hd 32 rfl
        have ze33 : f 33 = .bool xw := hd 33 rfl
        have ze34 : f 34 = .agg #[.int .i64 xe, .int .i64 xr, .bool xu, .bool xw] := hd 34 rfl
        obtain ⟨b35, ze35, r35⟩ : ∃ bb, f 35 = .slice (some ⟨bb, 0, none⟩) 1 1 ∧ W.heap[bb]? = some (.cells #[.int .i64 xe, .int .i64 xr, .bool xu, .bool xw] 27 (0, 0)) := hd 35 rfl
        simp only [List.take_succ_cons, List.take_zero, putAll, List.foldl_cons, List.foldl_nil, Option.getD_some] at ha
        simp only [ze13, ze14, ze15, ze16, ze17, ze18, ze19, ze20, ze21, ze22, ze23, ze24, ze25, ze26, ze27, ze28, ze29, ze30, ze31, ze32, ze33, ze34, ze35] at ha
        subst ha
        simp only [List.drop_succ_cons, List.drop_zero, Act.put, List.setIfInBounds_toArray, List.set_cons_zero, List.set_cons_succ]
        clear hold hd ze13 ze14 ze15 ze16 ze17 ze18 ze19 ze20 ze21 ze22 ze23 ze24 ze25 ze26 ze27 ze28 ze29 ze30 ze31 ze32 ze33 ze34 ze35
        have HQ : Aside (Below w.heap.size w W ∧ Row W w.heap.size 27 4 u4 k (kV f0 k) ∧ Row W w.heap.size 42 4 u5 k (kV f0 k)) := ⟨HB.out.bel.trans (hW.mono HB.out.bel.size), HB.out.r4.below hW, HB.out.r5.below hW⟩
        clear c0 c1 c2 c3 hW HB
        go_upto_region 7 with (at_builtin; refine wpList_append_row (w0 := w) w.heap.size rfl _ _ 23 27 4 24 _ rfl Try.underlying23 infoBlk rfl (by decide) u4 k (kV f0 k) (.slice (some ⟨b35, 0, none⟩) 1 1) 1 #[.int .i64 xe, .int .i64 xr, .bool xu, .bool xw].toList rfl rfl HQ.out.2.1 (src_lit r35 rfl) (by simp [Value.oneCell']) HQ.out.1 HQ.out.1.size (by omega) (by simp only [maxLen]; omega) ?_; intro v1 w1 hr1 hb1 hg1 hat1)
        have HB : Aside (Below w.heap.size w w1 ∧ Row w1 w.heap.size 27 4 v1 (k + 1) (kV f0 (k + 1)) ∧ Row w1 w.heap.size 42 4 u5 k (kV f0 k)) := ⟨hb1, by rw [HK.out]; exact hr1, HQ.out.2.2.kept hg1 (rows_apart HQ.out.2.1 HQ.out.2.2 (by decide))⟩
        clear hr1 hb1 hg1 hat1 HQ r35
        refine wp_region_seq 23 (by kernel_rfl) (by kernel_rfl) (rel_small (by kernel_rfl)) (tailV [(37, .val (u5)), (38, .val (.slice (some ⟨g, off, none⟩) n c)), (39, .val (.int .i64 k)), (40, .val (.pointer (some ⟨g, off + k * 4, none⟩))), (41, .val (.pointer (some ⟨g, off + k * 4, none⟩))), (42, .val (.int .i64 xe)), (43, .val (.slice (some ⟨g, off, none⟩) n c)), (44, .val (.int .i64 k)), (45, .val (.pointer (some ⟨g, off + k * 4, none⟩))), (46, .val (.pointer (some ⟨g, off + k * 4 + 1, none⟩))), (47, .val (.int .i64 xr)), (48, .val (.slice (some ⟨g, off, none⟩) n c)), (49, .val (.int .i64 k)), (50, .val (.pointer (some ⟨g, off + k * 4, none⟩))), (51, .val (.pointer (some ⟨g, off + k * 4 + 2, none⟩))), (52, .val (.bool xu)), (53, .val (.slice (some ⟨g, off, none⟩) n c)), (54, .val (.int .i64 k)), (55, .val (.pointer (some ⟨g, off + k * 4, none⟩))), (56, .val (.pointer (some ⟨g, off + k * 4 + 3, none⟩))), (57, .val (.bool xw)), (58, .val (.agg #[.int .i64 xe, .int .i64 xr, .bool xu, .bool xw])), (59, .row #[.int .i64 xe, .int .i64 xr, .bool xu, .bool xw] 42 1)]) (tailV_stable _) ⟨?_, ?_, ?_, ?_, ?_, ?_, ?_, ?_, ?_, ?_, ?_, ?_, ?_, ?_, ?_, ?_, ?_, ?_, ?_, ?_, ?_, ?_, ?_, trivial⟩ ?_
        · -- 37 := move t5
          intro f W hW hold hd K hK
          refine .inl ⟨wanted_free rfl _, ?_⟩
          dsimp only [bare]
          have ze5 : f 5 = u5 := hold 5 rfl
          have HK : ∀ v W', Below W.heap.size W W' → tailV _ 37 v W' → K { tmps := #[f 0, f 1, f 2, f 3, f 4, f 5, f 6, f 7, f 8, f 9, f 10, f 11, f 12, f 13, f 14, f 15, f 16, f 17, f 18, f 19, f 20, f 21, f 22, f 23, f 24, f 25, f 26, f 27, f 28, f 29, f 30, f 31, f 32, f 33, f 34, f 35, f 36, v, f 38, f 39, f 40, f 41, f 42, f 43, f 44, f 45, f 46, f 47, f 48, f 49, f 50, f 51, f 52, f 53, f 54, f 55, f 56, f 57, f 58, f 59, f 60, f 61, f 62], defers := [] } W' := hK
          change wpList _ #[_] _ [_] { tmps := #[f 0, f 1, f 2, f 3, f 4, f 5, f 6, f 7, f 8, f 9, f 10, f 11, f 12, f 13, f 14, f 15, f 16, f 17, f 18, f 19, f 20, f 21, f 22, f 23, f 24, f 25, f 26, f 27, f 28, f 29, f 30, f 31, f 32, f 33, f 34, f 35, f 36, f 37, f 38, f 39, f 40, f 41, f 42, f 43, f 44, f 45, f 46, f 47, f 48, f 49, f 50, f 51, f 52, f 53, f 54, f 55, f 56, f 57, f 58, f 59, f 60, f 61, f 62], defers := [] } W
          clear hK hd hold
          simp only [ze5] at HK ⊢
          clear ze5
          have HK := Aside.mk HK
          go_wp2
          exact HK.out _ _ (Below.refl _ _) rfl
        · -- 38 := move t0
          intro f W hW hold hd K hK
          refine .inl ⟨wanted_free rfl _, ?_⟩
          dsimp only [bare]
          have ze0 : f 0 = .slice (some ⟨g, off, none⟩) n c := hold 0 rfl
          have HK : ∀ v W', Below W.heap.size W W' → tailV _ 38 v W' → K { tmps := #[f 0, f 1, f 2, f 3, f 4, f 5, f 6, f 7, f 8, f 9, f 10, f 11, f 12, f 13, f 14, f 15, f 16, f 17, f 18, f 19, f 20, f 21, f 22, f 23, f 24, f 25, f 26, f 27, f 28, f 29, f 30, f 31, f 32, f 33, f 34, f 35, f 36, f 37, v, f 39, f 40, f 41, f 42, f 43, f 44, f 45, f 46, f 47, f 48, f 49, f 50, f 51, f 52, f 53, f 54, f 55, f 56, f 57, f 58, f 59, f 60, f 61, f 62], defers := [] } W' := hK
          change wpList _ #[_] _ [_] { tmps := #[f 0, f 1, f 2, f 3, f 4, f 5, f 6, f 7, f 8, f 9, f 10, f 11, f 12, f 13, f 14, f 15, f 16, f 17, f 18, f 19, f 20, f 21, f 22, f 23, f 24, f 25, f 26, f 27, f 28, f 29, f 30, f 31, f 32, f 33, f 34, f 35, f 36, f 37, f 38, f 39, f 40, f 41, f 42, f 43, f 44, f 45, f 46, f 47, f 48, f 49, f 50, f 51, f 52, f 53, f 54, f 55, f 56, f 57, f 58, f 59, f 60, f 61, f 62], defers := [] } W
          clear hK hd hold
          simp only [ze0] at HK ⊢
          clear ze0
          have HK := Aside.mk HK
          go_wp2
          exact HK.out _ _ (Below.refl _ _) rfl
        · -- 39 := move t6
          intro f W hW hold hd K hK
          refine .inl ⟨wanted_free rfl _, ?_⟩
          dsimp only [bare]
          have ze6 : f 6 = .int .i64 k := hold 6 rfl
          have HK : ∀ v W', Below W.heap.size W W' → tailV _ 39 v W' → K { tmps := #[f 0, f 1, f 2, f 3, f 4, f 5, f 6, f 7, f 8, f 9, f 10, f 11, f 12, f 13, f 14, f 15, f 16, f 17, f 18, f 19, f 20, f 21, f 22, f 23, f 24, f 25, f 26, f 27, f 28, f 29, f 30, f 31, f 32, f 33, f 34, f 35, f 36, f 37, f 38, v, f 40, f 41, f 42, f 43, f 44, f 45, f 46, f 47, f 48, f 49, f 50, f 51, f 52, f 53, f 54, f 55, f 56, f 57, f 58, f 59, f 60, f 61, f 62], defers := [] } W' := hK
          change wpList _ #[_] _ [_] { tmps := #[f 0, f 1, f 2, f 3, f 4, f 5, f 6, f 7, f 8, f 9, f 10, f 11, f 12, f 13, f 14, f 15, f 16, f 17, f 18, f 19, f 20, f 21, f 22, f 23, f 24, f 25, f 26, f 27, f 28, f 29, f 30, f 31, f 32, f 33, f 34, f 35, f 36, f 37, f 38, f 39, f 40, f 41, f 42, f 43, f 44, f 45, f 46, f 47, f 48, f 49, f 50, f 51, f 52, f 53, f 54, f 55, f 56, f 57, f 58, f 59, f 60, f 61, f 62], defers := [] } W
          clear hK hd hold
          simp only [ze6] at HK ⊢
          clear ze6
          have HK := Aside.mk HK
          go_wp2
          exact HK.out _ _ (Below.refl _ _) rfl
        · -- 40 := indexAddr 29 t38 t39
          intro f W hW hold hd K hK
          refine .inl ⟨wanted_free rfl _, ?_⟩
          dsimp only [bare]
          have ze38 : f 38 = .slice (some ⟨g, off, none⟩) n c := hd 38 rfl rfl
          have ze39 : f 39 = .int .i64 k := hd 39 rfl rfl
          have HK : ∀ v W', Below W.heap.size W W' → tailV _ 40 v W' → K { tmps := #[f 0, f 1, f 2, f 3, f 4, f 5, f 6, f 7, f 8, f 9, f 10, f 11, f 12, f 13, f 14, f 15, f 16, f 17, f 18, f 19, f 20, f 21, f 22, f 23, f 24, f 25, f 26, f 27, f 28, f 29, f 30, f 31, f 32, f 33, f 34, f 35, f 36, f 37, f 38, f 39, v, f 41, f 42, f 43, f 44, f 45, f 46, f 47, f 48, f 49, f 50, f 51, f 52, f 53, f 54, f 55, f 56, f 57, f 58, f 59, f 60, f 61, f 62], defers := [] } W' := hK
          change wpList _ #[_] _ [_] { tmps := #[f 0, f 1, f 2, f 3, f 4, f 5, f 6, f 7, f 8, f 9, f 10, f 11, f 12, f 13, f 14, f 15, f 16, f 17, f 18, f 19, f 20, f 21, f 22, f 23, f 24, f 25, f 26, f 27, f 28, f 29, f 30, f 31, f 32, f 33, f 34, f 35, f 36, f 37, f 38, f 39, f 40, f 41, f 42, f 43, f 44, f 45, f 46, f 47, f 48, f 49, f 50, f 51, f 52, f 53, f 54, f 55, f 56, f 57, f 58, f 59, f 60, f 61, f 62], defers := [] } W
          clear hK hd hold
          simp only [ze38, ze39] at HK ⊢
          clear ze38 ze39
          have HK := Aside.mk HK
          go_wp2
          exact HK.out _ _ (Below.refl _ _) rfl
        · -- 41 := fieldAddr 38 t40 0
          intro f W hW hold hd K hK
          refine .inl ⟨wanted_free rfl _, ?_⟩
          dsimp only [bare]
          have ze40 : f 40 = .pointer (some ⟨g, off + k * 4, none⟩) := hd 40 rfl rfl
          have HK : ∀ v W', Below W.heap.size W W' → tailV _ 41 v W' → K { tmps := #[f 0, f 1, f 2, f 3, f 4, f 5, f 6, f 7, f 8, f 9, f 10, f 11, f 12, f 13, f 14, f 15, f 16, f 17, f 18, f 19, f 20, f 21, f 22, f 23, f 24, f 25, f 26, f 27, f 28, f 29, f 30, f 31, f 32, f 33, f 34, f 35, f 36, f 37, f 38, f 39, f 40, v, f 42, f 43, f 44, f 45, f 46, f 47, f 48, f 49, f 50, f 51, f 52, f 53, f 54, f 55, f 56, f 57, f 58, f 59, f 60, f 61, f 62], defers := [] } W' := hK
          change wpList _ #[_] _ [_] { tmps := #[f 0, f 1, f 2, f 3, f 4, f 5, f 6, f 7, f 8, f 9, f 10, f 11, f 12, f 13, f 14, f 15, f 16, f 17, f 18, f 19, f 20, f 21, f 22, f 23, f 24, f 25, f 26, f 27, f 28, f 29, f 30, f 31, f 32, f 33, f 34, f 35, f 36, f 37, f 38, f 39, f 40, f 41, f 42, f 43, f 44, f 45, f 46, f 47, f 48, f 49, f 50, f 51, f 52, f 53, f 54, f 55, f 56, f 57, f 58, f 59, f 60, f 61, f 62], defers := [] } W
          clear hK hd hold
          simp only [ze40] at HK ⊢
          clear ze40
          have HK := Aside.mk HK
          go_wp2
          exact HK.out _ _ (Below.refl _ _) rfl
        · -- 42 := load 3 t41
          intro f W hW hold hd K hK
          refine .inl ⟨wanted_free rfl _, ?_⟩
          dsimp only [bare]
          have ze41 : f 41 = .pointer (some ⟨g, off + k * 4, none⟩) := hd 41 rfl rfl
          have HK : ∀ v W', Below W.heap.size W W' → tailV _ 42 v W' → K { tmps := #[f 0, f 1, f 2, f 3, f 4, f 5, f 6, f 7, f 8, f 9, f 10, f 11, f 12, f 13, f 14, f 15, f 16, f 17, f 18, f 19, f 20, f 21, f 22, f 23, f 24, f 25, f 26, f 27, f 28, f 29, f 30, f 31, f 32, f 33, f 34, f 35, f 36, f 37, f 38, f 39, f 40, f 41, v, f 43, f 44, f 45, f 46, f 47, f 48, f 49, f 50, f 51, f 52, f 53, f 54, f 55, f 56, f 57, f 58, f 59, f 60, f 61, f 62], defers := [] } W' := hK
          change wpList _ #[_] _ [_] { tmps := #[f 0, f 1, f 2, f 3, f 4, f 5, f 6, f 7, f 8, f 9, f 10, f 11, f 12, f 13, f 14, f 15, f 16, f 17, f 18, f 19, f 20, f 21, f 22, f 23, f 24, f 25, f 26, f 27, f 28, f 29, f 30, f 31, f 32, f 33, f 34, f 35, f 36, f 37, f 38, f 39, f 40, f 41, f 42, f 43, f 44, f 45, f 46, f 47, f 48, f 49, f 50, f 51, f 52, f 53, f 54, f 55, f 56, f 57, f 58, f 59, f 60, f 61, f 62], defers := [] } W
          clear hK hd hold
          simp only [ze41] at HK ⊢
          clear ze41
          have HK := Aside.mk HK
          have hcc := HCE.out W (HB.out.1.trans (hW.mono HB.out.1.size)); obtain ⟨c0, c1, c2, c3⟩ := hcc
          go_wp2
          exact HK.out _ _ (Below.refl _ _) rfl
        · -- 43 := move t0
          intro f W hW hold hd K hK
          refine .inl ⟨wanted_free rfl _, ?_⟩
          dsimp only [bare]
          have ze0 : f 0 = .slice (some ⟨g, off, none⟩) n c := hold 0 rfl
          have HK : ∀ v W', Below W.heap.size W W' → tailV _ 43 v W' → K { tmps := #[f 0, f 1, f 2, f 3, f 4, f 5, f 6, f 7, f 8, f 9, f 10, f 11, f 12, f 13, f 14, f 15, f 16, f 17, f 18, f 19, f 20, f 21, f 22, f 23, f 24, f 25, f 26, f 27, f 28, f 29, f 30, f 31, f 32, f 33, f 34, f 35, f 36, f 37, f 38, f 39, f 40, f 41, f 42, v, f 44, f 45, f 46, f 47, f 48, f 49, f 50, f 51, f 52, f 53, f 54, f 55, f 56, f 57, f 58, f 59, f 60, f 61, f 62], defers := [] } W' := hK
          change wpList _ #[_] _ [_] { tmps := #[f 0, f 1, f 2, f 3, f 4, f 5, f 6, f 7, f 8, f 9, f 10, f 11, f 12, f 13, f 14, f 15, f 16, f 17, f 18, f 19, f 20, f 21, f 22, f 23, f 24, f 25, f 26, f 27, f 28, f 29, f 30, f 31, f 32, f 33, f 34, f 35, f 36, f 37, f 38, f 39, f 40, f 41, f 42, f 43, f 44, f 45, f 46, f 47, f 48, f 49, f 50, f 51, f 52, f 53, f 54, f 55, f 56, f 57, f 58, f 59, f 60, f 61, f 62], defers := [] } W
          clear hK hd hold
          simp only [ze0] at HK ⊢
          clear ze0
          have HK := Aside.mk HK
          go_wp2
          exact HK.out _ _ (Below.refl _ _) rfl
        · -- 44 := move t6
          intro f W hW hold hd K hK
          refine .inl ⟨wanted_free rfl _, ?_⟩
          dsimp only [bare]
          have ze6 : f 6 = .int .i64 k := hold 6 rfl
          have HK : ∀ v W', Below W.heap.size W W' → tailV _ 44 v W' → K { tmps := #[f 0, f 1, f 2, f 3, f 4, f 5, f 6, f 7, f 8, f 9, f 10, f 11, f 12, f 13, f 14, f 15, f 16, f 17, f 18, f 19, f 20, f 21, f 22, f 23, f 24, f 25, f 26, f 27, f 28, f 29, f 30, f 31, f 32, f 33, f 34, f 35, f 36, f 37, f 38, f 39, f 40, f 41, f 42, f 43, v, f 45, f 46, f 47, f 48, f 49, f 50, f 51, f 52, f 53, f 54, f 55, f 56, f 57, f 58, f 59, f 60, f 61, f 62], defers := [] } W' := hK
          change wpList _ #[_] _ [_] { tmps := #[f 0, f 1, f 2, f 3, f 4, f 5, f 6, f 7, f 8, f 9, f 10, f 11, f 12, f 13, f 14, f 15, f 16, f 17, f 18, f 19, f 20, f 21, f 22, f 23, f 24, f 25, f 26, f 27, f 28, f 29, f 30, f 31, f 32, f 33, f 34, f 35, f 36, f 37, f 38, f 39, f 40, f 41, f 42, f 43, f 44, f 45, f 46, f 47, f 48, f 49, f 50, f 51, f 52, f 53, f 54, f 55, f 56, f 57, f 58, f 59, f 60, f 61, f 62], defers := [] } W
          clear hK hd hold
          simp only [ze6] at HK ⊢
          clear ze6
          have HK := Aside.mk HK
          go_wp2
          exact HK.out _ _ (Below.refl _ _) rfl
        · -- 45 := indexAddr 29 t43 t44
          intro f W hW hold hd K hK
          refine .inl ⟨wanted_free rfl _, ?_⟩
          dsimp only [bare]
          have ze43 : f 43 = .slice (some ⟨g, off, none⟩) n c := hd 43 rfl rfl
          have ze44 : f 44 = .int .i64 k := hd 44 rfl rfl
          have HK : ∀ v W', Below W.heap.size W W' → tailV _ 45 v W' → K { tmps := #[f 0, f 1, f 2, f 3, f 4, f 5, f 6, f 7, f 8, f 9, f 10, f 11, f 12, f 13, f 14, f 15, f 16, f 17, f 18, f 19, f 20, f 21, f 22, f 23, f 24, f 25, f 26, f 27, f 28, f 29, f 30, f 31, f 32, f 33, f 34, f 35, f 36, f 37, f 38, f 39, f 40, f 41, f 42, f 43, f 44, v, f 46, f 47, f 48, f 49, f 50, f 51, f 52, f 53, f 54, f 55, f 56, f 57, f 58, f 59, f 60, f 61, f 62], defers := [] } W' := hK
          change wpList _ #[_] _ [_] { tmps := #[f 0, f 1, f 2, f 3, f 4, f 5, f 6, f 7, f 8, f 9, f 10, f 11, f 12, f 13, f 14, f 15, f 16, f 17, f 18, f 19, f 20, f 21, f 22, f 23, f 24, f 25, f 26, f 27, f 28, f 29, f 30, f 31, f 32, f 33, f 34, f 35, f 36, f 37, f 38, f 39, f 40, f 41, f 42, f 43, f 44, f 45, f 46, f 47, f 48, f 49, f 50, f 51, f 52, f 53, f 54, f 55, f 56, f 57, f 58, f 59, f 60, f 61, f 62], defers := [] } W
          clear hK hd hold
          simp only [ze43, ze44] at HK ⊢
          clear ze43 ze44
          have HK := Aside.mk HK
          go_wp2
          exact HK.out _ _ (Below.refl _ _) rfl
        · -- 46 := fieldAddr 38 t45 1
          intro f W hW hold hd K hK
          refine .inl ⟨wanted_free rfl _, ?_⟩
          dsimp only [bare]
          have ze45 : f 45 = .pointer (some ⟨g, off + k * 4, none⟩) := hd 45 rfl rfl
          have HK : ∀ v W', Below W.heap.size W W' → tailV _ 46 v W' → K { tmps := #[f 0, f 1, f 2, f 3, f 4, f 5, f 6, f 7, f 8, f 9, f 10, f 11, f 12, f 13, f 14, f 15, f 16, f 17, f 18, f 19, f 20, f 21, f 22, f 23, f 24, f 25, f 26, f 27, f 28, f 29, f 30, f 31, f 32, f 33, f 34, f 35, f 36, f 37, f 38, f 39, f 40, f 41, f 42, f 43, f 44, f 45, v, f 47, f 48, f 49, f 50, f 51, f 52, f 53, f 54, f 55, f 56, f 57, f 58, f 59, f 60, f 61, f 62], defers := [] } W' := hK
          change wpList _ #[_] _ [_] { tmps := #[f 0, f 1, f 2, f 3, f 4, f 5, f 6, f 7, f 8, f 9, f 10, f 11, f 12, f 13, f 14, f 15, f 16, f 17, f 18, f 19, f 20, f 21, f 22, f 23, f 24, f 25, f 26, f 27, f 28, f 29, f 30, f 31, f 32, f 33, f 34, f 35, f 36, f 37, f 38, f 39, f 40, f 41, f 42, f 43, f 44, f 45, f 46, f 47, f 48, f 49, f 50, f 51, f 52, f 53, f 54, f 55, f 56, f 57, f 58, f 59, f 60, f 61, f 62], defers := [] } W
          clear hK hd hold
          simp only [ze45] at HK ⊢
          clear ze45
          have HK := Aside.mk HK
          go_wp2
          exact HK.out _ _ (Below.refl _ _) rfl
        · -- 47 := load 3 t46
          intro f W hW hold hd K hK
          refine .inl ⟨wanted_free rfl _, ?_⟩
          dsimp only [bare]
          have ze46 : f 46 = .pointer (some ⟨g, off + k * 4 + 1, none⟩) := hd 46 rfl rfl
          have HK : ∀ v W', Below W.heap.size W W' → tailV _ 47 v W' → K { tmps := #[f 0, f 1, f 2, f 3, f 4, f 5, f 6, f 7, f 8, f 9, f 10, f 11, f 12, f 13, f 14, f 15, f 16, f 17, f 18, f 19, f 20, f 21, f 22, f 23, f 24, f 25, f 26, f 27, f 28, f 29, f 30, f 31, f 32, f 33, f 34, f 35, f 36, f 37, f 38, f 39, f 40, f 41, f 42, f 43, f 44, f 45, f 46, v, f 48, f 49, f 50, f 51, f 52, f 53, f 54, f 55, f 56, f 57, f 58, f 59, f 60, f 61, f 62], defers := [] } W' := hK
          change wpList _ #[_] _ [_] { tmps := #[f 0, f 1, f 2, f 3, f 4, f 5, f 6, f 7, f 8, f 9, f 10, f 11, f 12, f 13, f 14, f 15, f 16, f 17, f 18, f 19, f 20, f 21, f 22, f 23, f 24, f 25, f 26, f 27, f 28, f 29, f 30, f 31, f 32, f 33, f 34, f 35, f 36, f 37, f 38, f 39, f 40, f 41, f 42, f 43, f 44, f 45, f 46, f 47, f 48, f 49, f 50, f 51, f 52, f 53, f 54, f 55, f 56, f 57, f 58, f 59, f 60, f 61, f 62], defers := [] } W
          clear hK hd hold
          simp only [ze46] at HK ⊢
          clear ze46
          have HK := Aside.mk HK
          have hcc := HCE.out W (HB.out.1.trans (hW.mono HB.out.1.size)); obtain ⟨c0, c1, c2, c3⟩ := hcc
          go_wp2
          exact HK.out _ _ (Below.refl _ _) rfl
        · -- 48 := move t0
          intro f W hW hold hd K hK
          refine .inl ⟨wanted_free rfl _, ?_⟩
          dsimp only [bare]
          have ze0 : f 0 = .slice (some ⟨g, off, none⟩) n c := hold 0 rfl
          have HK : ∀ v W', Below W.heap.size W W' → tailV _ 48 v W' → K { tmps := #[f 0, f 1, f 2, f 3, f 4, f 5, f 6, f 7, f 8, f 9, f 10, f 11, f 12, f 13, f 14, f 15, f 16, f 17, f 18, f 19, f 20, f 21, f 22, f 23, f 24, f 25, f 26, f 27, f 28, f 29, f 30, f 31, f 32, f 33, f 34, f 35, f 36, f 37, f 38, f 39, f 40, f 41, f 42, f 43, f 44, f 45, f 46, f 47, v, f 49, f 50, f 51, f 52, f 53, f 54, f 55, f 56, f 57, f 58, f 59, f 60, f 61, f 62], defers := [] } W' := hK
          change wpList _ #[_] _ [_] { tmps := #[f 0, f 1, f 2, f 3, f 4, f 5, f 6, f 7, f 8, f 9, f 10, f 11, f 12, f 13, f 14, f 15, f 16, f 17, f 18, f 19, f 20, f 21, f 22, f 23, f 24, f 25, f 26, f 27, f 28, f 29, f 30, f 31, f 32, f 33, f 34, f 35, f 36, f 37, f 38, f 39, f 40, f 41, f 42, f 43, f 44, f 45, f 46, f 47, f 48, f 49, f 50, f 51, f 52, f 53, f 54, f 55, f 56, f 57, f 58, f 59, f 60, f 61, f 62], defers := [] } W
          clear hK hd hold
          simp only [ze0] at HK ⊢
          clear ze0
          have HK := Aside.mk HK
          go_wp2
          exact HK.out _ _ (Below.refl _ _) rfl
        · -- 49 := move t6
          intro f W hW hold hd K hK
          refine .inl ⟨wanted_free rfl _, ?_⟩
          dsimp only [bare]
          have ze6 : f 6 = .int .i64 k := hold 6 rfl
          have HK : ∀ v W', Below W.heap.size W W' → tailV _ 49 v W' → K { tmps := #[f 0, f 1, f 2, f 3, f 4, f 5, f 6, f 7, f 8, f 9, f 10, f 11, f 12, f 13, f 14, f 15, f 16, f 17, f 18, f 19, f 20, f 21, f 22, f 23, f 24, f 25, f 26, f 27, f 28, f 29, f 30, f 31, f 32, f 33, f 34, f 35, f 36, f 37, f 38, f 39, f 40, f 41, f 42, f 43, f 44, f 45, f 46, f 47, f 48, v, f 50, f 51, f 52, f 53, f 54, f 55, f 56, f 57, f 58, f 59, f 60, f 61, f 62], defers := [] } W' := hK
          change wpList _ #[_] _ [_] { tmps := #[f 0, f 1, f 2, f 3, f 4, f 5, f 6, f 7, f 8, f 9, f 10, f 11, f 12, f 13, f 14, f 15, f 16, f 17, f 18, f 19, f 20, f 21, f 22, f 23, f 24, f 25, f 26, f 27, f 28, f 29, f 30, f 31, f 32, f 33, f 34, f 35, f 36, f 37, f 38, f 39, f 40, f 41, f 42, f 43, f 44, f 45, f 46, f 47, f 48, f 49, f 50, f 51, f 52, f 53, f 54, f 55, f 56, f 57, f 58, f 59, f 60, f 61, f 62], defers := [] } W
          clear hK hd hold
          simp only [ze6] at HK ⊢
          clear ze6
          have HK := Aside.mk HK
          go_wp2
          exact HK.out _ _ (Below.refl _ _) rfl
        · -- 50 := indexAddr 29 t48 t49
          intro f W hW hold hd K hK
          refine .inl ⟨wanted_free rfl _, ?_⟩
          dsimp only [bare]
          have ze48 : f 48 = .slice (some ⟨g, off, none⟩) n c := hd 48 rfl rfl
          have ze49 : f 49 = .int .i64 k := hd 49 rfl rfl
          have HK : ∀ v W', Below W.heap.size W W' → tailV _ 50 v W' → K { tmps := #[f 0, f 1, f 2, f 3, f 4, f 5, f 6, f 7, f 8, f 9, f 10, f 11, f 12, f 13, f 14, f 15, f 16, f 17, f 18, f 19, f 20, f 21, f 22, f 23, f 24, f 25, f 26, f 27, f 28, f 29, f 30, f 31, f 32, f 33, f 34, f 35, f 36, f 37, f 38, f 39, f 40, f 41, f 42, f 43, f 44, f 45, f 46, f 47, f 48, f 49, v, f 51, f 52, f 53, f 54, f 55, f 56, f 57, f 58, f 59, f 60, f 61, f 62], defers := [] } W' := hK
          change wpList _ #[_] _ [_] { tmps := #[f 0, f 1, f 2, f 3, f 4, f 5, f 6, f 7, f 8, f 9, f 10, f 11, f 12, f 13, f 14, f 15, f 16, f 17, f 18, f 19, f 20, f 21, f 22, f 23, f 24, f 25, f 26, f 27, f 28, f 29, f 30, f 31, f 32, f 33, f 34, f 35, f 36, f 37, f 38, f 39, f 40, f 41, f 42, f 43, f 44, f 45, f 46, f 47, f 48, f 49, f 50, f 51, f 52, f 53, f 54, f 55, f 56, f 57, f 58, f 59, f 60, f 61, f 62], defers := [] } W
          clear hK hd hold
          simp only [ze48, ze49] at HK ⊢
          clear ze48 ze49
          have HK := Aside.mk HK
          go_wp2
          exact HK.out _ _ (Below.refl _ _) rfl
        · -- 51 := fieldAddr 38 t50 2
          intro f W hW hold hd K hK
          refine .inl ⟨wanted_free rfl _, ?_⟩
          dsimp only [bare]
          have ze50 : f 50 = .pointer (some ⟨g, off + k * 4, none⟩) := hd 50 rfl rfl
          have HK : ∀ v W', Below W.heap.size W W' → tailV _ 51 v W' → K { tmps := #[f 0, f 1, f 2, f 3, f 4, f 5, f 6, f 7, f 8, f 9, f 10, f 11, f 12, f 13, f 14, f 15, f 16, f 17, f 18, f 19, f 20, f 21, f 22, f 23, f 24, f 25, f 26, f 27, f 28, f 29, f 30, f 31, f 32, f 33, f 34, f 35, f 36, f 37, f 38, f 39, f 40, f 41, f 42, f 43, f 44, f 45, f 46, f 47, f 48, f 49, f 50, v, f 52, f 53, f 54, f 55, f 56, f 57, f 58, f 59, f 60, f 61, f 62], defers := [] } W' := hK
          change wpList _ #[_] _ [_] { tmps := #[f 0, f 1, f 2, f 3, f 4, f 5, f 6, f 7, f 8, f 9, f 10, f 11, f 12, f 13, f 14, f 15, f 16, f 17, f 18, f 19, f 20, f 21, f 22, f 23, f 24, f 25, f 26, f 27, f 28, f 29, f 30, f 31, f 32, f 33, f 34, f 35, f 36, f 37, f 38, f 39, f 40, f 41, f 42, f 43, f 44, f 45, f 46, f 47, f 48, f 49, f 50, f 51, f 52, f 53, f 54, f 55, f 56, f 57, f 58, f 59, f 60, f 61, f 62], defers := [] } W
          clear hK hd hold
          simp only [ze50] at HK ⊢
          clear ze50
          have HK := Aside.mk HK
          go_wp2
          exact HK.out _ _ (Below.refl _ _) rfl
        · -- 52 := load 4 t51
          intro f W hW hold hd K hK
          refine .inl ⟨wanted_free rfl _, ?_⟩
          dsimp only [bare]
          have ze51 : f 51 = .pointer (some ⟨g, off + k * 4 + 2, none⟩) := hd 51 rfl rfl
          have HK : ∀ v W', Below W.heap.size W W' → tailV _ 52 v W' → K { tmps := #[f 0, f 1, f 2, f 3, f 4, f 5, f 6, f 7, f 8, f 9, f 10, f 11, f 12, f 13, f 14, f 15, f 16, f 17, f 18, f 19, f 20, f 21, f 22, f 23, f 24, f 25, f 26, f 27, f 28, f 29, f 30, f 31, f 32, f 33, f 34, f 35, f 36, f 37, f 38, f 39, f 40, f 41, f 42, f 43, f 44, f 45, f 46, f 47, f 48, f 49, f 50, f 51, v, f 53, f 54, f 55, f 56, f 57, f 58, f 59, f 60, f 61, f 62], defers := [] } W' := hK
          change wpList _ #[_] _ [_] { tmps := #[f 0, f 1, f 2, f 3, f 4, f 5, f 6, f 7, f 8, f 9, f 10, f 11, f 12, f 13, f 14, f 15, f 16, f 17, f 18, f 19, f 20, f 21, f 22, f 23, f 24, f 25, f 26, f 27, f 28, f 29, f 30, f 31, f 32, f 33, f 34, f 35, f 36, f 37, f 38, f 39, f 40, f 41, f 42, f 43, f 44, f 45, f 46, f 47, f 48, f 49, f 50, f 51, f 52, f 53, f 54, f 55, f 56, f 57, f 58, f 59, f 60, f 61, f 62], defers := [] } W
          clear hK hd hold
          simp only [ze51] at HK ⊢
          clear ze51
          have HK := Aside.mk HK
          have hcc := HCE.out W (HB.out.1.trans (hW.mono HB.out.1.size)); obtain ⟨c0, c1, c2, c3⟩ := hcc
          go_wp2
          exact HK.out _ _ (Below.refl _ _) rfl
        · -- 53 := move t0
          intro f W hW hold hd K hK
          refine .inl ⟨wanted_free rfl _, ?_⟩
          dsimp only [bare]
          have ze0 : f 0 = .slice (some ⟨g, off, none⟩) n c := hold 0 rfl
          have HK : ∀ v W', Below W.heap.size W W' → tailV _ 53 v W' → K { tmps := #[f 0, f 1, f 2, f 3, f 4, f 5, f 6, f 7, f 8, f 9, f 10, f 11, f 12, f 13, f 14, f 15, f 16, f 17, f 18, f 19, f 20, f 21, f 22, f 23, f 24, f 25, f 26, f 27, f 28, f 29, f 30, f 31, f 32, f 33, f 34, f 35, f 36, f 37, f 38, f 39, f 40, f 41, f 42, f 43, f 44, f 45, f 46, f 47, f 48, f 49, f 50, f 51, f 52, v, f 54, f 55, f 56, f 57, f 58, f 59, f 60, f 61, f 62], defers := [] } W' := hK
          change wpList _ #[_] _ [_] { tmps := #[f 0, f 1, f 2, f 3, f 4, f 5, f 6, f 7, f 8, f 9, f 10, f 11, f 12, f 13, f 14, f 15, f 16, f 17, f 18, f 19, f 20, f 21, f 22, f 23, f 24, f 25, f 26, f 27, f 28, f 29, f 30, f 31, f 32, f 33, f 34, f 35, f 36, f 37, f 38, f 39, f 40, f 41, f 42, f 43, f 44, f 45, f 46, f 47, f 48, f 49, f 50, f 51, f 52, f 53, f 54, f 55, f 56, f 57, f 58, f 59, f 60, f 61, f 62], defers := [] } W
          clear hK hd hold
          simp only [ze0] at HK ⊢
          clear ze0
          have HK := Aside.mk HK
          go_wp2
          exact HK.out _ _ (Below.refl _ _) rfl
        · -- 54 := move t6
          intro f W hW hold hd K hK
          refine .inl ⟨wanted_free rfl _, ?_⟩
          dsimp only [bare]
          have ze6 : f 6 = .int .i64 k := hold 6 rfl
          have HK : ∀ v W', Below W.heap.size W W' → tailV _ 54 v W' → K { tmps := #[f 0, f 1, f 2, f 3, f 4, f 5, f 6, f 7, f 8, f 9, f 10, f 11, f 12, f 13, f 14, f 15, f 16, f 17, f 18, f 19, f 20, f 21, f 22, f 23, f 24, f 25, f 26, f 27, f 28, f 29, f 30, f 31, f 32, f 33, f 34, f 35, f 36, f 37, f 38, f 39, f 40, f 41, f 42, f 43, f 44, f 45, f 46, f 47, f 48, f 49, f 50, f 51, f 52, f 53, v, f 55, f 56, f 57, f 58, f 59, f 60, f 61, f 62], defers := [] } W' := hK
          change wpList _ #[_] _ [_] { tmps := #[f 0, f 1, f 2, f 3, f 4, f 5, f 6, f 7, f 8, f 9, f 10, f 11, f 12, f 13, f 14, f 15, f 16, f 17, f 18, f 19, f 20, f 21, f 22, f 23, f 24, f 25, f 26, f 27, f 28, f 29, f 30, f 31, f 32, f 33, f 34, f 35, f 36, f 37, f 38, f 39, f 40, f 41, f 42, f 43, f 44, f 45, f 46, f 47, f 48, f 49, f 50, f 51, f 52, f 53, f 54, f 55, f 56, f 57, f 58, f 59, f 60, f 61, f 62], defers := [] } W
          clear hK hd hold
          simp only [ze6] at HK ⊢
          clear ze6
          have HK := Aside.mk HK
          go_wp2
          exact HK.out _ _ (Below.refl _ _) rfl
        · -- 55 := indexAddr 29 t53 t54
          intro f W hW hold hd K hK
          refine .inl ⟨wanted_free rfl _, ?_⟩
          dsimp only [bare]
          have ze53 : f 53 = .slice (some ⟨g, off, none⟩) n c := hd 53 rfl rfl
          have ze54 : f 54 = .int .i64 k := hd 54 rfl rfl
          have HK : ∀ v W', Below W.heap.size W W' → tailV _ 55 v W' → K { tmps := #[f 0, f 1, f 2, f 3, f 4, f 5, f 6, f 7, f 8, f 9, f 10, f 11, f 12, f 13, f 14, f 15, f 16, f 17, f 18, f 19, f 20, f 21, f 22, f 23, f 24, f 25, f 26, f 27, f 28, f 29, f 30, f 31, f 32, f 33, f 34, f 35, f 36, f 37, f 38, f 39, f 40, f 41, f 42, f 43, f 44, f 45, f 46, f 47, f 48, f 49, f 50, f 51, f 52, f 53, f 54, v, f 56, f 57, f 58, f 59, f 60, f 61, f 62], defers := [] } W' := hK
          change wpList _ #[_] _ [_] { tmps := #[f 0, f 1, f 2, f 3, f 4, f 5, f 6, f 7, f 8, f 9, f 10, f 11, f 12, f 13, f 14, f 15, f 16, f 17, f 18, f 19, f 20, f 21, f 22, f 23, f 24, f 25, f 26, f 27, f 28, f 29, f 30, f 31, f 32, f 33, f 34, f 35, f 36, f 37, f 38, f 39, f 40, f 41, f 42, f 43, f 44, f 45, f 46, f 47, f 48, f 49, f 50, f 51, f 52, f 53, f 54, f 55, f 56, f 57, f 58, f 59, f 60, f 61, f 62], defers := [] } W
          clear hK hd hold
          simp only [ze53, ze54] at HK ⊢
          clear ze53 ze54
          have HK := Aside.mk HK
          go_wp2
          exact HK.out _ _ (Below.refl _ _) rfl
        · -- 56 := fieldAddr 38 t55 3
          intro f W hW hold hd K hK
          refine .inl ⟨wanted_free rfl _, ?_⟩
          dsimp only [bare]
          have ze55 : f 55 = .pointer (some ⟨g, off + k * 4, none⟩) := hd 55 rfl rfl
          have HK : ∀ v W', Below W.heap.size W W' → tailV _ 56 v W' → K { tmps := #[f 0, f 1, f 2, f 3, f 4, f 5, f 6, f 7, f 8, f 9, f 10, f 11, f 12, f 13, f 14, f 15, f 16, f 17, f 18, f 19, f 20, f 21, f 22, f 23, f 24, f 25, f 26, f 27, f 28, f 29, f 30, f 31, f 32, f 33, f 34, f 35, f 36, f 37, f 38, f 39, f 40, f 41, f 42, f 43, f 44, f 45, f 46, f 47, f 48, f 49, f 50, f 51, f 52, f 53, f 54, f 55, v, f 57, f 58, f 59, f 60, f 61, f 62], defers := [] } W' := hK
          change wpList _ #[_] _ [_] { tmps := #[f 0, f 1, f 2, f 3, f 4, f 5, f 6, f 7, f 8, f 9, f 10, f 11, f 12, f 13, f 14, f 15, f 16, f 17, f 18, f 19, f 20, f 21, f 22, f 23, f 24, f 25, f 26, f 27, f 28, f 29, f 30, f 31, f 32, f 33, f 34, f 35, f 36, f 37, f 38, f 39, f 40, f 41, f 42, f 43, f 44, f 45, f 46, f 47, f 48, f 49, f 50, f 51, f 52, f 53, f 54, f 55, f 56, f 57, f 58, f 59, f 60, f 61, f 62], defers := [] } W
          clear hK hd hold
          simp only [ze55] at HK ⊢
          clear ze55
          have HK := Aside.mk HK
          go_wp2
          exact HK.out _ _ (Below.refl _ _) rfl
        · -- 57 := load 4 t56
          intro f W hW hold hd K hK
          refine .inl ⟨wanted_free rfl _, ?_⟩
          dsimp only [bare]
          have ze56 : f 56 = .pointer (some ⟨g, off + k * 4 + 3, none⟩) := hd 56 rfl rfl
          have HK : ∀ v W', Below W.heap.size W W' → tailV _ 57 v W' → K { tmps := #[f 0, f 1, f 2, f 3, f 4, f 5, f 6, f 7, f 8, f 9, f 10, f 11, f 12, f 13, f 14, f 15, f 16, f 17, f 18, f 19, f 20, f 21, f 22, f 23, f 24, f 25, f 26, f 27, f 28, f 29, f 30, f 31, f 32, f 33, f 34, f 35, f 36, f 37, f 38, f 39, f 40, f 41, f 42, f 43, f 44, f 45, f 46, f 47, f 48, f 49, f 50, f 51, f 52, f 53, f 54, f 55, f 56, v, f 58, f 59, f 60, f 61, f 62], defers := [] } W' := hK
          change wpList _ #[_] _ [_] { tmps := #[f 0, f 1, f 2, f 3, f 4, f 5, f 6, f 7, f 8, f 9, f 10, f 11, f 12, f 13, f 14, f 15, f 16, f 17, f 18, f 19, f 20, f 21, f 22, f 23, f 24, f 25, f 26, f 27, f 28, f 29, f 30, f 31, f 32, f 33, f 34, f 35, f 36, f 37, f 38, f 39, f 40, f 41, f 42, f 43, f 44, f 45, f 46, f 47, f 48, f 49, f 50, f 51, f 52, f 53, f 54, f 55, f 56, f 57, f 58, f 59, f 60, f 61, f 62], defers := [] } W
          clear hK hd hold
          simp only [ze56] at HK ⊢
          clear ze56
          have HK := Aside.mk HK
          have hcc := HCE.out W (HB.out.1.trans (hW.mono HB.out.1.size)); obtain ⟨c0, c1, c2, c3⟩ := hcc
          go_wp2
          exact HK.out _ _ (Below.refl _ _) rfl
        · -- 58 := build 42 [(0, t42), (1, t47), (2, t52), (3, t57)]
          intro f W hW hold hd K hK
          refine .inl ⟨wanted_free rfl _, ?_⟩
          dsimp only [bare]
          have ze42 : f 42 = .int .i64 xe := hd 42 rfl rfl
          have ze47 : f 47 = .int .i64 xr := hd 47 rfl rfl
          have ze52 : f 52 = .bool xu := hd 52 rfl rfl
          have ze57 : f 57 = .bool xw := hd 57 rfl rfl
          have HK : ∀ v W', Below W.heap.size W W' → tailV _ 58 v W' → K { tmps := #[f 0, f 1, f 2, f 3, f 4, f 5, f 6, f 7, f 8, f 9, f 10, f 11, f 12, f 13, f 14, f 15, f 16, f 17, f 18, f 19, f 20, f 21, f 22, f 23, f 24, f 25, f 26, f 27, f 28, f 29, f 30, f 31, f 32, f 33, f 34, f 35, f 36, f 37, f 38, f 39, f 40, f 41, f 42, f 43, f 44, f 45, f 46, f 47, f 48, f 49, f 50, f 51, f 52, f 53, f 54, f 55, f 56, f 57, v, f 59, f 60, f 61, f 62], defers := [] } W' := hK
          change wpList _ #[_] _ [_] { tmps := #[f 0, f 1, f 2, f 3, f 4, f 5, f 6, f 7, f 8, f 9, f 10, f 11, f 12, f 13, f 14, f 15, f 16, f 17, f 18, f 19, f 20, f 21, f 22, f 23, f 24, f 25, f 26, f 27, f 28, f 29, f 30, f 31, f 32, f 33, f 34, f 35, f 36, f 37, f 38, f 39, f 40, f 41, f 42, f 43, f 44, f 45, f 46, f 47, f 48, f 49, f 50, f 51, f 52, f 53, f 54, f 55, f 56, f 57, f 58, f 59, f 60, f 61, f 62], defers := [] } W
          clear hK hd hold
          simp only [ze42, ze47, ze52, ze57] at HK ⊢
          clear ze42 ze47 ze52 ze57
          have HK := Aside.mk HK
          go_wp2
          exact HK.out _ _ (Below.refl _ _) rfl
        · -- 59 := buildSlice 30 1 [(0, t58)]
          intro f W hW hold hd K hK
          refine .inl ⟨wanted_free rfl _, ?_⟩
          dsimp only [bare]
          have ze58 : f 58 = .agg #[.int .i64 xe, .int .i64 xr, .bool xu, .bool xw] := hd 58 rfl rfl
          have HK : ∀ v W', Below W.heap.size W W' → tailV _ 59 v W' → K { tmps := #[f 0, f 1, f 2, f 3, f 4, f 5, f 6, f 7, f 8, f 9, f 10, f 11, f 12, f 13, f 14, f 15, f 16, f 17, f 18, f 19, f 20, f 21, f 22, f 23, f 24, f 25, f 26, f 27, f 28, f 29, f 30, f 31, f 32, f 33, f 34, f 35, f 36, f 37, f 38, f 39, f 40, f 41, f 42, f 43, f 44, f 45, f 46, f 47, f 48, f 49, f 50, f 51, f 52, f 53, f 54, f 55, f 56, f 57, f 58, v, f 60, f 61, f 62], defers := [] } W' := hK
          change wpList _ #[_] _ [_] { tmps := #[f 0, f 1, f 2, f 3, f 4, f 5, f 6, f 7, f 8, f 9, f 10, f 11, f 12, f 13, f 14, f 15, f 16, f 17, f 18, f 19, f 20, f 21, f 22, f 23, f 24, f 25, f 26, f 27, f 28, f 29, f 30, f 31, f 32, f 33, f 34, f 35, f 36, f 37, f 38, f 39, f 40, f 41, f 42, f 43, f 44, f 45, f 46, f 47, f 48, f 49, f 50, f 51, f 52, f 53, f 54, f 55, f 56, f 57, f 58, f 59, f 60, f 61, f 62], defers := [] } W
          clear hK hd hold
          simp only [ze58] at HK ⊢
          clear ze58
          have HK := Aside.mk HK
          go_wp2
          exact HK.out _ _ ((Below.refl _ _).alloc (Nat.le_refl _) _) ⟨_, rfl, heap_alloc_new _ _⟩
        · intro f W hW hold hd aa ha
          replace ha := ha.trans (rel_puts hold)
          have ze37 : f 37 = u5 := hd 37 rfl
          have ze38 : f 38 = .slice (some ⟨g, off, none⟩) n c := hd 38 rfl
          have ze39 : f 39 = .int .i64 k := hd 39 rfl
          have ze40 : f 40 = .pointer (some ⟨g, off + k * 4, none⟩) := hd 40 rfl
          have ze41 : f 41 = .pointer (some ⟨g, off + k * 4, none⟩) := hd 41 rfl
          have ze42 : f 42 = .int .i64 xe := hd 42 rfl
          have ze43 : f 43 = .slice (some ⟨g, off, none⟩) n c := hd 43 rfl
          have ze44 : f 44 = .int .i64 k := hd 44 rfl
          have ze45 : f 45 = .pointer (some ⟨g, off + k * 4, none⟩) := hd 45 rfl
          have ze46 : f 46 = .pointer (some ⟨g, off + k * 4 + 1, none⟩) := hd 46 rfl
          have ze47 : f 47 = .int .i64 xr := hd 47 rfl
          have ze48 : f 48 = .slice (some ⟨g, off, none⟩) n c := hd 48 rfl
          have ze49 : f 49 = .int .i64 k := hd 49 rfl
          have ze50 : f 50 = .pointer (some ⟨g, off + k * 4, none⟩) := hd 50 rfl
          have ze51 : f 51 = .pointer (some ⟨g, off + k * 4 + 2, none⟩) := hd 51 rfl
          have ze52 : f 52 = .bool xu := hd 52 rfl
          have ze53 : f 53 = .slice (some ⟨g, off, none⟩) n c := hd 53 rfl
          have ze54 : f 54 = .int .i64 k := hd 54 rfl
          have ze55 : f 55 = .pointer (some ⟨g, off + k * 4, none⟩) := hd 55 rfl
          have ze56 : f 56 = .pointer (some ⟨g, off + k * 4 + 3, none⟩) := hd 56 rfl
          have ze57 : f 57 = .bool xw := hd 57 rfl
          have ze58 : f 58 = .agg #[.int .i64 xe, .int .i64 xr, .bool xu, .bool xw] := hd 58 rfl
          obtain ⟨b59, ze59, r59⟩ : ∃ bb, f 59 = .slice (some ⟨bb, 0, none⟩) 1 1 ∧ W.heap[bb]? = some (.cells #[.int .i64 xe, .int .i64 xr, .bool xu, .bool xw] 42 (0, 0)) := hd 59 rfl
          simp only [List.take_succ_cons, List.take_zero, putAll, List.foldl_cons, List.foldl_nil, Option.getD_some] at ha
          simp only [ze37, ze38, ze39, ze40, ze41, ze42, ze43, ze44, ze45, ze46, ze47, ze48, ze49, ze50, ze51, ze52, ze53, ze54, ze55, ze56, ze57, ze58, ze59] at ha
          subst ha
          simp only [List.drop_succ_cons, List.drop_zero, Act.put, List.setIfInBounds_toArray, List.set_cons_zero, List.set_cons_succ]
          clear hold hd ze37 ze38 ze39 ze40 ze41 ze42 ze43 ze44 ze45 ze46 ze47 ze48 ze49 ze50 ze51 ze52 ze53 ze54 ze55 ze56 ze57 ze58 ze59
          have HQ : Aside (Below w.heap.size w W ∧ Row W w.heap.size 27 4 v1 (k + 1) (kV f0 (k + 1)) ∧ Row W w.heap.size 42 4 u5 k (kV f0 k)) := ⟨HB.out.1.trans (hW.mono HB.out.1.size), HB.out.2.1.below hW, HB.out.2.2.below hW⟩
          clear hW HB
          go_wp2_with (at_builtin; refine wpList_append_row (w0 := w) w.heap.size rfl _ _ 30 42 4 24 _ rfl Try.underlying30 infoBlk2 rfl (by decide) u5 k (kV f0 k) (.slice (some ⟨b59, 0, none⟩) 1 1) 1 #[.int .i64 xe, .int .i64 xr, .bool xu, .bool xw].toList rfl rfl HQ.out.2.2 (src_lit r59 rfl) (by simp [Value.oneCell']) HQ.out.1 HQ.out.1.size (by omega) (by simp only [maxLen]; omega) ?_; intro v2 w2 hr2 hb2 hg2 hat2; have HB : Aside (BothAt w f0 v1 v2 (k + 1) w2) := ⟨hb2, HQ.out.2.1.kept hg2 (rows_apart HQ.out.2.2 HQ.out.2.1 (by decide)), by rw [HK.out]; exact hr2⟩; clear hr2 hb2 hg2 hat2 HQ)
          go_roundw
          case rel => exact ⟨k + 1, by omega, by go_num, HB⟩
          case measure => simp [intOf]; omega
    · obtain rfl : k = n := by omega
      go_wp2
      go_ret2
      exact ⟨_, _, rfl, HB.out⟩
end Go.Proofs.Ytaganococolodaa
