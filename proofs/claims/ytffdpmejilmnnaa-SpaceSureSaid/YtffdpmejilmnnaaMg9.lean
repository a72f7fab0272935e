/-
  The bytes of a page and of its payload, by the program and by the document.
  What the document's functions of the field answer.
  The document's least polynomial of a power: by elimination.
-/
import Derived.Test.YtffdpmejilmnnaaMg7
import Derived.Test.YtffdpmejilmnnaaMg8
import Derived.Test.YtffdpmejilmnnaaMg3
import Derived.Test.YtffdpmejilmnnaaMg6
namespace Go.Proofs.Ytffdpmejilmnnaa
open Go.RowKit

def rawI (c ch t : Int) : Int := c * (ch + (lowN8 t.toNat : Int))
def payI (c ch : Int) : Int := c * ch - 7
theorem raw_bounds {b p c ch t : Int} (h : goodP b p c ch t) : 0 ≤ ch + (lowN8 t.toNat : Int) ∧ ch + (lowN8 t.toNat : Int) ≤ 300 ∧ 0 ≤ c * (ch + (lowN8 t.toNat : Int)) ∧ c * (ch + (lowN8 t.toNat : Int)) ≤ 1200 ∧ 16 ≤ c * ch ∧ c * ch ≤ 1024 := by
  obtain ⟨_, _, _, _, _, h5, h6, h7, h8, h9, h10⟩ := h
  have hl : lowN8 t.toNat ≤ 14 := by
    have := (degN_le t.toNat (by omega) (by omega)).2
    unfold lowN8
    omega
  have hc : c = 1 ∨ c = 2 ∨ c = 3 ∨ c = 4 := by omega
  rcases hc with rfl | rfl | rfl | rfl <;> omega
/-- A code of a page: new, or made ready. -/
def CAny (k t n : Nat) (W : World) : Prop := BNew W k t n ∨ ∃ g l q, BReady W k t n g l q
theorem CAny.below {k t n : Nat} {W W' : World} (h : CAny k t n W) (hb : Below W.heap.size W W') : CAny k t n W' := by
  rcases h with h | ⟨g, l, q, h⟩
  · exact .inl (CF.below h hb)
  · exact .inr ⟨g, l, q, h.below hb⟩
theorem CAny.drew {k t n : Nat} {W : World} (h : CAny k t n W) : CAny k t n W.drew := h.below ⟨rfl, rfl, rfl, Nat.le_refl _, fun _ _ => rfl⟩
theorem bch_parity_any (k t n : Nat) (W : World) (ht8 : t ≤ 8) (ht1 : 1 ≤ t) (h : CAny k t n W) :
    Calls Try.prog 20 #[.pointer (some ⟨k, 0, none⟩)] W fun e w' => e = .returned (.int .i64 (lowN8 t : Int)) ∧ CAny k t n w' ∧ W.grownBy w' (some k) := by
  rcases h with h | ⟨g, l, q, h⟩
  · refine (bch_parity k t n W ht8 ht1 h).mono ?_
    rintro e w' ⟨rfl, h1, h2⟩
    exact ⟨rfl, .inr h1, h2⟩
  · refine (bch_parity_at k t n g q l W h).mono ?_
    rintro e w' ⟨rfl, hb⟩
    exact ⟨rfl, .inr ⟨g, l, q, h.below hb⟩, grownBy_of_below hb (some k)⟩
set_option maxRecDepth 20000 in
set_option maxHeartbeats 2000000 in
theorem page_raw (b p c ch t : Int) (w : World) (hg : goodP b p c ch t) :
    Calls Try.prog 12 #[geoV b p c ch t] w fun e w' => e = .returned (.tuple #[.int .i64 (rawI c ch t), .int .i64 (payI c ch)]) ∧ Below w.heap.size w w' := by
  have hb := (Below.refl w.heap.size w).alloc (Nat.le_refl _) (.cells #[.int .i64 b, .int .i64 p, .int .i64 c, .int .i64 ch, .int .i64 t] 29)
  have HB := Aside.mk hb
  have HG := Aside.mk hg
  clear hb hg
  go_enter Try.func12, Try.ntmps12
  go_upto_region 4 with (go_at_call 19; refine (code_of b p c ch t _ HG.out).mono ?_; rintro e w2 ⟨k, rfl, HN⟩)
  have hs : w.heap.size < (w.alloc (.cells #[.int .i64 b, .int .i64 p, .int .i64 c, .int .i64 ch, .int .i64 t] 29)).heap.size := by simp
  have hce : ∀ i, w2.cell? ⟨w.heap.size, i, none⟩ = (w.alloc (.cells #[.int .i64 b, .int .i64 p, .int .i64 c, .int .i64 ch, .int .i64 t] 29)).cell? ⟨w.heap.size, i, none⟩ := fun i => HN.out.2.2.cell (p := ⟨w.heap.size, i, none⟩) hs
  have c2 := (hce 2).trans (cell_of_row _ w.heap.size 2 _ _ _ (heap_alloc_new w _))
  have c3 := (hce 3).trans (cell_of_row _ w.heap.size 3 _ _ _ (heap_alloc_new w _))
  simp only [List.getElem?_cons_zero, List.getElem?_cons_succ, List.getElem?_toArray] at c2 c3
  have HC : Aside (w2.cell? ⟨w.heap.size, 2, none⟩ = some (.int .i64 c) ∧ w2.cell? ⟨w.heap.size, 3, none⟩ = some (.int .i64 ch) ∧ w.heap.size < w2.heap.size ∧ Below w.heap.size w w2 ∧ w.heap.size ≤ k ∧ w.heap.size ≠ k) := ⟨c2, c3, Nat.lt_of_lt_of_le hs HN.out.2.2.size, HB.out.trans (HN.out.2.2.mono (Nat.le_of_lt hs)), Nat.le_trans (Nat.le_of_lt hs) HN.out.1, by have := HN.out.1; omega⟩
  have HPA : Aside (∀ W, CAny k t.toNat ch.toNat W → Calls Try.prog 20 #[.pointer (some ⟨k, 0, none⟩)] W fun e w' => e = .returned (.int .i64 (lowN8 t.toNat : Int)) ∧ W.grownBy w' (some k) ∧ (CAny k t.toNat ch.toNat W → CAny k t.toNat ch.toNat w')) := ⟨fun W hW => by
    refine (bch_parity_any k t.toNat ch.toNat W (by have := HG.out.2.2.2.2.2.2.2.2.2; omega) (by have := HG.out.2.2.2.2.2.2.2.2.2; omega) hW).mono ?_
    rintro e w' ⟨rfl, h1, h2⟩
    exact ⟨rfl, h2, fun _ => h1⟩⟩
  have HI : Aside (CAny k t.toNat ch.toNat w2) := ⟨.inl HN.out.2.1⟩
  have HBF : Aside (∀ W, Chg (· = k) (CAny k t.toNat ch.toNat) w2 W → Below w.heap.size w W) := ⟨fun W h => ⟨h.os.trans HC.out.2.2.2.1.os, h.tape.trans HC.out.2.2.2.1.tape, h.output.trans HC.out.2.2.2.1.output, Nat.le_trans (Nat.le_of_lt HC.out.2.2.1) h.size, fun b hb => (h.block b (Nat.lt_trans hb HC.out.2.2.1) (by have := HC.out.2.2.2.2.1; omega)).trans (HC.out.2.2.2.1.block b hb)⟩⟩
  have hbd := raw_bounds HG.out
  have h7 : payI c ch = c * ch - 3 - 4 := by unfold payI; omega
  have hr : rawI c ch t = c * (ch + (lowN8 t.toNat : Int)) := rfl
  have HH := Aside.mk (And.intro h7 hr)
  generalize (lowN8 t.toNat : Int) = L at *
  have e1 : IntKind.i64.wrap (ch + L) = ch + L := by rw [IntKind.wrap_i64]; omega
  have e2 : IntKind.i64.wrap (c * (ch + L)) = c * (ch + L) := by rw [IntKind.wrap_i64]; omega
  have e3 : IntKind.i64.wrap (c * ch) = c * ch := by rw [IntKind.wrap_i64]; omega
  have e4 : IntKind.i64.wrap (c * ch - 3) = c * ch - 3 := by rw [IntKind.wrap_i64]; omega
  have e5 : IntKind.i64.wrap (c * ch - 3 - 4) = c * ch - 3 - 4 := by rw [IntKind.wrap_i64]; omega
  clear hbd hs hce h7 hr
  refine wp_region_r 17 (by kernel_rfl) (by kernel_rfl) (rel_small (by kernel_rfl)) (chgV (· = k) (CAny k t.toNat ch.toNat) [(2, .val (.int .i64 (c * (ch + L)))), (3, .val (.int .i64 (c * ch - 3 - 4))), (9, .val (.pointer (some ⟨w.heap.size, 2, none⟩))), (10, .val (.int .i64 c)), (11, .val (.pointer (some ⟨w.heap.size, 3, none⟩))), (12, .val (.int .i64 ch)), (13, .val (.pointer (some ⟨k, 0, none⟩))), (14, .val (.int .i64 L)), (15, .val (.int .i64 (ch + L))), (16, .val (.int .i64 (c * (ch + L)))), (17, .val (.pointer (some ⟨w.heap.size, 2, none⟩))), (18, .val (.int .i64 c)), (19, .val (.pointer (some ⟨w.heap.size, 3, none⟩))), (20, .val (.int .i64 ch)), (21, .val (.int .i64 (c * ch))), (22, .val (.int .i64 (c * ch - 3))), (23, .val (.int .i64 (c * ch - 3 - 4)))]) (Chg (· = k) (CAny k t.toNat ch.toNat)) (chg_drew _ _ _ (CAny.drew)) Chg.refl (fun _ _ _ => Chg.trans) (chgV_stable _ _ _) ⟨?_, ?_, ?_, ?_, ?_, ?_, ?_, ?_, ?_, ?_, ?_, ?_, ?_, ?_, ?_, ?_, ?_, trivial⟩ ?_
  · -- 9 := fieldAddr 29 t1 2
    intro f W hW hold hd K hK
    refine .inl ⟨wanted_free rfl _, ?_⟩
    dsimp only [bare]
    have ze1 : f 1 = .pointer (some ⟨w.heap.size, 0, none⟩) := hold 1 rfl
    have HK : ∀ v W', Chg (· = k) (CAny k t.toNat ch.toNat) W W' → chgV (· = k) (CAny k t.toNat ch.toNat) _ 9 v W' → K { tmps := #[f 0, f 1, f 2, f 3, f 4, f 5, f 6, f 7, f 8, v, f 10, f 11, f 12, f 13, f 14, f 15, f 16, f 17, f 18, f 19, f 20, f 21, f 22, f 23], defers := [] } W' := hK
    change wpList _ #[_] _ [_] { tmps := #[f 0, f 1, f 2, f 3, f 4, f 5, f 6, f 7, f 8, f 9, f 10, f 11, f 12, f 13, f 14, f 15, f 16, f 17, f 18, f 19, f 20, f 21, f 22, f 23], defers := [] } W
    clear hK hd hold
    simp only [ze1] at HK ⊢
    clear ze1
    have HK := Aside.mk HK
    go_wp2
    exact HK.out _ _ (Chg.refl _) rfl
  · -- 10 := load 3 t9
    intro f W hW hold hd K hK
    refine .inl ⟨wanted_free rfl _, ?_⟩
    dsimp only [bare]
    have ze9 : f 9 = .pointer (some ⟨w.heap.size, 2, none⟩) := hd 9 rfl rfl
    have HK : ∀ v W', Chg (· = k) (CAny k t.toNat ch.toNat) W W' → chgV (· = k) (CAny k t.toNat ch.toNat) _ 10 v W' → K { tmps := #[f 0, f 1, f 2, f 3, f 4, f 5, f 6, f 7, f 8, f 9, v, f 11, f 12, f 13, f 14, f 15, f 16, f 17, f 18, f 19, f 20, f 21, f 22, f 23], defers := [] } W' := hK
    change wpList _ #[_] _ [_] { tmps := #[f 0, f 1, f 2, f 3, f 4, f 5, f 6, f 7, f 8, f 9, f 10, f 11, f 12, f 13, f 14, f 15, f 16, f 17, f 18, f 19, f 20, f 21, f 22, f 23], defers := [] } W
    clear hK hd hold
    simp only [ze9] at HK ⊢
    clear ze9
    have HK := Aside.mk HK
    have hcell := (hW.cell HC.out.2.2.1 HC.out.2.2.2.2.2 2).trans HC.out.1
    go_wp2
    exact HK.out _ _ (Chg.refl _) rfl
  · -- 11 := fieldAddr 29 t1 3
    intro f W hW hold hd K hK
    refine .inl ⟨wanted_free rfl _, ?_⟩
    dsimp only [bare]
    have ze1 : f 1 = .pointer (some ⟨w.heap.size, 0, none⟩) := hold 1 rfl
    have HK : ∀ v W', Chg (· = k) (CAny k t.toNat ch.toNat) W W' → chgV (· = k) (CAny k t.toNat ch.toNat) _ 11 v W' → K { tmps := #[f 0, f 1, f 2, f 3, f 4, f 5, f 6, f 7, f 8, f 9, f 10, v, f 12, f 13, f 14, f 15, f 16, f 17, f 18, f 19, f 20, f 21, f 22, f 23], defers := [] } W' := hK
    change wpList _ #[_] _ [_] { tmps := #[f 0, f 1, f 2, f 3, f 4, f 5, f 6, f 7, f 8, f 9, f 10, f 11, f 12, f 13, f 14, f 15, f 16, f 17, f 18, f 19, f 20, f 21, f 22, f 23], defers := [] } W
    clear hK hd hold
    simp only [ze1] at HK ⊢
    clear ze1
    have HK := Aside.mk HK
    go_wp2
    exact HK.out _ _ (Chg.refl _) rfl
  · -- 12 := load 3 t11
    intro f W hW hold hd K hK
    refine .inl ⟨wanted_free rfl _, ?_⟩
    dsimp only [bare]
    have ze11 : f 11 = .pointer (some ⟨w.heap.size, 3, none⟩) := hd 11 rfl rfl
    have HK : ∀ v W', Chg (· = k) (CAny k t.toNat ch.toNat) W W' → chgV (· = k) (CAny k t.toNat ch.toNat) _ 12 v W' → K { tmps := #[f 0, f 1, f 2, f 3, f 4, f 5, f 6, f 7, f 8, f 9, f 10, f 11, v, f 13, f 14, f 15, f 16, f 17, f 18, f 19, f 20, f 21, f 22, f 23], defers := [] } W' := hK
    change wpList _ #[_] _ [_] { tmps := #[f 0, f 1, f 2, f 3, f 4, f 5, f 6, f 7, f 8, f 9, f 10, f 11, f 12, f 13, f 14, f 15, f 16, f 17, f 18, f 19, f 20, f 21, f 22, f 23], defers := [] } W
    clear hK hd hold
    simp only [ze11] at HK ⊢
    clear ze11
    have HK := Aside.mk HK
    have hcell := (hW.cell HC.out.2.2.1 HC.out.2.2.2.2.2 3).trans HC.out.2.1
    go_wp2
    exact HK.out _ _ (Chg.refl _) rfl
  · -- 13 := move t4
    intro f W hW hold hd K hK
    refine .inl ⟨wanted_free rfl _, ?_⟩
    dsimp only [bare]
    have ze4 : f 4 = .pointer (some ⟨k, 0, none⟩) := hold 4 rfl
    have HK : ∀ v W', Chg (· = k) (CAny k t.toNat ch.toNat) W W' → chgV (· = k) (CAny k t.toNat ch.toNat) _ 13 v W' → K { tmps := #[f 0, f 1, f 2, f 3, f 4, f 5, f 6, f 7, f 8, f 9, f 10, f 11, f 12, v, f 14, f 15, f 16, f 17, f 18, f 19, f 20, f 21, f 22, f 23], defers := [] } W' := hK
    change wpList _ #[_] _ [_] { tmps := #[f 0, f 1, f 2, f 3, f 4, f 5, f 6, f 7, f 8, f 9, f 10, f 11, f 12, f 13, f 14, f 15, f 16, f 17, f 18, f 19, f 20, f 21, f 22, f 23], defers := [] } W
    clear hK hd hold
    simp only [ze4] at HK ⊢
    clear ze4
    have HK := Aside.mk HK
    go_wp2
    exact HK.out _ _ (Chg.refl _) rfl
  · -- 14 := CALL f20 (*chert/bch.Code).Parity [t13] : [55]
    intro f W hW hold hd K hK
    refine .inl ⟨wanted_free rfl _, ?_⟩
    dsimp only [bare]
    have ze13 : f 13 = .pointer (some ⟨k, 0, none⟩) := hd 13 rfl rfl
    have HK : ∀ v W', Chg (· = k) (CAny k t.toNat ch.toNat) W W' → chgV (· = k) (CAny k t.toNat ch.toNat) _ 14 v W' → K { tmps := #[f 0, f 1, f 2, f 3, f 4, f 5, f 6, f 7, f 8, f 9, f 10, f 11, f 12, f 13, v, f 15, f 16, f 17, f 18, f 19, f 20, f 21, f 22, f 23], defers := [] } W' := hK
    change wpList _ #[_] _ [_] { tmps := #[f 0, f 1, f 2, f 3, f 4, f 5, f 6, f 7, f 8, f 9, f 10, f 11, f 12, f 13, f 14, f 15, f 16, f 17, f 18, f 19, f 20, f 21, f 22, f 23], defers := [] } W
    clear hK hd hold
    simp only [ze13] at HK ⊢
    clear ze13
    have HK := Aside.mk HK
    go_wp2_with (go_at_call 20; refine (HPA.out W (hW.inv HI.out)).mono ?_; rintro e w3 ⟨rfl, hg3, hi3⟩)
    exact HK.out _ _ (Chg.of_grown hg3 rfl hi3) rfl
  · -- 15 := binOp add 3 t12 t14 3
    intro f W hW hold hd K hK
    refine .inl ⟨wanted_free rfl _, ?_⟩
    dsimp only [bare]
    have ze12 : f 12 = .int .i64 ch := hd 12 rfl rfl
    have ze14 : f 14 = .int .i64 L := hd 14 rfl rfl
    have HK : ∀ v W', Chg (· = k) (CAny k t.toNat ch.toNat) W W' → chgV (· = k) (CAny k t.toNat ch.toNat) _ 15 v W' → K { tmps := #[f 0, f 1, f 2, f 3, f 4, f 5, f 6, f 7, f 8, f 9, f 10, f 11, f 12, f 13, f 14, v, f 16, f 17, f 18, f 19, f 20, f 21, f 22, f 23], defers := [] } W' := hK
    change wpList _ #[_] _ [_] { tmps := #[f 0, f 1, f 2, f 3, f 4, f 5, f 6, f 7, f 8, f 9, f 10, f 11, f 12, f 13, f 14, f 15, f 16, f 17, f 18, f 19, f 20, f 21, f 22, f 23], defers := [] } W
    clear hK hd hold
    simp only [ze12, ze14] at HK ⊢
    clear ze12 ze14
    have HK := Aside.mk HK
    go_wp2
    exact HK.out _ _ (Chg.refl _) rfl
  · -- 16 := binOp mul 3 t10 t15 3
    intro f W hW hold hd K hK
    refine .inl ⟨wanted_free rfl _, ?_⟩
    dsimp only [bare]
    have ze10 : f 10 = .int .i64 c := hd 10 rfl rfl
    have ze15 : f 15 = .int .i64 (ch + L) := hd 15 rfl rfl
    have HK : ∀ v W', Chg (· = k) (CAny k t.toNat ch.toNat) W W' → chgV (· = k) (CAny k t.toNat ch.toNat) _ 16 v W' → K { tmps := #[f 0, f 1, f 2, f 3, f 4, f 5, f 6, f 7, f 8, f 9, f 10, f 11, f 12, f 13, f 14, f 15, v, f 17, f 18, f 19, f 20, f 21, f 22, f 23], defers := [] } W' := hK
    change wpList _ #[_] _ [_] { tmps := #[f 0, f 1, f 2, f 3, f 4, f 5, f 6, f 7, f 8, f 9, f 10, f 11, f 12, f 13, f 14, f 15, f 16, f 17, f 18, f 19, f 20, f 21, f 22, f 23], defers := [] } W
    clear hK hd hold
    simp only [ze10, ze15] at HK ⊢
    clear ze10 ze15
    have HK := Aside.mk HK
    go_wp2
    exact HK.out _ _ (Chg.refl _) rfl
  · -- 17 := fieldAddr 29 t1 2
    intro f W hW hold hd K hK
    refine .inl ⟨wanted_free rfl _, ?_⟩
    dsimp only [bare]
    have ze1 : f 1 = .pointer (some ⟨w.heap.size, 0, none⟩) := hold 1 rfl
    have HK : ∀ v W', Chg (· = k) (CAny k t.toNat ch.toNat) W W' → chgV (· = k) (CAny k t.toNat ch.toNat) _ 17 v W' → K { tmps := #[f 0, f 1, f 2, f 3, f 4, f 5, f 6, f 7, f 8, f 9, f 10, f 11, f 12, f 13, f 14, f 15, f 16, v, f 18, f 19, f 20, f 21, f 22, f 23], defers := [] } W' := hK
    change wpList _ #[_] _ [_] { tmps := #[f 0, f 1, f 2, f 3, f 4, f 5, f 6, f 7, f 8, f 9, f 10, f 11, f 12, f 13, f 14, f 15, f 16, f 17, f 18, f 19, f 20, f 21, f 22, f 23], defers := [] } W
    clear hK hd hold
    simp only [ze1] at HK ⊢
    clear ze1
    have HK := Aside.mk HK
    go_wp2
    exact HK.out _ _ (Chg.refl _) rfl
  · -- 18 := load 3 t17
    intro f W hW hold hd K hK
    refine .inl ⟨wanted_free rfl _, ?_⟩
    dsimp only [bare]
    have ze17 : f 17 = .pointer (some ⟨w.heap.size, 2, none⟩) := hd 17 rfl rfl
    have HK : ∀ v W', Chg (· = k) (CAny k t.toNat ch.toNat) W W' → chgV (· = k) (CAny k t.toNat ch.toNat) _ 18 v W' → K { tmps := #[f 0, f 1, f 2, f 3, f 4, f 5, f 6, f 7, f 8, f 9, f 10, f 11, f 12, f 13, f 14, f 15, f 16, f 17, v, f 19, f 20, f 21, f 22, f 23], defers := [] } W' := hK
    change wpList _ #[_] _ [_] { tmps := #[f 0, f 1, f 2, f 3, f 4, f 5, f 6, f 7, f 8, f 9, f 10, f 11, f 12, f 13, f 14, f 15, f 16, f 17, f 18, f 19, f 20, f 21, f 22, f 23], defers := [] } W
    clear hK hd hold
    simp only [ze17] at HK ⊢
    clear ze17
    have HK := Aside.mk HK
    have hcell := (hW.cell HC.out.2.2.1 HC.out.2.2.2.2.2 2).trans HC.out.1
    go_wp2
    exact HK.out _ _ (Chg.refl _) rfl
  · -- 19 := fieldAddr 29 t1 3
    intro f W hW hold hd K hK
    refine .inl ⟨wanted_free rfl _, ?_⟩
    dsimp only [bare]
    have ze1 : f 1 = .pointer (some ⟨w.heap.size, 0, none⟩) := hold 1 rfl
    have HK : ∀ v W', Chg (· = k) (CAny k t.toNat ch.toNat) W W' → chgV (· = k) (CAny k t.toNat ch.toNat) _ 19 v W' → K { tmps := #[f 0, f 1, f 2, f 3, f 4, f 5, f 6, f 7, f 8, f 9, f 10, f 11, f 12, f 13, f 14, f 15, f 16, f 17, f 18, v, f 20, f 21, f 22, f 23], defers := [] } W' := hK
    change wpList _ #[_] _ [_] { tmps := #[f 0, f 1, f 2, f 3, f 4, f 5, f 6, f 7, f 8, f 9, f 10, f 11, f 12, f 13, f 14, f 15, f 16, f 17, f 18, f 19, f 20, f 21, f 22, f 23], defers := [] } W
    clear hK hd hold
    simp only [ze1] at HK ⊢
    clear ze1
    have HK := Aside.mk HK
    go_wp2
    exact HK.out _ _ (Chg.refl _) rfl
  · -- 20 := load 3 t19
    intro f W hW hold hd K hK
    refine .inl ⟨wanted_free rfl _, ?_⟩
    dsimp only [bare]
    have ze19 : f 19 = .pointer (some ⟨w.heap.size, 3, none⟩) := hd 19 rfl rfl
    have HK : ∀ v W', Chg (· = k) (CAny k t.toNat ch.toNat) W W' → chgV (· = k) (CAny k t.toNat ch.toNat) _ 20 v W' → K { tmps := #[f 0, f 1, f 2, f 3, f 4, f 5, f 6, f 7, f 8, f 9, f 10, f 11, f 12, f 13, f 14, f 15, f 16, f 17, f 18, f 19, v, f 21, f 22, f 23], defers := [] } W' := hK
    change wpList _ #[_] _ [_] { tmps := #[f 0, f 1, f 2, f 3, f 4, f 5, f 6, f 7, f 8, f 9, f 10, f 11, f 12, f 13, f 14, f 15, f 16, f 17, f 18, f 19, f 20, f 21, f 22, f 23], defers := [] } W
    clear hK hd hold
    simp only [ze19] at HK ⊢
    clear ze19
    have HK := Aside.mk HK
    have hcell := (hW.cell HC.out.2.2.1 HC.out.2.2.2.2.2 3).trans HC.out.2.1
    go_wp2
    exact HK.out _ _ (Chg.refl _) rfl
  · -- 21 := binOp mul 3 t18 t20 3
    intro f W hW hold hd K hK
    refine .inl ⟨wanted_free rfl _, ?_⟩
    dsimp only [bare]
    have ze18 : f 18 = .int .i64 c := hd 18 rfl rfl
    have ze20 : f 20 = .int .i64 ch := hd 20 rfl rfl
    have HK : ∀ v W', Chg (· = k) (CAny k t.toNat ch.toNat) W W' → chgV (· = k) (CAny k t.toNat ch.toNat) _ 21 v W' → K { tmps := #[f 0, f 1, f 2, f 3, f 4, f 5, f 6, f 7, f 8, f 9, f 10, f 11, f 12, f 13, f 14, f 15, f 16, f 17, f 18, f 19, f 20, v, f 22, f 23], defers := [] } W' := hK
    change wpList _ #[_] _ [_] { tmps := #[f 0, f 1, f 2, f 3, f 4, f 5, f 6, f 7, f 8, f 9, f 10, f 11, f 12, f 13, f 14, f 15, f 16, f 17, f 18, f 19, f 20, f 21, f 22, f 23], defers := [] } W
    clear hK hd hold
    simp only [ze18, ze20] at HK ⊢
    clear ze18 ze20
    have HK := Aside.mk HK
    go_wp2
    exact HK.out _ _ (Chg.refl _) rfl
  · -- 22 := binOp sub 3 t21 <i64 3> 3
    intro f W hW hold hd K hK
    refine .inl ⟨wanted_free rfl _, ?_⟩
    dsimp only [bare]
    have ze21 : f 21 = .int .i64 (c * ch) := hd 21 rfl rfl
    have HK : ∀ v W', Chg (· = k) (CAny k t.toNat ch.toNat) W W' → chgV (· = k) (CAny k t.toNat ch.toNat) _ 22 v W' → K { tmps := #[f 0, f 1, f 2, f 3, f 4, f 5, f 6, f 7, f 8, f 9, f 10, f 11, f 12, f 13, f 14, f 15, f 16, f 17, f 18, f 19, f 20, f 21, v, f 23], defers := [] } W' := hK
    change wpList _ #[_] _ [_] { tmps := #[f 0, f 1, f 2, f 3, f 4, f 5, f 6, f 7, f 8, f 9, f 10, f 11, f 12, f 13, f 14, f 15, f 16, f 17, f 18, f 19, f 20, f 21, f 22, f 23], defers := [] } W
    clear hK hd hold
    simp only [ze21] at HK ⊢
    clear ze21
    have HK := Aside.mk HK
    go_wp2
    exact HK.out _ _ (Chg.refl _) rfl
  · -- 23 := binOp sub 3 t22 <i64 4> 3
    intro f W hW hold hd K hK
    refine .inl ⟨wanted_free rfl _, ?_⟩
    dsimp only [bare]
    have ze22 : f 22 = .int .i64 (c * ch - 3) := hd 22 rfl rfl
    have HK : ∀ v W', Chg (· = k) (CAny k t.toNat ch.toNat) W W' → chgV (· = k) (CAny k t.toNat ch.toNat) _ 23 v W' → K { tmps := #[f 0, f 1, f 2, f 3, f 4, f 5, f 6, f 7, f 8, f 9, f 10, f 11, f 12, f 13, f 14, f 15, f 16, f 17, f 18, f 19, f 20, f 21, f 22, v], defers := [] } W' := hK
    change wpList _ #[_] _ [_] { tmps := #[f 0, f 1, f 2, f 3, f 4, f 5, f 6, f 7, f 8, f 9, f 10, f 11, f 12, f 13, f 14, f 15, f 16, f 17, f 18, f 19, f 20, f 21, f 22, f 23], defers := [] } W
    clear hK hd hold
    simp only [ze22] at HK ⊢
    clear ze22
    have HK := Aside.mk HK
    go_wp2
    exact HK.out _ _ (Chg.refl _) rfl
  · -- 2 := assign t16
    intro f W hW hold hd K hK
    refine .inl ⟨wanted_free rfl _, ?_⟩
    dsimp only [bare]
    have ze16 : f 16 = .int .i64 (c * (ch + L)) := hd 16 rfl rfl
    have HK : ∀ v W', Chg (· = k) (CAny k t.toNat ch.toNat) W W' → chgV (· = k) (CAny k t.toNat ch.toNat) _ 2 v W' → K { tmps := #[f 0, f 1, v, f 3, f 4, f 5, f 6, f 7, f 8, f 9, f 10, f 11, f 12, f 13, f 14, f 15, f 16, f 17, f 18, f 19, f 20, f 21, f 22, f 23], defers := [] } W' := hK
    change wpList _ #[_] _ [_] { tmps := #[f 0, f 1, f 2, f 3, f 4, f 5, f 6, f 7, f 8, f 9, f 10, f 11, f 12, f 13, f 14, f 15, f 16, f 17, f 18, f 19, f 20, f 21, f 22, f 23], defers := [] } W
    clear hK hd hold
    simp only [ze16] at HK ⊢
    clear ze16
    have HK := Aside.mk HK
    go_wp2
    exact HK.out _ _ (Chg.refl _) rfl
  · -- 3 := assign t23
    intro f W hW hold hd K hK
    refine .inl ⟨wanted_free rfl _, ?_⟩
    dsimp only [bare]
    have ze23 : f 23 = .int .i64 (c * ch - 3 - 4) := hd 23 rfl rfl
    have HK : ∀ v W', Chg (· = k) (CAny k t.toNat ch.toNat) W W' → chgV (· = k) (CAny k t.toNat ch.toNat) _ 3 v W' → K { tmps := #[f 0, f 1, f 2, v, f 4, f 5, f 6, f 7, f 8, f 9, f 10, f 11, f 12, f 13, f 14, f 15, f 16, f 17, f 18, f 19, f 20, f 21, f 22, f 23], defers := [] } W' := hK
    change wpList _ #[_] _ [_] { tmps := #[f 0, f 1, f 2, f 3, f 4, f 5, f 6, f 7, f 8, f 9, f 10, f 11, f 12, f 13, f 14, f 15, f 16, f 17, f 18, f 19, f 20, f 21, f 22, f 23], defers := [] } W
    clear hK hd hold
    simp only [ze23] at HK ⊢
    clear ze23
    have HK := Aside.mk HK
    go_wp2
    exact HK.out _ _ (Chg.refl _) rfl
  · intro f W hW hold hd aa ha
    replace ha := ha.trans (rel_puts hold)
    have ze2 : f 2 = .int .i64 (c * (ch + L)) := hd 2 rfl
    have ze3 : f 3 = .int .i64 (c * ch - 3 - 4) := hd 3 rfl
    have ze9 : f 9 = .pointer (some ⟨w.heap.size, 2, none⟩) := hd 9 rfl
    have ze10 : f 10 = .int .i64 c := hd 10 rfl
    have ze11 : f 11 = .pointer (some ⟨w.heap.size, 3, none⟩) := hd 11 rfl
    have ze12 : f 12 = .int .i64 ch := hd 12 rfl
    have ze13 : f 13 = .pointer (some ⟨k, 0, none⟩) := hd 13 rfl
    have ze14 : f 14 = .int .i64 L := hd 14 rfl
    have ze15 : f 15 = .int .i64 (ch + L) := hd 15 rfl
    have ze16 : f 16 = .int .i64 (c * (ch + L)) := hd 16 rfl
    have ze17 : f 17 = .pointer (some ⟨w.heap.size, 2, none⟩) := hd 17 rfl
    have ze18 : f 18 = .int .i64 c := hd 18 rfl
    have ze19 : f 19 = .pointer (some ⟨w.heap.size, 3, none⟩) := hd 19 rfl
    have ze20 : f 20 = .int .i64 ch := hd 20 rfl
    have ze21 : f 21 = .int .i64 (c * ch) := hd 21 rfl
    have ze22 : f 22 = .int .i64 (c * ch - 3) := hd 22 rfl
    have ze23 : f 23 = .int .i64 (c * ch - 3 - 4) := hd 23 rfl
    simp only [List.take_succ_cons, List.take_zero, putAll, List.foldl_cons, List.foldl_nil, Option.getD_some] at ha
    simp only [ze2, ze3, ze9, ze10, ze11, ze12, ze13, ze14, ze15, ze16, ze17, ze18, ze19, ze20, ze21, ze22, ze23] at ha
    subst ha
    simp only [List.drop_succ_cons, List.drop_nil, Act.put, List.setIfInBounds_toArray, List.set_cons_zero, List.set_cons_succ]
    clear hold hd ze2 ze3 ze9 ze10 ze11 ze12 ze13 ze14 ze15 ze16 ze17 ze18 ze19 ze20 ze21 ze22 ze23
    have hbf := HBF.out W hW
    go_wp2
    go_ret2
    exact ⟨by rw [HH.out.1, HH.out.2]; rfl, hbf⟩
end Go.Proofs.Ytffdpmejilmnnaa
namespace Go.Proofs.Ytffdpmejilmnnaa
open Go.RowKit

theorem ref_low (a : Int) (w : World) : Calls Try.prog 67 #[.int .i64 a] w fun e w' => e = .returned (.int .i64 (lowN a : Nat)) ∧ w = w' := by
  have hl := lowN_lt a
  have ht : (IntKind.u64.wrap a).tmod 8192 = (lowN a : Int) := by
    have h1 : 0 ≤ IntKind.u64.wrap a := by rw [IntKind.wrap_u64]; omega
    rw [Int.tmod_eq_emod_of_nonneg h1, lowN_cast, IntKind.wrap_u64]; omega
  generalize lowN a = x at *
  have hl2 : (x : Int) < 8192 := by omega
  go_enter Try.func67, Try.ntmps67
  go_wp2
  go_ret
  exact ⟨rfl, rfl⟩

set_option maxRecDepth 100000 in
set_option maxHeartbeats 1600000 in
theorem ref_mul (a b : Int) (w : World) :
    Calls Try.prog 50 #[.int .i64 a, .int .i64 b] w fun e w' => e = .returned (.int .i64 (Gf.mul (lowN a) (lowN b) : Nat)) ∧ w = w' := by
  have ha := lowN_lt a
  have hb := lowN_lt b
  have HA := Aside.mk (And.intro (ref_low a) (ref_low b))
  have HA1 := HA
  generalize lowN a = x at *
  generalize lowN b = y at *
  go_enter Try.func50, Try.ntmps50
  go_wp2_with (first | (obtain ⟨HI⟩ := HA1; go_at_call 67; refine (HI.1 _).mono ?_; rintro e w1 ⟨rfl, rfl⟩) | (obtain ⟨HI⟩ := HA; go_at_call 67; refine (HI.2 _).mono ?_; rintro e w1 ⟨rfl, rfl⟩))
  go_loop [5, 6] (fun s5 s6 => ∃ j : Nat, j ≤ 13 ∧ s6 = .int .i64 ((j : Int) - 1) ∧ s5 = .int .i64 (Gf.mulN x y (13 - j) : Nat)) (fun _ s6 => ((intOf s6) + 1).toNat)
  case atStart => exact ⟨13, by omega, rfl, rfl⟩
  case round =>
    obtain ⟨j, hj, rfl, rfl⟩ := hrel
    by_cases h0 : j = 0
    · subst h0
      go_wp2
      go_ret
      exact ⟨rfl, rfl⟩
    · obtain ⟨i, rfl⟩ : ∃ i, j = i + 1 := ⟨j - 1, by omega⟩
      have e1 : ((i + 1 : Nat) : Int) - 1 = (i : Int) := by omega
      rw [e1]
      clear e1
      have hs : Gf.mulN x y (13 - i) = if y / 2 ^ i % 2 = 1 then Gf.stp (Gf.mulN x y (13 - (i + 1))) ^^^ x else Gf.stp (Gf.mulN x y (13 - (i + 1))) := by
        rw [show 13 - i = (13 - (i + 1)) + 1 by omega]
        show (if y / 2 ^ (12 - (13 - (i + 1))) % 2 = 1 then _ else _) = _
        rw [show 12 - (13 - (i + 1)) = i by omega]
      have hq := Gf.mulN_lt (a := x) y ha (13 - (i + 1))
      have hi12 : i ≤ 12 := by omega
      have HS := Aside.mk hs
      clear hs
      generalize Gf.mulN x y (13 - (i + 1)) = q at *
      go_upto_if 18 with fail
      go_cut [5] (fun s5 wx => s5 = .int .i64 (Gf.stp q : Nat) ∧ w = wx)
      case first =>
        by_cases h8 : 8192 ≤ 2 * q
        · have hx : bits .xor .i64 ((q : Int) * 2) 8219 = ((Gf.stp q : Nat) : Int) := by
            have h := i64_xor_nat (a := 2 * q) (b := 8219) (by omega) (by omega)
            have e : Gf.stp q = 2 * q ^^^ 8219 := by unfold Gf.stp; rw [if_pos h8]
            rw [show (q : Int) * 2 = ((2 * q : Nat) : Int) by omega, e]
            exact h
          have h9 : (8192 : Int) ≤ (q : Int) * 2 := by omega
          clear h8
          go_wp2
          go_meet
          exact ⟨rfl, rfl⟩
        · have h9 : ¬ (8192 : Int) ≤ (q : Int) * 2 := by omega
          have hst : Gf.stp q = 2 * q := by unfold Gf.stp; rw [if_neg h8]
          have HT := Aside.mk hst
          clear h8 hst
          go_wp2
          go_meet
          exact ⟨by rw [HT.out]; go_num, rfl⟩
      case rest =>
        obtain ⟨rfl, rfl⟩ := hcut
        have hst := Gf.stp_lt hq
        generalize Gf.stp q = r at *
        have hz : y / 2 ^ i < 9223372036854775808 := by
          have := Nat.div_le_self y (2 ^ i)
          omega
        have hbit : bits .and .i64 ((y : Int) / 2 ^ i) 1 = ((y / 2 ^ i % 2 : Nat) : Int) := by
          have h := i64_and_nat (a := y / 2 ^ i) (b := 1) hz (by omega)
          rw [Nat.and_one_is_mod] at h
          rw [show (y : Int) / 2 ^ i = ((y / 2 ^ i : Nat) : Int) by rw [Int.natCast_ediv, Int.natCast_pow]; rfl]
          exact h
        have hs := HS.out
        clear HS hz
        have e2 : IntKind.i64.wrap ((i : Int) - 1) = (i : Int) - 1 := by rw [IntKind.wrap_i64]; omega
        by_cases hb1 : y / 2 ^ i % 2 = 1
        · rw [if_pos hb1] at hs
          rw [hb1] at hbit
          have hxx := i64_xor_nat (a := r) (b := x) (by omega) (by omega)
          have HS := Aside.mk hs
          clear hs hb1
          go_wp2
          go_round
          case rel => exact ⟨i, by omega, rfl, by rw [HS.out]⟩
          case measure => simp [intOf]
        · have hb0 : y / 2 ^ i % 2 = 0 := by omega
          rw [if_neg hb1] at hs
          rw [hb0] at hbit
          have HS := Aside.mk hs
          clear hs hb1 hb0
          go_wp2
          go_round
          case rel => exact ⟨i, by omega, rfl, by rw [HS.out]⟩
          case measure => simp [intOf]

/-! Pow -/
theorem pow_sq {a : Nat} (ha : a < 8192) (n : Nat) : Gf.pow a n = if n % 2 = 1 then Gf.mul (Gf.pow (Gf.mul a a) (n / 2)) a else Gf.pow (Gf.mul a a) (n / 2) := by
  have h1 : Gf.pow (Gf.mul a a) (n / 2) = Gf.pow a (2 * (n / 2)) := by rw [Gf.pow_mul ha, Gf.pow_two ha]
  rw [h1]
  split
  · rw [show n = 2 * (n / 2) + 1 by omega]
    rw [show (2 * (n / 2) + 1) / 2 = n / 2 by omega]
    rfl
  · rw [show 2 * (n / 2) = n by omega]
set_option maxRecDepth 100000 in
set_option maxHeartbeats 1600000 in
theorem ref_pow (a : Int) (n : Nat) (w : World) (hn : n ≤ 9223372036854775807) :
    Calls Try.prog 66 #[.int .i64 a, .int .i64 (n : Int)] w fun e w' => e = .returned (.int .i64 (Gf.pow (lowN a) n : Nat)) ∧ w = w' := by
  have ha := lowN_lt a
  have HA := Aside.mk (ref_low a)
  generalize lowN a = x at *
  obtain ⟨R, hR⟩ : ∃ R, R = Gf.pow x n := ⟨_, rfl⟩
  rw [← hR]
  have HR := Aside.mk hR
  clear hR
  go_enter Try.func66, Try.ntmps66
  go_wp2_with (go_at_call 67; refine (HA.out _).mono ?_; rintro e w1 ⟨rfl, rfl⟩)
  go_loop [0, 1, 5] (fun s0 s1 s5 => ∃ b m o : Nat, b < 8192 ∧ o < 8192 ∧ m ≤ 9223372036854775807 ∧ s0 = .int .i64 (b : Int) ∧ s1 = .int .i64 (m : Int) ∧ s5 = .int .i64 (o : Int) ∧ Aside (Gf.mul o (Gf.pow b m) = R)) (fun _ s1 _ => (intOf s1).toNat)
  case atStart => exact ⟨x, n, 1, ha, by omega, hn, rfl, rfl, rfl, ⟨by rw [HR.out, Gf.one_mul (Gf.pow_lt ha n)]⟩⟩
  case round =>
    obtain ⟨b, m, o, hb, ho, hm, rfl, rfl, rfl, HX⟩ := hrel
    by_cases h0 : m = 0
    · subst h0
      have hR : R = o := by rw [← HX.out]; exact Gf.mul_one ho
      have HR2 := Aside.mk hR
      clear hR HR HX
      go_wp2
      go_ret
      exact ⟨by rw [HR2.out]; rfl, rfl⟩
    · have h1 : (0 : Int) < (m : Int) := by omega
      have hp := pow_sq hb m
      have hmb : Gf.mul b b < 8192 := Gf.mul_lt _ hb
      have hlb := lowN_of_lt hb
      have hlo := lowN_of_lt ho
      have HP := Aside.mk (And.intro hp (And.intro hlb hlo))
      clear hp hlb hlo
      have hbb : ∀ W, Calls Try.prog 50 #[.int .i64 (b : Int), .int .i64 (b : Int)] W fun e w' => e = .returned (.int .i64 (Gf.mul b b : Nat)) ∧ W = w' := fun W => by
        have := ref_mul b b W
        rwa [HP.out.2.1] at this
      have HBB := Aside.mk hbb
      clear hbb
      by_cases h2 : m % 2 = 1
      · have h3 : (m : Int) % 2 = 1 := by omega
        have hob : ∀ W, Calls Try.prog 50 #[.int .i64 (o : Int), .int .i64 (b : Int)] W fun e w' => e = .returned (.int .i64 (Gf.mul o b : Nat)) ∧ W = w' := fun W => by
          have := ref_mul o b W
          rwa [HP.out.2.1, HP.out.2.2] at this
        have HOB := Aside.mk hob
        have hre : Gf.mul (Gf.mul o b) (Gf.pow (Gf.mul b b) (m / 2)) = R := by
          have h4 := HP.out.1
          rw [if_pos h2] at h4
          rw [← HX.out, h4, Gf.mul_assoc ho hb (Gf.pow_lt hmb _), Gf.mul_comm hb (Gf.pow_lt hmb _)]
        have hmo : Gf.mul o b < 8192 := Gf.mul_lt _ ho
        have HRE := Aside.mk hre
        clear hob hre HP HX h2
        generalize Gf.mul o b = ob at *
        generalize Gf.mul b b = bb at *
        go_wp2_with (first | (obtain ⟨HI⟩ := HOB; go_at_call 50; refine (HI _).mono ?_; clear HI; rintro e w1 ⟨rfl, rfl⟩) | (obtain ⟨HI⟩ := HBB; go_at_call 50; refine (HI _).mono ?_; clear HI; rintro e w1 ⟨rfl, rfl⟩))
        go_round
        case rel => exact ⟨bb, m / 2, ob, hmb, hmo, by omega, rfl, by go_num, rfl, HRE⟩
        case measure => simp [intOf]; omega
      · have h3 : (m : Int) % 2 = 0 := by omega
        have hre : Gf.mul o (Gf.pow (Gf.mul b b) (m / 2)) = R := by
          have h4 := HP.out.1
          rw [if_neg h2] at h4
          rw [← HX.out, h4]
        have HRE := Aside.mk hre
        clear hre HP HX h2
        generalize Gf.mul b b = bb at *
        go_wp2_with (obtain ⟨HI⟩ := HBB; go_at_call 50; refine (HI _).mono ?_; clear HI; rintro e w1 ⟨rfl, rfl⟩)
        go_round
        case rel => exact ⟨bb, m / 2, o, hmb, ho, by omega, rfl, by go_num, rfl, HRE⟩
        case measure => simp [intOf]; omega

/-! Inv, Exp -/
def invN (a : Nat) : Nat := if a = 0 then 0 else Gf.pow a 8190
theorem pow_two_pw (n : Nat) : Gf.pow 2 n = Gf.pw n := by
  have := Gf.pow_pw 1 n
  rw [Nat.one_mul] at this
  exact this
set_option maxHeartbeats 400000 in
theorem ref_exp (n : Int) (w : World) (h1 : -9223372036854775808 ≤ n) (h2 : n ≤ 9223372036854775807) :
    Calls Try.prog 49 #[.int .i64 n] w fun e w' => e = .returned (.int .i64 (Gf.pw (arN n) : Nat)) ∧ w = w' := by
  have hl := arN_lt n
  have hP : ∀ W, Calls Try.prog 66 #[.int .i64 2, .int .i64 (arN n : Int)] W fun e w' => e = .returned (.int .i64 (Gf.pw (arN n) : Nat)) ∧ W = w' := fun W => by
    have := ref_pow 2 (arN n) W (by omega)
    rwa [show lowN 2 = 2 from rfl, pow_two_pw] at this
  have HP := Aside.mk hP
  clear hP
  generalize hz : Gf.pw (arN n) = z at *
  clear hz
  by_cases h0 : 0 ≤ n
  · have he : n % 8191 = (arN n : Int) := by unfold arN; omega
    generalize arN n = r at *
    go_enter Try.func49, Try.ntmps49
    go_wp2_with (go_at_call 66; refine (HP.out _).mono ?_; rintro e w1 ⟨rfl, rfl⟩)
    go_ret
    exact ⟨rfl, rfl⟩
  · rcases tmod_neg (show n < 0 by omega) with ht | ⟨ht, h00⟩
    · have hw : IntKind.i64.wrap ((arN n : Int) - 8191 + 8191) = (arN n : Int) := by rw [IntKind.wrap_i64]; omega
      have hw2 : (arN n : Int) - 8191 + 8191 = (arN n : Int) := by omega
      generalize arN n = r at *
      have hlt : (r : Int) - 8191 < 0 := by omega
      go_enter Try.func49, Try.ntmps49
      go_wp2_with (go_at_call 66; refine (HP.out _).mono ?_; rintro e w1 ⟨rfl, rfl⟩)
      go_ret
      exact ⟨rfl, rfl⟩
    · rw [h00] at HP
      go_enter Try.func49, Try.ntmps49
      go_wp2_with (go_at_call 66; refine (HP.out _).mono ?_; rintro e w1 ⟨rfl, rfl⟩)
      go_ret
      exact ⟨rfl, rfl⟩
end Go.Proofs.Ytffdpmejilmnnaa
namespace Go.Proofs.Ytffdpmejilmnnaa
open Go.RowKit

/-- xs[:j] and xs[j:] of a row. -/
def toV : Value → Nat → Value
  | .slice (some a) _ c, j => .slice (some a) j c
  | _, _ => .slice none 0 0
def fromV : Value → Nat → Value
  | .slice (some a) n c, j => .slice (if c = j then some ⟨a.block, a.off, none⟩ else some ⟨a.block, a.off + j, none⟩) (n - j) (c - j)
  | _, _ => .slice none 0 0
theorem run_to {W : World} {B n j : Nat} {v : Value} {xs : List Value} (h : Row W B 3 1 v n xs) (hj : j ≤ n) (W' : World) : (Instr.slice 37 v none (some (.int .i64 (j : Int))) none).run Try.prog W' = .ok (toV v j) W' := by
  rcases h.2 with ⟨rfl, rfl⟩ | ⟨g, off, cap, cur, fr, rfl, hb, hg, hc, hm, hs, hf, htake⟩
  · obtain rfl : j = 0 := by omega
    have he : Program.elem Try.prog 37 = 3 := by simp [Program.elem, Try.underlying37]
    obtain ⟨i, hi, _⟩ := Option.map_eq_some_iff.1 infoInt
    rw [run_slice_h W' 37 none 0 0 (by rw [he]; exact Try.underlying37) .i64 ((0 : Nat) : Int) (by omega) (by omega)]
    simp [sizeOf, typeInfo, he, hi, sliced, toV]
  · exact cut_to (P := Try.prog) 37 3 Try.underlying37 (by kernel_rfl) g off n cap j (by omega) W'
theorem row_to {W : World} {B n j : Nat} {v : Value} {xs : List Value} (h : Row W B 3 1 v n xs) (hj : j ≤ n) : Row W B 3 1 (toV v j) j (xs.take j) := by
  rcases h.2 with ⟨rfl, rfl⟩ | ⟨g, off, cap, cur, fr, rfl, hb, hg, hc, hm, hs, hf, htake⟩
  · obtain rfl : j = 0 := by omega
    simpa [toV] using Row.nil W B 3 1
  · have := h.part rfl 0 j (Nat.zero_le _) hj
    simpa [toV] using this
theorem run_from {W : World} {B n j : Nat} {v : Value} {xs : List Value} (h : Row W B 3 1 v n xs) (hj : j ≤ n) (W' : World) : (Instr.slice 37 v (some (.int .i64 (j : Int))) none none).run Try.prog W' = .ok (fromV v j) W' := by
  rcases h.2 with ⟨rfl, rfl⟩ | ⟨g, off, cap, cur, fr, rfl, hb, hg, hc, hm, hs, hf, htake⟩
  · obtain rfl : j = 0 := by omega
    have he : Program.elem Try.prog 37 = 3 := by simp [Program.elem, Try.underlying37]
    obtain ⟨i, hi, _⟩ := Option.map_eq_some_iff.1 infoInt
    rw [run_slice_l W' 37 none 0 0 (by rw [he]; exact Try.underlying37) .i64 ((0 : Nat) : Int) (by omega) (by omega)]
    simp [sizeOf, typeInfo, he, hi, sliced, fromV]
  · exact cut_from (P := Try.prog) 37 3 Try.underlying37 (by kernel_rfl) g off n cap j hj W'
theorem src_from {W : World} {B n j : Nat} {v : Value} {xs : List Value} (h : Row W B 3 1 v n xs) (hj : j ≤ n) : Src W 1 (fromV v j) (n - j) (xs.drop j) := by
  have hl := h.1
  rcases h.2 with ⟨rfl, rfl⟩ | ⟨g, off, cap, cur, fr, rfl, hb, hg, hc, hm, hs, hf, htake⟩
  · obtain rfl : j = 0 := by omega
    have hx : xs = [] := List.eq_nil_of_length_eq_zero (by omega)
    subst hx
    simpa [fromV] using (Row.nil W B 3 1).src
  · by_cases hcj : cap = j
    · obtain rfl : n = j := by omega
      have : xs.drop n = [] := List.drop_of_length_le (by omega)
      rw [this, Nat.sub_self]
      exact ⟨by simp, .inr ⟨_, _, by simp only [fromV, if_pos hcj, Nat.sub_self]; rfl, by simp⟩⟩
    · have := (h.part rfl j n hj (Nat.le_refl _)).src
      rw [Nat.mul_one, Nat.mul_one, List.take_of_length_le (by rw [List.length_drop]; omega)] at this
      simpa [fromV, if_neg hcj] using this
theorem insertR_len {v m : Nat} : ∀ rows : List (Nat × Nat), (Gf.insertR v m rows).length = rows.length + 1
  | [] => rfl
  | (a, b) :: rest => by
    simp only [Gf.insertR]
    split
    · simp [insertR_len rest]
    · simp
theorem RB_insert {d v m : Nat} {rows : List (Nat × Nat)} (h : d = rows.length ∧ ∀ x ∈ rows, x.1 < 8192 ∧ x.2 < 16384) (hv : v < 8192) (hm : m < 16384) : (Gf.insertR v m rows).length = d + 1 ∧ ∀ x ∈ Gf.insertR v m rows, x.1 < 8192 ∧ x.2 < 16384 := by
  refine ⟨by rw [insertR_len, h.1], fun x hx => ?_⟩
  rcases Gf.mem_insertR.1 hx with rfl | hx
  · exact ⟨hv, hm⟩
  · exact h.2 x hx
def fsts (l : List (Nat × Nat)) : List Nat := l.map Prod.fst
def snds (l : List (Nat × Nat)) : List Nat := l.map Prod.snd
theorem fsts_len (l : List (Nat × Nat)) : (fsts l).length = l.length := by simp [fsts]
theorem snds_len (l : List (Nat × Nat)) : (snds l).length = l.length := by simp [snds]
theorem insert_take {v m i : Nat} : ∀ {rows : List (Nat × Nat)}, i ≤ rows.length → (∀ x ∈ rows.take i, v < x.1) → Gf.insertR v m rows = rows.take i ++ Gf.insertR v m (rows.drop i) := by
  induction i with
  | zero => intro rows _ _; simp
  | succ i ih =>
    intro rows hi h
    cases rows with
    | nil => simp at hi
    | cons a rest =>
      obtain ⟨a1, a2⟩ := a
      have h1 : v < a1 := h (a1, a2) (by simp)
      simp only [Gf.insertR, if_pos h1, List.take_succ_cons, List.drop_succ_cons, List.cons_append]
      rw [ih (by simpa using hi) (fun x hx => h x (by simp [hx]))]
theorem insert_here {v m i : Nat} {rows : List (Nat × Nat)} (hi : i ≤ rows.length) (h : ∀ x ∈ rows.take i, v < x.1) (he : ∀ x, rows[i]? = some x → ¬ v < x.1) : Gf.insertR v m rows = rows.take i ++ (v, m) :: rows.drop i := by
  rw [insert_take hi h]
  congr 1
  cases hd : rows.drop i with
  | nil => rfl
  | cons a rest =>
    have h1 : rows[i]? = some a := by
      have := congrArg (fun l => l[0]?) hd
      simpa using this
    have h2 := he a h1
    obtain ⟨a1, a2⟩ := a
    simp only [Gf.insertR]
    rw [if_neg h2]
def RefMinPost (w : World) (P : Nat) (e : Ending) (w' : World) : Prop := ListOf w (Poly.fall 14 P) e w'
/-- The rows' bounds. -/
def RB (d : Nat) (rows : List (Nat × Nat)) : Prop := rows.length = d ∧ ∀ x ∈ rows, x.1 < 8192 ∧ x.2 < 16384
theorem RB.fst {d i : Nat} {rows : List (Nat × Nat)} (h : RB d rows) : (fsts rows).getD i 0 < 8192 := by
  rw [List.getD_eq_getElem?_getD]
  cases hc : (fsts rows)[i]? with
  | none => simp
  | some v =>
    obtain ⟨x, hx, rfl⟩ := List.mem_map.1 (List.mem_of_getElem? hc)
    exact (h.2 x hx).1
theorem RB.snd {d i : Nat} {rows : List (Nat × Nat)} (h : RB d rows) : (snds rows).getD i 0 < 16384 := by
  rw [List.getD_eq_getElem?_getD]
  cases hc : (snds rows)[i]? with
  | none => simp
  | some v =>
    obtain ⟨x, hx, rfl⟩ := List.mem_map.1 (List.mem_of_getElem? hc)
    exact (h.2 x hx).2
theorem drop_row {rows : List (Nat × Nat)} {i : Nat} (h : i < rows.length) : rows.drop i = ((fsts rows).getD i 0, (snds rows).getD i 0) :: rows.drop (i + 1) := by
  rw [List.drop_eq_getElem_cons h]
  congr 1
  simp [fsts, snds, List.getD_eq_getElem?_getD, List.getElem?_eq_getElem h]
theorem bits_1 {m e : Nat} (hm : m < 16384) : bits .and .i64 ((m : Int) / 2 ^ e) 1 = ((m / 2 ^ e % 2 : Nat) : Int) := by
  have h0 := Nat.div_le_self m (2 ^ e)
  have h := i64_and_nat (a := m / 2 ^ e) (b := 1) (by omega) (by omega)
  rw [Nat.and_one_is_mod] at h
  rw [show (m : Int) / 2 ^ e = ((m / 2 ^ e : Nat) : Int) by rw [Int.natCast_ediv, Int.natCast_pow]; rfl]
  exact h
set_option maxRecDepth 100000 in
set_option maxHeartbeats 2000000 in
theorem ref_minimal (k : Int) (r : Nat) (w : World) (h1 : -9223372036854775808 ≤ k) (h2 : k ≤ 9223372036854775807) (hr : r = Gf.pw (arN k)) :
    Calls Try.prog 39 #[.int .i64 k] w (RefMinPost w (Gf.refN r)) := by
  have hr0 : 0 < r := by rw [hr]; exact Gf.pw_pos _
  have hr8 : r < 8192 := by rw [hr]; exact Gf.pw_lt _
  have HE := Aside.mk (ref_exp k w h1 h2)
  rw [← hr] at HE
  have HR := Aside.mk (And.intro hr0 (And.intro hr8 (Gf.refN_eq hr0 hr8)))
  clear hr hr0 hr8 h1 h2
  go_enter Try.func39, Try.ntmps39
  go_wp2_with (go_at_call 49; refine HE.out.mono ?_; rintro e w1 ⟨rfl, rfl⟩)
  go_loopw [4, 5, 6, 7] (fun s4 s5 s6 s7 wr => ∃ (d p : Nat) (rows : List (Nat × Nat)), s7 = .int .i64 (d : Int) ∧ s6 = .int .i64 (p : Int) ∧ d ≤ 14 ∧ p < 8192 ∧ Aside (RB d rows ∧ Gf.refAux r (14 - d) d p rows = Gf.refN r ∧ Row wr w.heap.size 3 1 s4 d (intsV (Poly.ints (fsts rows))) ∧ Row wr w.heap.size 3 1 s5 d (intsV (Poly.ints (snds rows))) ∧ Below w.heap.size w wr)) (fun _ _ _ s7 _ => 14 - (intOf s7).toNat)
  case atStart => exact ⟨0, 1, [], rfl, rfl, by omega, by omega, ⟨⟨rfl, by simp⟩, rfl, Row.nil _ _ _ _, Row.nil _ _ _ _, Below.refl _ _⟩⟩
  case round =>
    obtain ⟨d, p, rows, rfl, rfl, hd, hp, HL⟩ := hrel
    obtain ⟨A4, c4, rfl⟩ : ∃ A c, u4 = .slice A d c := by obtain ⟨A, c, e, _⟩ := HL.out.2.2.1.slice; exact ⟨A, c, e⟩
    obtain ⟨A5, c5, rfl⟩ : ∃ A c, u5 = .slice A d c := by obtain ⟨A, c, e, _⟩ := HL.out.2.2.2.1.slice; exact ⟨A, c, e⟩
    have hd1 : IntKind.i64.wrap ((d : Int) + 1) = ((d + 1 : Nat) : Int) := by rw [IntKind.wrap_i64]; omega
    by_cases hd13 : d ≤ 13
    · have hd13i : (d : Int) ≤ 13 := by omega
      have hp2 : 2 ^ d < 16384 := Nat.lt_of_le_of_lt (Nat.pow_le_pow_right (by omega) hd13) (by decide)
      obtain ⟨D0, hD0⟩ : ∃ D, D = 2 ^ d := ⟨_, rfl⟩
      rw [← hD0] at hp2
      have hw2 : wrap64 ((2 : Int) ^ d) = (D0 : Int) := by
        have e : (2 : Int) ^ d = ((2 ^ d : Nat) : Int) := by rw [Int.natCast_pow]; rfl
        rw [e, ← hD0]
        unfold wrap64
        omega
      have HW2 := Aside.mk hw2
      have HALL : Aside (∀ w2, DrewOf wr w2 → Row w2 w.heap.size 3 1 (.slice A4 d c4) d (intsV (Poly.ints (fsts rows))) ∧ Row w2 w.heap.size 3 1 (.slice A5 d c5) d (intsV (Poly.ints (snds rows))) ∧ Below w.heap.size w w2) := ⟨fun w2 h => by obtain ⟨q, rfl⟩ := h; exact ⟨HL.out.2.2.1.drewN q, HL.out.2.2.2.1.drewN q, HL.out.2.2.2.2.trans ⟨rfl, rfl, rfl, Nat.le_refl _, fun _ _ => rfl⟩⟩⟩
      have HD := Aside.mk (And.intro hD0 (And.intro hd13 hp2))
      clear hD0 hd13 hp2
      go_upto_region 8 with fail
      go_region
      all_goals go_upto_region 9 with fail
      all_goals clear hw2
      go_wp2
      go_loopw [8, 9, 10] (fun s8 s9 s10 w2 => ∃ i v m : Nat, s10 = .int .i64 (i : Int) ∧ s8 = .int .i64 (v : Int) ∧ s9 = .int .i64 (m : Int) ∧ i ≤ d ∧ v < 8192 ∧ m < 16384 ∧ Aside (Gf.reduce (rows.drop i) v m = Gf.reduce rows p D0) ∧ DrewOf wr w2) (fun _ _ s10 _ => d - (intOf s10).toNat)
      case atStart => exact ⟨0, p, D0, rfl, rfl, congrArg (Value.int .i64) HW2.out, by omega, hp, HD.out.2.2, ⟨by simp⟩, by first | exact DrewOf.refl _ | exact (DrewOf.refl _).more 1⟩
      case round =>
        obtain ⟨i, v, m, rfl, rfl, rfl, hid, hv, hm, HX, hdr⟩ := hrel
        have HDR := Aside.mk hdr
        clear hdr
        have hi1 : IntKind.i64.wrap ((i : Int) + 1) = ((i + 1 : Nat) : Int) := by have := HD.out.2.1; rw [IntKind.wrap_i64]; omega
        by_cases hlt : i < d
        · have hlen : i < rows.length := by rw [HL.out.1.1]; exact hlt
          obtain ⟨A', c', he, hz1, hz2, hz3, hr4⟩ := HL.out.2.2.1.readInts
          clear hz1 hz2 hz3
          injection he with e1 _ e2
          subst e1; subst e2
          obtain ⟨A', c', he, hz1, hz2, hz3, hr5⟩ := HL.out.2.2.2.1.readInts
          clear hz1 hz2 hz3
          injection he with e1 _ e2
          subst e1; subst e2
          obtain ⟨b4, o4, rfl, _, hy4⟩ := hr4 i hlt
          obtain ⟨b5, o5, rfl, _, hy5⟩ := hr5 i hlt
          have hdrop := drop_row hlen
          have ha8 := HL.out.1.fst (i := i)
          have hb8 := HL.out.1.snd (i := i)
          obtain ⟨a, ha⟩ : ∃ a, a = (fsts rows).getD i 0 := ⟨_, rfl⟩
          obtain ⟨b, hb⟩ : ∃ b, b = (snds rows).getD i 0 := ⟨_, rfl⟩
          replace hy4 : wr.cell? ⟨b4, o4 + i, none⟩ = some (.int .i64 (a : Int)) := by obtain ⟨q, hq⟩ := HDR.out; rw [hq, ha]; refine Eq.trans hy4 (congrArg (fun x => some (Value.int .i64 x)) ?_); simp [Poly.ints, fsts, List.getD_eq_getElem?_getD, hlen]
          replace hy5 : wr.cell? ⟨b5, o5 + i, none⟩ = some (.int .i64 (b : Int)) := by obtain ⟨q, hq⟩ := HDR.out; rw [hq, hb]; refine Eq.trans hy5 (congrArg (fun x => some (Value.int .i64 x)) ?_); simp [Poly.ints, snds, List.getD_eq_getElem?_getD, hlen]
          rw [← ha] at hdrop ha8
          rw [← hb] at hdrop hb8
          have x1 : bits .xor .i64 (v : Int) (a : Int) = ((v ^^^ a : Nat) : Int) := i64_xor_nat (by omega) (by omega)
          have x2 : bits .xor .i64 (m : Int) (b : Int) = ((m ^^^ b : Nat) : Int) := i64_xor_nat (by omega) (by omega)
          have hva := Gf.xor_lt hv ha8
          have hmb : m ^^^ b < 16384 := Nat.xor_lt_two_pow (n := 14) hm hb8
          have hi2 : (0 : Int) ≤ (i : Int) := by omega
          have hi3 : (i : Int) < (d : Int) := by omega
          have hred := HX.out
          rw [hdrop] at hred
          have HRED := Aside.mk (And.intro hred (And.intro hva (And.intro hmb hlt)))
          clear hr4 hr5 hdrop ha hb hred hlt hva hmb hlen
          by_cases hlt2 : v ^^^ a < v
          · have hc : ((v ^^^ a : Nat) : Int) < (v : Int) := by omega
            have hred2 := HRED.out.1
            simp only [Gf.reduce] at hred2
            rw [if_pos hlt2] at hred2
            have H2 := Aside.mk hred2
            clear hlt2 hred2
            go_wp2
            go_roundw
            case rel => exact ⟨i + 1, v ^^^ a, m ^^^ b, rfl, rfl, rfl, by have := HRED.out.2.2.2; omega, HRED.out.2.1, HRED.out.2.2.1, ⟨H2.out⟩, HDR.out⟩
            case measure => have := HRED.out.2.2.2; simp [intOf]; omega
          · have hc : ¬ ((v ^^^ a : Nat) : Int) < (v : Int) := by omega
            have hred2 := HRED.out.1
            simp only [Gf.reduce] at hred2
            rw [if_neg hlt2] at hred2
            have H2 := Aside.mk hred2
            clear hlt2 hred2
            go_wp2
            go_roundw
            case rel => exact ⟨i + 1, v, m, rfl, rfl, rfl, by have := HRED.out.2.2.2; omega, hv, hm, ⟨H2.out⟩, HDR.out⟩
            case measure => have := HRED.out.2.2.2; simp [intOf]; omega
        · have hred := HX.out
          rw [List.drop_of_length_le (by rw [HL.out.1.1]; omega)] at hred
          have HRED := Aside.mk (show Gf.reduce rows p D0 = (v, m) from hred.symm)
          have hi3 : ¬ (i : Int) < (d : Int) := by omega
          clear hred hlt HX
          go_upto_region 15 with fail
          by_cases hv0 : v = 0
          · subst hv0
            have hrn : Gf.refN r = m := by
              rw [← HL.out.2.1, show 14 - d = (13 - d) + 1 by have := HD.out.2.1; omega]
              simp only [Gf.refAux]
              rw [← HD.out.1, HRED.out, if_pos rfl]
            have HM := Aside.mk hrn
            have hbase := (HALL.out _ HDR.out).2.2
            have HBW := Aside.mk hbase
            clear hrn hbase
            go_wp2
            go_loopw [11, 12] (fun s11 s12 w5 => ∃ (e : Nat) (L : List Nat), s12 = .int .i64 ((e : Int) - 1) ∧ e ≤ 14 ∧ Aside (Poly.fall 14 m = L ++ Poly.fall e m) ∧ Row w5 w.heap.size 3 1 s11 L.length (intsV (Poly.ints L)) ∧ Below w.heap.size w w5) (fun _ s12 _ => ((intOf s12) + 1).toNat)
            case atStart => exact ⟨14, [], rfl, Nat.le_refl _, ⟨rfl⟩, Row.nil _ _ _ _, HBW.out⟩
            case round =>
              obtain ⟨e, L, rfl, hem, HLL, hrl, hbl⟩ := hrel
              have we : IntKind.i64.wrap ((e : Int) - 1 - 1) = (e : Int) - 1 - 1 := by rw [IntKind.wrap_i64]; omega
              have HLF := Aside.mk (And.intro hrl hbl)
              clear hrl hbl
              cases e with
              | zero =>
                have hn0 : ¬ (0 : Int) ≤ ((0 : Nat) : Int) - 1 := by omega
                go_wp2
                go_ret
                have hfall : Poly.fall 14 m = L := by
                  have h1 := HLL.out
                  rwa [show Poly.fall 0 m = [] from rfl, List.append_nil] at h1
                refine ⟨_, rfl, ?_, HLF.out.2⟩
                rw [HM.out, hfall]
                exact HLF.out.1
              | succ e =>
                have hsub : ((e + 1 : Nat) : Int) - 1 = (e : Int) := by omega
                have he0 : (0 : Int) ≤ (e : Int) := by omega
                rw [hsub] at we ⊢
                have hb1 := bits_1 (e := e) hm
                have hbit : m.testBit e = decide (m / 2 ^ e % 2 = 1) := Nat.testBit_eq_decide_div_mod_eq
                have HB7 := Aside.mk (And.intro hbit (And.intro hem hsub))
                have hmod : m / 2 ^ e % 2 < 2 := Nat.mod_lt _ (by omega)
                have hme : min e 64 = e := by omega
                clear hbit hem hsub
                rcases (show m / 2 ^ e % 2 = 0 ∨ m / 2 ^ e % 2 = 1 by omega) with h01 | h01
                · rw [h01] at hb1
                  have H01 := Aside.mk h01
                  clear h01 hmod
                  go_wp2
                  go_roundw
                  case rel => exact ⟨e, L, rfl, by have := HB7.out.2.1; omega, ⟨by rw [HLL.out, Poly.fall_no (by rw [HB7.out.1, H01.out]; rfl)]⟩, HLF.out.1, HLF.out.2⟩
                  case measure => simp [intOf]
                · rw [h01] at hb1
                  have H01 := Aside.mk h01
                  obtain ⟨A13, c13, rfl⟩ : ∃ A c, u11 = .slice A L.length c := by obtain ⟨A, c, e, _⟩ := HLF.out.1.slice; exact ⟨A, c, e⟩
                  have HLN := Aside.mk (show L.length ≤ 14 by
                    have h1 := congrArg List.length HLL.out
                    rw [List.length_append] at h1
                    have h2 := Poly.fall_len m 14
                    omega)
                  clear h01 hmod
                  go_wp2_with (at_builtin; refine wpList_append_one (w0 := w) w.heap.size rfl _ _ 37 3 1 8 (.int .i64 0) rfl Try.underlying37 infoInt rfl (by decide) (.slice A13 L.length c13) L.length (intsV (Poly.ints L)) #[.int .i64 (e : Int)] rfl rfl rfl HLF.out.1 (by simp [Value.oneCell']) HLF.out.2 HLF.out.2.size (by have := HLN.out; omega) (by have := HLN.out; simp only [maxLen]; omega) ?_; intro v1 w3 hr1 hb1 hg1 hat1; have H1 := Aside.mk (And.intro hr1 hb1); clear hr1 hb1 hg1 hat1)
                  go_roundw
                  case rel =>
                    refine ⟨e, L ++ [e], rfl, by have := HB7.out.2.1; omega, ⟨by rw [HLL.out, Poly.fall_yes (by rw [HB7.out.1, H01.out]; rfl), List.append_assoc]; rfl⟩, ?_, H1.out.2⟩
                    rw [ints_app, intsV_append, List.length_append]
                    exact H1.out.1
                  case measure => simp [intOf]
          · have hv0i : ((v : Int) == 0) = false := by simp; omega
            have hrn : Gf.refAux r (13 - d) (d + 1) (Gf.mul p r) (Gf.insertR v m rows) = Gf.refN r := by
              rw [← HL.out.2.1, show 14 - d = (13 - d) + 1 by have := HD.out.2.1; omega]
              simp only [Gf.refAux]
              rw [← HD.out.1, HRED.out, if_neg hv0]
            have HM := Aside.mk hrn
            clear hrn hv0
            have HALL2 : Aside (∀ w5, DrewOf wr w5 → Row w5 w.heap.size 3 1 (.slice A4 d c4) d (intsV (Poly.ints (fsts rows))) ∧ Row w5 w.heap.size 3 1 (.slice A5 d c5) d (intsV (Poly.ints (snds rows))) ∧ Below w.heap.size w w5) := ⟨fun w5 h => HALL.out w5 (by obtain ⟨q1, h1⟩ := HDR.out; obtain ⟨q2, rfl⟩ := h; rw [h1]; exact ⟨q1 + q2, by rw [World.drewN_drewN]⟩)⟩
            go_wp2
            go_loopw [13] (fun s13 w5 => ∃ i2 : Nat, s13 = .int .i64 (i2 : Int) ∧ i2 ≤ d ∧ Aside (∀ x ∈ rows.take i2, v < x.1) ∧ DrewOf wr w5) (fun s13 _ => d - (intOf s13).toNat)
            case atStart => exact ⟨0, rfl, by omega, ⟨by simp⟩, DrewOf.refl _⟩
            case round =>
              obtain ⟨i2, rfl, hi2d, HTK, hdr2⟩ := hrel
              have HDR2 := Aside.mk hdr2
              have hw5 := HALL2.out _ hdr2
              have H5 := Aside.mk hw5
              clear hdr2 hw5
              have hi21 : IntKind.i64.wrap ((i2 : Int) + 1) = ((i2 + 1 : Nat) : Int) := by have := HD.out.2.1; rw [IntKind.wrap_i64]; omega
              have hi20 : (0 : Int) ≤ (i2 : Int) := by omega
              have hmore : Aside (i2 < d → ∃ b4 o4 a : Nat, A4 = some ⟨b4, o4, none⟩ ∧ wr.cell? ⟨b4, o4 + i2, none⟩ = some (.int .i64 (a : Int)) ∧ rows[i2]? = some (a, (snds rows).getD i2 0)) := ⟨fun h => by
                have hlen : i2 < rows.length := by rw [HL.out.1.1]; exact h
                obtain ⟨A', c', he, _, _, _, hr4⟩ := H5.out.1.readInts
                injection he with e1 _ e2
                subst e1; subst e2
                obtain ⟨b4, o4, rfl, _, hy4⟩ := hr4 i2 h
                refine ⟨b4, o4, (fsts rows).getD i2 0, rfl, ?_, ?_⟩
                · refine Eq.trans hy4 (congrArg (fun x => some (Value.int .i64 x)) ?_)
                  simp [Poly.ints, fsts, List.getD_eq_getElem?_getD, hlen]
                · simp [fsts, snds, List.getD_eq_getElem?_getD, hlen]⟩
              by_cases hcont : ∃ x, rows[i2]? = some x ∧ v < x.1
              · obtain ⟨x, hx1, hx2⟩ := hcont
                have hlt : i2 < d := by rw [← HL.out.1.1]; exact (List.getElem?_eq_some_iff.1 hx1).1
                obtain ⟨b4, o4, a, rfl, hy, hra⟩ := hmore.out hlt
                rw [hx1] at hra
                injection hra with hra
                subst hra
                have hva : (v : Int) < (a : Int) := by simp only at hx2; omega
                have hi3 : (i2 : Int) < (d : Int) := by omega
                have HX := Aside.mk (And.intro hx1 (And.intro hx2 hlt))
                clear hx1 hx2 hlt hmore
                go_wp2
                go_roundw
                case rel =>
                  refine ⟨i2 + 1, rfl, by have := HX.out.2.2; omega, ⟨fun x hx => ?_⟩, HDR2.out⟩
                  rw [List.take_add_one, HX.out.1] at hx
                  rcases List.mem_append.1 hx with hx | hx
                  · exact HTK.out x hx
                  · simp at hx; subst hx; exact HX.out.2.1
                case measure => have := HX.out.2.2; simp [intOf]; omega
              · have hins := insert_here (m := m) (by rw [HL.out.1.1]; exact hi2d) HTK.out (fun x hx h => hcont ⟨x, hx, h⟩)
                have HINS := Aside.mk hins
                have HNC := Aside.mk hcont
                clear hins hcont
                go_upto_region 24 with fail
                go_cut [78] (fun s78 wx => s78 = .bool false ∧ DrewOf wr wx)
                case first =>
                  by_cases hlt : i2 < d
                  · obtain ⟨b4, o4, a, rfl, hy, hra⟩ := hmore.out hlt
                    have hva : ¬ (v : Int) < (a : Int) := fun h => HNC.out ⟨_, hra, by simp only; omega⟩
                    have hi3 : (i2 : Int) < (d : Int) := by omega
                    clear hra hlt hmore
                    go_wp2
                    go_meet
                    exact ⟨rfl, DrewOf.refl _⟩
                  · have hi3 : ¬ (i2 : Int) < (d : Int) := by omega
                    clear hlt hmore
                    go_wp2
                    go_meet
                    exact ⟨rfl, DrewOf.refl _⟩
                case rest =>
                  obtain ⟨rfl, hdr3⟩ := hcut
                  obtain ⟨h4, h5, hbw⟩ := HALL2.out wc (HDR2.out.trans hdr3)
                  have H45 := Aside.mk (And.intro h4 (And.intro h5 (And.intro hbw hi2d)))
                  have ht4 := run_to h4 hi2d
                  have hf4 := run_from h4 hi2d
                  have ht5 := run_to h5 hi2d
                  have hf5 := run_from h5 hi2d
                  have hd13 := HD.out.2.1
                  have HDD := Aside.mk (And.intro hd13 hi2d)
                  clear h4 h5 hbw hmore hd13
                  go_upto_region 28 with (at_builtin; refine wpList_append_row (w0 := wc) wc.heap.size rfl _ _ 37 3 1 8 (.int .i64 0) rfl Try.underlying37 infoInt rfl (by decide) (.slice none 0 0) 0 [] (toV (.slice A4 d c4) i2) i2 ((intsV (Poly.ints (fsts rows))).take i2) rfl rfl (Row.nil _ _ _ _) (row_to H45.out.1 H45.out.2.2.2).src (fun u hu => intsV_one _ u (List.mem_of_mem_take hu)) (Below.refl _ _) (Nat.le_refl _) (by have := HDD.out; omega) (by have := HDD.out; simp only [maxLen]; omega) ?_; intro v6 w6 hr6 hb6 hg6 hat6; have H6 := Aside.mk (And.intro hr6 hb6); clear hr6 hb6 hg6 hat6)
                  clear ht4
                  go_upto_region 29 with (at_builtin; refine wpList_append_one (w0 := wc) wc.heap.size rfl _ _ 37 3 1 8 (.int .i64 0) rfl Try.underlying37 infoInt rfl (by decide) v6 (0 + i2) ([] ++ (intsV (Poly.ints (fsts rows))).take i2) #[.int .i64 (v : Int)] rfl rfl rfl H6.out.1 (by simp [Value.oneCell']) H6.out.2 H6.out.2.size (by have := HDD.out; omega) (by have := HDD.out; simp only [maxLen]; omega) ?_; intro v7 w7 hr7 hb7 hg7 hat7; have H7 := Aside.mk (And.intro hr7 hb7); clear hr7 hb7 hg7 hat7)
                  go_upto_region 30 with (at_builtin; refine wpList_append_row (w0 := wc) wc.heap.size rfl _ _ 37 3 1 8 (.int .i64 0) rfl Try.underlying37 infoInt rfl (by decide) v7 (0 + i2 + 1) ([] ++ (intsV (Poly.ints (fsts rows))).take i2 ++ [.int .i64 (v : Int)]) (fromV (.slice A4 d c4) i2) (d - i2) ((intsV (Poly.ints (fsts rows))).drop i2) rfl rfl H7.out.1 (src_from (H45.out.1.below H7.out.2) H45.out.2.2.2) (fun u hu => intsV_one _ u (List.mem_of_mem_drop hu)) H7.out.2 H7.out.2.size (by have := HDD.out; omega) (by have := HDD.out; simp only [maxLen]; omega) ?_; intro v8 w8 hr8 hb8 hg8 hat8; have H8 := Aside.mk (And.intro hr8 hb8); clear hr8 hb8 hg8 hat8)
                  clear hf4
                  go_upto_region 31 with (at_builtin; refine wpList_append_row (w0 := w8) w8.heap.size rfl _ _ 37 3 1 8 (.int .i64 0) rfl Try.underlying37 infoInt rfl (by decide) (.slice none 0 0) 0 [] (toV (.slice A5 d c5) i2) i2 ((intsV (Poly.ints (snds rows))).take i2) rfl rfl (Row.nil _ _ _ _) (row_to (H45.out.2.1.below H8.out.2) H45.out.2.2.2).src (fun u hu => intsV_one _ u (List.mem_of_mem_take hu)) (Below.refl _ _) (Nat.le_refl _) (by have := HDD.out; omega) (by have := HDD.out; simp only [maxLen]; omega) ?_; intro v9 w9 hr9 hb9 hg9 hat9; have H9 := Aside.mk (And.intro hr9 hb9); clear hr9 hb9 hg9 hat9)
                  clear ht5
                  go_upto_region 32 with (at_builtin; refine wpList_append_one (w0 := w8) w8.heap.size rfl _ _ 37 3 1 8 (.int .i64 0) rfl Try.underlying37 infoInt rfl (by decide) v9 (0 + i2) ([] ++ (intsV (Poly.ints (snds rows))).take i2) #[.int .i64 (m : Int)] rfl rfl rfl H9.out.1 (by simp [Value.oneCell']) H9.out.2 H9.out.2.size (by have := HDD.out; omega) (by have := HDD.out; simp only [maxLen]; omega) ?_; intro v10 w10 hr10 hb10 hg10 hat10; have H10 := Aside.mk (And.intro hr10 hb10); clear hr10 hb10 hg10 hat10)
                  go_upto_region 33 with (at_builtin; refine wpList_append_row (w0 := w8) w8.heap.size rfl _ _ 37 3 1 8 (.int .i64 0) rfl Try.underlying37 infoInt rfl (by decide) v10 (0 + i2 + 1) ([] ++ (intsV (Poly.ints (snds rows))).take i2 ++ [.int .i64 (m : Int)]) (fromV (.slice A5 d c5) i2) (d - i2) ((intsV (Poly.ints (snds rows))).drop i2) rfl rfl H10.out.1 (src_from ((H45.out.2.1.below H8.out.2).below H10.out.2) H45.out.2.2.2) (fun u hu => intsV_one _ u (List.mem_of_mem_drop hu)) H10.out.2 H10.out.2.size (by have := HDD.out; omega) (by have := HDD.out; simp only [maxLen]; omega) ?_; intro v11 w11 hr11 hb11 hg11 hat11; have H11 := Aside.mk (And.intro hr11 hb11); clear hr11 hb11 hg11 hat11)
                  clear hf5
                  have hmul : Gf.mul (lowN (p : Int)) (lowN (r : Int)) = Gf.mul p r := by rw [lowN_of_lt hp, lowN_of_lt HR.out.2.1]
                  have HML := Aside.mk hmul
                  clear hmul
                  go_wp2_with (go_at_call 50; refine (ref_mul p r _).mono ?_; rw [HML.out]; rintro e w12 ⟨rfl, rfl⟩)
                  go_roundw
                  case rel =>
                    have hrb := RB_insert (d := d) (rows := rows) ⟨HL.out.1.1.symm, HL.out.1.2⟩ hv hm
                    have hlr : rows.length = d := HL.out.1.1
                    have hn : 0 + i2 + 1 + (d - i2) = d + 1 := by have := HDD.out.2; omega
                    have hb8 : Below w.heap.size w w8 := H45.out.2.2.1.trans (H8.out.2.mono H45.out.2.2.1.size)
                    have e1 : [] ++ (intsV (Poly.ints (fsts rows))).take i2 ++ [Value.int .i64 (v : Int)] ++ (intsV (Poly.ints (fsts rows))).drop i2 = intsV (Poly.ints (fsts (Gf.insertR v m rows))) := by
                      rw [HINS.out]
                      simp [intsV, Poly.ints, fsts]
                    have e2 : [] ++ (intsV (Poly.ints (snds rows))).take i2 ++ [Value.int .i64 (m : Int)] ++ (intsV (Poly.ints (snds rows))).drop i2 = intsV (Poly.ints (snds (Gf.insertR v m rows))) := by
                      rw [HINS.out]
                      simp [intsV, Poly.ints, snds]
                    have r4 := H8.out.1
                    have r5 := H11.out.1
                    rw [e1, hn] at r4
                    rw [e2, hn] at r5
                    refine ⟨d + 1, Gf.mul p r, Gf.insertR v m rows, rfl, rfl, by have := HDD.out.1; omega, Gf.mul_lt _ hp, ⟨hrb, ?_, (r4.below H11.out.2).mono H45.out.2.2.1.size, r5.mono hb8.size, hb8.trans (H11.out.2.mono hb8.size)⟩⟩
                    rw [← HM.out, show 14 - (d + 1) = 13 - d by omega]
                  case measure => have := HDD.out.1; simp [intOf]; omega
    · exfalso
      have hfin := HL.out.2.1
      rw [show 14 - d = 0 by omega, HR.out.2.2] at hfin
      have h1 := (Gf.minN_least HR.out.1 HR.out.2.1).ge
      have h2 := Nat.two_pow_pos (Gf.rootsF r).length
      simp only [Gf.refAux] at hfin
      omega
end Go.Proofs.Ytffdpmejilmnnaa
