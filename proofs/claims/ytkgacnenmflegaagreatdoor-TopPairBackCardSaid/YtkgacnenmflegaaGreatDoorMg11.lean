/-
  The bytes of a page and of its payload, by the program and by the document.
  Plain facts on checksums bit by bit, on natural numbers: no program in sight.
  What the program's and the document's checksum functions compute.
  What sealing and opening compute.
  A pager in memory; a page is written.
-/
import Derived.Test.YtkgacnenmflegaaGreatDoorMg10
import Derived.Test.YtkgacnenmflegaaGreatDoorMg2
import Derived.Laws.BitsAll
import Derived.Test.YtkgacnenmflegaaGreatDoorProg
import Derived.WalkKit
import Derived.WalkSpells
import Derived.WalkLawsBesides
import Derived.OpenShut
import Derived.Test.YtkgacnenmflegaaGreatDoorMg1
import Derived.Deep.RegionWith
import Derived.Deep.QuietTactic
import Derived.BigQuiet
import Derived.Deep.RegionHeld3
import Derived.BigRegion
import Derived.Deep.DeepCutAuto
import Derived.Test.YtkgacnenmflegaaGreatDoorMg4
namespace Go.Proofs.YtkgacnenmflegaaGreatDoor
open Go.RowKit

def rawI (c ch t : Int) : Int := c * (ch + (lowN8 t.toNat : Int))
def payI (c ch : Int) : Int := c * ch - 7
theorem raw_bounds {b p c ch t : Int} (h : goodP b p c ch t) : 0 ≤ ch + (lowN8 t.toNat : Int) ∧ ch + (lowN8 t.toNat : Int) ≤ 300 ∧ 0 ≤ c * (ch + (lowN8 t.toNat : Int)) ∧ c * (ch + (lowN8 t.toNat : Int)) ≤ 1200 ∧ 16 ≤ c * ch ∧ c * ch ≤ 1024 := by
  obtain ⟨_, _, _, _, _, h5, h6, h7, h8, h9, h10⟩ := h
  have hl : lowN8 t.toNat ≤ 14 := by
    have := (degN_le t.toNat (by omega) (by omega)).2
    unfold lowN8
    omega
  have hc : c = 1 ∨ c = 2 ∨ c = 3 ∨ c = 4 := by omega
  rcases hc with rfl | rfl | rfl | rfl <;> omega
/-- A code of a page: new, or made ready. -/
def CAny (k t n : Nat) (W : World) : Prop := BNew W k t n ∨ ∃ g q, BReady W k t n g (lowG t) q
theorem CAny.below {k t n : Nat} {W W' : World} (h : CAny k t n W) (hb : Below W.heap.size W W') : CAny k t n W' := by
  rcases h with h | ⟨g, q, h⟩
  · exact .inl (CF.below h hb)
  · exact .inr ⟨g, q, h.below hb⟩
theorem CAny.drew {k t n : Nat} {W : World} (h : CAny k t n W) : CAny k t n W.drew := h.below ⟨rfl, rfl, rfl, Nat.le_refl _, fun _ _ => rfl⟩
theorem bch_parity_any (k t n : Nat) (W : World) (ht8 : t ≤ 8) (ht1 : 1 ≤ t) (h : CAny k t n W) :
    Calls Tryz.prog 58 #[.pointer (some ⟨k, 0, none⟩)] W fun e w' => e = .returned (.int .i64 (lowN8 t : Int)) ∧ CAny k t n w' ∧ W.grownBy w' (some k) := by
  rcases h with h | ⟨g, q, h⟩
  · refine (bch_parity k t n W ht8 ht1 h).mono ?_
    rintro e w' ⟨rfl, h1, h2⟩
    exact ⟨rfl, .inr h1, h2⟩
  · refine (bch_parity_at k t n g q (lowG t) W h).mono ?_
    rintro e w' ⟨rfl, hb⟩
    exact ⟨rfl, .inr ⟨g, q, h.below hb⟩, grownBy_of_below hb (some k)⟩
set_option maxRecDepth 20000 in
set_option maxHeartbeats 2000000 in
theorem page_raw (b p c ch t : Int) (w : World) (hg : goodP b p c ch t) :
    Calls Tryz.prog 21 #[geoV b p c ch t] w fun e w' => e = .returned (.tuple #[.int .i64 (rawI c ch t), .int .i64 (payI c ch)]) ∧ Below w.heap.size w w' := by
  have hb := (Below.refl w.heap.size w).alloc (Nat.le_refl _) (.cells #[.int .i64 b, .int .i64 p, .int .i64 c, .int .i64 ch, .int .i64 t] 29)
  have HB := Aside.mk hb
  have HG := Aside.mk hg
  clear hb hg
  go_enter Tryz.func21, Tryz.ntmps21
  go_upto_region 4 with (go_at_call 57; refine (code_of b p c ch t _ HG.out).mono ?_; rintro e w2 ⟨k, rfl, HN⟩)
  have hs : w.heap.size < (w.alloc (.cells #[.int .i64 b, .int .i64 p, .int .i64 c, .int .i64 ch, .int .i64 t] 29)).heap.size := by simp
  have hce : ∀ i, w2.cell? ⟨w.heap.size, i, none⟩ = (w.alloc (.cells #[.int .i64 b, .int .i64 p, .int .i64 c, .int .i64 ch, .int .i64 t] 29)).cell? ⟨w.heap.size, i, none⟩ := fun i => HN.out.2.2.cell (p := ⟨w.heap.size, i, none⟩) hs
  have c2 := (hce 2).trans (cell_of_row _ w.heap.size 2 _ _ _ (heap_alloc_new w _))
  have c3 := (hce 3).trans (cell_of_row _ w.heap.size 3 _ _ _ (heap_alloc_new w _))
  simp only [List.getElem?_cons_zero, List.getElem?_cons_succ, List.getElem?_toArray] at c2 c3
  have HC : Aside (w2.cell? ⟨w.heap.size, 2, none⟩ = some (.int .i64 c) ∧ w2.cell? ⟨w.heap.size, 3, none⟩ = some (.int .i64 ch) ∧ w.heap.size < w2.heap.size ∧ Below w.heap.size w w2 ∧ w.heap.size ≤ k ∧ w.heap.size ≠ k) := ⟨c2, c3, Nat.lt_of_lt_of_le hs HN.out.2.2.size, HB.out.trans (HN.out.2.2.mono (Nat.le_of_lt hs)), Nat.le_trans (Nat.le_of_lt hs) HN.out.1, by have := HN.out.1; omega⟩
  have HPA : Aside (∀ W, CAny k t.toNat ch.toNat W → Calls Tryz.prog 58 #[.pointer (some ⟨k, 0, none⟩)] W fun e w' => e = .returned (.int .i64 (lowN8 t.toNat : Int)) ∧ W.grownBy w' (some k) ∧ (CAny k t.toNat ch.toNat W → CAny k t.toNat ch.toNat w')) := ⟨fun W hW => by
    refine (bch_parity_any k t.toNat ch.toNat W (by have := HG.out.2.2.2.2.2.2.2.2.2; omega) (by have := HG.out.2.2.2.2.2.2.2.2.2; omega) hW).mono ?_
    rintro e w' ⟨rfl, h1, h2⟩
    exact ⟨rfl, h2, fun _ => h1⟩⟩
  have HI : Aside (CAny k t.toNat ch.toNat w2) := ⟨.inl HN.out.2.1⟩
  have HBF : Aside (∀ W, Chg (· = k) (CAny k t.toNat ch.toNat) w2 W → Below w.heap.size w W) := ⟨fun W h => ⟨h.os.trans HC.out.2.2.2.1.os, h.tape.trans HC.out.2.2.2.1.tape, h.output.trans HC.out.2.2.2.1.output, Nat.le_trans (Nat.le_of_lt HC.out.2.2.1) h.size, fun b hb => (h.block b (Nat.lt_trans hb HC.out.2.2.1) (by have := HC.out.2.2.2.2.1; omega)).trans (HC.out.2.2.2.1.block b hb)⟩⟩
  have hbd := raw_bounds HG.out
  have h7 : payI c ch = c * ch - 3 - 4 := by unfold payI; omega
  have hr : rawI c ch t = c * (ch + (lowN8 t.toNat : Int)) := rfl
  have HH := Aside.mk (And.intro h7 hr)
  generalize (lowN8 t.toNat : Int) = L at *
  have e1 : IntKind.i64.wrap (ch + L) = ch + L := by rw [IntKind.wrap_i64]; omega
  have e2 : IntKind.i64.wrap (c * (ch + L)) = c * (ch + L) := by rw [IntKind.wrap_i64]; omega
  have e3 : IntKind.i64.wrap (c * ch) = c * ch := by rw [IntKind.wrap_i64]; omega
  have e4 : IntKind.i64.wrap (c * ch - 3) = c * ch - 3 := by rw [IntKind.wrap_i64]; omega
  have e5 : IntKind.i64.wrap (c * ch - 3 - 4) = c * ch - 3 - 4 := by rw [IntKind.wrap_i64]; omega
  clear hbd hs hce h7 hr
  refine wp_region_r 17 (by kernel_rfl) (by kernel_rfl) (rel_small (by kernel_rfl)) (chgV (· = k) (CAny k t.toNat ch.toNat) [(2, .val (.int .i64 (c * (ch + L)))), (3, .val (.int .i64 (c * ch - 3 - 4))), (9, .val (.pointer (some ⟨w.heap.size, 2, none⟩))), (10, .val (.int .i64 c)), (11, .val (.pointer (some ⟨w.heap.size, 3, none⟩))), (12, .val (.int .i64 ch)), (13, .val (.pointer (some ⟨k, 0, none⟩))), (14, .val (.int .i64 L)), (15, .val (.int .i64 (ch + L))), (16, .val (.int .i64 (c * (ch + L)))), (17, .val (.pointer (some ⟨w.heap.size, 2, none⟩))), (18, .val (.int .i64 c)), (19, .val (.pointer (some ⟨w.heap.size, 3, none⟩))), (20, .val (.int .i64 ch)), (21, .val (.int .i64 (c * ch))), (22, .val (.int .i64 (c * ch - 3))), (23, .val (.int .i64 (c * ch - 3 - 4)))]) (Chg (· = k) (CAny k t.toNat ch.toNat)) (chg_drew _ _ _ (CAny.drew)) Chg.refl (fun _ _ _ => Chg.trans) (chgV_stable _ _ _) ⟨?_, ?_, ?_, ?_, ?_, ?_, ?_, ?_, ?_, ?_, ?_, ?_, ?_, ?_, ?_, ?_, ?_, trivial⟩ ?_
  · -- 9 := fieldAddr 29 t1 2
    intro f W hW hold hd K hK
    refine .inl ⟨wanted_free rfl _, ?_⟩
    dsimp only [bare]
    have ze1 : f 1 = .pointer (some ⟨w.heap.size, 0, none⟩) := hold 1 rfl
    have HK : ∀ v W', Chg (· = k) (CAny k t.toNat ch.toNat) W W' → chgV (· = k) (CAny k t.toNat ch.toNat) _ 9 v W' → K { tmps := #[f 0, f 1, f 2, f 3, f 4, f 5, f 6, f 7, f 8, v, f 10, f 11, f 12, f 13, f 14, f 15, f 16, f 17, f 18, f 19, f 20, f 21, f 22, f 23], defers := [] } W' := hK
    change wpList _ #[_] _ [_] { tmps := #[f 0, f 1, f 2, f 3, f 4, f 5, f 6, f 7, f 8, f 9, f 10, f 11, f 12, f 13, f 14, f 15, f 16, f 17, f 18, f 19, f 20, f 21, f 22, f 23], defers := [] } W
    clear hK hd hold
    simp only [ze1] at HK ⊢
    clear ze1
    have HK := Aside.mk HK
    go_wp2
    exact HK.out _ _ (Chg.refl _) rfl
  · -- 10 := load 3 t9
    intro f W hW hold hd K hK
    refine .inl ⟨wanted_free rfl _, ?_⟩
    dsimp only [bare]
    have ze9 : f 9 = .pointer (some ⟨w.heap.size, 2, none⟩) := hd 9 rfl rfl
    have HK : ∀ v W', Chg (· = k) (CAny k t.toNat ch.toNat) W W' → chgV (· = k) (CAny k t.toNat ch.toNat) _ 10 v W' → K { tmps := #[f 0, f 1, f 2, f 3, f 4, f 5, f 6, f 7, f 8, f 9, v, f 11, f 12, f 13, f 14, f 15, f 16, f 17, f 18, f 19, f 20, f 21, f 22, f 23], defers := [] } W' := hK
    change wpList _ #[_] _ [_] { tmps := #[f 0, f 1, f 2, f 3, f 4, f 5, f 6, f 7, f 8, f 9, f 10, f 11, f 12, f 13, f 14, f 15, f 16, f 17, f 18, f 19, f 20, f 21, f 22, f 23], defers := [] } W
    clear hK hd hold
    simp only [ze9] at HK ⊢
    clear ze9
    have HK := Aside.mk HK
    have hcell := (hW.cell HC.out.2.2.1 HC.out.2.2.2.2.2 2).trans HC.out.1
    go_wp2
    exact HK.out _ _ (Chg.refl _) rfl
  · -- 11 := fieldAddr 29 t1 3
    intro f W hW hold hd K hK
    refine .inl ⟨wanted_free rfl _, ?_⟩
    dsimp only [bare]
    have ze1 : f 1 = .pointer (some ⟨w.heap.size, 0, none⟩) := hold 1 rfl
    have HK : ∀ v W', Chg (· = k) (CAny k t.toNat ch.toNat) W W' → chgV (· = k) (CAny k t.toNat ch.toNat) _ 11 v W' → K { tmps := #[f 0, f 1, f 2, f 3, f 4, f 5, f 6, f 7, f 8, f 9, f 10, v, f 12, f 13, f 14, f 15, f 16, f 17, f 18, f 19, f 20, f 21, f 22, f 23], defers := [] } W' := hK
    change wpList _ #[_] _ [_] { tmps := #[f 0, f 1, f 2, f 3, f 4, f 5, f 6, f 7, f 8, f 9, f 10, f 11, f 12, f 13, f 14, f 15, f 16, f 17, f 18, f 19, f 20, f 21, f 22, f 23], defers := [] } W
    clear hK hd hold
    simp only [ze1] at HK ⊢
    clear ze1
    have HK := Aside.mk HK
    go_wp2
    exact HK.out _ _ (Chg.refl _) rfl
  · -- 12 := load 3 t11
    intro f W hW hold hd K hK
    refine .inl ⟨wanted_free rfl _, ?_⟩
    dsimp only [bare]
    have ze11 : f 11 = .pointer (some ⟨w.heap.size, 3, none⟩) := hd 11 rfl rfl
    have HK : ∀ v W', Chg (· = k) (CAny k t.toNat ch.toNat) W W' → chgV (· = k) (CAny k t.toNat ch.toNat) _ 12 v W' → K { tmps := #[f 0, f 1, f 2, f 3, f 4, f 5, f 6, f 7, f 8, f 9, f 10, f 11, v, f 13, f 14, f 15, f 16, f 17, f 18, f 19, f 20, f 21, f 22, f 23], defers := [] } W' := hK
    change wpList _ #[_] _ [_] { tmps := #[f 0, f 1, f 2, f 3, f 4, f 5, f 6, f 7, f 8, f 9, f 10, f 11, f 12, f 13, f 14, f 15, f 16, f 17, f 18, f 19, f 20, f 21, f 22, f 23], defers := [] } W
    clear hK hd hold
    simp only [ze11] at HK ⊢
    clear ze11
    have HK := Aside.mk HK
    have hcell := (hW.cell HC.out.2.2.1 HC.out.2.2.2.2.2 3).trans HC.out.2.1
    go_wp2
    exact HK.out _ _ (Chg.refl _) rfl
  · -- 13 := move t4
    intro f W hW hold hd K hK
    refine .inl ⟨wanted_free rfl _, ?_⟩
    dsimp only [bare]
    have ze4 : f 4 = .pointer (some ⟨k, 0, none⟩) := hold 4 rfl
    have HK : ∀ v W', Chg (· = k) (CAny k t.toNat ch.toNat) W W' → chgV (· = k) (CAny k t.toNat ch.toNat) _ 13 v W' → K { tmps := #[f 0, f 1, f 2, f 3, f 4, f 5, f 6, f 7, f 8, f 9, f 10, f 11, f 12, v, f 14, f 15, f 16, f 17, f 18, f 19, f 20, f 21, f 22, f 23], defers := [] } W' := hK
    change wpList _ #[_] _ [_] { tmps := #[f 0, f 1, f 2, f 3, f 4, f 5, f 6, f 7, f 8, f 9, f 10, f 11, f 12, f 13, f 14, f 15, f 16, f 17, f 18, f 19, f 20, f 21, f 22, f 23], defers := [] } W
    clear hK hd hold
    simp only [ze4] at HK ⊢
    clear ze4
    have HK := Aside.mk HK
    go_wp2
    exact HK.out _ _ (Chg.refl _) rfl
  · -- 14 := CALL f20 (*chert/bch.Code).Parity [t13] : [55]
    intro f W hW hold hd K hK
    refine .inl ⟨wanted_free rfl _, ?_⟩
    dsimp only [bare]
    have ze13 : f 13 = .pointer (some ⟨k, 0, none⟩) := hd 13 rfl rfl
    have HK : ∀ v W', Chg (· = k) (CAny k t.toNat ch.toNat) W W' → chgV (· = k) (CAny k t.toNat ch.toNat) _ 14 v W' → K { tmps := #[f 0, f 1, f 2, f 3, f 4, f 5, f 6, f 7, f 8, f 9, f 10, f 11, f 12, f 13, v, f 15, f 16, f 17, f 18, f 19, f 20, f 21, f 22, f 23], defers := [] } W' := hK
    change wpList _ #[_] _ [_] { tmps := #[f 0, f 1, f 2, f 3, f 4, f 5, f 6, f 7, f 8, f 9, f 10, f 11, f 12, f 13, f 14, f 15, f 16, f 17, f 18, f 19, f 20, f 21, f 22, f 23], defers := [] } W
    clear hK hd hold
    simp only [ze13] at HK ⊢
    clear ze13
    have HK := Aside.mk HK
    go_wp2_with (go_at_call 58; refine (HPA.out W (hW.inv HI.out)).mono ?_; rintro e w3 ⟨rfl, hg3, hi3⟩)
    exact HK.out _ _ (Chg.of_grown hg3 rfl hi3) rfl
  · -- 15 := binOp add 3 t12 t14 3
    intro f W hW hold hd K hK
    refine .inl ⟨wanted_free rfl _, ?_⟩
    dsimp only [bare]
    have ze12 : f 12 = .int .i64 ch := hd 12 rfl rfl
    have ze14 : f 14 = .int .i64 L := hd 14 rfl rfl
    have HK : ∀ v W', Chg (· = k) (CAny k t.toNat ch.toNat) W W' → chgV (· = k) (CAny k t.toNat ch.toNat) _ 15 v W' → K { tmps := #[f 0, f 1, f 2, f 3, f 4, f 5, f 6, f 7, f 8, f 9, f 10, f 11, f 12, f 13, f 14, v, f 16, f 17, f 18, f 19, f 20, f 21, f 22, f 23], defers := [] } W' := hK
    change wpList _ #[_] _ [_] { tmps := #[f 0, f 1, f 2, f 3, f 4, f 5, f 6, f 7, f 8, f 9, f 10, f 11, f 12, f 13, f 14, f 15, f 16, f 17, f 18, f 19, f 20, f 21, f 22, f 23], defers := [] } W
    clear hK hd hold
    simp only [ze12, ze14] at HK ⊢
    clear ze12 ze14
    have HK := Aside.mk HK
    go_wp2
    exact HK.out _ _ (Chg.refl _) rfl
  · -- 16 := binOp mul 3 t10 t15 3
    intro f W hW hold hd K hK
    refine .inl ⟨wanted_free rfl _, ?_⟩
    dsimp only [bare]
    have ze10 : f 10 = .int .i64 c := hd 10 rfl rfl
    have ze15 : f 15 = .int .i64 (ch + L) := hd 15 rfl rfl
    have HK : ∀ v W', Chg (· = k) (CAny k t.toNat ch.toNat) W W' → chgV (· = k) (CAny k t.toNat ch.toNat) _ 16 v W' → K { tmps := #[f 0, f 1, f 2, f 3, f 4, f 5, f 6, f 7, f 8, f 9, f 10, f 11, f 12, f 13, f 14, f 15, v, f 17, f 18, f 19, f 20, f 21, f 22, f 23], defers := [] } W' := hK
    change wpList _ #[_] _ [_] { tmps := #[f 0, f 1, f 2, f 3, f 4, f 5, f 6, f 7, f 8, f 9, f 10, f 11, f 12, f 13, f 14, f 15, f 16, f 17, f 18, f 19, f 20, f 21, f 22, f 23], defers := [] } W
    clear hK hd hold
    simp only [ze10, ze15] at HK ⊢
    clear ze10 ze15
    have HK := Aside.mk HK
    go_wp2
    exact HK.out _ _ (Chg.refl _) rfl
  · -- 17 := fieldAddr 29 t1 2
    intro f W hW hold hd K hK
    refine .inl ⟨wanted_free rfl _, ?_⟩
    dsimp only [bare]
    have ze1 : f 1 = .pointer (some ⟨w.heap.size, 0, none⟩) := hold 1 rfl
    have HK : ∀ v W', Chg (· = k) (CAny k t.toNat ch.toNat) W W' → chgV (· = k) (CAny k t.toNat ch.toNat) _ 17 v W' → K { tmps := #[f 0, f 1, f 2, f 3, f 4, f 5, f 6, f 7, f 8, f 9, f 10, f 11, f 12, f 13, f 14, f 15, f 16, v, f 18, f 19, f 20, f 21, f 22, f 23], defers := [] } W' := hK
    change wpList _ #[_] _ [_] { tmps := #[f 0, f 1, f 2, f 3, f 4, f 5, f 6, f 7, f 8, f 9, f 10, f 11, f 12, f 13, f 14, f 15, f 16, f 17, f 18, f 19, f 20, f 21, f 22, f 23], defers := [] } W
    clear hK hd hold
    simp only [ze1] at HK ⊢
    clear ze1
    have HK := Aside.mk HK
    go_wp2
    exact HK.out _ _ (Chg.refl _) rfl
  · -- 18 := load 3 t17
    intro f W hW hold hd K hK
    refine .inl ⟨wanted_free rfl _, ?_⟩
    dsimp only [bare]
    have ze17 : f 17 = .pointer (some ⟨w.heap.size, 2, none⟩) := hd 17 rfl rfl
    have HK : ∀ v W', Chg (· = k) (CAny k t.toNat ch.toNat) W W' → chgV (· = k) (CAny k t.toNat ch.toNat) _ 18 v W' → K { tmps := #[f 0, f 1, f 2, f 3, f 4, f 5, f 6, f 7, f 8, f 9, f 10, f 11, f 12, f 13, f 14, f 15, f 16, f 17, v, f 19, f 20, f 21, f 22, f 23], defers := [] } W' := hK
    change wpList _ #[_] _ [_] { tmps := #[f 0, f 1, f 2, f 3, f 4, f 5, f 6, f 7, f 8, f 9, f 10, f 11, f 12, f 13, f 14, f 15, f 16, f 17, f 18, f 19, f 20, f 21, f 22, f 23], defers := [] } W
    clear hK hd hold
    simp only [ze17] at HK ⊢
    clear ze17
    have HK := Aside.mk HK
    have hcell := (hW.cell HC.out.2.2.1 HC.out.2.2.2.2.2 2).trans HC.out.1
    go_wp2
    exact HK.out _ _ (Chg.refl _) rfl
  · -- 19 := fieldAddr 29 t1 3
    intro f W hW hold hd K hK
    refine .inl ⟨wanted_free rfl _, ?_⟩
    dsimp only [bare]
    have ze1 : f 1 = .pointer (some ⟨w.heap.size, 0, none⟩) := hold 1 rfl
    have HK : ∀ v W', Chg (· = k) (CAny k t.toNat ch.toNat) W W' → chgV (· = k) (CAny k t.toNat ch.toNat) _ 19 v W' → K { tmps := #[f 0, f 1, f 2, f 3, f 4, f 5, f 6, f 7, f 8, f 9, f 10, f 11, f 12, f 13, f 14, f 15, f 16, f 17, f 18, v, f 20, f 21, f 22, f 23], defers := [] } W' := hK
    change wpList _ #[_] _ [_] { tmps := #[f 0, f 1, f 2, f 3, f 4, f 5, f 6, f 7, f 8, f 9, f 10, f 11, f 12, f 13, f 14, f 15, f 16, f 17, f 18, f 19, f 20, f 21, f 22, f 23], defers := [] } W
    clear hK hd hold
    simp only [ze1] at HK ⊢
    clear ze1
    have HK := Aside.mk HK
    go_wp2
    exact HK.out _ _ (Chg.refl _) rfl
  · -- 20 := load 3 t19
    intro f W hW hold hd K hK
    refine .inl ⟨wanted_free rfl _, ?_⟩
    dsimp only [bare]
    have ze19 : f 19 = .pointer (some ⟨w.heap.size, 3, none⟩) := hd 19 rfl rfl
    have HK : ∀ v W', Chg (· = k) (CAny k t.toNat ch.toNat) W W' → chgV (· = k) (CAny k t.toNat ch.toNat) _ 20 v W' → K { tmps := #[f 0, f 1, f 2, f 3, f 4, f 5, f 6, f 7, f 8, f 9, f 10, f 11, f 12, f 13, f 14, f 15, f 16, f 17, f 18, f 19, v, f 21, f 22, f 23], defers := [] } W' := hK
    change wpList _ #[_] _ [_] { tmps := #[f 0, f 1, f 2, f 3, f 4, f 5, f 6, f 7, f 8, f 9, f 10, f 11, f 12, f 13, f 14, f 15, f 16, f 17, f 18, f 19, f 20, f 21, f 22, f 23], defers := [] } W
    clear hK hd hold
    simp only [ze19] at HK ⊢
    clear ze19
    have HK := Aside.mk HK
    have hcell := (hW.cell HC.out.2.2.1 HC.out.2.2.2.2.2 3).trans HC.out.2.1
    go_wp2
    exact HK.out _ _ (Chg.refl _) rfl
  · -- 21 := binOp mul 3 t18 t20 3
    intro f W hW hold hd K hK
    refine .inl ⟨wanted_free rfl _, ?_⟩
    dsimp only [bare]
    have ze18 : f 18 = .int .i64 c := hd 18 rfl rfl
    have ze20 : f 20 = .int .i64 ch := hd 20 rfl rfl
    have HK : ∀ v W', Chg (· = k) (CAny k t.toNat ch.toNat) W W' → chgV (· = k) (CAny k t.toNat ch.toNat) _ 21 v W' → K { tmps := #[f 0, f 1, f 2, f 3, f 4, f 5, f 6, f 7, f 8, f 9, f 10, f 11, f 12, f 13, f 14, f 15, f 16, f 17, f 18, f 19, f 20, v, f 22, f 23], defers := [] } W' := hK
    change wpList _ #[_] _ [_] { tmps := #[f 0, f 1, f 2, f 3, f 4, f 5, f 6, f 7, f 8, f 9, f 10, f 11, f 12, f 13, f 14, f 15, f 16, f 17, f 18, f 19, f 20, f 21, f 22, f 23], defers := [] } W
    clear hK hd hold
    simp only [ze18, ze20] at HK ⊢
    clear ze18 ze20
    have HK := Aside.mk HK
    go_wp2
    exact HK.out _ _ (Chg.refl _) rfl
  · -- 22 := binOp sub 3 t21 <i64 3> 3
    intro f W hW hold hd K hK
    refine .inl ⟨wanted_free rfl _, ?_⟩
    dsimp only [bare]
    have ze21 : f 21 = .int .i64 (c * ch) := hd 21 rfl rfl
    have HK : ∀ v W', Chg (· = k) (CAny k t.toNat ch.toNat) W W' → chgV (· = k) (CAny k t.toNat ch.toNat) _ 22 v W' → K { tmps := #[f 0, f 1, f 2, f 3, f 4, f 5, f 6, f 7, f 8, f 9, f 10, f 11, f 12, f 13, f 14, f 15, f 16, f 17, f 18, f 19, f 20, f 21, v, f 23], defers := [] } W' := hK
    change wpList _ #[_] _ [_] { tmps := #[f 0, f 1, f 2, f 3, f 4, f 5, f 6, f 7, f 8, f 9, f 10, f 11, f 12, f 13, f 14, f 15, f 16, f 17, f 18, f 19, f 20, f 21, f 22, f 23], defers := [] } W
    clear hK hd hold
    simp only [ze21] at HK ⊢
    clear ze21
    have HK := Aside.mk HK
    go_wp2
    exact HK.out _ _ (Chg.refl _) rfl
  · -- 23 := binOp sub 3 t22 <i64 4> 3
    intro f W hW hold hd K hK
    refine .inl ⟨wanted_free rfl _, ?_⟩
    dsimp only [bare]
    have ze22 : f 22 = .int .i64 (c * ch - 3) := hd 22 rfl rfl
    have HK : ∀ v W', Chg (· = k) (CAny k t.toNat ch.toNat) W W' → chgV (· = k) (CAny k t.toNat ch.toNat) _ 23 v W' → K { tmps := #[f 0, f 1, f 2, f 3, f 4, f 5, f 6, f 7, f 8, f 9, f 10, f 11, f 12, f 13, f 14, f 15, f 16, f 17, f 18, f 19, f 20, f 21, f 22, v], defers := [] } W' := hK
    change wpList _ #[_] _ [_] { tmps := #[f 0, f 1, f 2, f 3, f 4, f 5, f 6, f 7, f 8, f 9, f 10, f 11, f 12, f 13, f 14, f 15, f 16, f 17, f 18, f 19, f 20, f 21, f 22, f 23], defers := [] } W
    clear hK hd hold
    simp only [ze22] at HK ⊢
    clear ze22
    have HK := Aside.mk HK
    go_wp2
    exact HK.out _ _ (Chg.refl _) rfl
  · -- 2 := assign t16
    intro f W hW hold hd K hK
    refine .inl ⟨wanted_free rfl _, ?_⟩
    dsimp only [bare]
    have ze16 : f 16 = .int .i64 (c * (ch + L)) := hd 16 rfl rfl
    have HK : ∀ v W', Chg (· = k) (CAny k t.toNat ch.toNat) W W' → chgV (· = k) (CAny k t.toNat ch.toNat) _ 2 v W' → K { tmps := #[f 0, f 1, v, f 3, f 4, f 5, f 6, f 7, f 8, f 9, f 10, f 11, f 12, f 13, f 14, f 15, f 16, f 17, f 18, f 19, f 20, f 21, f 22, f 23], defers := [] } W' := hK
    change wpList _ #[_] _ [_] { tmps := #[f 0, f 1, f 2, f 3, f 4, f 5, f 6, f 7, f 8, f 9, f 10, f 11, f 12, f 13, f 14, f 15, f 16, f 17, f 18, f 19, f 20, f 21, f 22, f 23], defers := [] } W
    clear hK hd hold
    simp only [ze16] at HK ⊢
    clear ze16
    have HK := Aside.mk HK
    go_wp2
    exact HK.out _ _ (Chg.refl _) rfl
  · -- 3 := assign t23
    intro f W hW hold hd K hK
    refine .inl ⟨wanted_free rfl _, ?_⟩
    dsimp only [bare]
    have ze23 : f 23 = .int .i64 (c * ch - 3 - 4) := hd 23 rfl rfl
    have HK : ∀ v W', Chg (· = k) (CAny k t.toNat ch.toNat) W W' → chgV (· = k) (CAny k t.toNat ch.toNat) _ 3 v W' → K { tmps := #[f 0, f 1, f 2, v, f 4, f 5, f 6, f 7, f 8, f 9, f 10, f 11, f 12, f 13, f 14, f 15, f 16, f 17, f 18, f 19, f 20, f 21, f 22, f 23], defers := [] } W' := hK
    change wpList _ #[_] _ [_] { tmps := #[f 0, f 1, f 2, f 3, f 4, f 5, f 6, f 7, f 8, f 9, f 10, f 11, f 12, f 13, f 14, f 15, f 16, f 17, f 18, f 19, f 20, f 21, f 22, f 23], defers := [] } W
    clear hK hd hold
    simp only [ze23] at HK ⊢
    clear ze23
    have HK := Aside.mk HK
    go_wp2
    exact HK.out _ _ (Chg.refl _) rfl
  · intro f W hW hold hd aa ha
    replace ha := ha.trans (rel_puts hold)
    have ze2 : f 2 = .int .i64 (c * (ch + L)) := hd 2 rfl
    have ze3 : f 3 = .int .i64 (c * ch - 3 - 4) := hd 3 rfl
    have ze9 : f 9 = .pointer (some ⟨w.heap.size, 2, none⟩) := hd 9 rfl
    have ze10 : f 10 = .int .i64 c := hd 10 rfl
    have ze11 : f 11 = .pointer (some ⟨w.heap.size, 3, none⟩) := hd 11 rfl
    have ze12 : f 12 = .int .i64 ch := hd 12 rfl
    have ze13 : f 13 = .pointer (some ⟨k, 0, none⟩) := hd 13 rfl
    have ze14 : f 14 = .int .i64 L := hd 14 rfl
    have ze15 : f 15 = .int .i64 (ch + L) := hd 15 rfl
    have ze16 : f 16 = .int .i64 (c * (ch + L)) := hd 16 rfl
    have ze17 : f 17 = .pointer (some ⟨w.heap.size, 2, none⟩) := hd 17 rfl
    have ze18 : f 18 = .int .i64 c := hd 18 rfl
    have ze19 : f 19 = .pointer (some ⟨w.heap.size, 3, none⟩) := hd 19 rfl
    have ze20 : f 20 = .int .i64 ch := hd 20 rfl
    have ze21 : f 21 = .int .i64 (c * ch) := hd 21 rfl
    have ze22 : f 22 = .int .i64 (c * ch - 3) := hd 22 rfl
    have ze23 : f 23 = .int .i64 (c * ch - 3 - 4) := hd 23 rfl
    simp only [List.take_succ_cons, List.take_zero, putAll, List.foldl_cons, List.foldl_nil, Option.getD_some] at ha
    simp only [ze2, ze3, ze9, ze10, ze11, ze12, ze13, ze14, ze15, ze16, ze17, ze18, ze19, ze20, ze21, ze22, ze23] at ha
    subst ha
    simp only [List.drop_succ_cons, List.drop_nil, Act.put, List.setIfInBounds_toArray, List.set_cons_zero, List.set_cons_succ]
    clear hold hd ze2 ze3 ze9 ze10 ze11 ze12 ze13 ze14 ze15 ze16 ze17 ze18 ze19 ze20 ze21 ze22 ze23
    have hbf := HBF.out W hW
    go_wp2
    go_ret2
    exact ⟨by rw [HH.out.1, HH.out.2]; rfl, hbf⟩
end Go.Proofs.YtkgacnenmflegaaGreatDoor
namespace Go.Proofs.YtkgacnenmflegaaGreatDoor.Crc

/-- One bit of the checksum's register. -/
def step (r : Nat) : Nat := if r % 2 = 1 then (r / 2) ^^^ 3988292384 else r / 2
/-- The sixteen half bytes' sums. -/
def nib : Nat → Nat
  | 0 => 0 | 1 => 498536548 | 2 => 997073096 | 3 => 651767980 | 4 => 1994146192 | 5 => 1802195444 | 6 => 1303535960 | 7 => 1342533948
  | 8 => 3988292384 | 9 => 4027552580 | 10 => 3604390888 | 11 => 3412177804 | 12 => 2607071920 | 13 => 2262029012 | 14 => 2685067896 | 15 => 3183342108 | _ => 0
def half (r : Nat) : Nat := r / 16 ^^^ nib (r % 16)
def steps : Nat → Nat → Nat
  | 0, r => r
  | k + 1, r => steps k (step r)
def byte (r b : Nat) : Nat := steps 8 (r ^^^ b)
def reg (r : Nat) (l : List UInt8) : Nat := l.foldl (fun r b => byte r b.toNat) r
def ext (c : Nat) (l : List UInt8) : Nat := reg (c ^^^ 4294967295) l ^^^ 4294967295
def sum (l : List UInt8) : Nat := ext 0 l

theorem nib_lt (i : Nat) : nib i < 4294967296 := by unfold nib; split <;> omega
theorem xor_lt32 {a b : Nat} (ha : a < 4294967296) (hb : b < 4294967296) : a ^^^ b < 4294967296 := Nat.xor_lt_two_pow (n := 32) ha hb
theorem step_lt {r : Nat} (h : r < 4294967296) : step r < 4294967296 := by
  unfold step; split
  · exact xor_lt32 (by omega) (by omega)
  · omega
theorem half_lt {r : Nat} (h : r < 4294967296) : half r < 4294967296 := xor_lt32 (by omega) (nib_lt _)
theorem steps_lt (k : Nat) : ∀ {r : Nat}, r < 4294967296 → steps k r < 4294967296 := by
  induction k with
  | zero => intro r h; exact h
  | succ k ih => intro r h; exact ih (step_lt h)
theorem steps_succ (k : Nat) : ∀ r, steps (k + 1) r = step (steps k r) := by
  induction k with
  | zero => intro r; rfl
  | succ k ih => intro r; rw [steps, ih]; rfl
theorem steps_add (j k : Nat) : ∀ r, steps (j + k) r = steps k (steps j r) := by
  induction j with
  | zero => intro r; simp [steps]
  | succ j ih => intro r; rw [Nat.succ_add]; exact ih (step r)
theorem byte_lt {r : Nat} (h : r < 4294967296) (b : UInt8) : byte r b.toNat < 4294967296 :=
  steps_lt 8 (xor_lt32 h (by have := b.toNat_lt; omega))
theorem reg_lt (l : List UInt8) : ∀ {r : Nat}, r < 4294967296 → reg r l < 4294967296 := by
  induction l with
  | nil => intro r h; exact h
  | cons b l ih => intro r h; exact ih (byte_lt h b)
theorem ext_lt {c : Nat} (h : c < 4294967296) (l : List UInt8) : ext c l < 4294967296 := xor_lt32 (reg_lt l (xor_lt32 h (by omega))) (by omega)
theorem sum_lt (l : List UInt8) : sum l < 4294967296 := ext_lt (by omega) l
theorem reg_append (r : Nat) (l m : List UInt8) : reg r (l ++ m) = reg (reg r l) m := List.foldl_append ..
theorem reg_snoc (r : Nat) (l : List UInt8) (b : UInt8) : reg r (l ++ [b]) = byte (reg r l) b.toNat := by rw [reg_append]; rfl
theorem xor_cancel (a b : Nat) : a ^^^ b ^^^ b = a := by rw [Nat.xor_assoc, Nat.xor_self, Nat.xor_zero]
theorem ext_append (c : Nat) (l m : List UInt8) : ext (ext c l) m = ext c (l ++ m) := by
  unfold ext; rw [xor_cancel, reg_append]
theorem sum_append (l m : List UInt8) : ext (sum l) m = sum (l ++ m) := ext_append ..

theorem xor_bit (a b : Nat) : (a ^^^ b) % 2 = (a % 2 + b % 2) % 2 := by
  have h := Nat.xor_mod_two_eq_one (a := a) (b := b)
  omega
/-- A step adds up bit by bit. -/
theorem step_xor (a b : Nat) : step (a ^^^ b) = step a ^^^ step b := by
  unfold step
  rw [xor_bit, Nat.xor_div_two]
  rcases Nat.mod_two_eq_zero_or_one a with h | h <;> rcases Nat.mod_two_eq_zero_or_one b with k | k <;> simp [h, k]
  · rw [Nat.xor_assoc]
  · rw [Nat.xor_assoc, Nat.xor_assoc, Nat.xor_comm (b / 2)]
  · rw [Nat.xor_assoc, Nat.xor_comm 3988292384, Nat.xor_assoc, Nat.xor_self, Nat.xor_zero]
theorem steps_xor (k : Nat) : ∀ a b, steps k (a ^^^ b) = steps k a ^^^ steps k b := by
  induction k with
  | zero => intro a b; rfl
  | succ k ih => intro a b; rw [steps, step_xor, ih]; rfl
/-- Four steps are a half byte's one. -/
theorem steps4_low : ∀ i, i < 16 → steps 4 i = nib i := by decide
theorem steps4_high (q : Nat) : steps 4 (16 * q) = q := by
  have e : ∀ m, step (2 * m) = m := by intro m; unfold step; rw [if_neg (by omega)]; omega
  have h : 16 * q = 2 * (2 * (2 * (2 * q))) := by omega
  rw [h]
  simp only [steps, e]
theorem half_eq (r : Nat) : half r = steps 4 r := by
  have h : r = 16 * (r / 16) ^^^ r % 16 := by
    have h1 : 16 * (r / 16) ||| r % 16 = 16 * (r / 16) + r % 16 := nat_join 4 _ _ (by omega) (by omega)
    have h2 : 16 * (r / 16) ||| r % 16 = 16 * (r / 16) ^^^ r % 16 := by
      apply Nat.eq_of_testBit_eq
      intro i
      rw [Nat.testBit_or, Nat.testBit_xor]
      by_cases hi : i < 4
      · have : (16 * (r / 16)).testBit i = false := by
          have h3 : 16 * (r / 16) = (r / 16) <<< 4 := by rw [Nat.shiftLeft_eq]; omega
          rw [h3, Nat.testBit_shiftLeft]
          simp; omega
        rw [this]; simp
      · have : (r % 16).testBit i = false := Nat.testBit_lt_two_pow (Nat.lt_of_lt_of_le (Nat.mod_lt _ (by omega)) (Nat.pow_le_pow_right (n := 2) (i := 4) (by omega) (by omega)))
        rw [this]; simp
    omega
  conv => rhs; rw [h]
  rw [steps_xor, steps4_high, steps4_low _ (Nat.mod_lt _ (by omega))]
  rfl
theorem byte_half (r b : Nat) : half (half (r ^^^ b)) = byte r b := by
  rw [half_eq, half_eq, ← steps_add]; rfl

/-! Changed texts -/
theorem step_zero {r : Nat} (h : r < 4294967296) (hz : step r = 0) : r = 0 := by
  unfold step at hz
  split at hz
  · have e : r / 2 = 3988292384 := by
      have h1 := congrArg (· ^^^ 3988292384) hz
      simp only [Nat.xor_assoc, Nat.xor_self, Nat.xor_zero, Nat.zero_xor] at h1
      exact h1
    omega
  · omega
theorem steps_zero (k : Nat) : ∀ {r : Nat}, r < 4294967296 → steps k r = 0 → r = 0 := by
  induction k with
  | zero => intro r _ h; exact h
  | succ k ih => intro r h hz; exact step_zero h (ih (step_lt h) hz)
theorem steps_of_zero (k : Nat) : steps k 0 = 0 := by
  induction k with
  | zero => rfl
  | succ k ih => exact ih
theorem xor_eq_zero {a b : Nat} (h : a ^^^ b = 0) : a = b := by
  have h1 := congrArg (· ^^^ b) h
  simp only [Nat.xor_assoc, Nat.xor_self, Nat.xor_zero, Nat.zero_xor] at h1
  exact h1
theorem steps_inj (k : Nat) {a b : Nat} (ha : a < 4294967296) (hb : b < 4294967296) (h : steps k a = steps k b) : a = b := by
  apply xor_eq_zero
  refine steps_zero k (xor_lt32 ha hb) ?_
  rw [steps_xor, h, Nat.xor_self]
theorem steps8_high (q : Nat) : steps 8 (256 * q) = q := by
  have h : 256 * q = 16 * (16 * q) := by omega
  rw [h, show (8 : Nat) = 4 + 4 from rfl, steps_add, steps4_high, steps4_high]
/-- The bytes as one number, the first the lowest. -/
def leN : List UInt8 → Nat
  | [] => 0
  | b :: l => b.toNat ^^^ 256 * leN l
theorem leN_cons (b : UInt8) (l : List UInt8) : leN (b :: l) = b.toNat + 256 * leN l := by
  have hb := b.toNat_lt
  have h1 : 256 * leN l ||| b.toNat = 256 * leN l + b.toNat := nat_join 8 _ _ (by omega) (by omega)
  have h2 : 256 * leN l ||| b.toNat = 256 * leN l ^^^ b.toNat := by
    apply Nat.eq_of_testBit_eq
    intro i
    rw [Nat.testBit_or, Nat.testBit_xor]
    by_cases hi : i < 8
    · have : (256 * leN l).testBit i = false := by
        have h3 : 256 * leN l = (leN l) <<< 8 := by rw [Nat.shiftLeft_eq]; omega
        rw [h3, Nat.testBit_shiftLeft]
        simp; omega
      rw [this]; simp
    · have : b.toNat.testBit i = false := Nat.testBit_lt_two_pow (Nat.lt_of_lt_of_le hb (Nat.pow_le_pow_right (n := 2) (i := 8) (by omega) (by omega)))
      rw [this]; simp
  show b.toNat ^^^ 256 * leN l = _
  rw [Nat.xor_comm, ← h2, h1]; omega
theorem leN_nil : leN [] = 0 := rfl
theorem leN_lt (l : List UInt8) : leN l < 256 ^ l.length := by
  induction l with
  | nil => simp [leN]
  | cons b l ih =>
    have hb := b.toNat_lt
    rw [leN_cons, List.length_cons, Nat.pow_succ]
    omega
theorem leN_zero (l : List UInt8) : leN l = 0 ↔ ∀ b ∈ l, b = 0 := by
  induction l with
  | nil => simp [leN]
  | cons b l ih =>
    rw [leN_cons]
    constructor
    · intro h x hx
      rcases List.mem_cons.1 hx with rfl | hx
      · exact UInt8.toNat_inj.1 (by simpa using (by omega : x.toNat = 0))
      · exact ih.1 (by omega) x hx
    · intro h
      have h1 := h b (List.mem_cons_self ..)
      have h2 := ih.2 fun x hx => h x (List.mem_cons_of_mem _ hx)
      rw [h1, h2]; rfl
theorem leN_snoc (l : List UInt8) (x : UInt8) : leN (l ++ [x]) = leN l ^^^ 256 ^ l.length * x.toNat := by
  induction l with
  | nil => simp [leN]
  | cons b l ih =>
    show b.toNat ^^^ 256 * leN (l ++ [x]) = _
    rw [ih]
    have e : 256 * (leN l ^^^ 256 ^ l.length * x.toNat) = 256 * leN l ^^^ 256 * (256 ^ l.length * x.toNat) := by
      have h := @Nat.shiftLeft_xor_distrib 8 (leN l) (256 ^ l.length * x.toNat)
      simp only [Nat.shiftLeft_eq] at h
      rw [show (2 : Nat) ^ 8 = 256 from rfl] at h
      rw [Nat.mul_comm 256, h, Nat.mul_comm 256, Nat.mul_comm 256]
    rw [e, ← Nat.xor_assoc]
    congr 1
    rw [List.length_cons, Nat.pow_succ, ← Nat.mul_assoc, Nat.mul_comm 256]
/-- A text's register is that of one number, so many steps on. -/
theorem reg_leN (l : List UInt8) : ∀ r, reg r l = steps (8 * l.length) (r ^^^ leN l) := by
  induction l with
  | nil => intro r; simp [reg, steps, leN]
  | cons b l ih =>
    intro r
    show reg (byte r b.toNat) l = _
    rw [ih]
    have e : steps 8 (r ^^^ leN (b :: l)) = byte r b.toNat ^^^ leN l := by
      show steps 8 (r ^^^ (b.toNat ^^^ 256 * leN l)) = _
      rw [← Nat.xor_assoc, steps_xor, steps8_high]; rfl
    rw [← e, ← steps_add, List.length_cons]
    congr 1
    omega
theorem steps_shift (k j x : Nat) (h : j ≤ k) : steps (8 * (k - j)) x = steps (8 * k) (256 ^ j * x) := by
  induction j generalizing x with
  | zero => simp
  | succ j ih =>
    have h1 := ih (256 * x) (by omega)
    rw [show 256 ^ j * (256 * x) = 256 ^ (j + 1) * x by rw [Nat.pow_succ, Nat.mul_assoc]] at h1
    rw [← h1, show 8 * (k - j) = 8 + 8 * (k - (j + 1)) by omega, steps_add, steps8_high]
/-- One byte of a text changed. -/
theorem reg_set (l : List UInt8) (j : Nat) (hj : j < l.length) (x : UInt8) : ∀ r, reg r (l.set j (l[j] ^^^ x)) = reg r l ^^^ steps (8 * (l.length - j)) x.toNat := by
  induction l generalizing j with
  | nil => simp at hj
  | cons b l ih =>
    intro r
    cases j with
    | zero =>
      show reg (byte r (b ^^^ x).toNat) l = reg (byte r b.toNat) l ^^^ _
      rw [UInt8.toNat_xor, reg_leN, reg_leN]
      have e : byte r (b.toNat ^^^ x.toNat) = byte r b.toNat ^^^ steps 8 x.toNat := by
        unfold byte; rw [← Nat.xor_assoc, steps_xor]
      rw [e, show 8 * ((b :: l).length - 0) = 8 + 8 * l.length by simp; omega, steps_add, ← steps_xor]
      congr 1
      rw [Nat.xor_assoc, Nat.xor_comm (steps 8 x.toNat), ← Nat.xor_assoc]
    | succ j =>
      have hj' : j < l.length := by simpa using hj
      show reg (byte r b.toNat) (l.set j (l[j]'hj' ^^^ x)) = reg (byte r b.toNat) l ^^^ _
      rw [ih j hj']
      congr 2
      simp
/-- Registers add up as their texts do. -/
def xorL (a b : List UInt8) : List UInt8 := List.zipWith (· ^^^ ·) a b
theorem reg_xor : ∀ (a b : List UInt8) (r q : Nat), a.length = b.length → reg (r ^^^ q) (xorL a b) = reg r a ^^^ reg q b
  | [], [], r, q, _ => rfl
  | x :: a, y :: b, r, q, h => by
    show reg (byte (r ^^^ q) (x ^^^ y).toNat) (xorL a b) = _
    have e : byte (r ^^^ q) (x ^^^ y).toNat = byte r x.toNat ^^^ byte q y.toNat := by
      unfold byte
      rw [UInt8.toNat_xor, ← steps_xor]
      congr 1
      rw [Nat.xor_assoc, Nat.xor_assoc, ← Nat.xor_assoc q, Nat.xor_comm q, Nat.xor_assoc]
    rw [e, reg_xor a b _ _ (by simpa using h)]
    rfl
theorem sum_three (a b c : List UInt8) (h1 : a.length = b.length) (h2 : b.length = c.length) : sum a ^^^ sum b ^^^ sum c = sum (xorL (xorL a b) c) := by
  have hl : (xorL a b).length = c.length := by simp [xorL]; omega
  have h := reg_xor (xorL a b) c 0 4294967295 hl
  have h' := reg_xor a b 4294967295 4294967295 h1
  rw [Nat.xor_self] at h'
  rw [Nat.zero_xor, h'] at h
  unfold sum ext
  simp only [Nat.zero_xor]
  rw [h]
  generalize reg 4294967295 a = x
  generalize reg 4294967295 b = y
  generalize reg 4294967295 c = z
  rw [Nat.xor_assoc x, Nat.xor_comm 4294967295 (y ^^^ 4294967295), Nat.xor_assoc y, Nat.xor_self, Nat.xor_zero, ← Nat.xor_assoc]
end Go.Proofs.YtkgacnenmflegaaGreatDoor.Crc
namespace Go.Proofs.YtkgacnenmflegaaGreatDoor
open Go.RowKit


/-- The table of half bytes' sums lies where the program's text lays it. -/
structure Nib (w : World) : Prop where
  out : ∀ i : Nat, i < 16 → w.cell? ⟨0, i, none⟩ = some (.int .u32 (Crc.nib i))
theorem Nib.drew {w : World} (h : Nib w) : Nib w.drew := ⟨fun i hi => by simpa using h.out i hi⟩
theorem Nib.drewN {w : World} (h : Nib w) (n : Nat) : Nib (w.drewN n) := ⟨fun i hi => h.out i hi⟩
theorem Nib.below {w w' : World} (h : Nib w) (hb : Below w.heap.size w w') : Nib w' :=
  ⟨fun i hi => (hb.cell (World.block_lt_of_cell? w _ (h.out i hi))).trans (h.out i hi)⟩
theorem Nib.alloc {w : World} (h : Nib w) (o : Obj) : Nib (w.alloc o) := h.below ((Below.refl _ _).alloc (Nat.le_refl _) o)

theorem take_snoc (s : ByteArray) (k : Nat) (h : k < s.size) : s.data.toList.take (k + 1) = s.data.toList.take k ++ [s[k]] := by
  rw [List.take_succ_eq_append_getElem (by simpa using h)]; rfl
theorem take_all (s : ByteArray) (k : Nat) (h : s.size ≤ k) : s.data.toList.take k = s.data.toList :=
  List.take_of_length_le (by simpa using h)

theorem xor32 {a b : Nat} (ha : a < 4294967296) (hb : b < 4294967296) : bits .xor .u32 (a : Int) (b : Int) = ((a ^^^ b : Nat) : Int) := u32_xor_nat a b ha hb

theorem not32 {a : Nat} (ha : a < 4294967296) : bits .xor .u32 IntKind.u32.max (a : Int) = ((a ^^^ 4294967295 : Nat) : Int) := by
  rw [Nat.xor_comm]; exact xor32 (a := 4294967295) (by omega) ha

set_option maxHeartbeats 400000 in
theorem crc_extend (c : Nat) (s : ByteArray) (w : World) (hc : c < 4294967296) (hs : s.size ≤ 9223372036854775807) (hn : Nib w) :
    Calls Tryz.prog 142 #[.int .u32 c, .string s] w fun e w' => e = .returned (.int .u32 (Crc.ext c s.data.toList)) ∧ w = w' := by
  have h0 := not32 hc
  go_enter Tryz.func142, Tryz.ntmps142
  go_wp2
  clear h0
  go_loop [5, 11] (fun r i => ∃ k : Nat, k ≤ s.size ∧ i = .int .i64 k ∧ r = .int .u32 (Crc.reg (c ^^^ 4294967295) (s.data.toList.take k))) (fun _ i => s.size - (intOf i).toNat)
  case atStart => exact ⟨0, Nat.zero_le _, rfl, rfl⟩
  case round =>
    obtain ⟨k, hk, rfl, rfl⟩ := hrel
    have hr := Crc.reg_lt (s.data.toList.take k) (Crc.xor_lt32 hc (by omega : (4294967295 : Nat) < 4294967296))
    by_cases hlt : k < s.size
    · have hsn := Crc.reg_snoc (c ^^^ 4294967295) (s.data.toList.take k) s[k]
      rw [← take_snoc s k hlt] at hsn
      generalize Crc.reg (c ^^^ 4294967295) (s.data.toList.take k) = x at hr hsn
      have hb : s[k].toNat < 256 := s[k].toNat_lt
      have hx := xor32 hr (show s[k].toNat < 4294967296 by omega)
      go_wp2
      clear hx
      have hy : x ^^^ s[k].toNat < 4294967296 := Crc.xor_lt32 hr (by omega)
      have HS := Aside.mk hsn
      clear hsn hb hr
      go_loop [5, 20] (fun r j => ∃ m : Nat, ∃ y : Nat, m ≤ 2 ∧ y < 4294967296 ∧ j = .int .i64 m ∧ r = .int .u32 y ∧ Aside (y = if m = 0 then x ^^^ s[k].toNat else if m = 1 then Crc.half (x ^^^ s[k].toNat) else Crc.half (Crc.half (x ^^^ s[k].toNat)))) (fun _ j => 2 - (intOf j).toNat)
      case atStart => exact ⟨0, _, by omega, hy, rfl, rfl, ⟨by simp⟩⟩
      case round =>
        obtain ⟨m, y, hm, hy2, rfl, rfl, HM⟩ := hrel
        by_cases h2 : m < 2
        · have hcell := hn.out (y % 16) (by omega)
          have hbit : bits .and .u32 (y : Int) 15 = ((y % 16 : Nat) : Int) := by
            have := u32_and_nat y 15 hy2 (by omega)
            rw [nat_mask4] at this; exact this
          have hq : bits .xor .u32 ((y : Int) / 16) ((Crc.nib (y % 16) : Nat) : Int) = ((Crc.half y : Nat) : Int) := by
            have e : (y : Int) / 16 = ((y / 16 : Nat) : Int) := by omega
            rw [e]; exact xor32 (by omega) (Crc.nib_lt _)
          go_wp2
          go_round
          case rel => exact ⟨m + 1, Crc.half y, by omega, Crc.half_lt hy2, by go_num, rfl, Aside.mk (by
            have e := HM.out
            rcases Nat.lt_or_ge 0 m with h1 | h1
            · obtain rfl : m = 1 := by omega
              simp at e ⊢; rw [e]
            · obtain rfl : m = 0 := by omega
              simp at e ⊢; rw [e])⟩
          case measure => simp [intOf]; omega
        · go_wp2
          go_round
          case rel => exact ⟨k + 1, by omega, by go_num, by
            have e := HM.out
            obtain rfl : m = 2 := by omega
            simp at e; rw [e, HS.out, Crc.byte_half]⟩
          case measure => simp [intOf]; omega
    · have h1 : bits .xor .u32 IntKind.u32.max ((Crc.reg (c ^^^ 4294967295) s.data.toList : Nat) : Int) = ((Crc.ext c s.data.toList : Nat) : Int) :=
        not32 (Crc.reg_lt _ (Crc.xor_lt32 hc (by omega)))
      have h2 := take_all s k (by omega)
      go_wp2
      go_ret
      exact ⟨rfl, rfl⟩

theorem crc_sum (s : ByteArray) (w : World) (hs : s.size ≤ 9223372036854775807) (hn : Nib w) :
    Calls Tryz.prog 96 #[.string s] w fun e w' => e = .returned (.int .u32 (Crc.sum s.data.toList)) ∧ w = w' := by
  go_enter Tryz.func96, Tryz.ntmps96
  go_wp2_with (go_at_call 142; refine (crc_extend 0 s _ (by omega) hs hn).mono ?_; rintro e w' ⟨rfl, rfl⟩)
  go_ret
  exact ⟨rfl, rfl⟩

theorem nine_sum : Crc.sum [49, 50, 51, 52, 53, 54, 55, 56, 57] = 3421780262 := by decide +kernel

theorem concat_list (s t : ByteArray) : (s ++ t).data.toList = s.data.toList ++ t.data.toList := by
  simp [ByteArray.data_append]

end Go.Proofs.YtkgacnenmflegaaGreatDoor
namespace Go.Proofs.YtkgacnenmflegaaGreatDoor
open Go.RowKit

/-- The four bytes of a sum, the lowest first. -/
def le4 (c : Nat) : List UInt8 := [UInt8.ofNat c, UInt8.ofNat (c / 256), UInt8.ofNat (c / 65536), UInt8.ofNat (c / 16777216)]
theorem le4_length (c : Nat) : (le4 c).length = 4 := rfl
theorem le4_cells {c : Nat} (hc : c < 4294967296) : bytesV (le4 c) = [.int .u8 ((c : Int) % 256), .int .u8 ((c : Int) / 256 % 256), .int .u8 ((c : Int) / 65536 % 256), .int .u8 ((c : Int) / 16777216)] := by
  have h : c / 16777216 < 256 := by omega
  have e : (c / 16777216) % 256 = c / 16777216 := Nat.mod_eq_of_lt h
  simp [bytesV, le4, UInt8.toNat_ofNat', e]
/-- A sealed text. -/
def sealed (s : ByteArray) : ByteArray := s ++ ⟨(le4 (Crc.sum s.data.toList)).toArray⟩
theorem sealed_size (s : ByteArray) : (sealed s).size = s.size + 4 := by
  unfold sealed; rw [ByteArray.size_append]; rfl
theorem sealed_list (s : ByteArray) : (sealed s).data.toList = s.data.toList ++ le4 (Crc.sum s.data.toList) := by
  unfold sealed; rw [concat_list]

set_option maxHeartbeats 400000 in
theorem crc_four (c : Nat) (w : World) (hc : c < 4294967296) :
    Calls Tryz.prog 95 #[.int .u32 c] w fun e w' => e = .returned (.agg #[.int .u8 ((c : Int) % 256), .int .u8 ((c : Int) / 256 % 256), .int .u8 ((c : Int) / 65536 % 256), .int .u8 ((c : Int) / 16777216)]) ∧ w.alloc (.cells #[.int .u8 ((c : Int) % 256), .int .u8 ((c : Int) / 256 % 256), .int .u8 ((c : Int) / 65536 % 256), .int .u8 ((c : Int) / 16777216)] 205) = w' := by
  go_enter Tryz.func95, Tryz.ntmps95
  go_wp2
  exact bodyPost_ret (v := .agg #[.int .u8 ((c : Int) % 256), .int .u8 ((c : Int) / 256 % 256), .int .u8 ((c : Int) / 65536 % 256), .int .u8 ((c : Int) / 16777216)]) (by simp [results, Tryz.results95, go_sem]) rfl ⟨rfl, rfl⟩

/-- The sum's bytes, laid as an array, as a text. -/
theorem four_text {c : Nat} (hc : c < 4294967296) (W : World) (t : TypeId) :
    (convert 73 9 (.slice (some ⟨W.heap.size, 0, none⟩) 4 4)).run Tryz.prog (W.alloc (.cells #[.int .u8 ((c : Int) % 256), .int .u8 ((c : Int) / 256 % 256), .int .u8 ((c : Int) / 65536 % 256), .int .u8 ((c : Int) / 16777216)] t)) =
      .ok (.string ⟨(le4 c).toArray⟩) (W.alloc (.cells #[.int .u8 ((c : Int) % 256), .int .u8 ((c : Int) / 256 % 256), .int .u8 ((c : Int) / 65536 % 256), .int .u8 ((c : Int) / 16777216)] t)) := by
  have h := Row.lit W 0 t 1 #[.int .u8 ((c : Int) % 256), .int .u8 ((c : Int) / 256 % 256), .int .u8 ((c : Int) / 65536 % 256), .int .u8 ((c : Int) / 16777216)] 4 (Nat.zero_le _) (by decide) rfl
  rw [show (#[Value.int .u8 ((c : Int) % 256), .int .u8 ((c : Int) / 256 % 256), .int .u8 ((c : Int) / 65536 % 256), .int .u8 ((c : Int) / 16777216)]).toList = bytesV (le4 c) from (le4_cells hc).symm] at h
  exact h.toString Tryz.underlying73 Tryz.underlying5 Tryz.underlying9

set_option maxHeartbeats 400000 in
theorem crc_seal (s : ByteArray) (w : World) (hs : s.size ≤ 281474976710656) (hn : Nib w) :
    Calls Tryz.prog 48 #[.string s] w fun e w' => e = .returned (.string (sealed s)) ∧ Below w.heap.size w w' := by
  have hl := Crc.sum_lt s.data.toList
  have kc := four_text hl (w.alloc (.cells #[.int .u8 ((Crc.sum s.data.toList : Int) % 256), .int .u8 ((Crc.sum s.data.toList : Int) / 256 % 256), .int .u8 ((Crc.sum s.data.toList : Int) / 65536 % 256), .int .u8 ((Crc.sum s.data.toList : Int) / 16777216)] 205)) 205
  simp only [World.size_alloc] at kc
  have h4 : (⟨(le4 (Crc.sum s.data.toList)).toArray⟩ : ByteArray).size ≤ 4 := Nat.le_refl 4
  go_enter Tryz.func48, Tryz.ntmps48
  go_wp2_with (first | (go_at_call 96; refine (crc_sum _ _ (by omega) hn).mono ?_; rintro e w' ⟨rfl, rfl⟩) | (go_at_call 95; refine (crc_four _ _ hl).mono ?_; rintro e w1 ⟨rfl, rfl⟩))
  go_ret
  exact ⟨rfl, ((Below.refl _ _).alloc (Nat.le_refl _) _).alloc (by simp) _⟩

set_option maxRecDepth 20000 in
theorem slice_head (s : ByteArray) (k : Nat) (h : k ≤ s.size) (W : World) :
    (Instr.slice 9 (.string s) none (some (.int .i64 ((s.size : Int) - k))) none).run Tryz.prog W = .ok (.string (s.extract 0 (s.size - k))) W := by
  have := run_slice_string_h (P := Tryz.prog) (w := W) 9 s Tryz.underlying9 .i64 ((s.size : Int) - k) (by omega) (by omega)
  rw [this]
  congr 3
  omega
set_option maxRecDepth 20000 in
theorem slice_tail (s : ByteArray) (k : Nat) (h : k ≤ s.size) (W : World) :
    (Instr.slice 9 (.string s) (some (.int .i64 ((s.size : Int) - k))) none none).run Tryz.prog W = .ok (.string (s.extract (s.size - k) s.size)) W := by
  have := run_slice_string_l (P := Tryz.prog) (w := W) 9 s Tryz.underlying9 .i64 ((s.size : Int) - k) (by omega) (by omega)
  rw [this]
  congr 3
  omega

theorem heap_new2 (w : World) (A B : Obj) : ((w.alloc A).alloc B).heap[w.heap.size + 1]? = some B := by
  have := heap_alloc_new (w.alloc A) B
  rwa [World.size_alloc] at this
theorem heap_old2 (w : World) (A B : Obj) : ((w.alloc A).alloc B).heap[w.heap.size]? = some A :=
  (Below.heap_alloc (w.alloc A) B _ (by simp)).trans (heap_alloc_new w A)

theorem infoByte : (Tryz.prog.info? 5).map (·.size) = some 1 := by kernel_rfl
set_option maxHeartbeats 1000000 in
theorem eq4 (x0 x1 x2 x3 y0 y1 y2 y3 : Int) (W : World) : (Op.equalIn 10000 205 (.agg #[.int .u8 x0, .int .u8 x1, .int .u8 x2, .int .u8 x3]) (.agg #[.int .u8 y0, .int .u8 y1, .int .u8 y2, .int .u8 y3])).run Tryz.prog W = .ok (x0 == y0 && (x1 == y1 && (x2 == y2 && x3 == y3))) W := by
  obtain ⟨i, hi, hs⟩ := Option.map_eq_some_iff.1 infoByte
  have kp : ∀ (xs : Array Value) (j : Nat) (x : Int) (W : World), xs[j]? = some (.int .u8 x) → (part 5 xs j).run Tryz.prog W = .ok (.int .u8 x) W := by
    intro xs j x W h
    simp [part, sizeOf, typeInfo, hi, hs, h]
  have q : ∀ a b : Int, ∀ W, (Op.equalIn 9999 5 (.int .u8 a) (.int .u8 b)).run Tryz.prog W = .ok (a == b) W := fun a b W => run_equalIn_int W 9998 5 .u8 .u8 a b Tryz.underlying5
  have p0 := fun x0 x1 x2 x3 W => kp #[.int .u8 x0, .int .u8 x1, .int .u8 x2, .int .u8 x3] 0 x0 W rfl
  have p1 := fun x0 x1 x2 x3 W => kp #[.int .u8 x0, .int .u8 x1, .int .u8 x2, .int .u8 x3] 1 x1 W rfl
  have p2 := fun x0 x1 x2 x3 W => kp #[.int .u8 x0, .int .u8 x1, .int .u8 x2, .int .u8 x3] 2 x2 W rfl
  have p3 := fun x0 x1 x2 x3 W => kp #[.int .u8 x0, .int .u8 x1, .int .u8 x2, .int .u8 x3] 3 x3 W rfl
  rw [show (10000 : Nat) = 9999 + 1 from rfl, Op.equalIn]
  simp only [run_underlying Tryz.underlying205, Sem.run_bind, Result.andThen_ok]
  by_cases h0 : x0 = y0
  · by_cases h1 : x1 = y1
    · by_cases h2 : x2 = y2
      · by_cases h3 : x3 = y3 <;> simp [List.range', sizeOf, typeInfo, hi, hs, p0, p1, p2, p3, q, h0, h1, h2, h3]
      · simp [List.range', sizeOf, typeInfo, hi, hs, p0, p1, p2, q, h0, h1, h2]
    · simp [List.range', sizeOf, typeInfo, hi, hs, p0, p1, q, h0, h1]
  · simp [List.range', sizeOf, typeInfo, hi, hs, p0, q, h0]

/-- The four bytes of a sum as cells. -/
def fourC (c : Nat) : Array Value := #[.int .u8 ((c : Int) % 256), .int .u8 ((c : Int) / 256 % 256), .int .u8 ((c : Int) / 65536 % 256), .int .u8 ((c : Int) / 16777216)]

/-- What opening a text of four bytes and more answers. -/
def opens (s : ByteArray) : Bool := decide (4 ≤ s.size ∧ s.data.toList.drop (s.size - 4) = le4 (Crc.sum (s.data.toList.take (s.size - 4))))

def openText (s : ByteArray) : ByteArray := if opens s then s.extract 0 (s.size - 4) else ByteArray.empty
theorem ret_open {s x : ByteArray} {b : Bool} (h : x = openText s) (hb : b = opens s) : Ending.returned (.tuple #[.string x, .bool b]) = .returned (.tuple #[.string (openText s), .bool (opens s)]) := by rw [h, hb]

theorem le4_eq (t0 t1 t2 t3 : UInt8) (c : Nat) (hc : c < 4294967296) :
    ((t0.toNat : Int) == (c : Int) % 256 && ((t1.toNat : Int) == (c : Int) / 256 % 256 && ((t2.toNat : Int) == (c : Int) / 65536 % 256 && (t3.toNat : Int) == (c : Int) / 16777216))) = decide ([t0, t1, t2, t3] = le4 c) := by
  have h := le4_cells hc
  simp only [bytesV, le4, List.map_cons, List.map_nil, List.cons.injEq, Value.int.injEq, true_and, and_true] at h
  obtain ⟨h0, h1, h2, h3⟩ := h
  rw [← h0, ← h1, ← h2, ← h3]
  simp only [le4, List.cons.injEq, and_true, ← UInt8.toNat_inj]
  rw [Bool.eq_iff_iff]
  simp only [Bool.and_eq_true, beq_iff_eq, decide_eq_true_eq, Int.natCast_inj]

set_option maxHeartbeats 400000 in
theorem crc_open_long (s : ByteArray) (w : World) (h4 : 4 ≤ s.size) (hs : s.size ≤ 281474976710656) (hn : Nib w) :
    Calls Tryz.prog 67 #[.string s] w fun e w' => e = .returned (.tuple #[.string (openText s), .bool (opens s)]) ∧ Below w.heap.size w w' := by
  have hsz : (s.extract 0 (s.size - 4)).size = s.size - 4 := by simp
  have hsl : (s.extract 0 (s.size - 4)).size ≤ 281474976710656 := by omega
  clear hsz
  have hs1 : ∀ W, (Instr.slice 9 (.string s) none (some (.int .i64 ((s.size : Int) - 4))) none).run Tryz.prog W = .ok (.string (s.extract 0 (s.size - 4))) W := slice_head s 4 h4
  have hs2 : ∀ W, (Instr.slice 9 (.string s) (some (.int .i64 ((s.size : Int) - 4))) none none).run Tryz.prog W = .ok (.string (s.extract (s.size - 4) s.size)) W := slice_tail s 4 h4
  have hw4 : IntKind.i64.wrap ((s.size : Int) - 4) = (s.size : Int) - 4 := by rw [IntKind.wrap_i64]; omega
  go_enter Tryz.func67, Tryz.ntmps67
  go_upto_region 3 with fail
  go_cut [4, 5] (fun s4 s5 wx => ∃ g : Nat, s4 = .string (s.extract 0 (s.size - 4)) ∧ s5 = .pointer (some ⟨g, 0, none⟩) ∧ Below w.heap.size w wx ∧ w.heap.size ≤ g ∧ wx.heap[g]? = some (.cells (fourC (Crc.sum (s.data.toList.take (s.size - 4)))) 205 (0, 0)))
  case first =>
    go_region_held3 (fun w' => Nib w') (first | with_reducible exact hn.drew | (with_reducible refine Nib.alloc ?_ _; with_reducible assumption) | (with_reducible refine Nib.drew (Nib.alloc ?_ _); with_reducible assumption) | with_reducible exact (hn.alloc _).drew | with_reducible exact ((hn.alloc _).alloc _).drew | with_reducible assumption | go_keep) ((first | (go_at_call 96; refine (crc_sum _ _ (by omega) (by first | with_reducible exact hn.drew | with_reducible exact (hn.alloc _).drew)).mono ?_; rintro e w' ⟨rfl, rfl⟩) | (go_at_call 95; refine (crc_four _ _ (Crc.sum_lt _)).mono ?_; rintro e w1 ⟨rfl, rfl⟩)))
    all_goals (go_wp2_with fail; go_meet; refine ⟨_, rfl, rfl, ?_, by omega, ?_⟩)
    all_goals first | (apply Below.drew; (repeat (first | exact Below.refl _ _ | (refine Below.alloc ?_ (by simp) _))); done) | skip
    all_goals first | exact heap_new2 w _ _ | exact heap_old2 w _ _
  case rest =>
    obtain ⟨g, rfl, rfl, hb, hg, hbl⟩ := hcut
    have c0 := (cell_of_row wc g 0 _ _ _ hbl)
    have c1 := (cell_of_row wc g 1 _ _ _ hbl)
    have c2 := (cell_of_row wc g 2 _ _ _ hbl)
    have c3 := (cell_of_row wc g 3 _ _ _ hbl)
    simp [fourC] at c0 c1 c2 c3
    have kb := fun W => Lib.run_convert_string_bytes (P := Tryz.prog) W 9 73 5 (s.extract (s.size - 4) s.size) Tryz.underlying9 Tryz.underlying73 Tryz.underlying5
    have hz4 : (s.extract (s.size - 4) s.size).size = 4 := by simp; omega
    have k0 := fun W => Lib.bytesWorld_cell W 5 (s.extract (s.size - 4) s.size) 0 (by omega)
    have k1 := fun W => Lib.bytesWorld_cell W 5 (s.extract (s.size - 4) s.size) 1 (by omega)
    have k2 := fun W => Lib.bytesWorld_cell W 5 (s.extract (s.size - 4) s.size) 2 (by omega)
    have k3 := fun W => Lib.bytesWorld_cell W 5 (s.extract (s.size - 4) s.size) 3 (by omega)
    rw [hz4] at kb
    have hgl : g < wc.heap.size := World.block_lt_of_cell? wc ⟨g, 0, none⟩ c0
    have d0 : ∀ j, ∀ W : World, W.heap.size = wc.heap.size → (Lib.bytesWorld W 5 (s.extract (s.size - 4) s.size)).cell? ⟨g, j, none⟩ = W.cell? ⟨g, j, none⟩ := fun j W hW => Lib.bytesWorld_old W _ _ ⟨g, j, none⟩ (by rw [hW]; exact hgl)
    have ka : ∀ (a : Addr) (c : Nat) (W : World), (Instr.arrayAt 205 (.slice (some a) 4 c)).run Tryz.prog W = .ok (.pointer (some a)) W := fun a c W => by simp [Instr.arrayAt, run_underlying Tryz.underlying205]
    have kw : ∀ j, (Lib.bytesWorld wc.drew 5 (s.extract (s.size - 4) s.size)).cell? ⟨wc.heap.size, j, none⟩ = (Lib.bytesWorld wc.drew 5 (s.extract (s.size - 4) s.size)).cell? ⟨wc.drew.heap.size, j, none⟩ := fun _ => rfl
    obtain ⟨t0, t1, t2, t3, ht⟩ : ∃ t0 t1 t2 t3, (s.extract (s.size - 4) s.size).data.toList = [t0, t1, t2, t3] := by
      have hl : (s.extract (s.size - 4) s.size).data.toList.length = 4 := by rw [data_len]; exact hz4
      match hq : (s.extract (s.size - 4) s.size).data.toList, hl with
      | [t0, t1, t2, t3], _ => exact ⟨t0, t1, t2, t3, rfl⟩
    have e0 := (kw 0).trans (k0 wc.drew)
    have e1 := (kw 1).trans (k1 wc.drew)
    have e2 := (kw 2).trans (k2 wc.drew)
    have e3 := (kw 3).trans (k3 wc.drew)
    rw [ht] at e0 e1 e2 e3
    have hbool := le4_eq t0 t1 t2 t3 (Crc.sum (s.data.toList.take (s.size - 4))) (Crc.sum_lt _)
    have hop : decide ([t0, t1, t2, t3] = le4 (Crc.sum (s.data.toList.take (s.size - 4)))) = opens s := by
      unfold opens
      rw [← ht]
      have hd : (s.extract (s.size - 4) s.size).data.toList = s.data.toList.drop (s.size - 4) := by
        rw [ByteArray.data_extract, Array.toList_extract, List.extract_eq_take_drop]
        exact List.take_of_length_le (by rw [List.length_drop, data_len]; omega)
      rw [hd]
      simp [h4]
    rw [hop] at hbool
    simp only [List.getD_cons_zero, List.getD_cons_succ] at e0 e1 e2 e3
    clear hop ht
    have kq := eq4
    have HB := Aside.mk hb
    clear hb
    have hfin : ∀ wx : World, Below wc.heap.size wc wx → Below w.heap.size w wx := fun wx h => HB.out.trans (h.mono HB.out.size)
    have HF := Aside.mk hfin
    clear hfin
    clear kw k0 k1 k2 k3
    clear hbl
    go_wp2_with fail
    have e5 := (d0 0 wc.drew rfl).trans c0
    have e6 := (d0 1 wc.drew rfl).trans c1
    have e7 := (d0 2 wc.drew rfl).trans c2
    have e8 := (d0 3 wc.drew rfl).trans c3
    clear d0
    go_region
    clear hbool
    have ht1 : opens s = true → s.extract 0 (s.size - 4) = openText s := fun h => by unfold openText; rw [if_pos h]
    have ht0 : opens s = false → ByteArray.empty = openText s := fun h => by unfold openText; rw [h]; rfl
    have H1 := Aside.mk ht1
    have H0 := Aside.mk ht0
    clear ht1 ht0
    cases hO : opens s
    · have HO := Aside.mk hO
      go_wp2
      go_ret2
      exact ⟨ret_open (H0.out HO.out) HO.out.symm, HF.out _ (below_ofString (Below.refl _ _).drew (Nat.le_refl _) _ _)⟩
    · have HO := Aside.mk hO
      go_wp2
      go_ret2
      exact ⟨ret_open (H1.out HO.out) HO.out.symm, HF.out _ (below_ofString (Below.refl _ _).drew (Nat.le_refl _) _ _)⟩

theorem opens_short {s : ByteArray} (h : ¬ 4 ≤ s.size) : opens s = false := by unfold opens; simp [h]
theorem openText_not {s : ByteArray} (h : opens s = false) : openText s = ByteArray.empty := by unfold openText; rw [h]; rfl

set_option maxHeartbeats 400000 in
theorem crc_open_short (s : ByteArray) (w : World) (h4 : s.size < 4) :
    Calls Tryz.prog 67 #[.string s] w fun e w' => e = .returned (.tuple #[.string ByteArray.empty, .bool false]) ∧ Below w.heap.size w w' := by
  go_enter Tryz.func67, Tryz.ntmps67
  go_wp2
  go_ret2
  exact ⟨rfl, Below.refl _ _⟩

theorem crc_open (s : ByteArray) (w : World) (hs : s.size ≤ 281474976710656) (hn : Nib w) :
    Calls Tryz.prog 67 #[.string s] w fun e w' => e = .returned (.tuple #[.string (openText s), .bool (opens s)]) ∧ Below w.heap.size w w' := by
  by_cases h4 : 4 ≤ s.size
  · exact crc_open_long s w h4 hs hn
  · have h := opens_short h4
    rw [openText_not h, h]
    exact crc_open_short s w (by omega)

theorem le4_one (q : Nat) : bytesV [UInt8.ofNat q] = [.int .u8 ((q : Int) % 256)] := by simp [bytesV, UInt8.toNat_ofNat']
theorem le4_shift {L : List UInt8} {k q : Nat} (h : L.drop k = (le4 q).take (4 - k)) (hk : k < 4) : L.take (k + 1) = L.take k ++ [UInt8.ofNat q] ∧ L.drop (k + 1) = (le4 (q / 256)).take (3 - k) := by
  have hd : (le4 q).take (4 - k) = UInt8.ofNat q :: (le4 (q / 256)).take (3 - k) := by
    have e1 : q / 256 / 256 = q / 65536 := by omega
    have e2 : q / 256 / 65536 = q / 16777216 := by omega
    have h4 : 4 - k = (3 - k) + 1 := by omega
    rw [h4]
    simp only [le4, List.take_succ_cons, e1, e2]
    congr 1
    rcases (by omega : k = 0 ∨ k = 1 ∨ k = 2 ∨ k = 3) with rfl | rfl | rfl | rfl <;> rfl
  rw [hd] at h
  have hl : k < L.length := by
    have := congrArg List.length h
    simp only [List.length_drop, List.length_cons] at this
    omega
  have hk2 := List.drop_eq_getElem_cons hl
  rw [h] at hk2
  injection hk2 with ha hb
  exact ⟨by rw [List.take_succ_eq_append_getElem hl, ← ha], hb.symm⟩
theorem infoByte3 : (Tryz.prog.info? 5).map (fun i => (i.zero, i.size, i.bytes)) = some (some (.int .u8 0), 1, 1) := by kernel_rfl

end Go.Proofs.YtkgacnenmflegaaGreatDoor
namespace Go.Proofs.YtkgacnenmflegaaGreatDoor
open Go.RowKit

/-- Where a pager lies, and its sizes. -/
structure PLoc where
  c : Nat
  bb : Nat
  bo : Nat
  cap : Nat
  pb : Nat → Nat
  p : Nat
  k : Nat
  t : Nat
  n : Nat
  lo : Nat
  hi : Nat
abbrev PLoc.Chip (L : PLoc) (S : ChS) (w : World) : Prop := ChipAt w L.lo L.hi L.c L.bb L.bo L.cap L.pb S
abbrev PLoc.Cv (L : PLoc) (S : ChS) (w w' : World) : Prop := Go.Proofs.YtkgacnenmflegaaGreatDoor.Cv L.c L.bb L.pb S.nb w w'
structure PgrAt (w : World) (L : PLoc) (S : ChS) : Prop where
  chip : L.Chip S w
  pgr : w.heap[L.p]? = some (.cells #[.pointer (some ⟨L.c, 0, none⟩), .pointer (some ⟨L.k, 0, none⟩), .int .i64 (S.nb : Int), .int .i64 (S.np : Int), .int .i64 1, .int .i64 (L.n : Int), .int .i64 (L.t : Int)] 132 (0, 0))
  code : CAny L.k L.t L.n w
  rp : InR L.lo L.hi L.p
  rk : InR L.lo L.hi L.k
  ht1 : 1 ≤ L.t
  ht8 : L.t ≤ 8
  hn1 : 16 ≤ L.n
  hn2 : L.n ≤ 256
  raw : S.raw = L.n + lowN8 L.t
/-- Rows of other types stay when the chip is changed. -/
theorem Row.cv {w w' : World} {lo hi c bb bo cap : Nat} {pb : Nat → Nat} {S : ChS} {b : Nat} {e : TypeId} {s : Nat} {v : Value} {n : Nat} {xs : List Value} (h : ChipAt w lo hi c bb bo cap pb S) (hc : Cv c bb pb S.nb w w') (hr : Row w b e s v n xs) (h1 : e ≠ 150) (h2 : e ≠ 162) (h3 : e ≠ 159) : Row w' b e s v n xs := by
  refine ⟨hr.1, ?_⟩
  rcases hr.2 with hn | ⟨g, off, cap', cur, fr, rfl, hb, hgg, rest⟩
  · exact .inl hn
  · exact .inr ⟨g, off, cap', cur, fr, rfl, hb, h.other hc hgg h1 h2 h3, rest⟩
theorem CF.cv {w w' : World} {lo hi c bb bo cap : Nat} {pb : Nat → Nat} {S : ChS} (h : ChipAt w lo hi c bb bo cap pb S) (hc : Cv c bb pb S.nb w w') {k t n q : Nat} {d s m dg lw : Value} (hF : CF w k t n d s m dg lw q) : CF w' k t n d s m dg lw q := by
  letI := hst t n d s m dg lw
  rcases hF with hF | ⟨ge, gl, ⟨hfb, hex, hlg, hne⟩⟩
  · exact .inl (h.other hc hF (by decide) (by decide) (by decide))
  · exact .inr ⟨ge, gl, ⟨h.other hc hfb (by decide) (by decide) (by decide), hex.cv h hc (by decide) (by decide) (by decide), hlg.cv h hc (by decide) (by decide) (by decide), hne⟩⟩
theorem CAny.cv {w w' : World} {lo hi c bb bo cap : Nat} {pb : Nat → Nat} {S : ChS} (h : ChipAt w lo hi c bb bo cap pb S) (hc : Cv c bb pb S.nb w w') {k t n : Nat} (hF : CAny k t n w) : CAny k t n w' := by
  rcases hF with hF | ⟨g, q, h1, h2⟩
  · exact .inl (CF.cv h hc hF)
  · exact .inr ⟨g, q, CF.cv h hc h1, h2.cv h hc (by decide) (by decide) (by decide)⟩
theorem CAny.blk {k t n : Nat} {w : World} (h : CAny k t n w) : ∃ cs fr, w.heap[k]? = some (.cells cs 231 fr) := by
  rcases h with h | ⟨g, q, h, _⟩ <;> obtain ⟨_, _, _, _, _, _, hb⟩ := CF.blk h <;> exact ⟨_, _, hb⟩
/-- Rows of other types than those that are changed stay. -/
theorem Row.keptT {X : Nat → Prop} {I : World → Prop} {w w' : World} {b : Nat} {e : TypeId} {s : Nat} {v : Value} {n : Nat} {xs : List Value} (hr : Row w b e s v n xs) (hg : Chg X I w w') (hx : ∀ q cs ty fr, w.heap[q]? = some (.cells cs ty fr) → X q → ty ≠ e) : Row w' b e s v n xs := by
  refine ⟨hr.1, ?_⟩
  rcases hr.2 with hn | ⟨g, off, cap', cur, fr, rfl, hb, hgg, rest⟩
  · exact .inl hn
  · exact .inr ⟨g, off, cap', cur, fr, rfl, hb, hg.blk hgg (fun h => hx g _ _ _ hgg h rfl), rest⟩
theorem Row.keptS {X : Nat → Prop} {I : World → Prop} {w w' : World} {b : Nat} {e : TypeId} {s : Nat} {v : Value} {n : Nat} {xs : List Value} (hr : Row w b e s v n xs) (hg : Chg X I w w') (hx : ∀ q cs ty fr, w.heap[q]? = some (.cells cs ty fr) → X q → ty = e → cs.size < n * s) : Row w' b e s v n xs := by
  refine ⟨hr.1, ?_⟩
  rcases hr.2 with hn | ⟨g, off, cap', cur, fr, rfl, hb, hgg, h1, h2, h3, rest⟩
  · exact .inl hn
  · refine .inr ⟨g, off, cap', cur, fr, rfl, hb, hg.blk hgg (fun h => ?_), h1, h2, h3, rest⟩
    have h4 := hx g _ _ _ hgg h rfl
    have h5 := Nat.mul_le_mul_right s h1
    omega
/-- What is changed: no code, no bytes, small rows of numbers. -/
def Small (w : World) (X : Nat → Prop) : Prop := ∀ q cs ty fr, w.heap[q]? = some (.cells cs ty fr) → X q → ty ≠ 231 ∧ ty ≠ 5 ∧ (ty = 3 → cs.size < 8192)
theorem CF.keptS {X : Nat → Prop} {I : World → Prop} {w w' : World} (hg : Chg X I w w') (hx : Small w X) {k t n q : Nat} {d s m dg lw : Value} (hF : CF w k t n d s m dg lw q) : CF w' k t n d s m dg lw q := by
  letI := hst t n d s m dg lw
  rcases hF with hF | ⟨ge, gl, ⟨hfb, hex, hlg, hne⟩⟩
  · exact .inl (hg.blk hF fun h => (hx _ _ _ _ hF h).1 rfl)
  · exact .inr ⟨ge, gl, ⟨hg.blk hfb fun h => (hx _ _ _ _ hfb h).1 rfl, hex.keptS hg fun q cs ty fr h1 h2 h3 => by have := (hx q cs ty fr h1 h2).2.2 h3; omega, hlg.keptS hg fun q cs ty fr h1 h2 h3 => by have := (hx q cs ty fr h1 h2).2.2 h3; omega, hne⟩⟩
theorem BReady.keptS {X : Nat → Prop} {I : World → Prop} {w w' : World} (hg : Chg X I w w') (hx : Small w X) {k t n g q : Nat} {l : List UInt8} (h : BReady w k t n g l q) : BReady w' k t n g l q :=
  ⟨CF.keptS hg hx h.code, h.low.keptT hg fun q cs ty fr h3 h4 => (hx q cs ty fr h3 h4).2.1⟩
theorem CAny.keptS {X : Nat → Prop} {I : World → Prop} {w w' : World} (hg : Chg X I w w') (hx : Small w X) {k t n : Nat} (hF : CAny k t n w) : CAny k t n w' := by
  rcases hF with hF | ⟨g, q, h1⟩
  · exact .inl (CF.keptS hg hx hF)
  · exact .inr ⟨g, q, h1.keptS hg hx⟩
section
variable {w w' : World} {L : PLoc} {S S' : ChS}
/-- The chip is changed. -/
theorem PgrAt.chg (h : PgrAt w L S) (hc : L.Cv S w w') (hn : L.Chip S' w') (h1 : S'.nb = S.nb) (h2 : S'.np = S.np) (h3 : S'.raw = S.raw) : PgrAt w' L S' :=
  ⟨hn, by rw [h1, h2]; exact h.chip.other hc h.pgr (by decide) (by decide) (by decide), h.code.cv h.chip hc, h.rp, h.rk, h.ht1, h.ht8, h.hn1, h.hn2, by rw [h3]; exact h.raw⟩
theorem PgrAt.below (h : PgrAt w L S) (hb : Below w.heap.size w w') : PgrAt w' L S :=
  ⟨h.chip.below hb, below_blk h.pgr hb, h.code.below hb, h.rp, h.rk, h.ht1, h.ht8, h.hn1, h.hn2, h.raw⟩
theorem PgrAt.drew (h : PgrAt w L S) : PgrAt w.drew L S := h.below ⟨rfl, rfl, rfl, Nat.le_refl _, fun _ _ => rfl⟩
/-- The code is made ready. -/
theorem PgrAt.ready (h : PgrAt w L S) (hg : w.grownBy w' (some L.k)) (hk : CAny L.k L.t L.n w') : PgrAt w' L S := by
  obtain ⟨cs, fr, hkb⟩ := h.code.blk
  have hch : Chg (· = L.k) (fun _ => True) w w' := Chg.of_grown hg rfl (fun _ => trivial)
  have hpk : L.p ≠ L.k := fun e => by
    have := h.pgr
    rw [e, hkb] at this
    simp only [Option.some.injEq, Obj.cells.injEq] at this
    exact absurd this.2.1 (by decide)
  refine ⟨h.chip.keptX hch fun q hq he => ?_, hch.blk h.pgr hpk, hk, h.rp, h.rk, h.ht1, h.ht8, h.hn1, h.hn2, h.raw⟩
  subst he
  exact h.chip.notX hkb (by decide) (by decide) (by decide) hq
/-- Other blocks are changed. -/
theorem PgrAt.keptS (h : PgrAt w L S) {X : Nat → Prop} {I : World → Prop} (hg : Chg X I w w') (hx : Small w X) (hy : ∀ q cs ty fr, w.heap[q]? = some (.cells cs ty fr) → X q → ty ≠ 150 ∧ ty ≠ 162 ∧ ty ≠ 159 ∧ ty ≠ 132) : PgrAt w' L S := by
  refine ⟨h.chip.keptX hg fun q hq hxq => ?_, hg.blk h.pgr fun hxq => (hy _ _ _ _ h.pgr hxq).2.2.2 rfl, h.code.keptS hg hx, h.rp, h.rk, h.ht1, h.ht8, h.hn1, h.hn2, h.raw⟩
  rcases hq with rfl | rfl | ⟨b, hb, rfl⟩
  · exact (hy _ _ _ _ h.chip.cb hxq).1 rfl
  · obtain ⟨cur, fr, h4⟩ := h.chip.bcells
    exact (hy _ _ _ _ h4 hxq).2.1 rfl
  · exact (hy _ _ _ _ (h.chip.pc b hb) hxq).2.2.1 rfl
/-- Blocks of texts and of builders are changed, and new ones. -/
theorem PgrAt.keptT (h : PgrAt w L S) {X : Nat → Prop} {I : World → Prop} (hg : Chg X I w w') (hx : ∀ q cs ty fr, w.heap[q]? = some (.cells cs ty fr) → X q → ty = 137 ∨ ty = 9) : PgrAt w' L S := by
  refine h.keptS hg (fun q cs ty fr h1 h2 => ?_) (fun q cs ty fr h1 h2 => ?_)
  · rcases hx q cs ty fr h1 h2 with rfl | rfl
    · exact ⟨by decide, by decide, fun e => absurd e (by decide)⟩
    · exact ⟨by decide, by decide, fun e => absurd e (by decide)⟩
  · rcases hx q cs ty fr h1 h2 with rfl | rfl <;> decide
theorem PgrAt.lt (h : PgrAt w L S) : L.p < w.heap.size ∧ L.k < w.heap.size ∧ L.c < w.heap.size := by
  obtain ⟨cs, fr, hkb⟩ := h.code.blk
  exact ⟨(Array.getElem?_eq_some_iff.1 h.pgr).1, (Array.getElem?_eq_some_iff.1 hkb).1, (Array.getElem?_eq_some_iff.1 h.chip.cb).1⟩
theorem PgrAt.cell (h : PgrAt w L S) (j : Nat) : w.cell? ⟨L.p, j, none⟩ = (#[.pointer (some ⟨L.c, 0, none⟩), .pointer (some ⟨L.k, 0, none⟩), .int .i64 (S.nb : Int), .int .i64 (S.np : Int), .int .i64 1, .int .i64 (L.n : Int), .int .i64 (L.t : Int)] : Array Value)[j]? := cell_of_row w L.p j _ _ _ h.pgr
theorem PgrAt.q0 (h : PgrAt w L S) : w.cell? ⟨L.p, 0, none⟩ = some (.pointer (some ⟨L.c, 0, none⟩)) := h.cell 0
theorem PgrAt.q1 (h : PgrAt w L S) : w.cell? ⟨L.p, 1, none⟩ = some (.pointer (some ⟨L.k, 0, none⟩)) := h.cell 1
theorem PgrAt.q4 (h : PgrAt w L S) : w.cell? ⟨L.p, 4, none⟩ = some (.int .i64 1) := h.cell 4
theorem PgrAt.q5 (h : PgrAt w L S) : w.cell? ⟨L.p, 5, none⟩ = some (.int .i64 (L.n : Int)) := h.cell 5
theorem PgrAt.q6 (h : PgrAt w L S) : w.cell? ⟨L.p, 6, none⟩ = some (.int .i64 (L.t : Int)) := h.cell 6
end
/-! ### The bytes of a page -/
/-- A page's text, sealed. -/
def bodyP (n : Nat) (pl : ByteArray) : ByteArray := sealed ((⟨#[0, 0, 0]⟩ : ByteArray) ++ pl ++ fillB 0 (n - 7 - pl.size))
theorem bodyP_size {n : Nat} {pl : ByteArray} (h : pl.size + 7 ≤ n) : (bodyP n pl).size = n := by
  unfold bodyP
  rw [sealed_size, ByteArray.size_append, ByteArray.size_append, fillB_size]
  have : (⟨#[0, 0, 0]⟩ : ByteArray).size = 3 := rfl
  omega
/-- A chunk with its parity. -/
def withP (t : Nat) (d : ByteArray) : ByteArray := d ++ encD t (lowG t) d
def rawP (t n : Nat) (pl : ByteArray) : ByteArray := withP t (bodyP n pl)
theorem foldB_len (t : Nat) : ∀ (r : List Nat) (z : List UInt8), (r.foldl (setB t) z).length = z.length
  | [], _ => rfl
  | x :: r, z => by rw [List.foldl_cons, foldB_len t r, setB_len]
theorem lowG_len (t : Nat) : (lowG t).length = lowN8 t := by unfold lowG; rw [foldB_len, List.length_replicate]
theorem encD_size (t : Nat) (d : ByteArray) : (encD t (lowG t) d).size = lowN8 t := by
  unfold encD
  have hl := lowG_len t
  show (divD (lowG t) (List.replicate (lowN8 t) 0) d.data.toList).length = _
  rw [divD_len _ (by rw [hl]; simp)]
  simp
theorem bch_encode_any (k t n : Nat) (s : ByteArray) (W : World) (ht8 : t ≤ 8) (ht1 : 1 ≤ t) (h : CAny k t n W) (hs : s.size = n) (hn : n ≤ 256) :
    Calls Tryz.prog 60 #[.pointer (some ⟨k, 0, none⟩), .string s] W fun e w' => e = .returned (.tuple #[.string (encD t (lowG t) s), .int .i64 0]) ∧ CAny k t n w' ∧ W.grownBy w' (some k) := by
  rcases h with h | ⟨g, q, h⟩
  · refine (bch_encode k t n s W ht8 ht1 h hs hn).mono ?_
    rintro e w' ⟨g, q, rfl, h1, h2⟩
    exact ⟨rfl, .inr ⟨g, q, h1⟩, h2⟩
  · refine (bch_encode_at k t n g q (lowG t) s W ht8 ht1 h hs hn).mono ?_
    rintro e w' ⟨rfl, hb⟩
    exact ⟨rfl, .inr ⟨g, q, h.below hb⟩, grownBy_of_below hb (some k)⟩
end Go.Proofs.YtkgacnenmflegaaGreatDoor
