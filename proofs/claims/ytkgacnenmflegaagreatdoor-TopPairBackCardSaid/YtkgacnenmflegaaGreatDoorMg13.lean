/-
  Is a page as if erased?
  Berlekamp's and Massey's recurrence over the field of 8192 elements: what it finds for sums of powers of few elements is the product over these elements.
  Rows of bytes as bits, the first one at the top; their values at an element of the field; the remainder's value.
-/
import Derived.Test.YtkgacnenmflegaaGreatDoorMg12
import Derived.Test.YtkgacnenmflegaaGreatDoorMg5
import Derived.Test.YtkgacnenmflegaaGreatDoorMg9
namespace Go.Proofs.YtkgacnenmflegaaGreatDoor
open Go.RowKit

/-- The noughts of a byte, of bytes. -/
def no8 (x : UInt8) : Nat := 8 - Lib.onesCount x.toNat
def noL (l : List UInt8) : Nat := l.foldl (fun a x => a + no8 x) 0
theorem noL_snoc (l : List UInt8) (x : UInt8) : noL (l ++ [x]) = noL l + no8 x := by simp [noL]
theorem ones_le : ∀ n, n < 256 → Lib.onesCount n ≤ 8 := by decide +kernel
theorem noL_le (l : List UInt8) : noL l ≤ 8 * l.length := by
  have h : ∀ (l : List UInt8) (a : Nat), l.foldl (fun a x => a + no8 x) a ≤ a + 8 * l.length := by
    intro l
    induction l with
    | nil => intro a; simp
    | cons x l ih =>
      intro a
      have := ih (a + no8 x)
      have h8 : no8 x ≤ 8 := by unfold no8; omega
      simp only [List.foldl_cons, List.length_cons]
      omega
  have := h l 0
  unfold noL
  omega
theorem ones8 (y : UInt8) (W : World) : Calls Tryz.prog 111 #[.int .u8 (y.toNat : Int)] W fun e w' => e = .returned (.int .i64 ((8 - no8 y : Nat) : Int)) ∧ W = w' := by
  have h8 := ones_le y.toNat y.toNat_lt
  refine (Tryz.bits_OnesCount8 (y.toNat : Int) W (by omega) (by have := y.toNat_lt; omega)).mono ?_
  rintro e w' ⟨rfl, rfl⟩
  refine ⟨?_, rfl⟩
  rw [Int.toNat_natCast]
  unfold no8
  rw [show 8 - (8 - Lib.onesCount y.toNat) = Lib.onesCount y.toNat by omega]
theorem no8_le (y : UInt8) : no8 y ≤ 8 := by unfold no8; omega
def EmptyPost (w : World) (L : PLoc) (S : ChS) (b : Bool) (e : Ending) (w' : World) : Prop := e = .returned (.bool b) ∧ PgrAt w' L S ∧ Chg (· = L.k) (fun _ => True) w w'
theorem PgrAt.rdyC {w w' : World} {L : PLoc} {S : ChS} (h : PgrAt w L S) (hg : Chg (· = L.k) (CAny L.k L.t L.n) w w') : PgrAt w' L S :=
  h.ready ⟨hg.os, hg.tape, hg.output, hg.size, fun q hq hne => hg.block q hq (fun e => hne (by rw [e]))⟩ (hg.inv h.code)
set_option maxRecDepth 20000 in
set_option maxHeartbeats 4000000 in
theorem page_empty (w : World) (L : PLoc) (S : ChS) (h : PgrAt w L S) (x : ByteArray) (hx : x.size = L.n + lowN8 L.t) :
    Calls Tryz.prog 65 #[.pointer (some ⟨L.p, 0, none⟩), .string x] w (EmptyPost w L S (decide (noL x.data.toList ≤ L.t))) := by
  have HH := Aside.mk h
  have hL14 : lowN8 L.t ≤ 14 := by have h1 := (degN_le L.t (by have := h.ht8; omega) h.ht1).2; have := h.ht8; unfold lowN8; omega
  obtain ⟨l8, hl8⟩ : ∃ l8, l8 = lowN8 L.t := ⟨_, rfl⟩
  obtain ⟨sz, hsz⟩ : ∃ sz, sz = L.n + l8 := ⟨_, rfl⟩
  have HPA : Aside (∀ W, CAny L.k L.t L.n W → Calls Tryz.prog 58 #[.pointer (some ⟨L.k, 0, none⟩)] W fun e w' => e = .returned (.int .i64 (l8 : Int)) ∧ W.grownBy w' (some L.k) ∧ (CAny L.k L.t L.n W → CAny L.k L.t L.n w')) := ⟨fun W hW => by
    refine (bch_parity_any L.k L.t L.n W h.ht8 h.ht1 hW).mono ?_
    rintro e w' ⟨rfl, h1, h2⟩
    exact ⟨by rw [hl8], h2, fun _ => h1⟩⟩
  obtain ⟨kcs, kfr, hkb⟩ := h.code.blk
  have HNE : Aside (L.p ≠ L.k) := ⟨fun e => by
    have h0 := h.pgr
    rw [e, hkb] at h0
    simp only [Option.some.injEq, Obj.cells.injEq] at h0
    exact absurd h0.2.1 (by decide)⟩
  have HE : Aside (IntKind.i64.wrap ((L.n : Int) + (l8 : Int)) = (sz : Int)) := ⟨by have := h.hn2; rw [IntKind.wrap_i64]; omega⟩
  have HZ := Aside.mk (And.intro hx (And.intro hsz (And.intro hl8 (And.intro hL14 (And.intro h.hn2 (And.intro h.hn1 (And.intro h.ht8 (Array.getElem?_eq_some_iff.1 h.pgr).1)))))))
  clear h hx hL14 hl8 hsz hkb
  go_enter Tryz.func65, Tryz.ntmps65
  go_upto_region 1 with fail
  refine wp_region_r 12 (by kernel_rfl) (by kernel_rfl) (rel_small (by kernel_rfl)) (chgV (· = L.k) (CAny L.k L.t L.n) [(5, .val (.int .i64 sz)), (9, .val (.pointer (some ⟨L.p, 0, none⟩))), (10, .val (.pointer (some ⟨L.p, 0, none⟩))), (11, .val (.pointer (some ⟨L.p, 2, none⟩))), (12, .val (.pointer (some ⟨L.p, 5, none⟩))), (13, .val (.int .i64 (L.n : Int))), (14, .val (.pointer (some ⟨L.p, 0, none⟩))), (15, .val (.pointer (some ⟨L.p, 0, none⟩))), (16, .val (.pointer (some ⟨L.p, 1, none⟩))), (17, .val (.pointer (some ⟨L.k, 0, none⟩))), (18, .val (.int .i64 l8)), (19, .val (.int .i64 sz))]) (Chg (· = L.k) (CAny L.k L.t L.n)) (chg_drew _ _ _ (CAny.drew)) Chg.refl (fun _ _ _ => Chg.trans) (chgV_stable _ _ _) ⟨?_, ?_, ?_, ?_, ?_, ?_, ?_, ?_, ?_, ?_, ?_, ?_, trivial⟩ ?_
  · -- 9 := move t0
    intro f W hW hold hd K hK
    refine .inl ⟨wanted_free rfl _, ?_⟩
    dsimp only [bare]
    have ze0 : f 0 = .pointer (some ⟨L.p, 0, none⟩) := hold 0 rfl
    have HK : ∀ v W', Chg (· = L.k) (CAny L.k L.t L.n) W W' → chgV (· = L.k) (CAny L.k L.t L.n) _ 9 v W' → K { tmps := #[f 0, f 1, f 2, f 3, f 4, f 5, f 6, f 7, f 8, v, f 10, f 11, f 12, f 13, f 14, f 15, f 16, f 17, f 18, f 19, f 20, f 21, f 22, f 23, f 24, f 25, f 26, f 27, f 28, f 29, f 30, f 31, f 32, f 33, f 34, f 35, f 36, f 37, f 38, f 39, f 40, f 41, f 42, f 43, f 44, f 45, f 46], defers := [] } W' := hK
    change wpList _ #[_] _ [_] { tmps := #[f 0, f 1, f 2, f 3, f 4, f 5, f 6, f 7, f 8, f 9, f 10, f 11, f 12, f 13, f 14, f 15, f 16, f 17, f 18, f 19, f 20, f 21, f 22, f 23, f 24, f 25, f 26, f 27, f 28, f 29, f 30, f 31, f 32, f 33, f 34, f 35, f 36, f 37, f 38, f 39, f 40, f 41, f 42, f 43, f 44, f 45, f 46], defers := [] } W
    clear hK hd hold
    simp only [ze0] at HK ⊢
    clear ze0
    have HK := Aside.mk HK
    go_wp2
    exact HK.out _ _ (Chg.refl _) rfl
  · -- 10 := nilCheck t9
    intro f W hW hold hd K hK
    refine .inl ⟨wanted_free rfl _, ?_⟩
    dsimp only [bare]
    have ze9 : f 9 = .pointer (some ⟨L.p, 0, none⟩) := hd 9 rfl rfl
    have HK : ∀ v W', Chg (· = L.k) (CAny L.k L.t L.n) W W' → chgV (· = L.k) (CAny L.k L.t L.n) _ 10 v W' → K { tmps := #[f 0, f 1, f 2, f 3, f 4, f 5, f 6, f 7, f 8, f 9, v, f 11, f 12, f 13, f 14, f 15, f 16, f 17, f 18, f 19, f 20, f 21, f 22, f 23, f 24, f 25, f 26, f 27, f 28, f 29, f 30, f 31, f 32, f 33, f 34, f 35, f 36, f 37, f 38, f 39, f 40, f 41, f 42, f 43, f 44, f 45, f 46], defers := [] } W' := hK
    change wpList _ #[_] _ [_] { tmps := #[f 0, f 1, f 2, f 3, f 4, f 5, f 6, f 7, f 8, f 9, f 10, f 11, f 12, f 13, f 14, f 15, f 16, f 17, f 18, f 19, f 20, f 21, f 22, f 23, f 24, f 25, f 26, f 27, f 28, f 29, f 30, f 31, f 32, f 33, f 34, f 35, f 36, f 37, f 38, f 39, f 40, f 41, f 42, f 43, f 44, f 45, f 46], defers := [] } W
    clear hK hd hold
    simp only [ze9] at HK ⊢
    clear ze9
    have HK := Aside.mk HK
    go_wp2
    exact HK.out _ _ (Chg.refl _) rfl
  · -- 11 := fieldAddr 132 t10 2
    intro f W hW hold hd K hK
    refine .inl ⟨wanted_free rfl _, ?_⟩
    dsimp only [bare]
    have ze10 : f 10 = .pointer (some ⟨L.p, 0, none⟩) := hd 10 rfl rfl
    have HK : ∀ v W', Chg (· = L.k) (CAny L.k L.t L.n) W W' → chgV (· = L.k) (CAny L.k L.t L.n) _ 11 v W' → K { tmps := #[f 0, f 1, f 2, f 3, f 4, f 5, f 6, f 7, f 8, f 9, f 10, v, f 12, f 13, f 14, f 15, f 16, f 17, f 18, f 19, f 20, f 21, f 22, f 23, f 24, f 25, f 26, f 27, f 28, f 29, f 30, f 31, f 32, f 33, f 34, f 35, f 36, f 37, f 38, f 39, f 40, f 41, f 42, f 43, f 44, f 45, f 46], defers := [] } W' := hK
    change wpList _ #[_] _ [_] { tmps := #[f 0, f 1, f 2, f 3, f 4, f 5, f 6, f 7, f 8, f 9, f 10, f 11, f 12, f 13, f 14, f 15, f 16, f 17, f 18, f 19, f 20, f 21, f 22, f 23, f 24, f 25, f 26, f 27, f 28, f 29, f 30, f 31, f 32, f 33, f 34, f 35, f 36, f 37, f 38, f 39, f 40, f 41, f 42, f 43, f 44, f 45, f 46], defers := [] } W
    clear hK hd hold
    simp only [ze10] at HK ⊢
    clear ze10
    have HK := Aside.mk HK
    go_wp2
    exact HK.out _ _ (Chg.refl _) rfl
  · -- 12 := fieldAddr 29 t11 3
    intro f W hW hold hd K hK
    refine .inl ⟨wanted_free rfl _, ?_⟩
    dsimp only [bare]
    have ze11 : f 11 = .pointer (some ⟨L.p, 2, none⟩) := hd 11 rfl rfl
    have HK : ∀ v W', Chg (· = L.k) (CAny L.k L.t L.n) W W' → chgV (· = L.k) (CAny L.k L.t L.n) _ 12 v W' → K { tmps := #[f 0, f 1, f 2, f 3, f 4, f 5, f 6, f 7, f 8, f 9, f 10, f 11, v, f 13, f 14, f 15, f 16, f 17, f 18, f 19, f 20, f 21, f 22, f 23, f 24, f 25, f 26, f 27, f 28, f 29, f 30, f 31, f 32, f 33, f 34, f 35, f 36, f 37, f 38, f 39, f 40, f 41, f 42, f 43, f 44, f 45, f 46], defers := [] } W' := hK
    change wpList _ #[_] _ [_] { tmps := #[f 0, f 1, f 2, f 3, f 4, f 5, f 6, f 7, f 8, f 9, f 10, f 11, f 12, f 13, f 14, f 15, f 16, f 17, f 18, f 19, f 20, f 21, f 22, f 23, f 24, f 25, f 26, f 27, f 28, f 29, f 30, f 31, f 32, f 33, f 34, f 35, f 36, f 37, f 38, f 39, f 40, f 41, f 42, f 43, f 44, f 45, f 46], defers := [] } W
    clear hK hd hold
    simp only [ze11] at HK ⊢
    clear ze11
    have HK := Aside.mk HK
    go_wp2
    exact HK.out _ _ (Chg.refl _) rfl
  · -- 13 := load 3 t12
    intro f W hW hold hd K hK
    refine .inl ⟨wanted_free rfl _, ?_⟩
    dsimp only [bare]
    have ze12 : f 12 = .pointer (some ⟨L.p, 5, none⟩) := hd 12 rfl rfl
    have HK : ∀ v W', Chg (· = L.k) (CAny L.k L.t L.n) W W' → chgV (· = L.k) (CAny L.k L.t L.n) _ 13 v W' → K { tmps := #[f 0, f 1, f 2, f 3, f 4, f 5, f 6, f 7, f 8, f 9, f 10, f 11, f 12, v, f 14, f 15, f 16, f 17, f 18, f 19, f 20, f 21, f 22, f 23, f 24, f 25, f 26, f 27, f 28, f 29, f 30, f 31, f 32, f 33, f 34, f 35, f 36, f 37, f 38, f 39, f 40, f 41, f 42, f 43, f 44, f 45, f 46], defers := [] } W' := hK
    change wpList _ #[_] _ [_] { tmps := #[f 0, f 1, f 2, f 3, f 4, f 5, f 6, f 7, f 8, f 9, f 10, f 11, f 12, f 13, f 14, f 15, f 16, f 17, f 18, f 19, f 20, f 21, f 22, f 23, f 24, f 25, f 26, f 27, f 28, f 29, f 30, f 31, f 32, f 33, f 34, f 35, f 36, f 37, f 38, f 39, f 40, f 41, f 42, f 43, f 44, f 45, f 46], defers := [] } W
    clear hK hd hold
    simp only [ze12] at HK ⊢
    clear ze12
    have HK := Aside.mk HK
    have hh := hW.blk (HH.out.pgr) (fun e => HNE.out e); have hcell := cell_of_row W (L.p) 5 _ _ _ hh; clear hh
    go_wp2
    exact HK.out _ _ (Chg.refl _) rfl
  · -- 14 := move t0
    intro f W hW hold hd K hK
    refine .inl ⟨wanted_free rfl _, ?_⟩
    dsimp only [bare]
    have ze0 : f 0 = .pointer (some ⟨L.p, 0, none⟩) := hold 0 rfl
    have HK : ∀ v W', Chg (· = L.k) (CAny L.k L.t L.n) W W' → chgV (· = L.k) (CAny L.k L.t L.n) _ 14 v W' → K { tmps := #[f 0, f 1, f 2, f 3, f 4, f 5, f 6, f 7, f 8, f 9, f 10, f 11, f 12, f 13, v, f 15, f 16, f 17, f 18, f 19, f 20, f 21, f 22, f 23, f 24, f 25, f 26, f 27, f 28, f 29, f 30, f 31, f 32, f 33, f 34, f 35, f 36, f 37, f 38, f 39, f 40, f 41, f 42, f 43, f 44, f 45, f 46], defers := [] } W' := hK
    change wpList _ #[_] _ [_] { tmps := #[f 0, f 1, f 2, f 3, f 4, f 5, f 6, f 7, f 8, f 9, f 10, f 11, f 12, f 13, f 14, f 15, f 16, f 17, f 18, f 19, f 20, f 21, f 22, f 23, f 24, f 25, f 26, f 27, f 28, f 29, f 30, f 31, f 32, f 33, f 34, f 35, f 36, f 37, f 38, f 39, f 40, f 41, f 42, f 43, f 44, f 45, f 46], defers := [] } W
    clear hK hd hold
    simp only [ze0] at HK ⊢
    clear ze0
    have HK := Aside.mk HK
    go_wp2
    exact HK.out _ _ (Chg.refl _) rfl
  · -- 15 := nilCheck t14
    intro f W hW hold hd K hK
    refine .inl ⟨wanted_free rfl _, ?_⟩
    dsimp only [bare]
    have ze14 : f 14 = .pointer (some ⟨L.p, 0, none⟩) := hd 14 rfl rfl
    have HK : ∀ v W', Chg (· = L.k) (CAny L.k L.t L.n) W W' → chgV (· = L.k) (CAny L.k L.t L.n) _ 15 v W' → K { tmps := #[f 0, f 1, f 2, f 3, f 4, f 5, f 6, f 7, f 8, f 9, f 10, f 11, f 12, f 13, f 14, v, f 16, f 17, f 18, f 19, f 20, f 21, f 22, f 23, f 24, f 25, f 26, f 27, f 28, f 29, f 30, f 31, f 32, f 33, f 34, f 35, f 36, f 37, f 38, f 39, f 40, f 41, f 42, f 43, f 44, f 45, f 46], defers := [] } W' := hK
    change wpList _ #[_] _ [_] { tmps := #[f 0, f 1, f 2, f 3, f 4, f 5, f 6, f 7, f 8, f 9, f 10, f 11, f 12, f 13, f 14, f 15, f 16, f 17, f 18, f 19, f 20, f 21, f 22, f 23, f 24, f 25, f 26, f 27, f 28, f 29, f 30, f 31, f 32, f 33, f 34, f 35, f 36, f 37, f 38, f 39, f 40, f 41, f 42, f 43, f 44, f 45, f 46], defers := [] } W
    clear hK hd hold
    simp only [ze14] at HK ⊢
    clear ze14
    have HK := Aside.mk HK
    go_wp2
    exact HK.out _ _ (Chg.refl _) rfl
  · -- 16 := fieldAddr 132 t15 1
    intro f W hW hold hd K hK
    refine .inl ⟨wanted_free rfl _, ?_⟩
    dsimp only [bare]
    have ze15 : f 15 = .pointer (some ⟨L.p, 0, none⟩) := hd 15 rfl rfl
    have HK : ∀ v W', Chg (· = L.k) (CAny L.k L.t L.n) W W' → chgV (· = L.k) (CAny L.k L.t L.n) _ 16 v W' → K { tmps := #[f 0, f 1, f 2, f 3, f 4, f 5, f 6, f 7, f 8, f 9, f 10, f 11, f 12, f 13, f 14, f 15, v, f 17, f 18, f 19, f 20, f 21, f 22, f 23, f 24, f 25, f 26, f 27, f 28, f 29, f 30, f 31, f 32, f 33, f 34, f 35, f 36, f 37, f 38, f 39, f 40, f 41, f 42, f 43, f 44, f 45, f 46], defers := [] } W' := hK
    change wpList _ #[_] _ [_] { tmps := #[f 0, f 1, f 2, f 3, f 4, f 5, f 6, f 7, f 8, f 9, f 10, f 11, f 12, f 13, f 14, f 15, f 16, f 17, f 18, f 19, f 20, f 21, f 22, f 23, f 24, f 25, f 26, f 27, f 28, f 29, f 30, f 31, f 32, f 33, f 34, f 35, f 36, f 37, f 38, f 39, f 40, f 41, f 42, f 43, f 44, f 45, f 46], defers := [] } W
    clear hK hd hold
    simp only [ze15] at HK ⊢
    clear ze15
    have HK := Aside.mk HK
    go_wp2
    exact HK.out _ _ (Chg.refl _) rfl
  · -- 17 := load 129 t16
    intro f W hW hold hd K hK
    refine .inl ⟨wanted_free rfl _, ?_⟩
    dsimp only [bare]
    have ze16 : f 16 = .pointer (some ⟨L.p, 1, none⟩) := hd 16 rfl rfl
    have HK : ∀ v W', Chg (· = L.k) (CAny L.k L.t L.n) W W' → chgV (· = L.k) (CAny L.k L.t L.n) _ 17 v W' → K { tmps := #[f 0, f 1, f 2, f 3, f 4, f 5, f 6, f 7, f 8, f 9, f 10, f 11, f 12, f 13, f 14, f 15, f 16, v, f 18, f 19, f 20, f 21, f 22, f 23, f 24, f 25, f 26, f 27, f 28, f 29, f 30, f 31, f 32, f 33, f 34, f 35, f 36, f 37, f 38, f 39, f 40, f 41, f 42, f 43, f 44, f 45, f 46], defers := [] } W' := hK
    change wpList _ #[_] _ [_] { tmps := #[f 0, f 1, f 2, f 3, f 4, f 5, f 6, f 7, f 8, f 9, f 10, f 11, f 12, f 13, f 14, f 15, f 16, f 17, f 18, f 19, f 20, f 21, f 22, f 23, f 24, f 25, f 26, f 27, f 28, f 29, f 30, f 31, f 32, f 33, f 34, f 35, f 36, f 37, f 38, f 39, f 40, f 41, f 42, f 43, f 44, f 45, f 46], defers := [] } W
    clear hK hd hold
    simp only [ze16] at HK ⊢
    clear ze16
    have HK := Aside.mk HK
    have hh := hW.blk (HH.out.pgr) (fun e => HNE.out e); have hcell := cell_of_row W (L.p) 1 _ _ _ hh; clear hh
    go_wp2
    exact HK.out _ _ (Chg.refl _) rfl
  · -- 18 := CALL f58 (*chert/bch.Code).Parity [t17] : [129]
    intro f W hW hold hd K hK
    refine .inl ⟨wanted_free rfl _, ?_⟩
    dsimp only [bare]
    have ze17 : f 17 = .pointer (some ⟨L.k, 0, none⟩) := hd 17 rfl rfl
    have HK : ∀ v W', Chg (· = L.k) (CAny L.k L.t L.n) W W' → chgV (· = L.k) (CAny L.k L.t L.n) _ 18 v W' → K { tmps := #[f 0, f 1, f 2, f 3, f 4, f 5, f 6, f 7, f 8, f 9, f 10, f 11, f 12, f 13, f 14, f 15, f 16, f 17, v, f 19, f 20, f 21, f 22, f 23, f 24, f 25, f 26, f 27, f 28, f 29, f 30, f 31, f 32, f 33, f 34, f 35, f 36, f 37, f 38, f 39, f 40, f 41, f 42, f 43, f 44, f 45, f 46], defers := [] } W' := hK
    change wpList _ #[_] _ [_] { tmps := #[f 0, f 1, f 2, f 3, f 4, f 5, f 6, f 7, f 8, f 9, f 10, f 11, f 12, f 13, f 14, f 15, f 16, f 17, f 18, f 19, f 20, f 21, f 22, f 23, f 24, f 25, f 26, f 27, f 28, f 29, f 30, f 31, f 32, f 33, f 34, f 35, f 36, f 37, f 38, f 39, f 40, f 41, f 42, f 43, f 44, f 45, f 46], defers := [] } W
    clear hK hd hold
    simp only [ze17] at HK ⊢
    clear ze17
    have HK := Aside.mk HK
    go_wp2_with (go_at_call 58; refine (HPA.out W (hW.inv HH.out.code)).mono ?_; rintro e w5 ⟨rfl, hg5, hi5⟩)
    exact HK.out _ _ (Chg.of_grown hg5 rfl hi5) rfl
  · -- 19 := binOp add 3 t13 t18 3
    intro f W hW hold hd K hK
    refine .inl ⟨wanted_free rfl _, ?_⟩
    dsimp only [bare]
    have ze13 : f 13 = .int .i64 (L.n : Int) := hd 13 rfl rfl
    have ze18 : f 18 = .int .i64 l8 := hd 18 rfl rfl
    have HK : ∀ v W', Chg (· = L.k) (CAny L.k L.t L.n) W W' → chgV (· = L.k) (CAny L.k L.t L.n) _ 19 v W' → K { tmps := #[f 0, f 1, f 2, f 3, f 4, f 5, f 6, f 7, f 8, f 9, f 10, f 11, f 12, f 13, f 14, f 15, f 16, f 17, f 18, v, f 20, f 21, f 22, f 23, f 24, f 25, f 26, f 27, f 28, f 29, f 30, f 31, f 32, f 33, f 34, f 35, f 36, f 37, f 38, f 39, f 40, f 41, f 42, f 43, f 44, f 45, f 46], defers := [] } W' := hK
    change wpList _ #[_] _ [_] { tmps := #[f 0, f 1, f 2, f 3, f 4, f 5, f 6, f 7, f 8, f 9, f 10, f 11, f 12, f 13, f 14, f 15, f 16, f 17, f 18, f 19, f 20, f 21, f 22, f 23, f 24, f 25, f 26, f 27, f 28, f 29, f 30, f 31, f 32, f 33, f 34, f 35, f 36, f 37, f 38, f 39, f 40, f 41, f 42, f 43, f 44, f 45, f 46], defers := [] } W
    clear hK hd hold
    simp only [ze13, ze18] at HK ⊢
    clear ze13 ze18
    have HK := Aside.mk HK
    have q1 := HE.out
    go_wp2
    exact HK.out _ _ (Chg.refl _) rfl
  · -- 5 := assign t19
    intro f W hW hold hd K hK
    refine .inl ⟨wanted_free rfl _, ?_⟩
    dsimp only [bare]
    have ze19 : f 19 = .int .i64 sz := hd 19 rfl rfl
    have HK : ∀ v W', Chg (· = L.k) (CAny L.k L.t L.n) W W' → chgV (· = L.k) (CAny L.k L.t L.n) _ 5 v W' → K { tmps := #[f 0, f 1, f 2, f 3, f 4, v, f 6, f 7, f 8, f 9, f 10, f 11, f 12, f 13, f 14, f 15, f 16, f 17, f 18, f 19, f 20, f 21, f 22, f 23, f 24, f 25, f 26, f 27, f 28, f 29, f 30, f 31, f 32, f 33, f 34, f 35, f 36, f 37, f 38, f 39, f 40, f 41, f 42, f 43, f 44, f 45, f 46], defers := [] } W' := hK
    change wpList _ #[_] _ [_] { tmps := #[f 0, f 1, f 2, f 3, f 4, f 5, f 6, f 7, f 8, f 9, f 10, f 11, f 12, f 13, f 14, f 15, f 16, f 17, f 18, f 19, f 20, f 21, f 22, f 23, f 24, f 25, f 26, f 27, f 28, f 29, f 30, f 31, f 32, f 33, f 34, f 35, f 36, f 37, f 38, f 39, f 40, f 41, f 42, f 43, f 44, f 45, f 46], defers := [] } W
    clear hK hd hold
    simp only [ze19] at HK ⊢
    clear ze19
    have HK := Aside.mk HK
    go_wp2
    exact HK.out _ _ (Chg.refl _) rfl
  · intro f W hW hold hd aAct hAct
    replace hAct := hAct.trans (rel_puts hold)
    have ze5 : f 5 = .int .i64 sz := hd 5 rfl
    have ze9 : f 9 = .pointer (some ⟨L.p, 0, none⟩) := hd 9 rfl
    have ze10 : f 10 = .pointer (some ⟨L.p, 0, none⟩) := hd 10 rfl
    have ze11 : f 11 = .pointer (some ⟨L.p, 2, none⟩) := hd 11 rfl
    have ze12 : f 12 = .pointer (some ⟨L.p, 5, none⟩) := hd 12 rfl
    have ze13 : f 13 = .int .i64 (L.n : Int) := hd 13 rfl
    have ze14 : f 14 = .pointer (some ⟨L.p, 0, none⟩) := hd 14 rfl
    have ze15 : f 15 = .pointer (some ⟨L.p, 0, none⟩) := hd 15 rfl
    have ze16 : f 16 = .pointer (some ⟨L.p, 1, none⟩) := hd 16 rfl
    have ze17 : f 17 = .pointer (some ⟨L.k, 0, none⟩) := hd 17 rfl
    have ze18 : f 18 = .int .i64 l8 := hd 18 rfl
    have ze19 : f 19 = .int .i64 sz := hd 19 rfl
    simp only [List.take_succ_cons, List.take_zero, putAll, List.foldl_cons, List.foldl_nil, Option.getD_some] at hAct
    simp only [ze5, ze9, ze10, ze11, ze12, ze13, ze14, ze15, ze16, ze17, ze18, ze19] at hAct
    subst hAct
    simp only [List.drop_succ_cons, List.drop_nil, Act.put, List.setIfInBounds_toArray, List.set_cons_zero, List.set_cons_succ]
    clear hold hd ze5 ze9 ze10 ze11 ze12 ze13 ze14 ze15 ze16 ze17 ze18 ze19
    have HW : Aside (PgrAt W L S ∧ Chg (· = L.k) (fun _ => True) w W) := ⟨HH.out.rdyC hW, ⟨hW.os, hW.tape, hW.output, hW.size, hW.block, fun _ => trivial⟩⟩
    clear hW
    have q6 := HW.out.1.q6
    have hbe : x.toList.isEmpty = false := by
      rw [ByteArray.toList_eq]
      have h0 : x.data.toList.length = x.size := by simp
      have := HZ.out
      cases hl : x.data.toList with
      | nil => rw [hl] at h0; simp at h0; omega
      | cons y r => rfl
    have hbe2 : (⟨#[]⟩ : ByteArray).toList.isEmpty = true := by rw [ByteArray.toList_eq]; rfl
    have hxs : x.size = sz := by have := HZ.out; omega
    have HXS := Aside.mk hxs
    have hsl1 : (Instr.slice 9 (.string x) none (some (.int .i64 (sz : Int))) none).run Tryz.prog W = .ok (.string x) W := by
      have := slice_to x sz (by omega) W
      rwa [← hxs, extract_full, hxs] at this
    have kb := Lib.run_convert_string_bytes (P := Tryz.prog) W 9 73 5 x Tryz.underlying9 Tryz.underlying73 Tryz.underlying5
    have hbw := below_ofString (Below.refl W.heap.size W) (Nat.le_refl _) 5 x
    have hrw := Row.ofString W W.heap.size 5 x (Nat.le_refl _) (by have := HZ.out; omega)
    obtain ⟨wA, hwA⟩ : ∃ wA, wA = Lib.bytesWorld W 5 x := ⟨_, rfl⟩
    rw [← hwA] at kb hbw hrw
    obtain ⟨cA, hcA⟩ : ∃ cA, cA = grownCap W x.size 0 5 := ⟨_, rfl⟩
    rw [← hcA] at kb hrw
    have HA := Aside.mk (And.intro (HW.out.1.below hbw) (And.intro (HW.out.2.trans (Chg.of_below hbw fun _ => trivial)) hrw))
    clear hwA hcA hbw hrw q6 hxs
    have hn0 : (W.heap.size) = W.heap.size := rfl
    obtain ⟨gA, hgA⟩ : ∃ gA, gA = W.heap.size := ⟨_, rfl⟩
    rw [← hgA] at kb HA
    clear hn0 hgA
    go_wp2_with fail
    go_loopw [1, 6, 8] (fun s1 _ _ wr => (s1 = .string x ∧ W = wr) ∨ (s1 = .string ⟨#[]⟩ ∧ Aside (noL x.data.toList ≤ L.t ∧ PgrAt wr L S ∧ Chg (· = L.k) (fun _ => True) w wr))) (fun s1 _ _ _ => match s1 with | .string s => s.size | _ => 0)
    case atStart => exact .inl ⟨rfl, rfl⟩
    case round =>
      rcases hrel with ⟨rfl, rfl⟩ | ⟨rfl, HI⟩
      · clear hbe2
        have HBE := Aside.mk hbe
        go_upto_region 6 with fail
        clear hbe kb hsl1
        go_loopw [6, 8, 30] (fun s6 _ s30 wr => ∃ i : Nat, i ≤ x.size ∧ s30 = .int .i64 (i : Int) ∧ s6 = .int .i64 (noL (x.data.toList.take i) : Int) ∧ wA = wr) (fun _ _ s30 _ => x.size - (intOf s30).toNat)
        case atStart => exact ⟨0, Nat.zero_le _, rfl, rfl, rfl⟩
        case round =>
          obtain ⟨i, hi, rfl, rfl, rfl⟩ := hrel
          by_cases hlt : i < x.size
          · have hts := take_snoc x i hlt
            obtain ⟨y0, y0z⟩ := HA.out.2.2.at_ rfl i hlt
            rw [Nat.zero_add, bytesV_at (by simpa using hlt)] at y0
            have hyy : x.data.toList.getD i 0 = x[i] := by
              rw [List.getD_eq_getElem?_getD, List.getElem?_eq_getElem (by simpa using hlt)]
              rfl
            rw [hyy] at y0
            obtain ⟨y, hy⟩ : ∃ y, y = x[i] := ⟨_, rfl⟩
            rw [← hy] at y0 hts
            have hn1 := noL_snoc (x.data.toList.take i) y
            rw [← hts] at hn1
            have hb1 := noL_le (x.data.toList.take i)
            have hb2 : (x.data.toList.take i).length ≤ i := List.length_take_le _ _
            have h8 := no8_le y
            obtain ⟨n0, hn0⟩ : ∃ n0, n0 = noL (x.data.toList.take i) := ⟨_, rfl⟩
            obtain ⟨n1, hn1'⟩ : ∃ n1, n1 = noL (x.data.toList.take (i + 1)) := ⟨_, rfl⟩
            rw [← hn0]
            rw [← hn0, ← hn1'] at hn1
            rw [← hn0] at hb1
            have HN := Aside.mk (And.intro hn1' hlt)
            have hn2k : x.size ≤ 300 := by have := HZ.out; have := HXS.out; omega
            obtain ⟨v8, hv8⟩ : ∃ v8, v8 = 8 - no8 y := ⟨_, rfl⟩
            have HO8 : Aside (∀ V, Calls Tryz.prog 111 #[.int .u8 (y.toNat : Int)] V fun e w' => e = .returned (.int .i64 (v8 : Int)) ∧ V = w') := ⟨fun V => by rw [hv8]; exact ones8 y V⟩
            obtain ⟨ny, hny⟩ : ∃ ny, ny = no8 y := ⟨_, rfl⟩
            have k1 : IntKind.i64.wrap (8 - (v8 : Int)) = (ny : Int) := by rw [IntKind.wrap_i64]; omega
            have k2 : IntKind.i64.wrap ((n0 : Int) + (ny : Int)) = (n1 : Int) := by rw [IntKind.wrap_i64]; omega
            have k3 : IntKind.i64.wrap ((i : Int) + 1) = ((i + 1 : Nat) : Int) := by rw [IntKind.wrap_i64]; omega
            have k4 : (i : Int) < (x.size : Int) := by omega
            have k5 : (0 : Int) ≤ (i : Int) := by omega
            clear y0z hyy hy hts hn1 hb1 hb2 h8 hn0 hn1' hlt hn2k hv8 hny hi
            go_wp2_with (go_at_call 111; refine (HO8.out _).mono ?_; rintro e w' ⟨rfl, rfl⟩)
            go_roundw
            case rel => exact ⟨i + 1, HN.out.2, rfl, by rw [HN.out.1], trivial⟩
            case measure => have := HN.out.2; simp [intOf]; omega
          · obtain rfl : i = x.size := by omega
            have hta : x.data.toList.take x.size = x.data.toList := take_all x x.size (Nat.le_refl _)
            rw [hta]
            obtain ⟨nn, hnn⟩ : ∃ nn, nn = noL x.data.toList := ⟨_, rfl⟩
            rw [← hnn]
            have HNN := Aside.mk hnn
            have k4 : ¬ (x.size : Int) < (x.size : Int) := by omega
            have q6 := HA.out.1.q6
            have hsl2 : (Instr.slice 9 (.string x) (some (.int .i64 (sz : Int))) none none).run Tryz.prog wA = .ok (.string ⟨#[]⟩) wA := by
              have hxs := HXS.out
              have := slice_from x sz (by omega) wA
              rwa [← hxs, extract_none, hxs] at this
            clear hta hnn hlt hi
            by_cases hle : nn ≤ L.t
            · have k6 : ¬ (L.t : Int) < (nn : Int) := by omega
              have HLE := Aside.mk hle
              clear hle
              go_wp2_with fail
              go_roundw
              case rel => exact .inr ⟨rfl, ⟨by rw [← HNN.out]; exact HLE.out, HA.out.1, HA.out.2.1⟩⟩
              case measure =>
                show (⟨#[]⟩ : ByteArray).size < x.size
                rw [HXS.out]
                have := HZ.out
                show 0 < sz
                omega
            · have k6 : (L.t : Int) < (nn : Int) := by omega
              have HLE := Aside.mk hle
              clear hle
              go_wp2_with fail
              go_ret
              exact ⟨by rw [← HNN.out]; simp [HLE.out], HA.out.1, HA.out.2.1⟩
      · go_wp2_with fail
        go_ret
        exact ⟨by simp [HI.out.1], HI.out.2.1, HI.out.2.2⟩
end Go.Proofs.YtkgacnenmflegaaGreatDoor
namespace Go.Proofs.YtkgacnenmflegaaGreatDoor.Gf

/-! ### Sums -/
def sumX (f : Nat → Nat) : Nat → Nat
  | 0 => 0
  | k + 1 => sumX f k ^^^ f k
theorem sumX_lt {f : Nat → Nat} : ∀ k, (∀ i, i < k → f i < 8192) → sumX f k < 8192
  | 0, _ => by simp [sumX]
  | k + 1, h => xor_lt (sumX_lt k fun i hi => h i (by omega)) (h k (by omega))
theorem sumX_congr {f g : Nat → Nat} : ∀ k, (∀ i, i < k → f i = g i) → sumX f k = sumX g k
  | 0, _ => rfl
  | k + 1, h => by rw [sumX, sumX, sumX_congr k fun i hi => h i (by omega), h k (by omega)]
theorem sumX_zero {f : Nat → Nat} : ∀ k, (∀ i, i < k → f i = 0) → sumX f k = 0
  | 0, _ => rfl
  | k + 1, h => by rw [sumX, sumX_zero k fun i hi => h i (by omega), h k (by omega)]; rfl
theorem sumX_xor (f g : Nat → Nat) : ∀ k, sumX (fun i => f i ^^^ g i) k = sumX f k ^^^ sumX g k
  | 0 => by simp [sumX]
  | k + 1 => by simp only [sumX, sumX_xor f g k]; ac_rfl
theorem sumX_mul {f : Nat → Nat} {a : Nat} (ha : a < 8192) : ∀ k, (∀ i, i < k → f i < 8192) → sumX (fun i => mul a (f i)) k = mul a (sumX f k)
  | 0, _ => by simp [sumX, mul_zero_right]
  | k + 1, h => by rw [sumX, sumX, sumX_mul ha k fun i hi => h i (by omega), mul_xor_right _ _ ha]
theorem sumX_swap (f : Nat → Nat → Nat) (m : Nat) : ∀ k, sumX (fun i => sumX (fun j => f i j) m) k = sumX (fun j => sumX (fun i => f i j) k) m
  | 0 => by rw [sumX]; exact (sumX_zero m fun _ _ => rfl).symm
  | k + 1 => by
    rw [sumX, sumX_swap f m k, ← sumX_xor]
    rfl
theorem sumX_first (f : Nat → Nat) : ∀ k, sumX f (k + 1) = f 0 ^^^ sumX (fun i => f (i + 1)) k
  | 0 => by simp [sumX]
  | k + 1 => by
    rw [sumX, sumX_first f k, sumX]
    ac_rfl
theorem sumX_more {f : Nat → Nat} (k : Nat) : ∀ m, (∀ i, k ≤ i → f i = 0) → sumX f (k + m) = sumX f k
  | 0, _ => rfl
  | m + 1, h => by rw [← Nat.add_assoc, sumX, sumX_more k m h, h _ (by omega), Nat.xor_zero]
theorem sumX_rev (f : Nat → Nat) : ∀ k, sumX f (k + 1) = sumX (fun i => f (k - i)) (k + 1)
  | 0 => rfl
  | k + 1 => by
    have h2 := sumX_first (fun i => f (k + 1 - i)) (k + 1)
    have h3 : sumX (fun i => (fun i => f (k + 1 - i)) (i + 1)) (k + 1) = sumX (fun i => f (k - i)) (k + 1) := sumX_congr _ fun i _ => by simp only []; congr 1; omega
    rw [h2, h3, ← sumX_rev f k]
    rw [sumX]
    simp only [Nat.sub_zero]
    exact Nat.xor_comm _ _
/-- Over a list. -/
def sumL (f : Nat → Nat) : List Nat → Nat
  | [] => 0
  | x :: l => f x ^^^ sumL f l
theorem sumL_lt {f : Nat → Nat} : ∀ {l : List Nat}, (∀ x ∈ l, f x < 8192) → sumL f l < 8192
  | [], _ => by simp [sumL]
  | x :: l, h => xor_lt (h x (by simp)) (sumL_lt fun y hy => h y (by simp [hy]))
theorem sumL_congr {f g : Nat → Nat} : ∀ {l : List Nat}, (∀ x ∈ l, f x = g x) → sumL f l = sumL g l
  | [], _ => rfl
  | x :: l, h => by rw [sumL, sumL, h x (by simp), sumL_congr fun y hy => h y (by simp [hy])]
theorem sumL_zero {f : Nat → Nat} : ∀ {l : List Nat}, (∀ x ∈ l, f x = 0) → sumL f l = 0
  | [], _ => rfl
  | x :: l, h => by rw [sumL, h x (by simp), sumL_zero fun y hy => h y (by simp [hy])]; rfl
theorem sumL_xor (f g : Nat → Nat) : ∀ l, sumL (fun x => f x ^^^ g x) l = sumL f l ^^^ sumL g l
  | [] => by simp [sumL]
  | x :: l => by simp only [sumL, sumL_xor f g l]; ac_rfl
theorem sumL_mul {f : Nat → Nat} {a : Nat} (ha : a < 8192) : ∀ {l : List Nat}, sumL (fun x => mul a (f x)) l = mul a (sumL f l)
  | [] => by simp [sumL, mul_zero_right]
  | x :: l => by rw [sumL, sumL, sumL_mul ha, mul_xor_right _ _ ha]
theorem sumL_sumX (f : Nat → Nat → Nat) (l : List Nat) : ∀ k, sumX (fun i => sumL (fun x => f i x) l) k = sumL (fun x => sumX (fun i => f i x) k) l
  | 0 => by rw [sumX]; exact (sumL_zero fun _ _ => rfl).symm
  | k + 1 => by
    rw [sumX, sumL_sumX f l k, ← sumL_xor]
    rfl
theorem sumL_one {f : Nat → Nat} {a : Nat} : ∀ {l : List Nat}, l.Nodup → a ∈ l → (∀ x ∈ l, x ≠ a → f x = 0) → sumL f l = f a
  | [], _, h, _ => by simp at h
  | x :: l, hd, h, hz => by
    have hd2 := List.nodup_cons.1 hd
    by_cases hx : x = a
    · subst hx
      rw [sumL, sumL_zero (l := l) fun y hy => hz y (by simp [hy]) (fun e => hd2.1 (e ▸ hy)), Nat.xor_zero]
    · have ha : a ∈ l := by
        rcases List.mem_cons.1 h with h1 | h1
        · exact absurd h1.symm hx
        · exact h1
      rw [sumL, hz x (by simp) hx, Nat.zero_xor, sumL_one hd2.2 ha fun y hy => hz y (by simp [hy])]
/-- A polynomial's value as a sum. -/
theorem ev_sum {x : Nat} (hx : x < 8192) : ∀ {c : List Nat}, AllF c → ev c x = sumX (fun i => mul (c.getD i 0) (pow x i)) c.length
  | [], _ => rfl
  | a :: c, h => by
    rw [List.length_cons, sumX_first, ev, ev_sum hx h.tail, mul_comm (sumX_lt _ fun i _ => mul_lt _ (h.tail.getD i)) hx, ← sumX_mul hx _ fun i _ => mul_lt _ (h.tail.getD i)]
    have e0 : mul ((a :: c).getD 0 0) (pow x 0) = a := mul_one h.head
    rw [e0]
    congr 1
    refine sumX_congr _ fun i _ => ?_
    rw [List.getD_cons_succ, mul_comm hx (mul_lt _ (h.tail.getD i)), mul_assoc (h.tail.getD i) (pow_lt hx i) hx]
    rfl
/-! ### The recurrence -/
/-- What a recurrence of length L leaves at n. -/
def disc (c s : Nat → Nat) (L n : Nat) : Nat := sumX (fun i => mul (c i) (s (n - i))) (L + 1)
def co (c : List Nat) (i : Nat) : Nat := c.getD i 0
theorem co_lt {c : List Nat} (h : AllF c) (i : Nat) : co c i < 8192 := h.getD i
theorem co_out {c : List Nat} {i : Nat} (h : c.length ≤ i) : co c i = 0 := by unfold co; rw [List.getD_eq_getElem?_getD, List.getElem?_eq_none h]; rfl
theorem disc_lt {c s : Nat → Nat} (hc : ∀ i, c i < 8192) (L n : Nat) : disc c s L n < 8192 := sumX_lt _ fun i _ => mul_lt _ (hc i)
/-- Massey's bound. -/
theorem massey {c lam s : Nat → Nat} (hc : ∀ i, c i < 8192) (hl : ∀ i, lam i < 8192) (hs : ∀ i, s i < 8192) {L m n : Nat} (hl0 : lam 0 = 1)
    (h1 : ∀ k, L ≤ k → k < n → disc c s L k = 0) (h2 : ∀ k, m ≤ k → disc lam s m k = 0) (hn : L + m ≤ n) : disc c s L n = 0 := by
  have ha : sumX (fun i => sumX (fun k => mul (c i) (mul (lam k) (s (n - i - k)))) (m + 1)) (L + 1) = 0 := by
    refine sumX_zero _ fun i hi => ?_
    rw [sumX_mul (hc i) _ fun k _ => mul_lt _ (hl k)]
    have := h2 (n - i) (by omega)
    unfold disc at this
    rw [this, mul_zero_right]
  rw [sumX_swap] at ha
  have hb : ∀ k, k < m + 1 → sumX (fun i => mul (c i) (mul (lam k) (s (n - i - k)))) (L + 1) = mul (lam k) (disc c s L (n - k)) := by
    intro k _
    unfold disc
    rw [← sumX_mul (hl k) _ fun i _ => mul_lt _ (hc i)]
    refine sumX_congr _ fun i _ => ?_
    rw [← mul_assoc (hc i) (hl k) (hs _), mul_comm (hc i) (hl k), mul_assoc (hl k) (hc i) (hs _)]
    congr 3
    omega
  rw [sumX_congr _ hb, sumX_first, hl0, sumX_zero m fun k hk => by rw [h1 _ (by omega) (by omega), mul_zero_right], Nat.xor_zero, one_mul (disc_lt hc _ _)] at ha
  exact ha
/-- One times, the other so much higher. -/
def addSh (c o : List Nat) (g b : Nat) : List Nat := (List.range (max c.length (o.length + g))).map fun i => co c i ^^^ (if g ≤ i then mul b (co o (i - g)) else 0)
theorem addSh_len (c o : List Nat) (g b : Nat) : (addSh c o g b).length = max c.length (o.length + g) := by simp [addSh]
theorem addSh_co {c o : List Nat} {g b : Nat} (i : Nat) : co (addSh c o g b) i = co c i ^^^ (if g ≤ i then mul b (co o (i - g)) else 0) := by
  by_cases h : i < max c.length (o.length + g)
  · unfold co addSh
    rw [List.getD_eq_getElem?_getD, List.getElem?_map, List.getElem?_range h]
    rfl
  · rw [co_out (by rw [addSh_len]; omega), co_out (by omega)]
    split
    · rw [co_out (by omega), mul_zero_right]; rfl
    · rfl
theorem addSh_lt {c o : List Nat} {g b : Nat} (hc : AllF c) (hb : b < 8192) : AllF (addSh c o g b) := by
  intro v hv
  obtain ⟨i, _, rfl⟩ := List.mem_map.1 hv
  refine xor_lt (co_lt hc i) ?_
  split
  · exact mul_lt _ hb
  · omega
/-- The sum of a shifted recurrence. -/
theorem disc_addSh {c o : List Nat} {s : Nat → Nat} {g b L M K n : Nat} (hc : AllF c) (ho : AllF o) (hb : b < 8192) (hs : ∀ i, s i < 8192) (hcl : c.length ≤ L + 1) (hol : o.length ≤ M + 1) (hKL : L ≤ K) (hKM : M + g ≤ K) :
    disc (co (addSh c o g b)) s K n = disc (co c) s L n ^^^ mul b (disc (co o) s M (n - g)) := by
  unfold disc
  have e1 : ∀ i, i < K + 1 → mul (co (addSh c o g b) i) (s (n - i)) = mul (co c i) (s (n - i)) ^^^ (if g ≤ i then mul b (mul (co o (i - g)) (s (n - i))) else 0) := by
    intro i _
    rw [addSh_co]
    split
    · rw [mul_xor_left _ (co_lt hc i) (mul_lt _ hb), mul_assoc hb (co_lt ho _) (hs _)]
    · rw [Nat.xor_zero, Nat.xor_zero]
  rw [sumX_congr _ e1, sumX_xor]
  congr 1
  · have := sumX_more (f := fun i => mul (co c i) (s (n - i))) (L + 1) (K - L) fun i hi => by rw [co_out (by omega), mul_zero_left]
    rw [show L + 1 + (K - L) = K + 1 by omega] at this
    exact this
  · rw [← sumX_mul hb _ fun i _ => mul_lt _ (co_lt ho i)]
    have h3 : ∀ k, sumX (fun i => if g ≤ i then mul b (mul (co o (i - g)) (s (n - i))) else 0) (g + k) = sumX (fun i => mul b (mul (co o i) (s (n - g - i)))) k := by
      intro k
      induction k with
      | zero => exact sumX_zero _ fun i hi => by rw [if_neg (by omega)]
      | succ k ih =>
        rw [← Nat.add_assoc, sumX, ih, sumX, if_pos (by omega), show g + k - g = k by omega, show n - (g + k) = n - g - k by omega]
    have h4 := h3 (K + 1 - g)
    rw [show g + (K + 1 - g) = K + 1 by omega] at h4
    rw [h4]
    have := sumX_more (f := fun i => mul b (mul (co o i) (s (n - g - i)))) (M + 1) (K - g - M) fun i hi => by rw [co_out (by omega), mul_zero_left, mul_zero_right]
    rw [show M + 1 + (K - g - M) = K + 1 - g by omega] at this
    exact this
/-- The inverse. -/
noncomputable def inv (a : Nat) : Nat := pw (8191 - log a)
theorem inv_lt (a : Nat) : inv a < 8192 := pw_lt _
theorem inv_mul {a : Nat} (h0 : 0 < a) (h : a < 8192) : mul (inv a) a = 1 := by
  obtain ⟨h1, h2⟩ := log_spec h0 h
  have e : mul (inv a) a = mul (pw (8191 - log a)) (pw (log a)) := by rw [h2]; rfl
  rw [e, mul_pw, show 8191 - log a + log a = 8191 by omega, pw_order]
/-- The state of the search. -/
structure Bm where
  now : List Nat
  old : List Nat
  len : Nat
  gap : Nat
  last : Nat
def bm0 : Bm := ⟨[1], [1], 0, 1, 1⟩
def bmD (s : Nat → Nat) (z : Bm) (n : Nat) : Nat := disc (co z.now) s z.len n
noncomputable def bmStep (s : Nat → Nat) (n : Nat) (z : Bm) : Bm :=
  if bmD s z n = 0 then ⟨z.now, z.old, z.len, z.gap + 1, z.last⟩
  else if 2 * z.len ≤ n then ⟨addSh z.now z.old z.gap (mul (inv z.last) (bmD s z n)), z.now, n + 1 - z.len, 1, bmD s z n⟩
  else ⟨addSh z.now z.old z.gap (mul (inv z.last) (bmD s z n)), z.old, z.len, z.gap + 1, z.last⟩
noncomputable def bmN (s : Nat → Nat) : Nat → Bm
  | 0 => bm0
  | n + 1 => bmStep s n (bmN s n)
/-- What holds of the state behind n numbers. -/
structure BmI (s : Nat → Nat) (m n : Nat) (z : Bm) : Prop where
  an : AllF z.now
  ao : AllF z.old
  n0 : co z.now 0 = 1
  nl : z.now.length ≤ z.len + 1
  gen : ∀ k, z.len ≤ k → k < n → bmD s z k = 0
  lm : z.len ≤ m
  ln : z.len ≤ n
  l0 : 0 < z.last
  l1 : z.last < 8192
  g1 : 1 ≤ z.gap
  ini : (z.len = 0 ∧ z.gap = n + 1 ∧ z.old = [1] ∧ z.last = 1) ∨ ∃ r M, z.gap + r = n ∧ r + 1 = z.len + M ∧ z.old.length ≤ M + 1 ∧ (∀ k, M ≤ k → k < r → disc (co z.old) s M k = 0) ∧ disc (co z.old) s M r = z.last
theorem bm0_inv (s : Nat → Nat) (m : Nat) : BmI s m 0 bm0 :=
  ⟨by intro v hv; simp [bm0] at hv; omega, by intro v hv; simp [bm0] at hv; omega, rfl, by simp [bm0], fun k _ h => by omega, Nat.zero_le _, Nat.zero_le _, by simp [bm0], by simp [bm0], by simp [bm0], .inl ⟨rfl, rfl, rfl, rfl⟩⟩
theorem one_co (i : Nat) : co [1] (i + 1) = 0 := co_out (by simp)
theorem bm_step {s lam : Nat → Nat} {m n : Nat} {z : Bm} (hs : ∀ i, s i < 8192) (hl : ∀ i, lam i < 8192) (hl0 : lam 0 = 1) (h2 : ∀ k, m ≤ k → disc lam s m k = 0) (h : BmI s m n z) : BmI s m (n + 1) (bmStep s n z) := by
  obtain ⟨an, ao, n0, nl, gen, lm, ln, l0, l1, g1, ini⟩ := h
  have hd8 : bmD s z n < 8192 := disc_lt (co_lt an) _ _
  unfold bmStep
  by_cases hd : bmD s z n = 0
  · rw [if_pos hd]
    refine ⟨an, ao, n0, nl, fun k h1 h3 => ?_, lm, by show z.len ≤ n + 1; omega, l0, l1, by show 1 ≤ z.gap + 1; omega, ?_⟩
    · by_cases hk : k = n
      · subst hk; exact hd
      · exact gen k h1 (by omega)
    · rcases ini with ⟨i1, i2, i3, i4⟩ | ⟨r, M, i1, i2, i3, i4, i5⟩
      · exact .inl ⟨i1, by show z.gap + 1 = n + 1 + 1; omega, i3, i4⟩
      · exact .inr ⟨r, M, by show z.gap + 1 + r = n + 1; omega, i2, i3, i4, i5⟩
  · rw [if_neg hd]
    have hmas : n < z.len + m := by
      rcases Nat.lt_or_ge n (z.len + m) with h3 | h3
      · exact h3
      · exact absurd (massey (co_lt an) hl hs hl0 gen h2 h3) hd
    have hby : mul (inv z.last) (bmD s z n) < 8192 := mul_lt _ (inv_lt _)
    generalize hbe : mul (inv z.last) (bmD s z n) = by_ at *
    have hbl : mul by_ z.last = bmD s z n := by
      rw [← hbe, mul_comm (inv_lt _) hd8, mul_assoc hd8 (inv_lt _) l1, inv_mul l0 l1, mul_one hd8]
    have hnew : AllF (addSh z.now z.old z.gap by_) := addSh_lt an hby
    have hnew0 : co (addSh z.now z.old z.gap by_) 0 = 1 := by rw [addSh_co, if_neg (by omega), Nat.xor_zero]; exact n0
    -- the recurrence behind the step, of any length K that is great enough
    have hgen : ∀ K, z.len ≤ K → n + 1 ≤ K + z.len → (addSh z.now z.old z.gap by_).length ≤ K + 1 ∧ ∀ k, K ≤ k → k < n + 1 → disc (co (addSh z.now z.old z.gap by_)) s K k = 0 := by
      intro K hK1 hK2
      rcases ini with ⟨i1, i2, i3, i4⟩ | ⟨r, M, i1, i2, i3, i4, i5⟩
      · refine ⟨by rw [addSh_len, i3]; simp; omega, fun k h3 h4 => by omega⟩
      · refine ⟨by rw [addSh_len]; omega, fun k h3 h4 => ?_⟩
        rw [disc_addSh an ao hby hs nl i3 hK1 (by omega)]
        by_cases hk : k = n
        · subst hk
          rw [show k - z.gap = r by omega, i5, hbl]
          exact Nat.xor_self _
        · rw [i4 _ (by omega) (by omega), mul_zero_right, Nat.xor_zero]
          exact gen k (by omega) (by omega)
    by_cases h2l : 2 * z.len ≤ n
    · rw [if_pos h2l]
      obtain ⟨hg1, hg2⟩ := hgen (n + 1 - z.len) (by omega) (by omega)
      exact ⟨hnew, an, hnew0, hg1, hg2, by show n + 1 - z.len ≤ m; omega, by show n + 1 - z.len ≤ n + 1; omega, by show 0 < bmD s z n; omega, hd8, by show 1 ≤ 1; omega, .inr ⟨n, z.len, by show 1 + n = n + 1; omega, by show n + 1 = n + 1 - z.len + z.len; omega, nl, gen, rfl⟩⟩
    · rw [if_neg h2l]
      obtain ⟨hg1, hg2⟩ := hgen z.len (by omega) (by omega)
      refine ⟨hnew, ao, hnew0, hg1, hg2, lm, by show z.len ≤ n + 1; omega, l0, l1, by show 1 ≤ z.gap + 1; omega, ?_⟩
      rcases ini with ⟨i1, i2, i3, i4⟩ | ⟨r, M, i1, i2, i3, i4, i5⟩
      · omega
      · exact .inr ⟨r, M, by show z.gap + 1 + r = n + 1; omega, i2, i3, i4, i5⟩
theorem bm_inv {s lam : Nat → Nat} {m : Nat} (hs : ∀ i, s i < 8192) (hl : ∀ i, lam i < 8192) (hl0 : lam 0 = 1) (h2 : ∀ k, m ≤ k → disc lam s m k = 0) : ∀ n, BmI s m n (bmN s n)
  | 0 => bm0_inv s m
  | n + 1 => bm_step hs hl hl0 h2 (bm_inv hs hl hl0 h2 n)
/-! ### Sums of powers -/
/-- What is turned: the sums of the powers. -/
def syn (E : List Nat) (k : Nat) : Nat := sumL (fun x => pow x (k + 1)) E
theorem syn_lt {E : List Nat} (hE : AllF E) (k : Nat) : syn E k < 8192 := sumL_lt fun x hx => pow_lt (hE x hx) _
/-- A recurrence over sums of powers is a sum of values of what stands the other way round. -/
theorem disc_syn {c : List Nat} {E : List Nat} {L k : Nat} (hc : AllF c) (hE : AllF E) (hk : L ≤ k) :
    disc (co c) (syn E) L k = sumL (fun x => mul (pow x (k - L + 1)) (sumX (fun i => mul (co c (L - i)) (pow x i)) (L + 1))) E := by
  unfold disc syn
  have e1 : ∀ i, i < L + 1 → mul (co c i) (sumL (fun x => pow x (k - i + 1)) E) = sumL (fun x => mul (co c i) (pow x (k - i + 1))) E := fun i _ => (sumL_mul (co_lt hc i)).symm
  rw [sumX_congr _ e1, sumL_sumX]
  refine sumL_congr fun x hx => ?_
  have hx8 := hE x hx
  rw [← sumX_mul (pow_lt hx8 _) _ fun i _ => mul_lt _ (co_lt hc _), sumX_rev]
  refine sumX_congr _ fun i hi => ?_
  rw [mul_comm (pow_lt hx8 (k - L + 1)) (mul_lt _ (co_lt hc _)), mul_assoc (co_lt hc _) (pow_lt hx8 _) (pow_lt hx8 _), ← pow_add hx8]
  congr 2
  omega
/-- The other way round. -/
def star (c : List Nat) (L : Nat) : List Nat := (List.range (L + 1)).map fun i => co c (L - i)
theorem star_len (c : List Nat) (L : Nat) : (star c L).length = L + 1 := by simp [star]
theorem star_at {c : List Nat} {L i : Nat} (h : i ≤ L) : (star c L).getD i 0 = co c (L - i) := by
  unfold star
  rw [List.getD_eq_getElem?_getD, List.getElem?_map, List.getElem?_range (by omega)]
  rfl
theorem star_lt {c : List Nat} (hc : AllF c) (L : Nat) : AllF (star c L) := by
  intro v hv
  obtain ⟨i, _, rfl⟩ := List.mem_map.1 hv
  exact co_lt hc _
theorem ev_star {c : List Nat} {L x : Nat} (hc : AllF c) (hx : x < 8192) : ev (star c L) x = sumX (fun i => mul (co c (L - i)) (pow x i)) (L + 1) := by
  rw [ev_sum hx (star_lt hc L), star_len]
  exact sumX_congr _ fun i hi => by rw [star_at (by omega)]
theorem disc_star {c : List Nat} {E : List Nat} {L k : Nat} (hc : AllF c) (hE : AllF E) (hk : L ≤ k) : disc (co c) (syn E) L k = sumL (fun x => mul (pow x (k - L + 1)) (ev (star c L) x)) E := by
  rw [disc_syn hc hE hk]
  exact sumL_congr fun x hx => by rw [ev_star hc (hE x hx)]
/-- The true one. -/
def locP (E : List Nat) : List Nat := star (prodL [1] E) E.length
theorem locP_lt (E : List Nat) : AllF (locP E) := star_lt (prodL_lt _ one_lt) _
theorem prod_len (E : List Nat) : (prodL [1] E).length = E.length + 1 := by rw [prodL_len]; simp; omega
theorem prod_top (E : List Nat) : co (prodL [1] E) E.length = 1 := by
  have := prodL_top E (c := [1]) (by simp) rfl
  simpa [co] using this
theorem locP_zero (E : List Nat) : co (locP E) 0 = 1 := by
  show (star (prodL [1] E) E.length).getD 0 0 = 1
  rw [star_at (Nat.zero_le _)]
  exact prod_top E
theorem star_star {c : List Nat} {L : Nat} (h : c.length = L + 1) : star (star c L) L = c := by
  refine list_ext (by rw [star_len, h]) fun i => ?_
  by_cases hi : i ≤ L
  · rw [star_at hi]
    show (star c L).getD (L - i) 0 = _
    rw [star_at (by omega), show L - (L - i) = i by omega]
    rfl
  · rw [List.getD_eq_getElem?_getD, List.getD_eq_getElem?_getD, List.getElem?_eq_none (by rw [star_len]; omega), List.getElem?_eq_none (by omega)]
theorem locP_gen {E : List Nat} (hE : AllF E) (k : Nat) (hk : E.length ≤ k) : disc (co (locP E)) (syn E) E.length k = 0 := by
  rw [disc_star (locP_lt E) hE hk]
  refine sumL_zero fun x hx => ?_
  unfold locP
  rw [star_star (prod_len E), (prodL_zero (hE x hx) E one_lt hE).2 (.inr hx), mul_zero_right]
/-- Sums of as many powers as there are elements are zero only if each is. -/
theorem vander {v : Nat → Nat} {E : List Nat} (hE : AllF E) (h0 : ∀ x ∈ E, 0 < x) (hd : E.Nodup) (hv : ∀ x ∈ E, v x < 8192) (hz : ∀ j, j < E.length → sumL (fun x => mul (pow x (j + 1)) (v x)) E = 0) : ∀ a ∈ E, v a = 0 := by
  intro a ha
  have hp : ∀ p : List Nat, AllF p → p.length ≤ E.length → sumL (fun x => mul (mul x (ev p x)) (v x)) E = 0 := by
    intro p hpf hpl
    have e1 : ∀ x ∈ E, mul (mul x (ev p x)) (v x) = sumX (fun i => mul (p.getD i 0) (mul (pow x (i + 1)) (v x))) p.length := by
      intro x hx
      have hx8 := hE x hx
      rw [mul_assoc hx8 (ev_lt hpf) (hv x hx), mul_comm (ev_lt hpf) (hv x hx), ev_sum hx8 hpf]
      rw [← sumX_mul (hv x hx) _ fun i _ => mul_lt _ (hpf.getD i), ← sumX_mul hx8 _ fun i _ => mul_lt _ (hv x hx)]
      refine sumX_congr _ fun i _ => ?_
      have hp8 := hpf.getD i
      have hw8 := pow_lt hx8 i
      have hv8 := hv x hx
      show _ = mul (p.getD i 0) (mul (mul (pow x i) x) (v x))
      generalize p.getD i 0 = q at *
      generalize pow x i = y at *
      generalize v x = u at *
      rw [mul_comm hx8 (mul_lt _ hv8), ← mul_assoc hv8 hp8 hw8, mul_comm hv8 hp8, mul_assoc hp8 hv8 hw8, mul_assoc hp8 (mul_lt _ hv8) hx8]
      congr 1
      rw [mul_comm (mul_lt _ hw8) hv8, ← mul_assoc hv8 hw8 hx8]
    rw [sumL_congr e1, ← sumL_sumX]
    refine sumX_zero _ fun i hi => ?_
    rw [sumL_mul (hpf.getD i), hz i (by omega), mul_zero_right]
  have hEr : AllF (E.erase a) := fun x hx => hE x (List.mem_of_mem_erase hx)
  have h1 := hp (prodL [1] (E.erase a)) (prodL_lt _ one_lt) (by rw [prod_len, List.length_erase_of_mem ha]; have := List.length_pos_of_mem ha; omega)
  rw [sumL_one hd ha fun x hx hne => by rw [(prodL_zero (hE x hx) _ one_lt hEr).2 (.inr ((List.mem_erase_of_ne hne).2 hx)), mul_zero_right, mul_zero_left]] at h1
  have ha8 := hE a ha
  rcases mul_eq_zero (mul_lt _ ha8) (hv a ha) h1 with h2 | h2
  · rcases mul_eq_zero ha8 (ev_lt (prodL_lt _ one_lt)) h2 with h3 | h3
    · have := h0 a ha; omega
    · rcases (prodL_zero ha8 _ one_lt hEr).1 h3 with h4 | h4
      · simp [ev, mul_zero_left] at h4
      · exact absurd h4 ((List.Nodup.not_mem_erase) hd)
  · exact h2
/-- What the search has found behind 2t sums, if no more than t were turned. -/
structure Found (E c : List Nat) : Prop where
  lt : AllF c
  len : c.length = E.length + 1
  top : co c E.length ≠ 0
  zero : ∀ x, x < 8192 → 0 < x → (ev (star c E.length) x = 0 ↔ x ∈ E)
theorem bm_found {E : List Nat} {t : Nat} (hE : AllF E) (h0 : ∀ x ∈ E, 0 < x) (hd : E.Nodup) (ht : E.length ≤ t) : Found E (bmN (syn E) (2 * t)).now := by
  have h := bm_inv (fun i => syn_lt hE i) (co_lt (locP_lt E)) (locP_zero E) (fun k hk => locP_gen hE k hk) (2 * t)
  generalize bmN (syn E) (2 * t) = z at *
  have hL : z.len ≤ E.length := h.lm
  have hs8 : AllF (star z.now z.len) := star_lt h.an _
  have hz : ∀ x ∈ E, ev (star z.now z.len) x = 0 := by
    refine vander hE h0 hd (fun x _ => ev_lt hs8) fun j hj => ?_
    have h1 := h.gen (z.len + j) (by omega) (by omega)
    unfold bmD at h1
    rw [disc_star h.an hE (by omega), show z.len + j - z.len + 1 = j + 1 by omega] at h1
    exact h1
  have hone : (star z.now z.len).getD z.len 0 = 1 := by rw [star_at (Nat.le_refl _), Nat.sub_self]; exact h.n0
  have hnz : ¬ ∀ v ∈ star z.now z.len, v = 0 := fun hv => by
    have hl : z.len < (star z.now z.len).length := by rw [star_len]; omega
    rw [List.getD_eq_getElem?_getD, List.getElem?_eq_getElem hl] at hone
    have := hv _ (List.getElem_mem hl)
    simp at hone
    omega
  have hlen : z.len = E.length := by
    rcases Nat.lt_or_ge z.len E.length with h1 | h1
    · exact absurd (few_roots E hs8 hE hd (by rw [star_len]; omega) hz) hnz
    · omega
  have htop : co z.now E.length ≠ 0 := by
    intro ht0
    rw [hlen] at hs8 hz hnz
    have hst : star z.now E.length = 0 :: (star z.now E.length).tail := by
      have hl := star_len z.now E.length
      have h0 := star_at (c := z.now) (L := E.length) (Nat.zero_le _)
      rw [Nat.sub_zero, ht0] at h0
      generalize star z.now E.length = q at *
      cases q with
      | nil => simp at hl
      | cons a q => simp at h0; rw [h0]; rfl
    have ht8 : AllF (star z.now E.length).tail := fun v hv => hs8 v (List.mem_of_mem_tail hv)
    have hall := few_roots E ht8 hE hd (by rw [List.length_tail, star_len]; omega) fun x hx => by
      have h1 := hz x hx
      rw [hst, ev, Nat.zero_xor] at h1
      rcases mul_eq_zero (ev_lt ht8) (hE x hx) h1 with h2 | h2
      · exact h2
      · have := h0 x hx; omega
    refine hnz fun v hv => ?_
    rw [hst] at hv
    rcases List.mem_cons.1 hv with h1 | h1
    · exact h1
    · exact hall v h1
  refine ⟨h.an, ?_, htop, fun x hx hx0 => ?_⟩
  · have h1 := h.nl
    rcases Nat.lt_or_ge z.now.length (E.length + 1) with h2 | h2
    · exact absurd (co_out (by omega)) htop
    · omega
  · rw [hlen] at hs8 hz hnz
    refine ⟨fun he => ?_, hz x⟩
    by_cases hm : x ∈ E
    · exact hm
    · refine absurd (few_roots (x :: E) hs8 (fun y hy => ?_) (List.nodup_cons.2 ⟨hm, hd⟩) (by rw [star_len]; simp) fun y hy => ?_) hnz
      · rcases List.mem_cons.1 hy with rfl | hy
        · exact hx
        · exact hE y hy
      · rcases List.mem_cons.1 hy with rfl | hy
        · exact he
        · exact hz y hy
end Go.Proofs.YtkgacnenmflegaaGreatDoor.Gf
namespace Go.Proofs.YtkgacnenmflegaaGreatDoor
open Go.RowKit

/-- The i-th bit. -/
def bitB (l : List UInt8) (i : Nat) : Bool := (l.getD (i / 8) 0).toNat.testBit (7 - i % 8)
theorem bitB_out {l : List UInt8} {i : Nat} (h : 8 * l.length ≤ i) : bitB l i = false := by
  unfold bitB
  rw [List.getD_eq_getElem?_getD, List.getElem?_eq_none (by omega)]
  simp
theorem bitB_zeros (n i : Nat) : bitB (List.replicate n 0) i = false := by
  unfold bitB
  have : (List.replicate n (0 : UInt8)).getD (i / 8) 0 = 0 := by
    rw [List.getD_eq_getElem?_getD, List.getElem?_replicate]
    split <;> rfl
  rw [this]
  simp
theorem bitB_cons (x : UInt8) (l : List UInt8) (i : Nat) : bitB (x :: l) (i + 8) = bitB l i := by
  unfold bitB
  rw [show (i + 8) / 8 = i / 8 + 1 by omega, show (i + 8) % 8 = i % 8 by omega, List.getD_cons_succ]
theorem bitB_head (x : UInt8) (l : List UInt8) {i : Nat} (h : i < 8) : bitB (x :: l) i = x.toNat.testBit (7 - i) := by
  unfold bitB
  rw [show i / 8 = 0 by omega, show i % 8 = i by omega]
  rfl
theorem bitB_app {a b : List UInt8} {i : Nat} (h : i < 8 * a.length) : bitB (a ++ b) i = bitB a i := by
  unfold bitB
  rw [List.getD_eq_getElem?_getD, List.getElem?_append_left (by omega), ← List.getD_eq_getElem?_getD]
theorem bitB_app2 (a b : List UInt8) (i : Nat) : bitB (a ++ b) (8 * a.length + i) = bitB b i := by
  unfold bitB
  rw [List.getD_eq_getElem?_getD, List.getElem?_append_right (by omega), ← List.getD_eq_getElem?_getD, show (8 * a.length + i) / 8 - a.length = i / 8 by omega, show (8 * a.length + i) % 8 = i % 8 by omega]
theorem byte_ext {x y : UInt8} (h : ∀ j, j < 8 → x.toNat.testBit j = y.toNat.testBit j) : x = y := by
  apply UInt8.toNat_inj.1
  apply Nat.eq_of_testBit_eq
  intro j
  by_cases hj : j < 8
  · exact h j hj
  · have h1 := x.toNat_lt
    have h2 := y.toNat_lt
    have hp : 2 ^ 8 ≤ 2 ^ j := Nat.pow_le_pow_right (by omega) (by omega)
    rw [Nat.testBit_lt_two_pow (by omega), Nat.testBit_lt_two_pow (by omega)]
theorem bits_ext : ∀ {a b : List UInt8}, a.length = b.length → (∀ i, i < 8 * a.length → bitB a i = bitB b i) → a = b
  | [], [], _, _ => rfl
  | x :: a, y :: b, hl, h => by
    have h1 : x = y := byte_ext fun j hj => by
      have := h (7 - j) (by simp; omega)
      rwa [bitB_head _ _ (by omega), bitB_head _ _ (by omega), show 7 - (7 - j) = j by omega] at this
    have h2 : a = b := bits_ext (by simpa using hl) fun i hi => by
      have := h (i + 8) (by simp; omega)
      rwa [bitB_cons, bitB_cons] at this
    rw [h1, h2]
theorem bitB_xor : ∀ {a b : List UInt8} (i : Nat), a.length = b.length → bitB (xorL a b) i = (bitB a i ^^ bitB b i)
  | [], [], i, _ => by simp [xorL, bitB]
  | x :: a, y :: b, i, h => by
    have e : xorL (x :: a) (y :: b) = (x ^^^ y) :: xorL a b := rfl
    rw [e]
    by_cases hi : i < 8
    · rw [bitB_head _ _ hi, bitB_head _ _ hi, bitB_head _ _ hi, UInt8.toNat_xor, Nat.testBit_xor]
    · obtain ⟨j, rfl⟩ : ∃ j, i = j + 8 := ⟨i - 8, by omega⟩
      rw [bitB_cons, bitB_cons, bitB_cons, bitB_xor j (by simpa using h)]
theorem left_bits : ∀ n, n < 256 → ∀ o, o < 2 → ∀ j, j < 8 → ((UInt8.ofNat n <<< 1) ||| UInt8.ofNat o).toNat.testBit (7 - j) = if j < 7 then n.testBit (6 - j) else o.testBit 0 := by decide +kernel
theorem top_bits : ∀ n, n < 256 → (UInt8.ofNat n >>> 7) = if n.testBit 7 then 1 else 0 := by decide +kernel
theorem leftL_out (l : List UInt8) : (leftL l).2 = if bitB l 0 then 1 else 0 := by
  cases l with
  | nil => rfl
  | cons x r =>
    have h := top_bits x.toNat x.toNat_lt
    rw [UInt8.ofNat_toNat] at h
    rw [bitB_head _ _ (by omega)]
    exact h
theorem bitB_left : ∀ (l : List UInt8) (i : Nat), bitB (leftL l).1 i = bitB l (i + 1)
  | [], i => by simp [leftL, bitB]
  | x :: r, i => by
    have e : (leftL (x :: r)).1 = ((x <<< 1) ||| (leftL r).2) :: (leftL r).1 := rfl
    rw [e]
    by_cases hi : i < 8
    · rw [bitB_head _ _ hi]
      have ho := leftL_out r
      have hz := left_bits x.toNat x.toNat_lt (if bitB r 0 then 1 else 0) (by split <;> omega) i hi
      rw [UInt8.ofNat_toNat] at hz
      have e2 : UInt8.ofNat (if bitB r 0 then 1 else 0) = (leftL r).2 := by rw [ho]; split <;> rfl
      rw [e2] at hz
      rw [hz]
      by_cases h7 : i < 7
      · rw [if_pos h7, bitB_head _ _ (by omega), show 7 - (i + 1) = 6 - i by omega]
      · obtain rfl : i = 7 := by omega
        rw [if_neg h7, bitB_cons x r 0]
        cases bitB r 0 <;> rfl
    · obtain ⟨j, rfl⟩ : ∃ j, i = j + 8 := ⟨i - 8, by omega⟩
      rw [bitB_cons, bitB_left r j, show j + 8 + 1 = (j + 1) + 8 by omega, bitB_cons]
/-! ### Values -/
/-- The value of the first n bits, the first one's power the highest. -/
def vrow (l : List UInt8) (x : Nat) : Nat → Nat
  | 0 => 0
  | i + 1 => Gf.mul (vrow l x i) x ^^^ (bitB l i).toNat
theorem bool_lt (b : Bool) : b.toNat < 8192 := by cases b <;> decide
theorem vrow_lt (l : List UInt8) {x : Nat} (hx : x < 8192) : ∀ n, vrow l x n < 8192
  | 0 => by simp [vrow]
  | n + 1 => Gf.xor_lt (Gf.mul_lt _ (vrow_lt l hx n)) (bool_lt _)
theorem bool_xor (a b : Bool) : (a ^^ b).toNat = a.toNat ^^^ b.toNat := by cases a <;> cases b <;> rfl
theorem vrow_xor {a b : List UInt8} (h : a.length = b.length) {x : Nat} (hx : x < 8192) : ∀ n, vrow (xorL a b) x n = vrow a x n ^^^ vrow b x n
  | 0 => by simp [vrow]
  | n + 1 => by
    simp only [vrow]
    rw [vrow_xor h hx n, bitB_xor _ h, bool_xor, Gf.mul_xor_left _ (vrow_lt a hx n) (vrow_lt b hx n)]
    ac_rfl
theorem vrow_congr {a b : List UInt8} {x : Nat} : ∀ n, (∀ i, i < n → bitB a i = bitB b i) → vrow a x n = vrow b x n
  | 0, _ => rfl
  | n + 1, h => by simp only [vrow]; rw [vrow_congr n fun i hi => h i (by omega), h n (by omega)]
theorem vrow_zero {a : List UInt8} {x : Nat} : ∀ n, (∀ i, i < n → bitB a i = false) → vrow a x n = 0
  | 0, _ => rfl
  | n + 1, h => by simp only [vrow]; rw [vrow_zero n fun i hi => h i (by omega), h n (by omega), Gf.mul_zero_left]; rfl
/-- One bit more on the left. -/
theorem vrow_front {l : List UInt8} {x : Nat} (hx : x < 8192) : ∀ n, vrow l x (n + 1) = Gf.mul (bitB l 0).toNat (Gf.pow x n) ^^^ vrow (leftL l).1 x n
  | 0 => by
    simp only [vrow, Gf.mul_zero_left, Nat.zero_xor, Nat.xor_zero]
    exact (Gf.mul_one (bool_lt _)).symm
  | n + 1 => by
    rw [vrow, vrow_front hx n, Gf.mul_xor_left _ (Gf.mul_lt _ (bool_lt _)) (vrow_lt _ hx n), Gf.mul_assoc (bool_lt _) (Gf.pow_lt hx n) hx]
    rw [Nat.xor_assoc]
    congr 1
    simp only [vrow]
    rw [bitB_left]
/-- The bit of a byte as a number. -/
theorem bitAt_all : ∀ n, n < 256 → ∀ k, k < 8 → (UInt8.ofNat n >>> UInt8.ofNat k) &&& 1 = if n.testBit k then 1 else 0 := by decide +kernel
theorem bitAt_if (x : UInt8) {k : Nat} (h : k < 8) : bitAt x k = if x.toNat.testBit k then 1 else 0 := by
  have := bitAt_all x.toNat x.toNat_lt k h
  rwa [UInt8.ofNat_toNat] at this
/-- One bit of the division: the value times x, and the bit so much higher. -/
theorem vrow_step {low r : List UInt8} {n x : Nat} {c : Bool} (hx : x < 8192) (h : low.length = r.length) (hl : vrow low x n = Gf.pow x n) (hr : ∀ i, n ≤ i → bitB r i = false) :
    vrow (stepB low r (if c then 1 else 0)) x n = Gf.mul (vrow r x n) x ^^^ Gf.mul c.toNat (Gf.pow x n) := by
  have h1 := vrow_front (l := r) hx n
  have h2 : vrow r x (n + 1) = Gf.mul (vrow r x n) x := by simp only [vrow]; rw [hr n (Nat.le_refl _)]; exact Nat.xor_zero _
  rw [h2] at h1
  have hp := Gf.pow_lt hx n
  unfold stepB
  rw [leftL_out, h1]
  generalize Gf.pow x n = p at *
  cases hb : bitB r 0 <;> cases c
  · rw [if_pos rfl]; simp [Gf.mul_zero_left]
  · rw [if_neg (by decide), vrow_xor (by rw [leftL_len, h]) hx, hl]
    simp [Gf.mul_zero_left, Gf.one_mul hp]
  · rw [if_neg (by decide), vrow_xor (by rw [leftL_len, h]) hx, hl]
    simp [Gf.mul_zero_left, Gf.one_mul hp, Nat.xor_comm]
  · rw [if_pos rfl]
    simp only [Bool.toNat_true, Gf.one_mul hp]
    rw [Nat.xor_comm p, Gf.xor_cancel]
theorem step_tail {low r : List UInt8} {n : Nat} {b : UInt8} (h : low.length = r.length) (hl : ∀ i, n ≤ i → bitB low i = false) (hr : ∀ i, n ≤ i → bitB r i = false) : ∀ i, n ≤ i → bitB (stepB low r b) i = false := by
  intro i hi
  unfold stepB
  split
  · rw [bitB_left]; exact hr _ (by omega)
  · rw [bitB_xor _ (by rw [leftL_len, h]), bitB_left, hr _ (by omega), hl i hi]; rfl
/-- A byte's bits from the k-th on down. -/
def vbyte (y x : Nat) : Nat → Nat
  | 0 => 0
  | k + 1 => Gf.mul (y.testBit k).toNat (Gf.pow x k) ^^^ vbyte y x k
theorem vbyte_lt {y x : Nat} : ∀ k, vbyte y x k < 8192
  | 0 => by simp [vbyte]
  | k + 1 => Gf.xor_lt (Gf.mul_lt _ (bool_lt _)) (vbyte_lt k)
theorem vrow_bits {low : List UInt8} {n x : Nat} (y : UInt8) (hx : x < 8192) (hl : vrow low x n = Gf.pow x n) (hz : ∀ i, n ≤ i → bitB low i = false) : ∀ (k : Nat) {r : List UInt8}, k ≤ 8 → low.length = r.length → (∀ i, n ≤ i → bitB r i = false) →
    vrow (bitsD low y r k) x n = Gf.mul (vrow r x n) (Gf.pow x k) ^^^ Gf.mul (vbyte y.toNat x k) (Gf.pow x n) ∧ (∀ i, n ≤ i → bitB (bitsD low y r k) i = false)
  | 0, r, _, _, hr => by
    simp only [bitsD, vbyte, Gf.mul_zero_left, Nat.xor_zero]
    exact ⟨(Gf.mul_one (vrow_lt r hx n)).symm, hr⟩
  | k + 1, r, hk, h, hr => by
    have h1 := stepB_len h (bitAt y k)
    obtain ⟨h2, h3⟩ := vrow_bits y hx hl hz k (r := stepB low r (bitAt y k)) (by omega) (by rw [h1, h]) (step_tail h hz hr)
    refine ⟨?_, h3⟩
    rw [bitsD, h2, bitAt_if y (by omega), vrow_step hx h hl hr]
    have hv := vrow_lt r hx n
    have hpk := Gf.pow_lt hx k
    have hpn := Gf.pow_lt hx n
    have hb := bool_lt (y.toNat.testBit k)
    have hy := vbyte_lt (y := y.toNat) (x := x) k
    have e : Gf.pow x (k + 1) = Gf.mul x (Gf.pow x k) := by rw [Nat.add_comm, Gf.pow_add hx, Gf.pow_one hx]
    rw [e, vbyte]
    generalize vrow r x n = v at *
    generalize Gf.pow x k = pk at *
    generalize Gf.pow x n = pn at *
    generalize (y.toNat.testBit k).toNat = b at *
    generalize vbyte y.toNat x k = z at *
    rw [Gf.mul_xor_left _ (Gf.mul_lt _ hv) (Gf.mul_lt _ hb), Gf.mul_assoc hv hx hpk, Gf.mul_xor_left _ (Gf.mul_lt _ hb) hy, Gf.mul_right_comm hb hpn hpk]
    ac_rfl
theorem vbyte_row {y : UInt8} {l : List UInt8} {x : Nat} (hx : x < 8192) (v : Nat) (hv : v < 8192) : ∀ k, k ≤ 8 → ∀ f : Nat → Nat, f 0 = v → (∀ j, j < k → f (j + 1) = Gf.mul (f j) x ^^^ (bitB (y :: l) (8 - k + j)).toNat) → f k = Gf.mul v (Gf.pow x k) ^^^ vbyte y.toNat x k := by
  intro k
  induction k generalizing v with
  | zero => intro _ f h0 _; simp only [vbyte, Nat.xor_zero]; rw [h0]; exact (Gf.mul_one hv).symm
  | succ k ih =>
    intro hk f h0 hf
    have h1 := hf 0 (by omega)
    rw [h0, bitB_head _ _ (by omega), show 7 - (8 - (k + 1) + 0) = k by omega] at h1
    have hb := bool_lt (y.toNat.testBit k)
    have h2 := ih (Gf.mul v x ^^^ (y.toNat.testBit k).toNat) (Gf.xor_lt (Gf.mul_lt _ hv) hb) (by omega) (fun j => f (j + 1)) h1 (fun j hj => by
      have := hf (j + 1) (by omega)
      rw [show 8 - (k + 1) + (j + 1) = 8 - k + j by omega] at this
      exact this)
    rw [h2, vbyte]
    have hpk := Gf.pow_lt hx k
    have e : Gf.pow x (k + 1) = Gf.mul x (Gf.pow x k) := by rw [Nat.add_comm, Gf.pow_add hx, Gf.pow_one hx]
    rw [e, Gf.mul_xor_left _ (Gf.mul_lt _ hv) hb, Gf.mul_assoc hv hx hpk]
    ac_rfl
/-- The bits ahead, and those of the last byte. -/
theorem vrow_cons {y : UInt8} {l : List UInt8} {x : Nat} (hx : x < 8192) : ∀ n, vrow (y :: l) x (8 + n) = Gf.mul (vbyte y.toNat x 8) (Gf.pow x n) ^^^ vrow l x n
  | 0 => by
    have := vbyte_row (y := y) (l := l) hx 0 (by omega) 8 (by omega) (vrow (y :: l) x) rfl fun j _ => by rw [vrow, show 8 - 8 + j = j by omega]
    rw [Gf.mul_zero_left, Nat.zero_xor] at this
    rw [Nat.add_zero, this]
    simp only [vrow, Nat.xor_zero]
    exact (Gf.mul_one (vbyte_lt 8)).symm
  | n + 1 => by
    rw [← Nat.add_assoc, vrow, vrow_cons hx n, vrow, Gf.mul_xor_left _ (Gf.mul_lt _ (vbyte_lt 8)) (vrow_lt l hx n), Gf.mul_assoc (vbyte_lt 8) (Gf.pow_lt hx n) hx, Nat.add_comm 8 n, bitB_cons, Nat.xor_assoc]
    rfl
theorem vrow_div {low : List UInt8} {n x : Nat} (hx : x < 8192) (hl : vrow low x n = Gf.pow x n) (hz : ∀ i, n ≤ i → bitB low i = false) : ∀ (d : List UInt8) {r : List UInt8}, low.length = r.length → (∀ i, n ≤ i → bitB r i = false) →
    vrow (divD low r d) x n = Gf.mul (vrow r x n) (Gf.pow x (8 * d.length)) ^^^ Gf.mul (vrow d x (8 * d.length)) (Gf.pow x n) ∧ (∀ i, n ≤ i → bitB (divD low r d) i = false)
  | [], r, _, hr => by
    simp only [divD, List.length_nil, Nat.mul_zero, vrow, Gf.mul_zero_left, Nat.xor_zero]
    exact ⟨(Gf.mul_one (vrow_lt r hx n)).symm, hr⟩
  | y :: d, r, h, hr => by
    rw [divD_cons]
    have hb : byteD low y r = bitsD low y r 8 := by unfold byteD; rfl
    obtain ⟨h1, h2⟩ := vrow_bits y hx hl hz 8 (Nat.le_refl _) h hr
    rw [← hb] at h1 h2
    obtain ⟨h3, h4⟩ := vrow_div hx hl hz d (r := byteD low y r) (by rw [byteD_len y h, h]) h2
    refine ⟨?_, h4⟩
    rw [h3, h1, List.length_cons, show 8 * (d.length + 1) = 8 + 8 * d.length by omega, vrow_cons hx, Gf.pow_add hx]
    have hv := vrow_lt r hx n
    have hp8 := Gf.pow_lt hx 8
    have hpn := Gf.pow_lt hx n
    have hpd := Gf.pow_lt hx (8 * d.length)
    have hy := vbyte_lt (y := y.toNat) (x := x) 8
    have hd := vrow_lt d hx (8 * d.length)
    generalize vrow r x n = v at *
    generalize Gf.pow x 8 = p8 at *
    generalize Gf.pow x n = pn at *
    generalize Gf.pow x (8 * d.length) = pd at *
    generalize vbyte y.toNat x 8 = z at *
    generalize vrow d x (8 * d.length) = u at *
    rw [Gf.mul_xor_left _ (Gf.mul_lt _ hv) (Gf.mul_lt _ hy), Gf.mul_assoc hv hp8 hpd, Gf.mul_xor_left _ (Gf.mul_lt _ hy) hd, Gf.mul_right_comm hy hpn hpd, Nat.xor_assoc]
/-- Two rows one behind the other. -/
theorem vrow_app {a b : List UInt8} {x : Nat} (hx : x < 8192) : ∀ n, vrow (a ++ b) x (8 * a.length + n) = Gf.mul (vrow a x (8 * a.length)) (Gf.pow x n) ^^^ vrow b x n
  | 0 => by
    rw [Nat.add_zero, vrow_congr _ fun i hi => bitB_app hi]
    simp only [vrow, Nat.xor_zero]
    exact (Gf.mul_one (vrow_lt a hx _)).symm
  | n + 1 => by
    rw [← Nat.add_assoc, vrow, vrow_app hx n, vrow, Gf.mul_xor_left _ (Gf.mul_lt _ (vrow_lt a hx _)) (vrow_lt b hx n), Gf.mul_assoc (vrow_lt a hx _) (Gf.pow_lt hx n) hx, bitB_app2, Nat.xor_assoc]
    rfl
/-- The exponents of the bits that are set. -/
def setE (l : List UInt8) (n : Nat) : List Nat := ((List.range n).filter fun i => bitB l i).map fun i => n - 1 - i
theorem setE_mem {l : List UInt8} {n e : Nat} : e ∈ setE l n ↔ e < n ∧ bitB l (n - 1 - e) = true := by
  unfold setE
  simp only [List.mem_map, List.mem_filter, List.mem_range]
  constructor
  · rintro ⟨i, ⟨h1, h2⟩, rfl⟩
    exact ⟨by omega, by rw [show n - 1 - (n - 1 - i) = i by omega]; exact h2⟩
  · rintro ⟨h1, h2⟩
    exact ⟨n - 1 - e, ⟨by omega, h2⟩, by omega⟩
theorem nodup_map {f : Nat → Nat} : ∀ {l : List Nat}, (∀ a ∈ l, ∀ b ∈ l, f a = f b → a = b) → l.Nodup → (l.map f).Nodup
  | [], _, _ => List.nodup_nil
  | x :: l, h, hd => by
    have hd2 := List.nodup_cons.1 hd
    refine List.nodup_cons.2 ⟨fun hm => ?_, nodup_map (fun a ha b hb => h a (by simp [ha]) b (by simp [hb])) hd2.2⟩
    obtain ⟨y, hy, he⟩ := List.mem_map.1 hm
    have := h y (by simp [hy]) x (by simp) he
    exact hd2.1 (this ▸ hy)
theorem setE_nodup (l : List UInt8) (n : Nat) : (setE l n).Nodup := by
  unfold setE
  refine nodup_map ?_ ((List.nodup_range).filter _)
  intro i hi j hj h
  have h1 := List.mem_range.1 (List.mem_filter.1 hi).1
  have h2 := List.mem_range.1 (List.mem_filter.1 hj).1
  omega
theorem setE_succ (l : List UInt8) (n : Nat) : setE l (n + 1) = (setE l n).map (· + 1) ++ if bitB l n then [0] else [] := by
  unfold setE
  rw [List.range_succ, List.filter_append, List.map_append, List.map_map]
  congr 1
  · refine List.map_congr_left fun i hi => ?_
    have := List.mem_range.1 (List.mem_filter.1 hi).1
    show n + 1 - 1 - i = n - 1 - i + 1
    omega
  · cases h : bitB l n <;> simp [h]
theorem sumL_app (f : Nat → Nat) : ∀ a b, Gf.sumL f (a ++ b) = Gf.sumL f a ^^^ Gf.sumL f b
  | [], b => by simp [Gf.sumL]
  | x :: a, b => by simp only [List.cons_append, Gf.sumL, sumL_app f a b]; ac_rfl
theorem sumL_map (f g : Nat → Nat) : ∀ a, Gf.sumL f (a.map g) = Gf.sumL (fun x => f (g x)) a
  | [] => rfl
  | x :: a => by simp only [List.map_cons, Gf.sumL, sumL_map f g a]
theorem vrow_sum (l : List UInt8) {x : Nat} (hx : x < 8192) : ∀ n, vrow l x n = Gf.sumL (fun e => Gf.pow x e) (setE l n)
  | 0 => rfl
  | n + 1 => by
    rw [setE_succ, sumL_app, sumL_map, vrow, vrow_sum l hx n]
    congr 1
    · rw [Gf.mul_comm (Gf.sumL_lt fun e _ => Gf.pow_lt hx e) hx, ← Gf.sumL_mul hx]
      exact Gf.sumL_congr fun e _ => by rw [Gf.mul_comm hx (Gf.pow_lt hx e)]; rfl
    · cases bitB l n <;> simp [Gf.sumL, Gf.pow]
/-- The elements that the bits stand for. -/
def locs (l : List UInt8) (n : Nat) : List Nat := (setE l n).map Gf.pw
theorem locs_lt (l : List UInt8) (n : Nat) : Gf.AllF (locs l n) := by
  intro v hv
  obtain ⟨e, _, rfl⟩ := List.mem_map.1 hv
  exact Gf.pw_lt e
theorem locs_pos (l : List UInt8) (n : Nat) : ∀ x ∈ locs l n, 0 < x := by
  intro v hv
  obtain ⟨e, _, rfl⟩ := List.mem_map.1 hv
  exact Gf.pw_pos e
theorem locs_nodup {l : List UInt8} {n : Nat} (hn : n ≤ 8191) : (locs l n).Nodup := by
  refine nodup_map ?_ (setE_nodup l n)
  intro i hi j hj h
  exact Gf.pw_inj (by have := (setE_mem.1 hi).1; omega) (by have := (setE_mem.1 hj).1; omega) h
theorem locs_mem {l : List UInt8} {n e : Nat} (hn : n ≤ 8191) (he : e < n) : Gf.pw e ∈ locs l n ↔ bitB l (n - 1 - e) = true := by
  unfold locs
  rw [List.mem_map]
  constructor
  · rintro ⟨e', h1, h2⟩
    have h3 := setE_mem.1 h1
    obtain rfl := Gf.pw_inj (by omega) (by omega) h2
    exact h3.2
  · intro h
    exact ⟨e, setE_mem.2 ⟨he, h⟩, rfl⟩
/-- The syndromes are the sums of the powers. -/
theorem vrow_syn (l : List UInt8) (n k : Nat) : vrow l (Gf.pw (k + 1)) n = Gf.syn (locs l n) k := by
  rw [vrow_sum l (Gf.pw_lt _)]
  unfold Gf.syn locs
  rw [sumL_map]
  exact Gf.sumL_congr fun e _ => by rw [Gf.pow_pw, Gf.pow_pw, Nat.mul_comm]
end Go.Proofs.YtkgacnenmflegaaGreatDoor
