/-
  A page is written.
-/
import Derived.Test.YtkgacnenmflegaaGreatDoorMg11
namespace Go.Proofs.YtkgacnenmflegaaGreatDoor
open Go.RowKit

set_option maxRecDepth 20000 in
theorem slice_to (s : ByteArray) (k : Nat) (h : k ≤ s.size) (W : World) :
    (Instr.slice 9 (.string s) none (some (.int .i64 (k : Int))) none).run Tryz.prog W = .ok (.string (s.extract 0 k)) W := by
  have := run_slice_string_h (P := Tryz.prog) (w := W) 9 s Tryz.underlying9 .i64 (k : Int) (by omega) (by omega)
  rw [this]
  congr 3
set_option maxRecDepth 20000 in
theorem slice_from (s : ByteArray) (k : Nat) (h : k ≤ s.size) (W : World) :
    (Instr.slice 9 (.string s) (some (.int .i64 (k : Int))) none none).run Tryz.prog W = .ok (.string (s.extract k s.size)) W := by
  have := run_slice_string_l (P := Tryz.prog) (w := W) 9 s Tryz.underlying9 .i64 (k : Int) (by omega) (by omega)
  rw [this]
  congr 3
theorem extract_full (s : ByteArray) : s.extract 0 s.size = s := by
  apply ByteArray.ext
  simp
theorem extract_none (s : ByteArray) : s.extract s.size s.size = ⟨#[]⟩ := by
  apply ByteArray.ext
  simp
def WritePost (w : World) (L : PLoc) (S : ChS) (r : Int) (e : Ending) (w' : World) : Prop := e = .returned (.int .i64 r) ∧ PgrAt w' L S ∧ Mv L.lo L.hi w w'
theorem wp_of_chip {w0 w w' : World} {L : PLoc} {S S2 : ChS} {r : Int} {e : Ending} (h : PgrAt w L S) (hm : Mv L.lo L.hi w0 w) (hp : ProgPost w L.lo L.hi L.c L.bb L.bo L.cap L.pb S2 r e w') (h1 : S2.nb = S.nb) (h2 : S2.np = S.np) (h3 : S2.raw = S.raw) : WritePost w0 L S2 r e w' := by
  obtain ⟨rfl, hc, hv⟩ := hp
  rw [h1] at hv
  exact ⟨rfl, h.chg hv hc h1 h2 h3, hm.trans (h.chip.mv hv)⟩
set_option maxRecDepth 20000 in
set_option maxHeartbeats 4000000 in
theorem page_write (w : World) (L : PLoc) (S : ChS) (h : PgrAt w L S) (hn : Nib w) (b q : Int) (pl : ByteArray) (hpl : pl.size + 7 ≤ L.n) (S2 : ChS) (r : Int) (h1 : S2.nb = S.nb) (h2 : S2.np = S.np) (h3 : S2.raw = S.raw)
    (HP : ∀ W, L.Chip S W → Calls Tryz.prog 62 #[.pointer (some ⟨L.c, 0, none⟩), .int .i64 b, .int .i64 q, .string (rawP L.t L.n pl)] W (ProgPost W L.lo L.hi L.c L.bb L.bo L.cap L.pb S2 r)) :
    Calls Tryz.prog 22 #[.pointer (some ⟨L.p, 0, none⟩), .int .i64 b, .int .i64 q, .string pl] w (WritePost w L S2 r) := by
  have q4 := h.q4
  have q5 := h.q5
  have HH := Aside.mk (And.intro h hn)
  have HPP := Aside.mk HP
  have HQ := Aside.mk (And.intro h1 (And.intro h2 h3))
  have HZ := Aside.mk (And.intro h.hn1 (And.intro h.hn2 hpl))
  obtain ⟨rm, hrm⟩ : ∃ rm : Nat, rm + 7 = L.n := ⟨L.n - 7, by have := h.hn1; omega⟩
  have e1 : IntKind.i64.wrap (L.n : Int) = (L.n : Int) := by have := h.hn2; rw [IntKind.wrap_i64]; omega
  have e2 : IntKind.i64.wrap ((L.n : Int) - 3) = (L.n : Int) - 3 := by have := h.hn2; rw [IntKind.wrap_i64]; omega
  have e3 : IntKind.i64.wrap ((L.n : Int) - 3 - 4) = (rm : Int) := by have := h.hn2; rw [IntKind.wrap_i64]; omega
  have g1 : ¬ (rm : Int) < (pl.size : Int) := by omega
  obtain ⟨rp, hrp⟩ : ∃ rp : Nat, rp = rm - pl.size := ⟨_, rfl⟩
  have e4 : IntKind.i64.wrap ((rm : Int) - (pl.size : Int)) = (rp : Int) := by have := h.hn2; rw [IntKind.wrap_i64]; omega
  have hrp2 : rp = L.n - 7 - pl.size := by omega
  have z1 : ¬ 9223372036854775807 < (⟨#[0, 0, 0]⟩ : ByteArray).size + pl.size := by have := h.hn2; show ¬ _ < 3 + _; omega
  have z2 : ¬ 9223372036854775807 < ((⟨#[0, 0, 0]⟩ : ByteArray) ++ pl).size + (fillB 0 rp).size := by have := h.hn2; rw [ByteArray.size_append, fillB_size]; show ¬ _ < 3 + _ + _; omega
  have HB : Aside (bodyP L.n pl = sealed ((⟨#[0, 0, 0]⟩ : ByteArray) ++ pl ++ fillB 0 rp) ∧ ((⟨#[0, 0, 0]⟩ : ByteArray) ++ pl ++ fillB 0 rp).size ≤ 300) := ⟨by unfold bodyP; rw [hrp2], by have := h.hn2; rw [ByteArray.size_append, ByteArray.size_append, fillB_size]; show 3 + _ + _ ≤ _; omega⟩
  have HR := Aside.mk (And.intro hrm hrp)
  have hrp3 : rp ≤ 100000 := by have := h.hn2; omega
  clear h hn HP h1 h2 h3 hpl hrm hrp hrp2
  go_enter Tryz.func22, Tryz.ntmps22
  go_upto_region 3 with fail
  go_region
  go_upto_region 7 with (first | (go_at_call 59; refine (repeat_byte 0 rp _ hrp3).mono ?_; rintro e w2 ⟨rfl, hb2⟩; have H2 := Aside.mk (And.intro (HH.out.1.drew.below hb2) (And.intro (HH.out.2.drew.below hb2) ((Mv.drew (lo := L.lo) (hi := L.hi) w).trans (Mv.below hb2)))); clear hb2) | (go_at_call 48; refine (crc_seal _ _ (by have := HB.out.2; omega) H2.out.2.1).mono ?_; rw [← HB.out.1]; rintro e w3 ⟨rfl, hb3⟩; have H3 := Aside.mk (And.intro (H2.out.1.below hb3) (And.intro (H2.out.2.1.below hb3) (H2.out.2.2.trans (Mv.below hb3)))); clear hb3))
  obtain ⟨body, hbody⟩ : ∃ body, body = bodyP L.n pl := ⟨_, rfl⟩
  have hbn : body.size = L.n := by rw [hbody]; exact bodyP_size (by have := HZ.out; omega)
  have hrw : rawP L.t L.n pl = body ++ encD L.t (lowG L.t) body := by rw [hbody]; rfl
  rw [hrw] at HPP
  rw [← hbody]
  obtain ⟨par, hpar⟩ : ∃ par, par = encD L.t (lowG L.t) body := ⟨_, rfl⟩
  have hps : par.size ≤ 100 := by
    rw [hpar, encD_size]
    have := (degN_le L.t (by have := H3.out.1.ht8; omega) H3.out.1.ht1).2
    have := H3.out.1.ht8
    unfold lowN8
    omega
  rw [← hpar] at HPP
  obtain ⟨raw, hraw⟩ : ∃ raw, raw = body ++ par := ⟨_, rfl⟩
  rw [← hraw] at HPP
  have hrs : raw.size = L.n + par.size := by rw [hraw, ByteArray.size_append, hbn]
  have HSZ := Aside.mk (And.intro hbn (And.intro hps (And.intro hrs hraw)))
  have HEN : Aside (∀ W, CAny L.k L.t L.n W → Calls Tryz.prog 60 #[.pointer (some ⟨L.k, 0, none⟩), .string body] W fun e w' => e = .returned (.tuple #[.string par, .int .i64 0]) ∧ W.grownBy w' (some L.k) ∧ (CAny L.k L.t L.n W → CAny L.k L.t L.n w')) := ⟨fun W hW => by
    refine (bch_encode_any L.k L.t L.n body W H3.out.1.ht8 H3.out.1.ht1 hW hbn H3.out.1.hn2).mono ?_
    rintro e w' ⟨rfl, h1, h2⟩
    exact ⟨by rw [hpar], h2, fun _ => h1⟩⟩
  have hsl1 : ∀ W, (Instr.slice 9 (.string body) none (some (.int .i64 (L.n : Int))) none).run Tryz.prog W = .ok (.string body) W := fun W => by
    have := slice_to body L.n (by omega) W
    rwa [← hbn, extract_full, hbn] at this
  have hsl2 : ∀ W, (Instr.slice 9 (.string body) (some (.int .i64 (L.n : Int))) none none).run Tryz.prog W = .ok (.string ⟨#[]⟩) W := fun W => by
    have := slice_from body L.n (by omega) W
    rwa [← hbn, extract_none, hbn] at this
  have HSL := Aside.mk (And.intro hsl1 hsl2)
  have hbe : body.toList.isEmpty = false := by
    rw [ByteArray.toList_eq]
    have h0 : body.data.toList.length = L.n := by rw [← hbn]; simp
    have := HZ.out
    cases hl : body.data.toList with
    | nil => rw [hl] at h0; simp at h0; omega
    | cons x r => rfl
  have z3 : ¬ 9223372036854775807 < body.size + par.size := by have := HZ.out; omega
  have HBE := Aside.mk hbe
  clear hbn hps hrs hraw hsl1 hsl2 hbody hrw hpar hbe z1 z2 g1 e1 e2 e3 e4 q4 q5 H2
  obtain ⟨B0, hB0⟩ : ∃ B0, B0 = w3.heap.size := ⟨_, rfl⟩
  have HB00 := Aside.mk H3.out.2.2.size
  have H0 : Aside (PgrAt (w3.alloc (.cells #[.pointer none, .slice none 0 0] 137)) L S ∧ Mv L.lo L.hi w (w3.alloc (.cells #[.pointer none, .slice none 0 0] 137)) ∧ BldN (w3.alloc (.cells #[.pointer none, .slice none 0 0] 137)) B0) := ⟨H3.out.1.below ((Below.refl _ _).alloc (Nat.le_refl _) _), H3.out.2.2.trans (Mv.below ((Below.refl _ _).alloc (Nat.le_refl _) _)), by rw [hB0]; exact heap_alloc_new w3 _⟩
  clear H3
  go_wp2_with fail
  rw [← hB0]
  generalize w3.alloc (.cells #[.pointer none, .slice none 0 0] 137) = w4 at *
  have HB0 : Aside (w.heap.size ≤ B0) := ⟨by have := HB00.out; omega⟩
  clear hB0
  go_loopw [10, 12, 13] (fun s10 s12 s13 wr => (s10 = .string body ∧ Aside (PgrAt wr L S ∧ Mv L.lo L.hi w wr ∧ BldN wr B0)) ∨ (s10 = .string ⟨#[]⟩ ∧ ∃ W4 g, Aside (PgrAt W4 L S ∧ Mv L.lo L.hi w W4 ∧ BldN W4 B0 ∧ W4.heap.size ≤ g ∧ Chg (fun q => q = B0 ∨ q = g) (fun _ => True) W4 wr ∧ Bld wr B0 g raw.data.toList))) (fun s10 _ _ _ => match s10 with | .string s => s.size | _ => 0)
  case atStart => exact .inl ⟨rfl, H0⟩
  case round =>
    rcases hrel with ⟨rfl, HI⟩ | ⟨rfl, W4, g, HI⟩
    · clear H0
      have hbe := HBE.out
      go_upto_region 10 with fail
      clear hbe
      generalize wr = wl at *
      obtain ⟨kcs, kfr, hkb⟩ := HI.out.1.code.blk
      have HNE : Aside (L.p ≠ L.k ∧ B0 ≠ L.k) := ⟨fun e => by
        have h0 := HI.out.1.pgr
        rw [e, hkb] at h0
        simp only [Option.some.injEq, Obj.cells.injEq] at h0
        exact absurd h0.2.1 (by decide), fun e => by
        have h0 := HI.out.2.2
        rw [e] at h0
        have h0 : wl.heap[L.k]? = _ := h0
        rw [hkb] at h0
        simp only [Option.some.injEq, Obj.cells.injEq] at h0
        exact absurd h0.2.1 (by decide)⟩
      clear hkb
      refine wp_region_r 17 (by kernel_rfl) (by kernel_rfl) (rel_small (by kernel_rfl)) (chgV (· = L.k) (CAny L.k L.t L.n) [(12, .val (.string par)), (13, .val (.int .i64 0)), (51, .val (.tuple #[.string par, .int .i64 0])), (52, .val (.pointer (some ⟨L.p, 0, none⟩))), (53, .val (.pointer (some ⟨L.p, 0, none⟩))), (54, .val (.pointer (some ⟨L.p, 1, none⟩))), (55, .val (.pointer (some ⟨L.k, 0, none⟩))), (56, .val (.string body)), (57, .val (.pointer (some ⟨L.p, 0, none⟩))), (58, .val (.pointer (some ⟨L.p, 0, none⟩))), (59, .val (.pointer (some ⟨L.p, 2, none⟩))), (60, .val (.pointer (some ⟨L.p, 5, none⟩))), (61, .val (.int .i64 (L.n : Int))), (62, .val (.string body)), (63, .val (.tuple #[.string par, .int .i64 0])), (64, .val (.string par)), (65, .val (.int .i64 0))]) (Chg (· = L.k) (CAny L.k L.t L.n)) (chg_drew _ _ _ (CAny.drew)) Chg.refl (fun _ _ _ => Chg.trans) (chgV_stable _ _ _) ⟨?_, ?_, ?_, ?_, ?_, ?_, ?_, ?_, ?_, ?_, ?_, ?_, ?_, ?_, ?_, ?_, ?_, trivial⟩ ?_
      · -- 52 := move t0
        intro f W hW hold hd K hK
        refine .inl ⟨wanted_free rfl _, ?_⟩
        dsimp only [bare]
        have ze0 : f 0 = .pointer (some ⟨L.p, 0, none⟩) := hold 0 rfl
        have HK : ∀ v W', Chg (· = L.k) (CAny L.k L.t L.n) W W' → chgV (· = L.k) (CAny L.k L.t L.n) _ 52 v W' → K { tmps := #[f 0, f 1, f 2, f 3, f 4, f 5, f 6, f 7, f 8, f 9, f 10, f 11, f 12, f 13, f 14, f 15, f 16, f 17, f 18, f 19, f 20, f 21, f 22, f 23, f 24, f 25, f 26, f 27, f 28, f 29, f 30, f 31, f 32, f 33, f 34, f 35, f 36, f 37, f 38, f 39, f 40, f 41, f 42, f 43, f 44, f 45, f 46, f 47, f 48, f 49, f 50, f 51, v, f 53, f 54, f 55, f 56, f 57, f 58, f 59, f 60, f 61, f 62, f 63, f 64, f 65, f 66, f 67, f 68, f 69, f 70, f 71, f 72, f 73, f 74, f 75, f 76, f 77, f 78, f 79, f 80, f 81, f 82, f 83], defers := [] } W' := hK
        change wpList _ #[_] _ [_] { tmps := #[f 0, f 1, f 2, f 3, f 4, f 5, f 6, f 7, f 8, f 9, f 10, f 11, f 12, f 13, f 14, f 15, f 16, f 17, f 18, f 19, f 20, f 21, f 22, f 23, f 24, f 25, f 26, f 27, f 28, f 29, f 30, f 31, f 32, f 33, f 34, f 35, f 36, f 37, f 38, f 39, f 40, f 41, f 42, f 43, f 44, f 45, f 46, f 47, f 48, f 49, f 50, f 51, f 52, f 53, f 54, f 55, f 56, f 57, f 58, f 59, f 60, f 61, f 62, f 63, f 64, f 65, f 66, f 67, f 68, f 69, f 70, f 71, f 72, f 73, f 74, f 75, f 76, f 77, f 78, f 79, f 80, f 81, f 82, f 83], defers := [] } W
        clear hK hd hold
        simp only [ze0] at HK ⊢
        clear ze0
        have HK := Aside.mk HK
        go_wp2
        exact HK.out _ _ (Chg.refl _) rfl
      · -- 53 := nilCheck t52
        intro f W hW hold hd K hK
        refine .inl ⟨wanted_free rfl _, ?_⟩
        dsimp only [bare]
        have ze52 : f 52 = .pointer (some ⟨L.p, 0, none⟩) := hd 52 rfl rfl
        have HK : ∀ v W', Chg (· = L.k) (CAny L.k L.t L.n) W W' → chgV (· = L.k) (CAny L.k L.t L.n) _ 53 v W' → K { tmps := #[f 0, f 1, f 2, f 3, f 4, f 5, f 6, f 7, f 8, f 9, f 10, f 11, f 12, f 13, f 14, f 15, f 16, f 17, f 18, f 19, f 20, f 21, f 22, f 23, f 24, f 25, f 26, f 27, f 28, f 29, f 30, f 31, f 32, f 33, f 34, f 35, f 36, f 37, f 38, f 39, f 40, f 41, f 42, f 43, f 44, f 45, f 46, f 47, f 48, f 49, f 50, f 51, f 52, v, f 54, f 55, f 56, f 57, f 58, f 59, f 60, f 61, f 62, f 63, f 64, f 65, f 66, f 67, f 68, f 69, f 70, f 71, f 72, f 73, f 74, f 75, f 76, f 77, f 78, f 79, f 80, f 81, f 82, f 83], defers := [] } W' := hK
        change wpList _ #[_] _ [_] { tmps := #[f 0, f 1, f 2, f 3, f 4, f 5, f 6, f 7, f 8, f 9, f 10, f 11, f 12, f 13, f 14, f 15, f 16, f 17, f 18, f 19, f 20, f 21, f 22, f 23, f 24, f 25, f 26, f 27, f 28, f 29, f 30, f 31, f 32, f 33, f 34, f 35, f 36, f 37, f 38, f 39, f 40, f 41, f 42, f 43, f 44, f 45, f 46, f 47, f 48, f 49, f 50, f 51, f 52, f 53, f 54, f 55, f 56, f 57, f 58, f 59, f 60, f 61, f 62, f 63, f 64, f 65, f 66, f 67, f 68, f 69, f 70, f 71, f 72, f 73, f 74, f 75, f 76, f 77, f 78, f 79, f 80, f 81, f 82, f 83], defers := [] } W
        clear hK hd hold
        simp only [ze52] at HK ⊢
        clear ze52
        have HK := Aside.mk HK
        go_wp2
        exact HK.out _ _ (Chg.refl _) rfl
      · -- 54 := fieldAddr 132 t53 1
        intro f W hW hold hd K hK
        refine .inl ⟨wanted_free rfl _, ?_⟩
        dsimp only [bare]
        have ze53 : f 53 = .pointer (some ⟨L.p, 0, none⟩) := hd 53 rfl rfl
        have HK : ∀ v W', Chg (· = L.k) (CAny L.k L.t L.n) W W' → chgV (· = L.k) (CAny L.k L.t L.n) _ 54 v W' → K { tmps := #[f 0, f 1, f 2, f 3, f 4, f 5, f 6, f 7, f 8, f 9, f 10, f 11, f 12, f 13, f 14, f 15, f 16, f 17, f 18, f 19, f 20, f 21, f 22, f 23, f 24, f 25, f 26, f 27, f 28, f 29, f 30, f 31, f 32, f 33, f 34, f 35, f 36, f 37, f 38, f 39, f 40, f 41, f 42, f 43, f 44, f 45, f 46, f 47, f 48, f 49, f 50, f 51, f 52, f 53, v, f 55, f 56, f 57, f 58, f 59, f 60, f 61, f 62, f 63, f 64, f 65, f 66, f 67, f 68, f 69, f 70, f 71, f 72, f 73, f 74, f 75, f 76, f 77, f 78, f 79, f 80, f 81, f 82, f 83], defers := [] } W' := hK
        change wpList _ #[_] _ [_] { tmps := #[f 0, f 1, f 2, f 3, f 4, f 5, f 6, f 7, f 8, f 9, f 10, f 11, f 12, f 13, f 14, f 15, f 16, f 17, f 18, f 19, f 20, f 21, f 22, f 23, f 24, f 25, f 26, f 27, f 28, f 29, f 30, f 31, f 32, f 33, f 34, f 35, f 36, f 37, f 38, f 39, f 40, f 41, f 42, f 43, f 44, f 45, f 46, f 47, f 48, f 49, f 50, f 51, f 52, f 53, f 54, f 55, f 56, f 57, f 58, f 59, f 60, f 61, f 62, f 63, f 64, f 65, f 66, f 67, f 68, f 69, f 70, f 71, f 72, f 73, f 74, f 75, f 76, f 77, f 78, f 79, f 80, f 81, f 82, f 83], defers := [] } W
        clear hK hd hold
        simp only [ze53] at HK ⊢
        clear ze53
        have HK := Aside.mk HK
        go_wp2
        exact HK.out _ _ (Chg.refl _) rfl
      · -- 55 := load 129 t54
        intro f W hW hold hd K hK
        refine .inl ⟨wanted_free rfl _, ?_⟩
        dsimp only [bare]
        have ze54 : f 54 = .pointer (some ⟨L.p, 1, none⟩) := hd 54 rfl rfl
        have HK : ∀ v W', Chg (· = L.k) (CAny L.k L.t L.n) W W' → chgV (· = L.k) (CAny L.k L.t L.n) _ 55 v W' → K { tmps := #[f 0, f 1, f 2, f 3, f 4, f 5, f 6, f 7, f 8, f 9, f 10, f 11, f 12, f 13, f 14, f 15, f 16, f 17, f 18, f 19, f 20, f 21, f 22, f 23, f 24, f 25, f 26, f 27, f 28, f 29, f 30, f 31, f 32, f 33, f 34, f 35, f 36, f 37, f 38, f 39, f 40, f 41, f 42, f 43, f 44, f 45, f 46, f 47, f 48, f 49, f 50, f 51, f 52, f 53, f 54, v, f 56, f 57, f 58, f 59, f 60, f 61, f 62, f 63, f 64, f 65, f 66, f 67, f 68, f 69, f 70, f 71, f 72, f 73, f 74, f 75, f 76, f 77, f 78, f 79, f 80, f 81, f 82, f 83], defers := [] } W' := hK
        change wpList _ #[_] _ [_] { tmps := #[f 0, f 1, f 2, f 3, f 4, f 5, f 6, f 7, f 8, f 9, f 10, f 11, f 12, f 13, f 14, f 15, f 16, f 17, f 18, f 19, f 20, f 21, f 22, f 23, f 24, f 25, f 26, f 27, f 28, f 29, f 30, f 31, f 32, f 33, f 34, f 35, f 36, f 37, f 38, f 39, f 40, f 41, f 42, f 43, f 44, f 45, f 46, f 47, f 48, f 49, f 50, f 51, f 52, f 53, f 54, f 55, f 56, f 57, f 58, f 59, f 60, f 61, f 62, f 63, f 64, f 65, f 66, f 67, f 68, f 69, f 70, f 71, f 72, f 73, f 74, f 75, f 76, f 77, f 78, f 79, f 80, f 81, f 82, f 83], defers := [] } W
        clear hK hd hold
        simp only [ze54] at HK ⊢
        clear ze54
        have HK := Aside.mk HK
        have hh := hW.blk (HI.out.1.pgr) (fun e => HNE.out.1 e); have hcell := cell_of_row W (L.p) 1 _ _ _ hh; clear hh
        go_wp2
        exact HK.out _ _ (Chg.refl _) rfl
      · -- 56 := move t10
        intro f W hW hold hd K hK
        refine .inl ⟨wanted_free rfl _, ?_⟩
        dsimp only [bare]
        have ze10 : f 10 = .string body := hold 10 rfl
        have HK : ∀ v W', Chg (· = L.k) (CAny L.k L.t L.n) W W' → chgV (· = L.k) (CAny L.k L.t L.n) _ 56 v W' → K { tmps := #[f 0, f 1, f 2, f 3, f 4, f 5, f 6, f 7, f 8, f 9, f 10, f 11, f 12, f 13, f 14, f 15, f 16, f 17, f 18, f 19, f 20, f 21, f 22, f 23, f 24, f 25, f 26, f 27, f 28, f 29, f 30, f 31, f 32, f 33, f 34, f 35, f 36, f 37, f 38, f 39, f 40, f 41, f 42, f 43, f 44, f 45, f 46, f 47, f 48, f 49, f 50, f 51, f 52, f 53, f 54, f 55, v, f 57, f 58, f 59, f 60, f 61, f 62, f 63, f 64, f 65, f 66, f 67, f 68, f 69, f 70, f 71, f 72, f 73, f 74, f 75, f 76, f 77, f 78, f 79, f 80, f 81, f 82, f 83], defers := [] } W' := hK
        change wpList _ #[_] _ [_] { tmps := #[f 0, f 1, f 2, f 3, f 4, f 5, f 6, f 7, f 8, f 9, f 10, f 11, f 12, f 13, f 14, f 15, f 16, f 17, f 18, f 19, f 20, f 21, f 22, f 23, f 24, f 25, f 26, f 27, f 28, f 29, f 30, f 31, f 32, f 33, f 34, f 35, f 36, f 37, f 38, f 39, f 40, f 41, f 42, f 43, f 44, f 45, f 46, f 47, f 48, f 49, f 50, f 51, f 52, f 53, f 54, f 55, f 56, f 57, f 58, f 59, f 60, f 61, f 62, f 63, f 64, f 65, f 66, f 67, f 68, f 69, f 70, f 71, f 72, f 73, f 74, f 75, f 76, f 77, f 78, f 79, f 80, f 81, f 82, f 83], defers := [] } W
        clear hK hd hold
        simp only [ze10] at HK ⊢
        clear ze10
        have HK := Aside.mk HK
        go_wp2
        exact HK.out _ _ (Chg.refl _) rfl
      · -- 57 := move t0
        intro f W hW hold hd K hK
        refine .inl ⟨wanted_free rfl _, ?_⟩
        dsimp only [bare]
        have ze0 : f 0 = .pointer (some ⟨L.p, 0, none⟩) := hold 0 rfl
        have HK : ∀ v W', Chg (· = L.k) (CAny L.k L.t L.n) W W' → chgV (· = L.k) (CAny L.k L.t L.n) _ 57 v W' → K { tmps := #[f 0, f 1, f 2, f 3, f 4, f 5, f 6, f 7, f 8, f 9, f 10, f 11, f 12, f 13, f 14, f 15, f 16, f 17, f 18, f 19, f 20, f 21, f 22, f 23, f 24, f 25, f 26, f 27, f 28, f 29, f 30, f 31, f 32, f 33, f 34, f 35, f 36, f 37, f 38, f 39, f 40, f 41, f 42, f 43, f 44, f 45, f 46, f 47, f 48, f 49, f 50, f 51, f 52, f 53, f 54, f 55, f 56, v, f 58, f 59, f 60, f 61, f 62, f 63, f 64, f 65, f 66, f 67, f 68, f 69, f 70, f 71, f 72, f 73, f 74, f 75, f 76, f 77, f 78, f 79, f 80, f 81, f 82, f 83], defers := [] } W' := hK
        change wpList _ #[_] _ [_] { tmps := #[f 0, f 1, f 2, f 3, f 4, f 5, f 6, f 7, f 8, f 9, f 10, f 11, f 12, f 13, f 14, f 15, f 16, f 17, f 18, f 19, f 20, f 21, f 22, f 23, f 24, f 25, f 26, f 27, f 28, f 29, f 30, f 31, f 32, f 33, f 34, f 35, f 36, f 37, f 38, f 39, f 40, f 41, f 42, f 43, f 44, f 45, f 46, f 47, f 48, f 49, f 50, f 51, f 52, f 53, f 54, f 55, f 56, f 57, f 58, f 59, f 60, f 61, f 62, f 63, f 64, f 65, f 66, f 67, f 68, f 69, f 70, f 71, f 72, f 73, f 74, f 75, f 76, f 77, f 78, f 79, f 80, f 81, f 82, f 83], defers := [] } W
        clear hK hd hold
        simp only [ze0] at HK ⊢
        clear ze0
        have HK := Aside.mk HK
        go_wp2
        exact HK.out _ _ (Chg.refl _) rfl
      · -- 58 := nilCheck t57
        intro f W hW hold hd K hK
        refine .inl ⟨wanted_free rfl _, ?_⟩
        dsimp only [bare]
        have ze57 : f 57 = .pointer (some ⟨L.p, 0, none⟩) := hd 57 rfl rfl
        have HK : ∀ v W', Chg (· = L.k) (CAny L.k L.t L.n) W W' → chgV (· = L.k) (CAny L.k L.t L.n) _ 58 v W' → K { tmps := #[f 0, f 1, f 2, f 3, f 4, f 5, f 6, f 7, f 8, f 9, f 10, f 11, f 12, f 13, f 14, f 15, f 16, f 17, f 18, f 19, f 20, f 21, f 22, f 23, f 24, f 25, f 26, f 27, f 28, f 29, f 30, f 31, f 32, f 33, f 34, f 35, f 36, f 37, f 38, f 39, f 40, f 41, f 42, f 43, f 44, f 45, f 46, f 47, f 48, f 49, f 50, f 51, f 52, f 53, f 54, f 55, f 56, f 57, v, f 59, f 60, f 61, f 62, f 63, f 64, f 65, f 66, f 67, f 68, f 69, f 70, f 71, f 72, f 73, f 74, f 75, f 76, f 77, f 78, f 79, f 80, f 81, f 82, f 83], defers := [] } W' := hK
        change wpList _ #[_] _ [_] { tmps := #[f 0, f 1, f 2, f 3, f 4, f 5, f 6, f 7, f 8, f 9, f 10, f 11, f 12, f 13, f 14, f 15, f 16, f 17, f 18, f 19, f 20, f 21, f 22, f 23, f 24, f 25, f 26, f 27, f 28, f 29, f 30, f 31, f 32, f 33, f 34, f 35, f 36, f 37, f 38, f 39, f 40, f 41, f 42, f 43, f 44, f 45, f 46, f 47, f 48, f 49, f 50, f 51, f 52, f 53, f 54, f 55, f 56, f 57, f 58, f 59, f 60, f 61, f 62, f 63, f 64, f 65, f 66, f 67, f 68, f 69, f 70, f 71, f 72, f 73, f 74, f 75, f 76, f 77, f 78, f 79, f 80, f 81, f 82, f 83], defers := [] } W
        clear hK hd hold
        simp only [ze57] at HK ⊢
        clear ze57
        have HK := Aside.mk HK
        go_wp2
        exact HK.out _ _ (Chg.refl _) rfl
      · -- 59 := fieldAddr 132 t58 2
        intro f W hW hold hd K hK
        refine .inl ⟨wanted_free rfl _, ?_⟩
        dsimp only [bare]
        have ze58 : f 58 = .pointer (some ⟨L.p, 0, none⟩) := hd 58 rfl rfl
        have HK : ∀ v W', Chg (· = L.k) (CAny L.k L.t L.n) W W' → chgV (· = L.k) (CAny L.k L.t L.n) _ 59 v W' → K { tmps := #[f 0, f 1, f 2, f 3, f 4, f 5, f 6, f 7, f 8, f 9, f 10, f 11, f 12, f 13, f 14, f 15, f 16, f 17, f 18, f 19, f 20, f 21, f 22, f 23, f 24, f 25, f 26, f 27, f 28, f 29, f 30, f 31, f 32, f 33, f 34, f 35, f 36, f 37, f 38, f 39, f 40, f 41, f 42, f 43, f 44, f 45, f 46, f 47, f 48, f 49, f 50, f 51, f 52, f 53, f 54, f 55, f 56, f 57, f 58, v, f 60, f 61, f 62, f 63, f 64, f 65, f 66, f 67, f 68, f 69, f 70, f 71, f 72, f 73, f 74, f 75, f 76, f 77, f 78, f 79, f 80, f 81, f 82, f 83], defers := [] } W' := hK
        change wpList _ #[_] _ [_] { tmps := #[f 0, f 1, f 2, f 3, f 4, f 5, f 6, f 7, f 8, f 9, f 10, f 11, f 12, f 13, f 14, f 15, f 16, f 17, f 18, f 19, f 20, f 21, f 22, f 23, f 24, f 25, f 26, f 27, f 28, f 29, f 30, f 31, f 32, f 33, f 34, f 35, f 36, f 37, f 38, f 39, f 40, f 41, f 42, f 43, f 44, f 45, f 46, f 47, f 48, f 49, f 50, f 51, f 52, f 53, f 54, f 55, f 56, f 57, f 58, f 59, f 60, f 61, f 62, f 63, f 64, f 65, f 66, f 67, f 68, f 69, f 70, f 71, f 72, f 73, f 74, f 75, f 76, f 77, f 78, f 79, f 80, f 81, f 82, f 83], defers := [] } W
        clear hK hd hold
        simp only [ze58] at HK ⊢
        clear ze58
        have HK := Aside.mk HK
        go_wp2
        exact HK.out _ _ (Chg.refl _) rfl
      · -- 60 := fieldAddr 29 t59 3
        intro f W hW hold hd K hK
        refine .inl ⟨wanted_free rfl _, ?_⟩
        dsimp only [bare]
        have ze59 : f 59 = .pointer (some ⟨L.p, 2, none⟩) := hd 59 rfl rfl
        have HK : ∀ v W', Chg (· = L.k) (CAny L.k L.t L.n) W W' → chgV (· = L.k) (CAny L.k L.t L.n) _ 60 v W' → K { tmps := #[f 0, f 1, f 2, f 3, f 4, f 5, f 6, f 7, f 8, f 9, f 10, f 11, f 12, f 13, f 14, f 15, f 16, f 17, f 18, f 19, f 20, f 21, f 22, f 23, f 24, f 25, f 26, f 27, f 28, f 29, f 30, f 31, f 32, f 33, f 34, f 35, f 36, f 37, f 38, f 39, f 40, f 41, f 42, f 43, f 44, f 45, f 46, f 47, f 48, f 49, f 50, f 51, f 52, f 53, f 54, f 55, f 56, f 57, f 58, f 59, v, f 61, f 62, f 63, f 64, f 65, f 66, f 67, f 68, f 69, f 70, f 71, f 72, f 73, f 74, f 75, f 76, f 77, f 78, f 79, f 80, f 81, f 82, f 83], defers := [] } W' := hK
        change wpList _ #[_] _ [_] { tmps := #[f 0, f 1, f 2, f 3, f 4, f 5, f 6, f 7, f 8, f 9, f 10, f 11, f 12, f 13, f 14, f 15, f 16, f 17, f 18, f 19, f 20, f 21, f 22, f 23, f 24, f 25, f 26, f 27, f 28, f 29, f 30, f 31, f 32, f 33, f 34, f 35, f 36, f 37, f 38, f 39, f 40, f 41, f 42, f 43, f 44, f 45, f 46, f 47, f 48, f 49, f 50, f 51, f 52, f 53, f 54, f 55, f 56, f 57, f 58, f 59, f 60, f 61, f 62, f 63, f 64, f 65, f 66, f 67, f 68, f 69, f 70, f 71, f 72, f 73, f 74, f 75, f 76, f 77, f 78, f 79, f 80, f 81, f 82, f 83], defers := [] } W
        clear hK hd hold
        simp only [ze59] at HK ⊢
        clear ze59
        have HK := Aside.mk HK
        go_wp2
        exact HK.out _ _ (Chg.refl _) rfl
      · -- 61 := load 3 t60
        intro f W hW hold hd K hK
        refine .inl ⟨wanted_free rfl _, ?_⟩
        dsimp only [bare]
        have ze60 : f 60 = .pointer (some ⟨L.p, 5, none⟩) := hd 60 rfl rfl
        have HK : ∀ v W', Chg (· = L.k) (CAny L.k L.t L.n) W W' → chgV (· = L.k) (CAny L.k L.t L.n) _ 61 v W' → K { tmps := #[f 0, f 1, f 2, f 3, f 4, f 5, f 6, f 7, f 8, f 9, f 10, f 11, f 12, f 13, f 14, f 15, f 16, f 17, f 18, f 19, f 20, f 21, f 22, f 23, f 24, f 25, f 26, f 27, f 28, f 29, f 30, f 31, f 32, f 33, f 34, f 35, f 36, f 37, f 38, f 39, f 40, f 41, f 42, f 43, f 44, f 45, f 46, f 47, f 48, f 49, f 50, f 51, f 52, f 53, f 54, f 55, f 56, f 57, f 58, f 59, f 60, v, f 62, f 63, f 64, f 65, f 66, f 67, f 68, f 69, f 70, f 71, f 72, f 73, f 74, f 75, f 76, f 77, f 78, f 79, f 80, f 81, f 82, f 83], defers := [] } W' := hK
        change wpList _ #[_] _ [_] { tmps := #[f 0, f 1, f 2, f 3, f 4, f 5, f 6, f 7, f 8, f 9, f 10, f 11, f 12, f 13, f 14, f 15, f 16, f 17, f 18, f 19, f 20, f 21, f 22, f 23, f 24, f 25, f 26, f 27, f 28, f 29, f 30, f 31, f 32, f 33, f 34, f 35, f 36, f 37, f 38, f 39, f 40, f 41, f 42, f 43, f 44, f 45, f 46, f 47, f 48, f 49, f 50, f 51, f 52, f 53, f 54, f 55, f 56, f 57, f 58, f 59, f 60, f 61, f 62, f 63, f 64, f 65, f 66, f 67, f 68, f 69, f 70, f 71, f 72, f 73, f 74, f 75, f 76, f 77, f 78, f 79, f 80, f 81, f 82, f 83], defers := [] } W
        clear hK hd hold
        simp only [ze60] at HK ⊢
        clear ze60
        have HK := Aside.mk HK
        have hh := hW.blk (HI.out.1.pgr) (fun e => HNE.out.1 e); have hcell := cell_of_row W (L.p) 5 _ _ _ hh; clear hh
        go_wp2
        exact HK.out _ _ (Chg.refl _) rfl
      · -- 62 := slice 9 t56 - t61 -
        intro f W hW hold hd K hK
        refine .inl ⟨wanted_free rfl _, ?_⟩
        dsimp only [bare]
        have ze56 : f 56 = .string body := hd 56 rfl rfl
        have ze61 : f 61 = .int .i64 (L.n : Int) := hd 61 rfl rfl
        have HK : ∀ v W', Chg (· = L.k) (CAny L.k L.t L.n) W W' → chgV (· = L.k) (CAny L.k L.t L.n) _ 62 v W' → K { tmps := #[f 0, f 1, f 2, f 3, f 4, f 5, f 6, f 7, f 8, f 9, f 10, f 11, f 12, f 13, f 14, f 15, f 16, f 17, f 18, f 19, f 20, f 21, f 22, f 23, f 24, f 25, f 26, f 27, f 28, f 29, f 30, f 31, f 32, f 33, f 34, f 35, f 36, f 37, f 38, f 39, f 40, f 41, f 42, f 43, f 44, f 45, f 46, f 47, f 48, f 49, f 50, f 51, f 52, f 53, f 54, f 55, f 56, f 57, f 58, f 59, f 60, f 61, v, f 63, f 64, f 65, f 66, f 67, f 68, f 69, f 70, f 71, f 72, f 73, f 74, f 75, f 76, f 77, f 78, f 79, f 80, f 81, f 82, f 83], defers := [] } W' := hK
        change wpList _ #[_] _ [_] { tmps := #[f 0, f 1, f 2, f 3, f 4, f 5, f 6, f 7, f 8, f 9, f 10, f 11, f 12, f 13, f 14, f 15, f 16, f 17, f 18, f 19, f 20, f 21, f 22, f 23, f 24, f 25, f 26, f 27, f 28, f 29, f 30, f 31, f 32, f 33, f 34, f 35, f 36, f 37, f 38, f 39, f 40, f 41, f 42, f 43, f 44, f 45, f 46, f 47, f 48, f 49, f 50, f 51, f 52, f 53, f 54, f 55, f 56, f 57, f 58, f 59, f 60, f 61, f 62, f 63, f 64, f 65, f 66, f 67, f 68, f 69, f 70, f 71, f 72, f 73, f 74, f 75, f 76, f 77, f 78, f 79, f 80, f 81, f 82, f 83], defers := [] } W
        clear hK hd hold
        simp only [ze56, ze61] at HK ⊢
        clear ze56 ze61
        have HK := Aside.mk HK
        have cz := HSL.out.1 W
        go_wp2
        exact HK.out _ _ (Chg.refl _) rfl
      · -- 63 := CALL f60 (*chert/bch.Code).Encode [t55, t62] : [129, 9]
        intro f W hW hold hd K hK
        refine .inl ⟨wanted_free rfl _, ?_⟩
        dsimp only [bare]
        have ze55 : f 55 = .pointer (some ⟨L.k, 0, none⟩) := hd 55 rfl rfl
        have ze62 : f 62 = .string body := hd 62 rfl rfl
        have HK : ∀ v W', Chg (· = L.k) (CAny L.k L.t L.n) W W' → chgV (· = L.k) (CAny L.k L.t L.n) _ 63 v W' → K { tmps := #[f 0, f 1, f 2, f 3, f 4, f 5, f 6, f 7, f 8, f 9, f 10, f 11, f 12, f 13, f 14, f 15, f 16, f 17, f 18, f 19, f 20, f 21, f 22, f 23, f 24, f 25, f 26, f 27, f 28, f 29, f 30, f 31, f 32, f 33, f 34, f 35, f 36, f 37, f 38, f 39, f 40, f 41, f 42, f 43, f 44, f 45, f 46, f 47, f 48, f 49, f 50, f 51, f 52, f 53, f 54, f 55, f 56, f 57, f 58, f 59, f 60, f 61, f 62, v, f 64, f 65, f 66, f 67, f 68, f 69, f 70, f 71, f 72, f 73, f 74, f 75, f 76, f 77, f 78, f 79, f 80, f 81, f 82, f 83], defers := [] } W' := hK
        change wpList _ #[_] _ [_] { tmps := #[f 0, f 1, f 2, f 3, f 4, f 5, f 6, f 7, f 8, f 9, f 10, f 11, f 12, f 13, f 14, f 15, f 16, f 17, f 18, f 19, f 20, f 21, f 22, f 23, f 24, f 25, f 26, f 27, f 28, f 29, f 30, f 31, f 32, f 33, f 34, f 35, f 36, f 37, f 38, f 39, f 40, f 41, f 42, f 43, f 44, f 45, f 46, f 47, f 48, f 49, f 50, f 51, f 52, f 53, f 54, f 55, f 56, f 57, f 58, f 59, f 60, f 61, f 62, f 63, f 64, f 65, f 66, f 67, f 68, f 69, f 70, f 71, f 72, f 73, f 74, f 75, f 76, f 77, f 78, f 79, f 80, f 81, f 82, f 83], defers := [] } W
        clear hK hd hold
        simp only [ze55, ze62] at HK ⊢
        clear ze55 ze62
        have HK := Aside.mk HK
        go_wp2_with (go_at_call 60; refine (HEN.out W (hW.inv HI.out.1.code)).mono ?_; rintro e w5 ⟨rfl, hg5, hi5⟩)
        exact HK.out _ _ (Chg.of_grown hg5 rfl hi5) rfl
      · -- 51 := move t63
        intro f W hW hold hd K hK
        refine .inl ⟨wanted_free rfl _, ?_⟩
        dsimp only [bare]
        have ze63 : f 63 = .tuple #[.string par, .int .i64 0] := hd 63 rfl rfl
        have HK : ∀ v W', Chg (· = L.k) (CAny L.k L.t L.n) W W' → chgV (· = L.k) (CAny L.k L.t L.n) _ 51 v W' → K { tmps := #[f 0, f 1, f 2, f 3, f 4, f 5, f 6, f 7, f 8, f 9, f 10, f 11, f 12, f 13, f 14, f 15, f 16, f 17, f 18, f 19, f 20, f 21, f 22, f 23, f 24, f 25, f 26, f 27, f 28, f 29, f 30, f 31, f 32, f 33, f 34, f 35, f 36, f 37, f 38, f 39, f 40, f 41, f 42, f 43, f 44, f 45, f 46, f 47, f 48, f 49, f 50, v, f 52, f 53, f 54, f 55, f 56, f 57, f 58, f 59, f 60, f 61, f 62, f 63, f 64, f 65, f 66, f 67, f 68, f 69, f 70, f 71, f 72, f 73, f 74, f 75, f 76, f 77, f 78, f 79, f 80, f 81, f 82, f 83], defers := [] } W' := hK
        change wpList _ #[_] _ [_] { tmps := #[f 0, f 1, f 2, f 3, f 4, f 5, f 6, f 7, f 8, f 9, f 10, f 11, f 12, f 13, f 14, f 15, f 16, f 17, f 18, f 19, f 20, f 21, f 22, f 23, f 24, f 25, f 26, f 27, f 28, f 29, f 30, f 31, f 32, f 33, f 34, f 35, f 36, f 37, f 38, f 39, f 40, f 41, f 42, f 43, f 44, f 45, f 46, f 47, f 48, f 49, f 50, f 51, f 52, f 53, f 54, f 55, f 56, f 57, f 58, f 59, f 60, f 61, f 62, f 63, f 64, f 65, f 66, f 67, f 68, f 69, f 70, f 71, f 72, f 73, f 74, f 75, f 76, f 77, f 78, f 79, f 80, f 81, f 82, f 83], defers := [] } W
        clear hK hd hold
        simp only [ze63] at HK ⊢
        clear ze63
        have HK := Aside.mk HK
        go_wp2
        exact HK.out _ _ (Chg.refl _) rfl
      · -- 64 := extract t51 0
        intro f W hW hold hd K hK
        refine .inl ⟨wanted_free rfl _, ?_⟩
        dsimp only [bare]
        have ze51 : f 51 = .tuple #[.string par, .int .i64 0] := hd 51 rfl rfl
        have HK : ∀ v W', Chg (· = L.k) (CAny L.k L.t L.n) W W' → chgV (· = L.k) (CAny L.k L.t L.n) _ 64 v W' → K { tmps := #[f 0, f 1, f 2, f 3, f 4, f 5, f 6, f 7, f 8, f 9, f 10, f 11, f 12, f 13, f 14, f 15, f 16, f 17, f 18, f 19, f 20, f 21, f 22, f 23, f 24, f 25, f 26, f 27, f 28, f 29, f 30, f 31, f 32, f 33, f 34, f 35, f 36, f 37, f 38, f 39, f 40, f 41, f 42, f 43, f 44, f 45, f 46, f 47, f 48, f 49, f 50, f 51, f 52, f 53, f 54, f 55, f 56, f 57, f 58, f 59, f 60, f 61, f 62, f 63, v, f 65, f 66, f 67, f 68, f 69, f 70, f 71, f 72, f 73, f 74, f 75, f 76, f 77, f 78, f 79, f 80, f 81, f 82, f 83], defers := [] } W' := hK
        change wpList _ #[_] _ [_] { tmps := #[f 0, f 1, f 2, f 3, f 4, f 5, f 6, f 7, f 8, f 9, f 10, f 11, f 12, f 13, f 14, f 15, f 16, f 17, f 18, f 19, f 20, f 21, f 22, f 23, f 24, f 25, f 26, f 27, f 28, f 29, f 30, f 31, f 32, f 33, f 34, f 35, f 36, f 37, f 38, f 39, f 40, f 41, f 42, f 43, f 44, f 45, f 46, f 47, f 48, f 49, f 50, f 51, f 52, f 53, f 54, f 55, f 56, f 57, f 58, f 59, f 60, f 61, f 62, f 63, f 64, f 65, f 66, f 67, f 68, f 69, f 70, f 71, f 72, f 73, f 74, f 75, f 76, f 77, f 78, f 79, f 80, f 81, f 82, f 83], defers := [] } W
        clear hK hd hold
        simp only [ze51] at HK ⊢
        clear ze51
        have HK := Aside.mk HK
        go_wp2
        exact HK.out _ _ (Chg.refl _) rfl
      · -- 65 := extract t51 1
        intro f W hW hold hd K hK
        refine .inl ⟨wanted_free rfl _, ?_⟩
        dsimp only [bare]
        have ze51 : f 51 = .tuple #[.string par, .int .i64 0] := hd 51 rfl rfl
        have HK : ∀ v W', Chg (· = L.k) (CAny L.k L.t L.n) W W' → chgV (· = L.k) (CAny L.k L.t L.n) _ 65 v W' → K { tmps := #[f 0, f 1, f 2, f 3, f 4, f 5, f 6, f 7, f 8, f 9, f 10, f 11, f 12, f 13, f 14, f 15, f 16, f 17, f 18, f 19, f 20, f 21, f 22, f 23, f 24, f 25, f 26, f 27, f 28, f 29, f 30, f 31, f 32, f 33, f 34, f 35, f 36, f 37, f 38, f 39, f 40, f 41, f 42, f 43, f 44, f 45, f 46, f 47, f 48, f 49, f 50, f 51, f 52, f 53, f 54, f 55, f 56, f 57, f 58, f 59, f 60, f 61, f 62, f 63, f 64, v, f 66, f 67, f 68, f 69, f 70, f 71, f 72, f 73, f 74, f 75, f 76, f 77, f 78, f 79, f 80, f 81, f 82, f 83], defers := [] } W' := hK
        change wpList _ #[_] _ [_] { tmps := #[f 0, f 1, f 2, f 3, f 4, f 5, f 6, f 7, f 8, f 9, f 10, f 11, f 12, f 13, f 14, f 15, f 16, f 17, f 18, f 19, f 20, f 21, f 22, f 23, f 24, f 25, f 26, f 27, f 28, f 29, f 30, f 31, f 32, f 33, f 34, f 35, f 36, f 37, f 38, f 39, f 40, f 41, f 42, f 43, f 44, f 45, f 46, f 47, f 48, f 49, f 50, f 51, f 52, f 53, f 54, f 55, f 56, f 57, f 58, f 59, f 60, f 61, f 62, f 63, f 64, f 65, f 66, f 67, f 68, f 69, f 70, f 71, f 72, f 73, f 74, f 75, f 76, f 77, f 78, f 79, f 80, f 81, f 82, f 83], defers := [] } W
        clear hK hd hold
        simp only [ze51] at HK ⊢
        clear ze51
        have HK := Aside.mk HK
        go_wp2
        exact HK.out _ _ (Chg.refl _) rfl
      · -- 12 := assign t64
        intro f W hW hold hd K hK
        refine .inl ⟨wanted_free rfl _, ?_⟩
        dsimp only [bare]
        have ze64 : f 64 = .string par := hd 64 rfl rfl
        have HK : ∀ v W', Chg (· = L.k) (CAny L.k L.t L.n) W W' → chgV (· = L.k) (CAny L.k L.t L.n) _ 12 v W' → K { tmps := #[f 0, f 1, f 2, f 3, f 4, f 5, f 6, f 7, f 8, f 9, f 10, f 11, v, f 13, f 14, f 15, f 16, f 17, f 18, f 19, f 20, f 21, f 22, f 23, f 24, f 25, f 26, f 27, f 28, f 29, f 30, f 31, f 32, f 33, f 34, f 35, f 36, f 37, f 38, f 39, f 40, f 41, f 42, f 43, f 44, f 45, f 46, f 47, f 48, f 49, f 50, f 51, f 52, f 53, f 54, f 55, f 56, f 57, f 58, f 59, f 60, f 61, f 62, f 63, f 64, f 65, f 66, f 67, f 68, f 69, f 70, f 71, f 72, f 73, f 74, f 75, f 76, f 77, f 78, f 79, f 80, f 81, f 82, f 83], defers := [] } W' := hK
        change wpList _ #[_] _ [_] { tmps := #[f 0, f 1, f 2, f 3, f 4, f 5, f 6, f 7, f 8, f 9, f 10, f 11, f 12, f 13, f 14, f 15, f 16, f 17, f 18, f 19, f 20, f 21, f 22, f 23, f 24, f 25, f 26, f 27, f 28, f 29, f 30, f 31, f 32, f 33, f 34, f 35, f 36, f 37, f 38, f 39, f 40, f 41, f 42, f 43, f 44, f 45, f 46, f 47, f 48, f 49, f 50, f 51, f 52, f 53, f 54, f 55, f 56, f 57, f 58, f 59, f 60, f 61, f 62, f 63, f 64, f 65, f 66, f 67, f 68, f 69, f 70, f 71, f 72, f 73, f 74, f 75, f 76, f 77, f 78, f 79, f 80, f 81, f 82, f 83], defers := [] } W
        clear hK hd hold
        simp only [ze64] at HK ⊢
        clear ze64
        have HK := Aside.mk HK
        go_wp2
        exact HK.out _ _ (Chg.refl _) rfl
      · -- 13 := assign t65
        intro f W hW hold hd K hK
        refine .inl ⟨wanted_free rfl _, ?_⟩
        dsimp only [bare]
        have ze65 : f 65 = .int .i64 0 := hd 65 rfl rfl
        have HK : ∀ v W', Chg (· = L.k) (CAny L.k L.t L.n) W W' → chgV (· = L.k) (CAny L.k L.t L.n) _ 13 v W' → K { tmps := #[f 0, f 1, f 2, f 3, f 4, f 5, f 6, f 7, f 8, f 9, f 10, f 11, f 12, v, f 14, f 15, f 16, f 17, f 18, f 19, f 20, f 21, f 22, f 23, f 24, f 25, f 26, f 27, f 28, f 29, f 30, f 31, f 32, f 33, f 34, f 35, f 36, f 37, f 38, f 39, f 40, f 41, f 42, f 43, f 44, f 45, f 46, f 47, f 48, f 49, f 50, f 51, f 52, f 53, f 54, f 55, f 56, f 57, f 58, f 59, f 60, f 61, f 62, f 63, f 64, f 65, f 66, f 67, f 68, f 69, f 70, f 71, f 72, f 73, f 74, f 75, f 76, f 77, f 78, f 79, f 80, f 81, f 82, f 83], defers := [] } W' := hK
        change wpList _ #[_] _ [_] { tmps := #[f 0, f 1, f 2, f 3, f 4, f 5, f 6, f 7, f 8, f 9, f 10, f 11, f 12, f 13, f 14, f 15, f 16, f 17, f 18, f 19, f 20, f 21, f 22, f 23, f 24, f 25, f 26, f 27, f 28, f 29, f 30, f 31, f 32, f 33, f 34, f 35, f 36, f 37, f 38, f 39, f 40, f 41, f 42, f 43, f 44, f 45, f 46, f 47, f 48, f 49, f 50, f 51, f 52, f 53, f 54, f 55, f 56, f 57, f 58, f 59, f 60, f 61, f 62, f 63, f 64, f 65, f 66, f 67, f 68, f 69, f 70, f 71, f 72, f 73, f 74, f 75, f 76, f 77, f 78, f 79, f 80, f 81, f 82, f 83], defers := [] } W
        clear hK hd hold
        simp only [ze65] at HK ⊢
        clear ze65
        have HK := Aside.mk HK
        go_wp2
        exact HK.out _ _ (Chg.refl _) rfl
      · intro f W hW hold hd aAct hAct
        replace hAct := hAct.trans (rel_puts hold)
        have ze12 : f 12 = .string par := hd 12 rfl
        have ze13 : f 13 = .int .i64 0 := hd 13 rfl
        have ze51 : f 51 = .tuple #[.string par, .int .i64 0] := hd 51 rfl
        have ze52 : f 52 = .pointer (some ⟨L.p, 0, none⟩) := hd 52 rfl
        have ze53 : f 53 = .pointer (some ⟨L.p, 0, none⟩) := hd 53 rfl
        have ze54 : f 54 = .pointer (some ⟨L.p, 1, none⟩) := hd 54 rfl
        have ze55 : f 55 = .pointer (some ⟨L.k, 0, none⟩) := hd 55 rfl
        have ze56 : f 56 = .string body := hd 56 rfl
        have ze57 : f 57 = .pointer (some ⟨L.p, 0, none⟩) := hd 57 rfl
        have ze58 : f 58 = .pointer (some ⟨L.p, 0, none⟩) := hd 58 rfl
        have ze59 : f 59 = .pointer (some ⟨L.p, 2, none⟩) := hd 59 rfl
        have ze60 : f 60 = .pointer (some ⟨L.p, 5, none⟩) := hd 60 rfl
        have ze61 : f 61 = .int .i64 (L.n : Int) := hd 61 rfl
        have ze62 : f 62 = .string body := hd 62 rfl
        have ze63 : f 63 = .tuple #[.string par, .int .i64 0] := hd 63 rfl
        have ze64 : f 64 = .string par := hd 64 rfl
        have ze65 : f 65 = .int .i64 0 := hd 65 rfl
        simp only [List.take_succ_cons, List.take_zero, putAll, List.foldl_cons, List.foldl_nil, Option.getD_some] at hAct
        simp only [ze12, ze13, ze51, ze52, ze53, ze54, ze55, ze56, ze57, ze58, ze59, ze60, ze61, ze62, ze63, ze64, ze65] at hAct
        subst hAct
        simp only [List.drop_succ_cons, List.drop_nil, Act.put, List.setIfInBounds_toArray, List.set_cons_zero, List.set_cons_succ]
        clear hold hd ze12 ze13 ze51 ze52 ze53 ze54 ze55 ze56 ze57 ze58 ze59 ze60 ze61 ze62 ze63 ze64 ze65
        have hPW : PgrAt W L S := HI.out.1.ready ⟨hW.os, hW.tape, hW.output, hW.size, fun q hq hne => hW.block q hq (fun e => hne (by rw [e]))⟩ (hW.inv HI.out.1.code)
        have hBW : BldN W B0 := hW.blk HI.out.2.2 (fun e => HNE.out.2 e)
        have hMW : Mv L.lo L.hi w W := HI.out.2.1.trans ⟨hW.os, hW.tape, hW.output, hW.size, fun q hq hne => hW.block q hq (fun e => hne (by rw [e]; exact HI.out.1.rk)), fun _ => trivial⟩
        have HW := Aside.mk (And.intro hPW (And.intro hMW hBW))
        have q5 := hPW.q5
        have cz := HSL.out.1 W
        clear hPW hBW hMW hW
        have hz3 : ¬ 9223372036854775807 < body.size + par.size := z3
        go_wp2_with (go_at_call 61; refine (bld_first B0 _ _ HW.out.2.2 (by have := HSZ.out; have := HZ.out; rw [← HSZ.out.2.2.2]; omega) (by have := HSZ.out; have := HZ.out; rw [← HSZ.out.2.2.2]; omega)).mono ?_; rw [← HSZ.out.2.2.2]; rintro e w5 ⟨rfl, ⟨g, hg, hF⟩, hgr⟩; have hch : Chg (fun q => q = B0 ∨ q = g) (fun _ => True) W w5 := ⟨hgr.os, hgr.tape, hgr.output, hgr.size, fun q hq hne => hgr.block q hq (fun e => hne (.inl (by injection e))), fun _ => trivial⟩; have hp5 := (HW.out.1.keptT hch (fun q cs ty fr h1 h2 => (by rcases h2 with rfl | rfl; (· rw [HW.out.2.2] at h1; simp only [Option.some.injEq, Obj.cells.injEq] at h1; exact .inl h1.2.1.symm); (· have := (Array.getElem?_eq_some_iff.1 h1).1; omega)))); have d5 := hp5.q5; have cz2 := HSL.out.2 w5; have H5 := Aside.mk (And.intro hg (And.intro hch hF)); clear hg hch hF hgr hp5)
        go_roundw
        case rel => exact .inr ⟨rfl, W, g, ⟨HW.out.1, HW.out.2.1, HW.out.2.2, H5.out.1, H5.out.2.1, H5.out.2.2⟩⟩
        case measure =>
          show (⟨#[]⟩ : ByteArray).size < body.size
          rw [HSZ.out.1]
          have := HZ.out
          show 0 < L.n
          omega
    · have hem : (⟨#[]⟩ : ByteArray).toList.isEmpty = true := by rw [ByteArray.toList_eq]; rfl
      clear H0
      go_upto_region 12 with fail
      clear hem
      generalize wr = wl at *
      have HKT : Aside (∀ W, Chg (fun q => q = B0 ∨ q = g) (fun _ => True) W4 W → PgrAt W L S) := ⟨fun W hch => HI.out.1.keptT hch (fun q cs ty fr h1 h2 => by
        rcases h2 with rfl | rfl
        · rw [HI.out.2.2.1] at h1
          simp only [Option.some.injEq, Obj.cells.injEq] at h1
          exact .inl h1.2.1.symm
        · have h3 := (Array.getElem?_eq_some_iff.1 h1).1
          have h4 := HI.out.2.2.2.1
          omega)⟩
      have HPL := Aside.mk (HKT.out _ HI.out.2.2.2.2.1)
      have HNE : Aside (L.p ≠ g) := ⟨by have h1 := HI.out.1.lt.1; have h2 := HI.out.2.2.2.1; omega⟩
      have HBG : Aside (B0 ≠ g) := ⟨by have h1 := (Array.getElem?_eq_some_iff.1 HI.out.2.2.1).1; have h2 := HI.out.2.2.2.1; omega⟩
      have HBT : Aside (∀ W, Bld W B0 g raw.data.toList → Calls Tryz.prog 63 #[.pointer (some ⟨B0, 0, none⟩)] W fun e w' => e = .returned (.string raw) ∧ Chg (· = g) (fun W => Bld W B0 g raw.data.toList) W w') := ⟨fun W hW => by
        refine bld_text B0 g _ W hW (fun e => ?_)
        have h1 : raw.data.toList.length = raw.size := by simp
        rw [e] at h1
        have h2 := HSZ.out
        have h3 := HZ.out
        simp at h1
        omega⟩
      refine wp_region_r 7 (by kernel_rfl) (by kernel_rfl) (rel_small (by kernel_rfl)) (chgV (· = g) (fun W => Bld W B0 g raw.data.toList) [(76, .val (.pointer (some ⟨L.p, 0, none⟩))), (77, .val (.pointer (some ⟨L.p, 0, none⟩))), (78, .val (.pointer (some ⟨L.p, 0, none⟩))), (79, .val (.pointer (some ⟨L.c, 0, none⟩))), (80, .val (.int .i64 b)), (81, .val (.int .i64 q)), (82, .val (.string raw))]) (Chg (· = g) (fun W => Bld W B0 g raw.data.toList)) (chg_drew _ _ _ (id)) Chg.refl (fun _ _ _ => Chg.trans) (chgV_stable _ _ _) ⟨?_, ?_, ?_, ?_, ?_, ?_, ?_, trivial⟩ ?_
      · -- 76 := move t0
        intro f W hW hold hd K hK
        refine .inl ⟨wanted_free rfl _, ?_⟩
        dsimp only [bare]
        have ze0 : f 0 = .pointer (some ⟨L.p, 0, none⟩) := hold 0 rfl
        have HK : ∀ v W', Chg (· = g) (fun W => Bld W B0 g raw.data.toList) W W' → chgV (· = g) (fun W => Bld W B0 g raw.data.toList) _ 76 v W' → K { tmps := #[f 0, f 1, f 2, f 3, f 4, f 5, f 6, f 7, f 8, f 9, f 10, f 11, f 12, f 13, f 14, f 15, f 16, f 17, f 18, f 19, f 20, f 21, f 22, f 23, f 24, f 25, f 26, f 27, f 28, f 29, f 30, f 31, f 32, f 33, f 34, f 35, f 36, f 37, f 38, f 39, f 40, f 41, f 42, f 43, f 44, f 45, f 46, f 47, f 48, f 49, f 50, f 51, f 52, f 53, f 54, f 55, f 56, f 57, f 58, f 59, f 60, f 61, f 62, f 63, f 64, f 65, f 66, f 67, f 68, f 69, f 70, f 71, f 72, f 73, f 74, f 75, v, f 77, f 78, f 79, f 80, f 81, f 82, f 83], defers := [] } W' := hK
        change wpList _ #[_] _ [_] { tmps := #[f 0, f 1, f 2, f 3, f 4, f 5, f 6, f 7, f 8, f 9, f 10, f 11, f 12, f 13, f 14, f 15, f 16, f 17, f 18, f 19, f 20, f 21, f 22, f 23, f 24, f 25, f 26, f 27, f 28, f 29, f 30, f 31, f 32, f 33, f 34, f 35, f 36, f 37, f 38, f 39, f 40, f 41, f 42, f 43, f 44, f 45, f 46, f 47, f 48, f 49, f 50, f 51, f 52, f 53, f 54, f 55, f 56, f 57, f 58, f 59, f 60, f 61, f 62, f 63, f 64, f 65, f 66, f 67, f 68, f 69, f 70, f 71, f 72, f 73, f 74, f 75, f 76, f 77, f 78, f 79, f 80, f 81, f 82, f 83], defers := [] } W
        clear hK hd hold
        simp only [ze0] at HK ⊢
        clear ze0
        have HK := Aside.mk HK
        go_wp2
        exact HK.out _ _ (Chg.refl _) rfl
      · -- 77 := nilCheck t76
        intro f W hW hold hd K hK
        refine .inl ⟨wanted_free rfl _, ?_⟩
        dsimp only [bare]
        have ze76 : f 76 = .pointer (some ⟨L.p, 0, none⟩) := hd 76 rfl rfl
        have HK : ∀ v W', Chg (· = g) (fun W => Bld W B0 g raw.data.toList) W W' → chgV (· = g) (fun W => Bld W B0 g raw.data.toList) _ 77 v W' → K { tmps := #[f 0, f 1, f 2, f 3, f 4, f 5, f 6, f 7, f 8, f 9, f 10, f 11, f 12, f 13, f 14, f 15, f 16, f 17, f 18, f 19, f 20, f 21, f 22, f 23, f 24, f 25, f 26, f 27, f 28, f 29, f 30, f 31, f 32, f 33, f 34, f 35, f 36, f 37, f 38, f 39, f 40, f 41, f 42, f 43, f 44, f 45, f 46, f 47, f 48, f 49, f 50, f 51, f 52, f 53, f 54, f 55, f 56, f 57, f 58, f 59, f 60, f 61, f 62, f 63, f 64, f 65, f 66, f 67, f 68, f 69, f 70, f 71, f 72, f 73, f 74, f 75, f 76, v, f 78, f 79, f 80, f 81, f 82, f 83], defers := [] } W' := hK
        change wpList _ #[_] _ [_] { tmps := #[f 0, f 1, f 2, f 3, f 4, f 5, f 6, f 7, f 8, f 9, f 10, f 11, f 12, f 13, f 14, f 15, f 16, f 17, f 18, f 19, f 20, f 21, f 22, f 23, f 24, f 25, f 26, f 27, f 28, f 29, f 30, f 31, f 32, f 33, f 34, f 35, f 36, f 37, f 38, f 39, f 40, f 41, f 42, f 43, f 44, f 45, f 46, f 47, f 48, f 49, f 50, f 51, f 52, f 53, f 54, f 55, f 56, f 57, f 58, f 59, f 60, f 61, f 62, f 63, f 64, f 65, f 66, f 67, f 68, f 69, f 70, f 71, f 72, f 73, f 74, f 75, f 76, f 77, f 78, f 79, f 80, f 81, f 82, f 83], defers := [] } W
        clear hK hd hold
        simp only [ze76] at HK ⊢
        clear ze76
        have HK := Aside.mk HK
        go_wp2
        exact HK.out _ _ (Chg.refl _) rfl
      · -- 78 := fieldAddr 132 t77 0
        intro f W hW hold hd K hK
        refine .inl ⟨wanted_free rfl _, ?_⟩
        dsimp only [bare]
        have ze77 : f 77 = .pointer (some ⟨L.p, 0, none⟩) := hd 77 rfl rfl
        have HK : ∀ v W', Chg (· = g) (fun W => Bld W B0 g raw.data.toList) W W' → chgV (· = g) (fun W => Bld W B0 g raw.data.toList) _ 78 v W' → K { tmps := #[f 0, f 1, f 2, f 3, f 4, f 5, f 6, f 7, f 8, f 9, f 10, f 11, f 12, f 13, f 14, f 15, f 16, f 17, f 18, f 19, f 20, f 21, f 22, f 23, f 24, f 25, f 26, f 27, f 28, f 29, f 30, f 31, f 32, f 33, f 34, f 35, f 36, f 37, f 38, f 39, f 40, f 41, f 42, f 43, f 44, f 45, f 46, f 47, f 48, f 49, f 50, f 51, f 52, f 53, f 54, f 55, f 56, f 57, f 58, f 59, f 60, f 61, f 62, f 63, f 64, f 65, f 66, f 67, f 68, f 69, f 70, f 71, f 72, f 73, f 74, f 75, f 76, f 77, v, f 79, f 80, f 81, f 82, f 83], defers := [] } W' := hK
        change wpList _ #[_] _ [_] { tmps := #[f 0, f 1, f 2, f 3, f 4, f 5, f 6, f 7, f 8, f 9, f 10, f 11, f 12, f 13, f 14, f 15, f 16, f 17, f 18, f 19, f 20, f 21, f 22, f 23, f 24, f 25, f 26, f 27, f 28, f 29, f 30, f 31, f 32, f 33, f 34, f 35, f 36, f 37, f 38, f 39, f 40, f 41, f 42, f 43, f 44, f 45, f 46, f 47, f 48, f 49, f 50, f 51, f 52, f 53, f 54, f 55, f 56, f 57, f 58, f 59, f 60, f 61, f 62, f 63, f 64, f 65, f 66, f 67, f 68, f 69, f 70, f 71, f 72, f 73, f 74, f 75, f 76, f 77, f 78, f 79, f 80, f 81, f 82, f 83], defers := [] } W
        clear hK hd hold
        simp only [ze77] at HK ⊢
        clear ze77
        have HK := Aside.mk HK
        go_wp2
        exact HK.out _ _ (Chg.refl _) rfl
      · -- 79 := load 58 t78
        intro f W hW hold hd K hK
        refine .inl ⟨wanted_free rfl _, ?_⟩
        dsimp only [bare]
        have ze78 : f 78 = .pointer (some ⟨L.p, 0, none⟩) := hd 78 rfl rfl
        have HK : ∀ v W', Chg (· = g) (fun W => Bld W B0 g raw.data.toList) W W' → chgV (· = g) (fun W => Bld W B0 g raw.data.toList) _ 79 v W' → K { tmps := #[f 0, f 1, f 2, f 3, f 4, f 5, f 6, f 7, f 8, f 9, f 10, f 11, f 12, f 13, f 14, f 15, f 16, f 17, f 18, f 19, f 20, f 21, f 22, f 23, f 24, f 25, f 26, f 27, f 28, f 29, f 30, f 31, f 32, f 33, f 34, f 35, f 36, f 37, f 38, f 39, f 40, f 41, f 42, f 43, f 44, f 45, f 46, f 47, f 48, f 49, f 50, f 51, f 52, f 53, f 54, f 55, f 56, f 57, f 58, f 59, f 60, f 61, f 62, f 63, f 64, f 65, f 66, f 67, f 68, f 69, f 70, f 71, f 72, f 73, f 74, f 75, f 76, f 77, f 78, v, f 80, f 81, f 82, f 83], defers := [] } W' := hK
        change wpList _ #[_] _ [_] { tmps := #[f 0, f 1, f 2, f 3, f 4, f 5, f 6, f 7, f 8, f 9, f 10, f 11, f 12, f 13, f 14, f 15, f 16, f 17, f 18, f 19, f 20, f 21, f 22, f 23, f 24, f 25, f 26, f 27, f 28, f 29, f 30, f 31, f 32, f 33, f 34, f 35, f 36, f 37, f 38, f 39, f 40, f 41, f 42, f 43, f 44, f 45, f 46, f 47, f 48, f 49, f 50, f 51, f 52, f 53, f 54, f 55, f 56, f 57, f 58, f 59, f 60, f 61, f 62, f 63, f 64, f 65, f 66, f 67, f 68, f 69, f 70, f 71, f 72, f 73, f 74, f 75, f 76, f 77, f 78, f 79, f 80, f 81, f 82, f 83], defers := [] } W
        clear hK hd hold
        simp only [ze78] at HK ⊢
        clear ze78
        have HK := Aside.mk HK
        have hh := hW.blk (HPL.out.pgr) (fun e => HNE.out e); have hcell := cell_of_row W (L.p) 0 _ _ _ hh; clear hh
        go_wp2
        exact HK.out _ _ (Chg.refl _) rfl
      · -- 80 := move t1
        intro f W hW hold hd K hK
        refine .inl ⟨wanted_free rfl _, ?_⟩
        dsimp only [bare]
        have ze1 : f 1 = .int .i64 b := hold 1 rfl
        have HK : ∀ v W', Chg (· = g) (fun W => Bld W B0 g raw.data.toList) W W' → chgV (· = g) (fun W => Bld W B0 g raw.data.toList) _ 80 v W' → K { tmps := #[f 0, f 1, f 2, f 3, f 4, f 5, f 6, f 7, f 8, f 9, f 10, f 11, f 12, f 13, f 14, f 15, f 16, f 17, f 18, f 19, f 20, f 21, f 22, f 23, f 24, f 25, f 26, f 27, f 28, f 29, f 30, f 31, f 32, f 33, f 34, f 35, f 36, f 37, f 38, f 39, f 40, f 41, f 42, f 43, f 44, f 45, f 46, f 47, f 48, f 49, f 50, f 51, f 52, f 53, f 54, f 55, f 56, f 57, f 58, f 59, f 60, f 61, f 62, f 63, f 64, f 65, f 66, f 67, f 68, f 69, f 70, f 71, f 72, f 73, f 74, f 75, f 76, f 77, f 78, f 79, v, f 81, f 82, f 83], defers := [] } W' := hK
        change wpList _ #[_] _ [_] { tmps := #[f 0, f 1, f 2, f 3, f 4, f 5, f 6, f 7, f 8, f 9, f 10, f 11, f 12, f 13, f 14, f 15, f 16, f 17, f 18, f 19, f 20, f 21, f 22, f 23, f 24, f 25, f 26, f 27, f 28, f 29, f 30, f 31, f 32, f 33, f 34, f 35, f 36, f 37, f 38, f 39, f 40, f 41, f 42, f 43, f 44, f 45, f 46, f 47, f 48, f 49, f 50, f 51, f 52, f 53, f 54, f 55, f 56, f 57, f 58, f 59, f 60, f 61, f 62, f 63, f 64, f 65, f 66, f 67, f 68, f 69, f 70, f 71, f 72, f 73, f 74, f 75, f 76, f 77, f 78, f 79, f 80, f 81, f 82, f 83], defers := [] } W
        clear hK hd hold
        simp only [ze1] at HK ⊢
        clear ze1
        have HK := Aside.mk HK
        go_wp2
        exact HK.out _ _ (Chg.refl _) rfl
      · -- 81 := move t2
        intro f W hW hold hd K hK
        refine .inl ⟨wanted_free rfl _, ?_⟩
        dsimp only [bare]
        have ze2 : f 2 = .int .i64 q := hold 2 rfl
        have HK : ∀ v W', Chg (· = g) (fun W => Bld W B0 g raw.data.toList) W W' → chgV (· = g) (fun W => Bld W B0 g raw.data.toList) _ 81 v W' → K { tmps := #[f 0, f 1, f 2, f 3, f 4, f 5, f 6, f 7, f 8, f 9, f 10, f 11, f 12, f 13, f 14, f 15, f 16, f 17, f 18, f 19, f 20, f 21, f 22, f 23, f 24, f 25, f 26, f 27, f 28, f 29, f 30, f 31, f 32, f 33, f 34, f 35, f 36, f 37, f 38, f 39, f 40, f 41, f 42, f 43, f 44, f 45, f 46, f 47, f 48, f 49, f 50, f 51, f 52, f 53, f 54, f 55, f 56, f 57, f 58, f 59, f 60, f 61, f 62, f 63, f 64, f 65, f 66, f 67, f 68, f 69, f 70, f 71, f 72, f 73, f 74, f 75, f 76, f 77, f 78, f 79, f 80, v, f 82, f 83], defers := [] } W' := hK
        change wpList _ #[_] _ [_] { tmps := #[f 0, f 1, f 2, f 3, f 4, f 5, f 6, f 7, f 8, f 9, f 10, f 11, f 12, f 13, f 14, f 15, f 16, f 17, f 18, f 19, f 20, f 21, f 22, f 23, f 24, f 25, f 26, f 27, f 28, f 29, f 30, f 31, f 32, f 33, f 34, f 35, f 36, f 37, f 38, f 39, f 40, f 41, f 42, f 43, f 44, f 45, f 46, f 47, f 48, f 49, f 50, f 51, f 52, f 53, f 54, f 55, f 56, f 57, f 58, f 59, f 60, f 61, f 62, f 63, f 64, f 65, f 66, f 67, f 68, f 69, f 70, f 71, f 72, f 73, f 74, f 75, f 76, f 77, f 78, f 79, f 80, f 81, f 82, f 83], defers := [] } W
        clear hK hd hold
        simp only [ze2] at HK ⊢
        clear ze2
        have HK := Aside.mk HK
        go_wp2
        exact HK.out _ _ (Chg.refl _) rfl
      · -- 82 := CALL f63 (*strings.Builder).String [t11] : [137]
        intro f W hW hold hd K hK
        refine .inl ⟨wanted_free rfl _, ?_⟩
        dsimp only [bare]
        have ze11 : f 11 = .pointer (some ⟨B0, 0, none⟩) := hold 11 rfl
        have HK : ∀ v W', Chg (· = g) (fun W => Bld W B0 g raw.data.toList) W W' → chgV (· = g) (fun W => Bld W B0 g raw.data.toList) _ 82 v W' → K { tmps := #[f 0, f 1, f 2, f 3, f 4, f 5, f 6, f 7, f 8, f 9, f 10, f 11, f 12, f 13, f 14, f 15, f 16, f 17, f 18, f 19, f 20, f 21, f 22, f 23, f 24, f 25, f 26, f 27, f 28, f 29, f 30, f 31, f 32, f 33, f 34, f 35, f 36, f 37, f 38, f 39, f 40, f 41, f 42, f 43, f 44, f 45, f 46, f 47, f 48, f 49, f 50, f 51, f 52, f 53, f 54, f 55, f 56, f 57, f 58, f 59, f 60, f 61, f 62, f 63, f 64, f 65, f 66, f 67, f 68, f 69, f 70, f 71, f 72, f 73, f 74, f 75, f 76, f 77, f 78, f 79, f 80, f 81, v, f 83], defers := [] } W' := hK
        change wpList _ #[_] _ [_] { tmps := #[f 0, f 1, f 2, f 3, f 4, f 5, f 6, f 7, f 8, f 9, f 10, f 11, f 12, f 13, f 14, f 15, f 16, f 17, f 18, f 19, f 20, f 21, f 22, f 23, f 24, f 25, f 26, f 27, f 28, f 29, f 30, f 31, f 32, f 33, f 34, f 35, f 36, f 37, f 38, f 39, f 40, f 41, f 42, f 43, f 44, f 45, f 46, f 47, f 48, f 49, f 50, f 51, f 52, f 53, f 54, f 55, f 56, f 57, f 58, f 59, f 60, f 61, f 62, f 63, f 64, f 65, f 66, f 67, f 68, f 69, f 70, f 71, f 72, f 73, f 74, f 75, f 76, f 77, f 78, f 79, f 80, f 81, f 82, f 83], defers := [] } W
        clear hK hd hold
        simp only [ze11] at HK ⊢
        clear ze11
        have HK := Aside.mk HK
        go_wp2_with (go_at_call 63; refine (HBT.out W (hW.inv HI.out.2.2.2.2.2)).mono ?_; rintro e w6 ⟨rfl, hc6⟩)
        exact HK.out _ _ hc6 rfl
      · intro f W hW hold hd aAct hAct
        replace hAct := hAct.trans (rel_puts hold)
        have ze76 : f 76 = .pointer (some ⟨L.p, 0, none⟩) := hd 76 rfl
        have ze77 : f 77 = .pointer (some ⟨L.p, 0, none⟩) := hd 77 rfl
        have ze78 : f 78 = .pointer (some ⟨L.p, 0, none⟩) := hd 78 rfl
        have ze79 : f 79 = .pointer (some ⟨L.c, 0, none⟩) := hd 79 rfl
        have ze80 : f 80 = .int .i64 b := hd 80 rfl
        have ze81 : f 81 = .int .i64 q := hd 81 rfl
        have ze82 : f 82 = .string raw := hd 82 rfl
        simp only [List.take_succ_cons, List.take_zero, putAll, List.foldl_cons, List.foldl_nil, Option.getD_some] at hAct
        simp only [ze76, ze77, ze78, ze79, ze80, ze81, ze82] at hAct
        subst hAct
        simp only [List.drop_succ_cons, List.drop_zero, Act.put, List.setIfInBounds_toArray, List.set_cons_zero, List.set_cons_succ]
        clear hold hd ze76 ze77 ze78 ze79 ze80 ze81 ze82
        have hch : Chg (fun q => q = B0 ∨ q = g) (fun _ => True) W4 W := HI.out.2.2.2.2.1.trans ⟨hW.os, hW.tape, hW.output, hW.size, fun q hq hne => hW.block q hq (fun e => hne (.inr e)), fun _ => trivial⟩
        have hpw : PgrAt W L S := HKT.out W hch
        have hmw : Mv L.lo L.hi w W := ⟨hch.os.trans HI.out.2.1.os, hch.tape.trans HI.out.2.1.tape, hch.output.trans HI.out.2.1.output, Nat.le_trans HI.out.2.1.size hch.size, fun q hq hx => (hch.block q (Nat.lt_of_lt_of_le hq HI.out.2.1.size) (fun e => by have h1 := HB0.out; have h2 := HI.out.2.2.2.1; have h3 := HI.out.2.1.size; rcases e with e | e <;> omega)).trans (HI.out.2.1.block q hq hx), fun _ => trivial⟩
        have HW := Aside.mk (And.intro hpw hmw)
        clear hch hpw hmw hW
        go_wp2_with (go_at_call 62; refine (HPP.out W HW.out.1.chip).mono ?_; intro e w7 hp; have he := hp.1; subst he; have HF := Aside.mk (wp_of_chip HW.out.1 HW.out.2 hp HQ.out.1 HQ.out.2.1 HQ.out.2.2); clear hp)
        go_ret
        exact HF.out
end Go.Proofs.YtkgacnenmflegaaGreatDoor
