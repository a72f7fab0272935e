/-
  A page is read.
-/
import Derived.Test.YtkgacnenmflegaaGreatDoorMg13
import Derived.Test.YtkgacnenmflegaaGreatDoorMg15
namespace Go.Proofs.YtkgacnenmflegaaGreatDoor
open Go.RowKit

theorem Nib.mv {w W : World} {lo hi : Nat} (h : Nib w) (hm : Mv lo hi w W) (hg : 0 < lo) : Nib W :=
  ⟨fun i hi' => (hm.cell (World.block_lt_of_cell? w _ (h.out i hi')) (fun hx => by have h2 : lo ≤ 0 := hx.1; omega) i).trans (h.out i hi')⟩
set_option maxRecDepth 20000 in
theorem slice_mid (s : ByteArray) (a b : Nat) (h : a ≤ b) (h2 : b ≤ s.size) (W : World) :
    (Instr.slice 9 (.string s) (some (.int .i64 (a : Int))) (some (.int .i64 (b : Int))) none).run Tryz.prog W = .ok (.string (s.extract a b)) W := by
  have := run_slice_string (P := Tryz.prog) (w := W) 9 s .i64 .i64 (a : Int) (b : Int) Tryz.underlying9 (by omega) (by omega) (by omega)
  rw [this]
  congr 3
def foundV (ok : Bool) (pl : ByteArray) (cnt : Int) : Value := if ok then .agg #[.int .i64 1, .string pl, .int .i64 cnt] else .agg #[.int .i64 2, .string ⟨#[]⟩, .int .i64 0]
def emptyV : Value := .agg #[.int .i64 0, .string ⟨#[]⟩, .int .i64 0]
def FoundPost (w : World) (L : PLoc) (S : ChS) (v : Value) (e : Ending) (w' : World) : Prop := e = .returned (.tuple #[v, .int .i64 0]) ∧ PgrAt w' L S ∧ Mv L.lo L.hi w w'
theorem PgrAt.mvk {w w' : World} {L : PLoc} {S : ChS} (h : PgrAt w L S) (hg : Chg (· = L.k) (fun _ => True) w w') : Mv L.lo L.hi w w' := ⟨hg.os, hg.tape, hg.output, hg.size, fun q hq hx => hg.block q hq fun e => hx (by rw [e]; exact h.rk), fun _ => trivial⟩
/-- The struct that is handed back is written. -/
theorem PgrAt.found {w w' : World} {L : PLoc} {S : ChS} {R0 : Nat} {cs : Array Value} {fr : Nat × Nat} (h : PgrAt w L S) (hr : w.heap[R0]? = some (.cells cs 70 fr)) (hg : Chg (· = R0) (fun _ => True) w w') : PgrAt w' L S :=
  h.keptS hg (fun q cs2 ty fr2 h1 h2 => by
    subst h2
    rw [hr] at h1
    simp only [Option.some.injEq, Obj.cells.injEq] at h1
    rw [← h1.2.1]
    exact ⟨by decide, by decide, fun e => absurd e (by decide)⟩) (fun q cs2 ty fr2 h1 h2 => by
    subst h2
    rw [hr] at h1
    simp only [Option.some.injEq, Obj.cells.injEq] at h1
    rw [← h1.2.1]
    decide)
theorem found_put {w : World} {R0 : Nat} {a0 a1 a2 : Value} (h : w.heap[R0]? = some (.cells #[a0, a1, a2] 70 (0, 0))) (v0 v1 v2 : Value) :
    (((w.setCell ⟨R0, 0, none⟩ v0).setCell ⟨R0, 1, none⟩ v1).setCell ⟨R0, 2, none⟩ v2).heap[R0]? = some (.cells #[v0, v1, v2] 70 (0, 0)) ∧ Chg (· = R0) (fun _ => True) w (((w.setCell ⟨R0, 0, none⟩ v0).setCell ⟨R0, 1, none⟩ v1).setCell ⟨R0, 2, none⟩ v2) := by
  constructor
  · simp [World.setCell, Array.getElem?_modify, h]
  · exact ((Chg.setCell (X := (· = R0)) ⟨R0, 0, none⟩ v0 rfl).trans (Chg.setCell (X := (· = R0)) ⟨R0, 1, none⟩ v1 rfl)).trans (Chg.setCell (X := (· = R0)) ⟨R0, 2, none⟩ v2 rfl)
theorem found_end {w0 w : World} {L : PLoc} {S : ChS} {R0 : Nat} {a0 a1 a2 : Value} (hp : PgrAt w L S) (hm : Mv L.lo L.hi w0 w) (hR : w0.heap.size ≤ R0) (h : w.heap[R0]? = some (.cells #[a0, a1, a2] 70 (0, 0))) (v0 v1 v2 : Value) :
    PgrAt (((w.setCell ⟨R0, 0, none⟩ v0).setCell ⟨R0, 1, none⟩ v1).setCell ⟨R0, 2, none⟩ v2) L S ∧ Mv L.lo L.hi w0 (((w.setCell ⟨R0, 0, none⟩ v0).setCell ⟨R0, 1, none⟩ v1).setCell ⟨R0, 2, none⟩ v2) ∧
    (((w.setCell ⟨R0, 0, none⟩ v0).setCell ⟨R0, 1, none⟩ v1).setCell ⟨R0, 2, none⟩ v2).cell? ⟨R0, 0, none⟩ = some v0 ∧ (((w.setCell ⟨R0, 0, none⟩ v0).setCell ⟨R0, 1, none⟩ v1).setCell ⟨R0, 2, none⟩ v2).cell? ⟨R0, 1, none⟩ = some v1 ∧ (((w.setCell ⟨R0, 0, none⟩ v0).setCell ⟨R0, 1, none⟩ v1).setCell ⟨R0, 2, none⟩ v2).cell? ⟨R0, 2, none⟩ = some v2 := by
  obtain ⟨h1, h2⟩ := found_put h v0 v1 v2
  generalize ((w.setCell ⟨R0, 0, none⟩ v0).setCell ⟨R0, 1, none⟩ v1).setCell ⟨R0, 2, none⟩ v2 = W at *
  refine ⟨hp.found h h2, ⟨h2.os.trans hm.os, h2.tape.trans hm.tape, h2.output.trans hm.output, Nat.le_trans hm.size h2.size, fun q hq hx => (h2.block q (Nat.lt_of_lt_of_le hq hm.size) (fun e => by omega)).trans (hm.block q hq hx), fun _ => trivial⟩, ?_, ?_, ?_⟩
  · exact cell_of_row W R0 0 _ _ _ h1
  · exact cell_of_row W R0 1 _ _ _ h1
  · exact cell_of_row W R0 2 _ _ _ h1
/-- What a page's text says. -/
def sayP (d : ByteArray) : ByteArray := ⟨(Lib.trimPrefix (openText d).data.toList [0, 0, 0]).toArray⟩
def isP (d : ByteArray) : Bool := Lib.hasPrefix (openText d).data.toList [0, 0, 0]
set_option maxRecDepth 40000 in
set_option maxHeartbeats 4000000 in
theorem page_read_empty (w : World) (L : PLoc) (S S2 : ChS) (h : PgrAt w L S) (b q : Int) (x : ByteArray) (hx : x.size = L.n + lowN8 L.t) (h1 : S2.nb = S.nb) (h2 : S2.np = S.np) (h3 : S2.raw = S.raw)
    (HR : ∀ W, L.Chip S W → Calls Tryz.prog 64 #[.pointer (some ⟨L.c, 0, none⟩), .int .i64 b, .int .i64 q] W (ReadPost W L.lo L.hi L.c L.bb L.bo L.cap L.pb S2 x)) (hno : noL x.data.toList ≤ L.t) :
    Calls Tryz.prog 26 #[.pointer (some ⟨L.p, 0, none⟩), .int .i64 b, .int .i64 q] w (FoundPost w L S2 emptyV) := by
  have hb := (Below.refl w.heap.size w).alloc (Nat.le_refl _) (.cells #[.int .i64 0, .string ⟨#[]⟩, .int .i64 0] 70)
  have HH : Aside (PgrAt (w.alloc (.cells #[.int .i64 0, .string ⟨#[]⟩, .int .i64 0] 70)) L S ∧ Mv L.lo L.hi w (w.alloc (.cells #[.int .i64 0, .string ⟨#[]⟩, .int .i64 0] 70)) ∧ (w.alloc (.cells #[.int .i64 0, .string ⟨#[]⟩, .int .i64 0] 70)).heap[w.heap.size]? = some (.cells #[.int .i64 0, .string ⟨#[]⟩, .int .i64 0] 70 (0, 0))) := ⟨h.below hb, Mv.below hb, heap_alloc_new w _⟩
  obtain ⟨R0, hR0⟩ : ∃ R0, R0 = w.heap.size := ⟨_, rfl⟩
  have HRD := Aside.mk HR
  have HX := Aside.mk (And.intro hx (And.intro hno (And.intro h1 (And.intro h2 h3))))
  have HRR := Aside.mk hR0
  clear h hb HR hx hno h1 h2 h3 hR0
  go_enter Tryz.func26, Tryz.ntmps26
  go_upto_region 1 with fail
  have hR0 := HRR.out
  rw [← hR0] at HH ⊢
  generalize w.alloc (.cells #[.int .i64 0, .string ⟨#[]⟩, .int .i64 0] 70) = w0 at *
  clear hR0
  have q0 := HH.out.1.q0
  go_upto_region 4 with (go_at_call 64; refine (HRD.out w0 HH.out.1.chip).mono ?_; rintro e w1 ⟨rfl, hc1, hv1⟩)
  have hv1' : L.Cv S w0 w1 := by show Cv _ _ _ _ _ _; rw [← HX.out.2.2.1]; exact hv1
  have H1 : Aside (PgrAt w1 L S2 ∧ Mv L.lo L.hi w w1 ∧ w1.heap[R0]? = some (.cells #[.int .i64 0, .string ⟨#[]⟩, .int .i64 0] 70 (0, 0))) := ⟨HH.out.1.chg hv1' hc1 HX.out.2.2.1 HX.out.2.2.2.1 HX.out.2.2.2.2, HH.out.2.1.trans (HH.out.1.chip.mv hv1'), HH.out.1.chip.other hv1' HH.out.2.2 (by decide) (by decide) (by decide)⟩
  have HEM := Aside.mk (page_empty w1 L S2 H1.out.1 x HX.out.1)
  clear q0 hc1 hv1 hv1'
  go_upto_region 5 with (go_at_call 65; refine HEM.out.mono ?_; rw [show decide (noL x.data.toList ≤ L.t) = true by simpa using HX.out.2.1]; rintro e w2 ⟨rfl, hp2, hk2⟩)
  have hr2 : w2.heap[R0]? = some (.cells #[.int .i64 0, .string ⟨#[]⟩, .int .i64 0] 70 (0, 0)) := by
    refine hk2.blk H1.out.2.2 fun e => ?_
    obtain ⟨cs, fr, hkb⟩ := H1.out.1.code.blk
    have h0 := H1.out.2.2
    rw [e, hkb] at h0
    simp only [Option.some.injEq, Obj.cells.injEq] at h0
    exact absurd h0.2.1 (by decide)
  have H2 : Aside (PgrAt w2 L S2 ∧ Mv L.lo L.hi w w2) := ⟨hp2, H1.out.2.1.trans (H1.out.1.mvk hk2)⟩
  have hfe := found_end H2.out.1 H2.out.2 (by rw [HRR.out]; exact Nat.le_refl _) hr2 (.int .i64 0) (.string ⟨#[]⟩) (.int .i64 0)
  have d0 := cell_of_row w2 R0 0 _ _ _ hr2
  have d1 := cell_of_row w2 R0 1 _ _ _ hr2
  have d2 := cell_of_row w2 R0 2 _ _ _ hr2
  have f0 : ∀ j, w2.frozen? ⟨R0, j, none⟩ = false := fun j => by simp only [World.frozen?, hr2]; simp
  have f00 := f0 0
  have f01 := f0 1
  have f02 := f0 2
  have HF := Aside.mk hfe
  clear hfe hr2 hp2 hk2 f0
  simp only [List.getElem?_cons_zero, List.getElem?_cons_succ, List.getElem?_toArray] at d0 d1 d2
  go_wp2
  obtain ⟨hp, hm, z0, z1, z2⟩ := HF.out
  clear HF
  generalize ((w2.setCell ⟨R0, 0, none⟩ (.int .i64 0)).setCell ⟨R0, 1, none⟩ (.string ⟨#[]⟩)).setCell ⟨R0, 2, none⟩ (.int .i64 0) = Wf at *
  exact bodyPost_ret (v := .tuple #[.agg #[.int .i64 0, .string ⟨#[]⟩, .int .i64 0], .int .i64 0]) (by simp [results, Tryz.results26, go_sem, z0, z1, z2]) rfl ⟨rfl, hp, hm⟩
set_option maxRecDepth 40000 in
set_option maxHeartbeats 8000000 in
theorem page_read (w : World) (L : PLoc) (S S2 : ChS) (h : PgrAt w L S) (hn : Nib w) (hgl : 0 < L.lo) (b q : Int) (x d pp : ByteArray) (cnt : Nat) (hcnt : cnt ≤ 1000) (ok is : Bool) (hok : opens d = ok) (his : isP d = is) (hx : x.size = L.n + lowN8 L.t) (hd : d.size = L.n) (h1 : S2.nb = S.nb) (h2 : S2.np = S.np) (h3 : S2.raw = S.raw)
    (HR : ∀ W, L.Chip S W → Calls Tryz.prog 64 #[.pointer (some ⟨L.c, 0, none⟩), .int .i64 b, .int .i64 q] W (ReadPost W L.lo L.hi L.c L.bb L.bo L.cap L.pb S2 x)) (hno : ¬ noL x.data.toList ≤ L.t)
    (HDC : ∀ W, CAny L.k L.t L.n W → Calls Tryz.prog 66 #[.pointer (some ⟨L.k, 0, none⟩), .string (x.extract 0 L.n), .string (x.extract L.n x.size)] W (DecPost W L.k L.t L.n d pp cnt)) :
    Calls Tryz.prog 26 #[.pointer (some ⟨L.p, 0, none⟩), .int .i64 b, .int .i64 q] w (FoundPost w L S2 (foundV (ok && is) (sayP d) cnt)) := by
  have HDD := Aside.mk HDC
  have HOK := Aside.mk (And.intro hok (And.intro his (And.intro hd (And.intro hn (And.intro hgl hcnt)))))
  clear HDC hok his hd hn hgl hcnt
  have hb := (Below.refl w.heap.size w).alloc (Nat.le_refl _) (.cells #[.int .i64 0, .string ⟨#[]⟩, .int .i64 0] 70)
  have HH : Aside (PgrAt (w.alloc (.cells #[.int .i64 0, .string ⟨#[]⟩, .int .i64 0] 70)) L S ∧ Mv L.lo L.hi w (w.alloc (.cells #[.int .i64 0, .string ⟨#[]⟩, .int .i64 0] 70)) ∧ (w.alloc (.cells #[.int .i64 0, .string ⟨#[]⟩, .int .i64 0] 70)).heap[w.heap.size]? = some (.cells #[.int .i64 0, .string ⟨#[]⟩, .int .i64 0] 70 (0, 0))) := ⟨h.below hb, Mv.below hb, heap_alloc_new w _⟩
  obtain ⟨R0, hR0⟩ : ∃ R0, R0 = w.heap.size := ⟨_, rfl⟩
  have HRD := Aside.mk HR
  have HX := Aside.mk (And.intro hx (And.intro hno (And.intro h1 (And.intro h2 h3))))
  have HRR := Aside.mk hR0
  clear h hb HR hx hno h1 h2 h3 hR0
  go_enter Tryz.func26, Tryz.ntmps26
  go_upto_region 1 with fail
  have hR0 := HRR.out
  rw [← hR0] at HH ⊢
  generalize w.alloc (.cells #[.int .i64 0, .string ⟨#[]⟩, .int .i64 0] 70) = w0 at *
  clear hR0
  have q0 := HH.out.1.q0
  go_upto_region 4 with (go_at_call 64; refine (HRD.out w0 HH.out.1.chip).mono ?_; rintro e w1 ⟨rfl, hc1, hv1⟩)
  have hv1' : L.Cv S w0 w1 := by show Cv _ _ _ _ _ _; rw [← HX.out.2.2.1]; exact hv1
  have H1 : Aside (PgrAt w1 L S2 ∧ Mv L.lo L.hi w w1 ∧ w1.heap[R0]? = some (.cells #[.int .i64 0, .string ⟨#[]⟩, .int .i64 0] 70 (0, 0))) := ⟨HH.out.1.chg hv1' hc1 HX.out.2.2.1 HX.out.2.2.2.1 HX.out.2.2.2.2, HH.out.2.1.trans (HH.out.1.chip.mv hv1'), HH.out.1.chip.other hv1' HH.out.2.2 (by decide) (by decide) (by decide)⟩
  have HEM := Aside.mk (page_empty w1 L S2 H1.out.1 x HX.out.1)
  clear q0 hc1 hv1 hv1'
  go_upto_region 6 with (go_at_call 65; refine HEM.out.mono ?_; rw [show decide (noL x.data.toList ≤ L.t) = false by simpa using HX.out.2.1]; rintro e w2 ⟨rfl, hp2, hk2⟩)
  have hr2 : w2.heap[R0]? = some (.cells #[.int .i64 0, .string ⟨#[]⟩, .int .i64 0] 70 (0, 0)) := by
    refine hk2.blk H1.out.2.2 fun e => ?_
    obtain ⟨cs, fr, hkb⟩ := H1.out.1.code.blk
    have h0 := H1.out.2.2
    rw [e, hkb] at h0
    simp only [Option.some.injEq, Obj.cells.injEq] at h0
    exact absurd h0.2.1 (by decide)
  have hm2 := H1.out.2.1.trans (H1.out.1.mvk hk2)
  have hbb := (Below.refl w2.heap.size w2).alloc (Nat.le_refl _) (.cells #[.pointer none, .slice none 0 0] 137)
  obtain ⟨B0, hB0⟩ : ∃ B0, B0 = w2.heap.size := ⟨_, rfl⟩
  have H3 : Aside (PgrAt (w2.alloc (.cells #[.pointer none, .slice none 0 0] 137)) L S2 ∧ Mv L.lo L.hi w (w2.alloc (.cells #[.pointer none, .slice none 0 0] 137)) ∧ (w2.alloc (.cells #[.pointer none, .slice none 0 0] 137)).heap[R0]? = some (.cells #[.int .i64 0, .string ⟨#[]⟩, .int .i64 0] 70 (0, 0)) ∧ BldN (w2.alloc (.cells #[.pointer none, .slice none 0 0] 137)) B0 ∧ w.heap.size ≤ B0) := ⟨hp2.below hbb, hm2.trans (Mv.below hbb), below_blk hr2 hbb, by rw [hB0]; exact heap_alloc_new w2 _, by rw [hB0]; exact hm2.size⟩
  clear hp2 hk2 hr2 hm2 hbb H1 HEM HH HRD
  go_upto_region 8 with fail
  rw [← hB0]
  generalize w2.alloc (.cells #[.pointer none, .slice none 0 0] 137) = wp at *
  clear hB0
  obtain ⟨l8, hl8⟩ : ∃ l8, l8 = lowN8 L.t := ⟨_, rfl⟩
  obtain ⟨sz, hsz⟩ : ∃ sz, sz = L.n + l8 := ⟨_, rfl⟩
  have hL14 : lowN8 L.t ≤ 14 := by have h1 := (degN_le L.t (by have := H3.out.1.ht8; omega) H3.out.1.ht1).2; have := H3.out.1.ht8; unfold lowN8; omega
  have HPA : Aside (∀ W, CAny L.k L.t L.n W → Calls Tryz.prog 58 #[.pointer (some ⟨L.k, 0, none⟩)] W fun e w' => e = .returned (.int .i64 (l8 : Int)) ∧ W.grownBy w' (some L.k) ∧ (CAny L.k L.t L.n W → CAny L.k L.t L.n w')) := ⟨fun W hW => by
    refine (bch_parity_any L.k L.t L.n W H3.out.1.ht8 H3.out.1.ht1 hW).mono ?_
    rintro e w' ⟨rfl, h1, h2⟩
    exact ⟨by rw [hl8], h2, fun _ => h1⟩⟩
  have HE : Aside (IntKind.i64.wrap ((L.n : Int) + (l8 : Int)) = (sz : Int)) := ⟨by have := H3.out.1.hn2; rw [IntKind.wrap_i64]; omega⟩
  have HNE : Aside (∀ W cs ty fr, PgrAt W L S2 → ∀ q, W.heap[q]? = some (.cells cs ty fr) → ty ≠ 231 → q ≠ L.k) := ⟨fun W cs ty fr hW q hq hty e => by
    obtain ⟨kcs, kfr, hkb⟩ := hW.code.blk
    rw [e, hkb] at hq
    simp only [Option.some.injEq, Obj.cells.injEq] at hq
    exact hty hq.2.1.symm⟩
  have HZ := Aside.mk (And.intro hsz (And.intro hl8 (And.intro hL14 (And.intro H3.out.1.hn2 H3.out.1.hn1))))
  clear hl8 hsz hL14
  refine wp_region_r 12 (by kernel_rfl) (by kernel_rfl) (rel_small (by kernel_rfl)) (chgV (· = L.k) (CAny L.k L.t L.n) [(12, .val (.int .i64 sz)), (42, .val (.pointer (some ⟨L.p, 0, none⟩))), (43, .val (.pointer (some ⟨L.p, 0, none⟩))), (44, .val (.pointer (some ⟨L.p, 2, none⟩))), (45, .val (.pointer (some ⟨L.p, 5, none⟩))), (46, .val (.int .i64 (L.n : Int))), (47, .val (.pointer (some ⟨L.p, 0, none⟩))), (48, .val (.pointer (some ⟨L.p, 0, none⟩))), (49, .val (.pointer (some ⟨L.p, 1, none⟩))), (50, .val (.pointer (some ⟨L.k, 0, none⟩))), (51, .val (.int .i64 l8)), (52, .val (.int .i64 sz))]) (Chg (· = L.k) (CAny L.k L.t L.n)) (chg_drew _ _ _ (CAny.drew)) Chg.refl (fun _ _ _ => Chg.trans) (chgV_stable _ _ _) ⟨?_, ?_, ?_, ?_, ?_, ?_, ?_, ?_, ?_, ?_, ?_, ?_, trivial⟩ ?_
  · -- 42 := move t0
    intro f W hW hold hd K hK
    refine .inl ⟨wanted_free rfl _, ?_⟩
    dsimp only [bare]
    have ze0 : f 0 = .pointer (some ⟨L.p, 0, none⟩) := hold 0 rfl
    have HK : ∀ v W', Chg (· = L.k) (CAny L.k L.t L.n) W W' → chgV (· = L.k) (CAny L.k L.t L.n) _ 42 v W' → K { tmps := #[f 0, f 1, f 2, f 3, f 4, f 5, f 6, f 7, f 8, f 9, f 10, f 11, f 12, f 13, f 14, f 15, f 16, f 17, f 18, f 19, f 20, f 21, f 22, f 23, f 24, f 25, f 26, f 27, f 28, f 29, f 30, f 31, f 32, f 33, f 34, f 35, f 36, f 37, f 38, f 39, f 40, f 41, v, f 43, f 44, f 45, f 46, f 47, f 48, f 49, f 50, f 51, f 52, f 53, f 54, f 55, f 56, f 57, f 58, f 59, f 60, f 61, f 62, f 63, f 64, f 65, f 66, f 67, f 68, f 69, f 70, f 71, f 72, f 73, f 74, f 75, f 76, f 77, f 78, f 79, f 80, f 81, f 82, f 83, f 84, f 85, f 86, f 87, f 88, f 89, f 90, f 91, f 92, f 93, f 94, f 95, f 96, f 97, f 98, f 99, f 100, f 101, f 102, f 103, f 104, f 105, f 106, f 107, f 108, f 109, f 110], defers := [] } W' := hK
    change wpList _ #[_] _ [_] { tmps := #[f 0, f 1, f 2, f 3, f 4, f 5, f 6, f 7, f 8, f 9, f 10, f 11, f 12, f 13, f 14, f 15, f 16, f 17, f 18, f 19, f 20, f 21, f 22, f 23, f 24, f 25, f 26, f 27, f 28, f 29, f 30, f 31, f 32, f 33, f 34, f 35, f 36, f 37, f 38, f 39, f 40, f 41, f 42, f 43, f 44, f 45, f 46, f 47, f 48, f 49, f 50, f 51, f 52, f 53, f 54, f 55, f 56, f 57, f 58, f 59, f 60, f 61, f 62, f 63, f 64, f 65, f 66, f 67, f 68, f 69, f 70, f 71, f 72, f 73, f 74, f 75, f 76, f 77, f 78, f 79, f 80, f 81, f 82, f 83, f 84, f 85, f 86, f 87, f 88, f 89, f 90, f 91, f 92, f 93, f 94, f 95, f 96, f 97, f 98, f 99, f 100, f 101, f 102, f 103, f 104, f 105, f 106, f 107, f 108, f 109, f 110], defers := [] } W
    clear hK hd hold
    simp only [ze0] at HK ⊢
    clear ze0
    have HK := Aside.mk HK
    go_wp2
    exact HK.out _ _ (Chg.refl _) rfl
  · -- 43 := nilCheck t42
    intro f W hW hold hd K hK
    refine .inl ⟨wanted_free rfl _, ?_⟩
    dsimp only [bare]
    have ze42 : f 42 = .pointer (some ⟨L.p, 0, none⟩) := hd 42 rfl rfl
    have HK : ∀ v W', Chg (· = L.k) (CAny L.k L.t L.n) W W' → chgV (· = L.k) (CAny L.k L.t L.n) _ 43 v W' → K { tmps := #[f 0, f 1, f 2, f 3, f 4, f 5, f 6, f 7, f 8, f 9, f 10, f 11, f 12, f 13, f 14, f 15, f 16, f 17, f 18, f 19, f 20, f 21, f 22, f 23, f 24, f 25, f 26, f 27, f 28, f 29, f 30, f 31, f 32, f 33, f 34, f 35, f 36, f 37, f 38, f 39, f 40, f 41, f 42, v, f 44, f 45, f 46, f 47, f 48, f 49, f 50, f 51, f 52, f 53, f 54, f 55, f 56, f 57, f 58, f 59, f 60, f 61, f 62, f 63, f 64, f 65, f 66, f 67, f 68, f 69, f 70, f 71, f 72, f 73, f 74, f 75, f 76, f 77, f 78, f 79, f 80, f 81, f 82, f 83, f 84, f 85, f 86, f 87, f 88, f 89, f 90, f 91, f 92, f 93, f 94, f 95, f 96, f 97, f 98, f 99, f 100, f 101, f 102, f 103, f 104, f 105, f 106, f 107, f 108, f 109, f 110], defers := [] } W' := hK
    change wpList _ #[_] _ [_] { tmps := #[f 0, f 1, f 2, f 3, f 4, f 5, f 6, f 7, f 8, f 9, f 10, f 11, f 12, f 13, f 14, f 15, f 16, f 17, f 18, f 19, f 20, f 21, f 22, f 23, f 24, f 25, f 26, f 27, f 28, f 29, f 30, f 31, f 32, f 33, f 34, f 35, f 36, f 37, f 38, f 39, f 40, f 41, f 42, f 43, f 44, f 45, f 46, f 47, f 48, f 49, f 50, f 51, f 52, f 53, f 54, f 55, f 56, f 57, f 58, f 59, f 60, f 61, f 62, f 63, f 64, f 65, f 66, f 67, f 68, f 69, f 70, f 71, f 72, f 73, f 74, f 75, f 76, f 77, f 78, f 79, f 80, f 81, f 82, f 83, f 84, f 85, f 86, f 87, f 88, f 89, f 90, f 91, f 92, f 93, f 94, f 95, f 96, f 97, f 98, f 99, f 100, f 101, f 102, f 103, f 104, f 105, f 106, f 107, f 108, f 109, f 110], defers := [] } W
    clear hK hd hold
    simp only [ze42] at HK ⊢
    clear ze42
    have HK := Aside.mk HK
    go_wp2
    exact HK.out _ _ (Chg.refl _) rfl
  · -- 44 := fieldAddr 132 t43 2
    intro f W hW hold hd K hK
    refine .inl ⟨wanted_free rfl _, ?_⟩
    dsimp only [bare]
    have ze43 : f 43 = .pointer (some ⟨L.p, 0, none⟩) := hd 43 rfl rfl
    have HK : ∀ v W', Chg (· = L.k) (CAny L.k L.t L.n) W W' → chgV (· = L.k) (CAny L.k L.t L.n) _ 44 v W' → K { tmps := #[f 0, f 1, f 2, f 3, f 4, f 5, f 6, f 7, f 8, f 9, f 10, f 11, f 12, f 13, f 14, f 15, f 16, f 17, f 18, f 19, f 20, f 21, f 22, f 23, f 24, f 25, f 26, f 27, f 28, f 29, f 30, f 31, f 32, f 33, f 34, f 35, f 36, f 37, f 38, f 39, f 40, f 41, f 42, f 43, v, f 45, f 46, f 47, f 48, f 49, f 50, f 51, f 52, f 53, f 54, f 55, f 56, f 57, f 58, f 59, f 60, f 61, f 62, f 63, f 64, f 65, f 66, f 67, f 68, f 69, f 70, f 71, f 72, f 73, f 74, f 75, f 76, f 77, f 78, f 79, f 80, f 81, f 82, f 83, f 84, f 85, f 86, f 87, f 88, f 89, f 90, f 91, f 92, f 93, f 94, f 95, f 96, f 97, f 98, f 99, f 100, f 101, f 102, f 103, f 104, f 105, f 106, f 107, f 108, f 109, f 110], defers := [] } W' := hK
    change wpList _ #[_] _ [_] { tmps := #[f 0, f 1, f 2, f 3, f 4, f 5, f 6, f 7, f 8, f 9, f 10, f 11, f 12, f 13, f 14, f 15, f 16, f 17, f 18, f 19, f 20, f 21, f 22, f 23, f 24, f 25, f 26, f 27, f 28, f 29, f 30, f 31, f 32, f 33, f 34, f 35, f 36, f 37, f 38, f 39, f 40, f 41, f 42, f 43, f 44, f 45, f 46, f 47, f 48, f 49, f 50, f 51, f 52, f 53, f 54, f 55, f 56, f 57, f 58, f 59, f 60, f 61, f 62, f 63, f 64, f 65, f 66, f 67, f 68, f 69, f 70, f 71, f 72, f 73, f 74, f 75, f 76, f 77, f 78, f 79, f 80, f 81, f 82, f 83, f 84, f 85, f 86, f 87, f 88, f 89, f 90, f 91, f 92, f 93, f 94, f 95, f 96, f 97, f 98, f 99, f 100, f 101, f 102, f 103, f 104, f 105, f 106, f 107, f 108, f 109, f 110], defers := [] } W
    clear hK hd hold
    simp only [ze43] at HK ⊢
    clear ze43
    have HK := Aside.mk HK
    go_wp2
    exact HK.out _ _ (Chg.refl _) rfl
  · -- 45 := fieldAddr 29 t44 3
    intro f W hW hold hd K hK
    refine .inl ⟨wanted_free rfl _, ?_⟩
    dsimp only [bare]
    have ze44 : f 44 = .pointer (some ⟨L.p, 2, none⟩) := hd 44 rfl rfl
    have HK : ∀ v W', Chg (· = L.k) (CAny L.k L.t L.n) W W' → chgV (· = L.k) (CAny L.k L.t L.n) _ 45 v W' → K { tmps := #[f 0, f 1, f 2, f 3, f 4, f 5, f 6, f 7, f 8, f 9, f 10, f 11, f 12, f 13, f 14, f 15, f 16, f 17, f 18, f 19, f 20, f 21, f 22, f 23, f 24, f 25, f 26, f 27, f 28, f 29, f 30, f 31, f 32, f 33, f 34, f 35, f 36, f 37, f 38, f 39, f 40, f 41, f 42, f 43, f 44, v, f 46, f 47, f 48, f 49, f 50, f 51, f 52, f 53, f 54, f 55, f 56, f 57, f 58, f 59, f 60, f 61, f 62, f 63, f 64, f 65, f 66, f 67, f 68, f 69, f 70, f 71, f 72, f 73, f 74, f 75, f 76, f 77, f 78, f 79, f 80, f 81, f 82, f 83, f 84, f 85, f 86, f 87, f 88, f 89, f 90, f 91, f 92, f 93, f 94, f 95, f 96, f 97, f 98, f 99, f 100, f 101, f 102, f 103, f 104, f 105, f 106, f 107, f 108, f 109, f 110], defers := [] } W' := hK
    change wpList _ #[_] _ [_] { tmps := #[f 0, f 1, f 2, f 3, f 4, f 5, f 6, f 7, f 8, f 9, f 10, f 11, f 12, f 13, f 14, f 15, f 16, f 17, f 18, f 19, f 20, f 21, f 22, f 23, f 24, f 25, f 26, f 27, f 28, f 29, f 30, f 31, f 32, f 33, f 34, f 35, f 36, f 37, f 38, f 39, f 40, f 41, f 42, f 43, f 44, f 45, f 46, f 47, f 48, f 49, f 50, f 51, f 52, f 53, f 54, f 55, f 56, f 57, f 58, f 59, f 60, f 61, f 62, f 63, f 64, f 65, f 66, f 67, f 68, f 69, f 70, f 71, f 72, f 73, f 74, f 75, f 76, f 77, f 78, f 79, f 80, f 81, f 82, f 83, f 84, f 85, f 86, f 87, f 88, f 89, f 90, f 91, f 92, f 93, f 94, f 95, f 96, f 97, f 98, f 99, f 100, f 101, f 102, f 103, f 104, f 105, f 106, f 107, f 108, f 109, f 110], defers := [] } W
    clear hK hd hold
    simp only [ze44] at HK ⊢
    clear ze44
    have HK := Aside.mk HK
    go_wp2
    exact HK.out _ _ (Chg.refl _) rfl
  · -- 46 := load 3 t45
    intro f W hW hold hd K hK
    refine .inl ⟨wanted_free rfl _, ?_⟩
    dsimp only [bare]
    have ze45 : f 45 = .pointer (some ⟨L.p, 5, none⟩) := hd 45 rfl rfl
    have HK : ∀ v W', Chg (· = L.k) (CAny L.k L.t L.n) W W' → chgV (· = L.k) (CAny L.k L.t L.n) _ 46 v W' → K { tmps := #[f 0, f 1, f 2, f 3, f 4, f 5, f 6, f 7, f 8, f 9, f 10, f 11, f 12, f 13, f 14, f 15, f 16, f 17, f 18, f 19, f 20, f 21, f 22, f 23, f 24, f 25, f 26, f 27, f 28, f 29, f 30, f 31, f 32, f 33, f 34, f 35, f 36, f 37, f 38, f 39, f 40, f 41, f 42, f 43, f 44, f 45, v, f 47, f 48, f 49, f 50, f 51, f 52, f 53, f 54, f 55, f 56, f 57, f 58, f 59, f 60, f 61, f 62, f 63, f 64, f 65, f 66, f 67, f 68, f 69, f 70, f 71, f 72, f 73, f 74, f 75, f 76, f 77, f 78, f 79, f 80, f 81, f 82, f 83, f 84, f 85, f 86, f 87, f 88, f 89, f 90, f 91, f 92, f 93, f 94, f 95, f 96, f 97, f 98, f 99, f 100, f 101, f 102, f 103, f 104, f 105, f 106, f 107, f 108, f 109, f 110], defers := [] } W' := hK
    change wpList _ #[_] _ [_] { tmps := #[f 0, f 1, f 2, f 3, f 4, f 5, f 6, f 7, f 8, f 9, f 10, f 11, f 12, f 13, f 14, f 15, f 16, f 17, f 18, f 19, f 20, f 21, f 22, f 23, f 24, f 25, f 26, f 27, f 28, f 29, f 30, f 31, f 32, f 33, f 34, f 35, f 36, f 37, f 38, f 39, f 40, f 41, f 42, f 43, f 44, f 45, f 46, f 47, f 48, f 49, f 50, f 51, f 52, f 53, f 54, f 55, f 56, f 57, f 58, f 59, f 60, f 61, f 62, f 63, f 64, f 65, f 66, f 67, f 68, f 69, f 70, f 71, f 72, f 73, f 74, f 75, f 76, f 77, f 78, f 79, f 80, f 81, f 82, f 83, f 84, f 85, f 86, f 87, f 88, f 89, f 90, f 91, f 92, f 93, f 94, f 95, f 96, f 97, f 98, f 99, f 100, f 101, f 102, f 103, f 104, f 105, f 106, f 107, f 108, f 109, f 110], defers := [] } W
    clear hK hd hold
    simp only [ze45] at HK ⊢
    clear ze45
    have HK := Aside.mk HK
    have hh := hW.blk (H3.out.1.pgr) (fun e => HNE.out _ _ _ _ H3.out.1 _ H3.out.1.pgr (by decide) e); have hcell := cell_of_row W (L.p) 5 _ _ _ hh; clear hh
    go_wp2
    exact HK.out _ _ (Chg.refl _) rfl
  · -- 47 := move t0
    intro f W hW hold hd K hK
    refine .inl ⟨wanted_free rfl _, ?_⟩
    dsimp only [bare]
    have ze0 : f 0 = .pointer (some ⟨L.p, 0, none⟩) := hold 0 rfl
    have HK : ∀ v W', Chg (· = L.k) (CAny L.k L.t L.n) W W' → chgV (· = L.k) (CAny L.k L.t L.n) _ 47 v W' → K { tmps := #[f 0, f 1, f 2, f 3, f 4, f 5, f 6, f 7, f 8, f 9, f 10, f 11, f 12, f 13, f 14, f 15, f 16, f 17, f 18, f 19, f 20, f 21, f 22, f 23, f 24, f 25, f 26, f 27, f 28, f 29, f 30, f 31, f 32, f 33, f 34, f 35, f 36, f 37, f 38, f 39, f 40, f 41, f 42, f 43, f 44, f 45, f 46, v, f 48, f 49, f 50, f 51, f 52, f 53, f 54, f 55, f 56, f 57, f 58, f 59, f 60, f 61, f 62, f 63, f 64, f 65, f 66, f 67, f 68, f 69, f 70, f 71, f 72, f 73, f 74, f 75, f 76, f 77, f 78, f 79, f 80, f 81, f 82, f 83, f 84, f 85, f 86, f 87, f 88, f 89, f 90, f 91, f 92, f 93, f 94, f 95, f 96, f 97, f 98, f 99, f 100, f 101, f 102, f 103, f 104, f 105, f 106, f 107, f 108, f 109, f 110], defers := [] } W' := hK
    change wpList _ #[_] _ [_] { tmps := #[f 0, f 1, f 2, f 3, f 4, f 5, f 6, f 7, f 8, f 9, f 10, f 11, f 12, f 13, f 14, f 15, f 16, f 17, f 18, f 19, f 20, f 21, f 22, f 23, f 24, f 25, f 26, f 27, f 28, f 29, f 30, f 31, f 32, f 33, f 34, f 35, f 36, f 37, f 38, f 39, f 40, f 41, f 42, f 43, f 44, f 45, f 46, f 47, f 48, f 49, f 50, f 51, f 52, f 53, f 54, f 55, f 56, f 57, f 58, f 59, f 60, f 61, f 62, f 63, f 64, f 65, f 66, f 67, f 68, f 69, f 70, f 71, f 72, f 73, f 74, f 75, f 76, f 77, f 78, f 79, f 80, f 81, f 82, f 83, f 84, f 85, f 86, f 87, f 88, f 89, f 90, f 91, f 92, f 93, f 94, f 95, f 96, f 97, f 98, f 99, f 100, f 101, f 102, f 103, f 104, f 105, f 106, f 107, f 108, f 109, f 110], defers := [] } W
    clear hK hd hold
    simp only [ze0] at HK ⊢
    clear ze0
    have HK := Aside.mk HK
    go_wp2
    exact HK.out _ _ (Chg.refl _) rfl
  · -- 48 := nilCheck t47
    intro f W hW hold hd K hK
    refine .inl ⟨wanted_free rfl _, ?_⟩
    dsimp only [bare]
    have ze47 : f 47 = .pointer (some ⟨L.p, 0, none⟩) := hd 47 rfl rfl
    have HK : ∀ v W', Chg (· = L.k) (CAny L.k L.t L.n) W W' → chgV (· = L.k) (CAny L.k L.t L.n) _ 48 v W' → K { tmps := #[f 0, f 1, f 2, f 3, f 4, f 5, f 6, f 7, f 8, f 9, f 10, f 11, f 12, f 13, f 14, f 15, f 16, f 17, f 18, f 19, f 20, f 21, f 22, f 23, f 24, f 25, f 26, f 27, f 28, f 29, f 30, f 31, f 32, f 33, f 34, f 35, f 36, f 37, f 38, f 39, f 40, f 41, f 42, f 43, f 44, f 45, f 46, f 47, v, f 49, f 50, f 51, f 52, f 53, f 54, f 55, f 56, f 57, f 58, f 59, f 60, f 61, f 62, f 63, f 64, f 65, f 66, f 67, f 68, f 69, f 70, f 71, f 72, f 73, f 74, f 75, f 76, f 77, f 78, f 79, f 80, f 81, f 82, f 83, f 84, f 85, f 86, f 87, f 88, f 89, f 90, f 91, f 92, f 93, f 94, f 95, f 96, f 97, f 98, f 99, f 100, f 101, f 102, f 103, f 104, f 105, f 106, f 107, f 108, f 109, f 110], defers := [] } W' := hK
    change wpList _ #[_] _ [_] { tmps := #[f 0, f 1, f 2, f 3, f 4, f 5, f 6, f 7, f 8, f 9, f 10, f 11, f 12, f 13, f 14, f 15, f 16, f 17, f 18, f 19, f 20, f 21, f 22, f 23, f 24, f 25, f 26, f 27, f 28, f 29, f 30, f 31, f 32, f 33, f 34, f 35, f 36, f 37, f 38, f 39, f 40, f 41, f 42, f 43, f 44, f 45, f 46, f 47, f 48, f 49, f 50, f 51, f 52, f 53, f 54, f 55, f 56, f 57, f 58, f 59, f 60, f 61, f 62, f 63, f 64, f 65, f 66, f 67, f 68, f 69, f 70, f 71, f 72, f 73, f 74, f 75, f 76, f 77, f 78, f 79, f 80, f 81, f 82, f 83, f 84, f 85, f 86, f 87, f 88, f 89, f 90, f 91, f 92, f 93, f 94, f 95, f 96, f 97, f 98, f 99, f 100, f 101, f 102, f 103, f 104, f 105, f 106, f 107, f 108, f 109, f 110], defers := [] } W
    clear hK hd hold
    simp only [ze47] at HK ⊢
    clear ze47
    have HK := Aside.mk HK
    go_wp2
    exact HK.out _ _ (Chg.refl _) rfl
  · -- 49 := fieldAddr 132 t48 1
    intro f W hW hold hd K hK
    refine .inl ⟨wanted_free rfl _, ?_⟩
    dsimp only [bare]
    have ze48 : f 48 = .pointer (some ⟨L.p, 0, none⟩) := hd 48 rfl rfl
    have HK : ∀ v W', Chg (· = L.k) (CAny L.k L.t L.n) W W' → chgV (· = L.k) (CAny L.k L.t L.n) _ 49 v W' → K { tmps := #[f 0, f 1, f 2, f 3, f 4, f 5, f 6, f 7, f 8, f 9, f 10, f 11, f 12, f 13, f 14, f 15, f 16, f 17, f 18, f 19, f 20, f 21, f 22, f 23, f 24, f 25, f 26, f 27, f 28, f 29, f 30, f 31, f 32, f 33, f 34, f 35, f 36, f 37, f 38, f 39, f 40, f 41, f 42, f 43, f 44, f 45, f 46, f 47, f 48, v, f 50, f 51, f 52, f 53, f 54, f 55, f 56, f 57, f 58, f 59, f 60, f 61, f 62, f 63, f 64, f 65, f 66, f 67, f 68, f 69, f 70, f 71, f 72, f 73, f 74, f 75, f 76, f 77, f 78, f 79, f 80, f 81, f 82, f 83, f 84, f 85, f 86, f 87, f 88, f 89, f 90, f 91, f 92, f 93, f 94, f 95, f 96, f 97, f 98, f 99, f 100, f 101, f 102, f 103, f 104, f 105, f 106, f 107, f 108, f 109, f 110], defers := [] } W' := hK
    change wpList _ #[_] _ [_] { tmps := #[f 0, f 1, f 2, f 3, f 4, f 5, f 6, f 7, f 8, f 9, f 10, f 11, f 12, f 13, f 14, f 15, f 16, f 17, f 18, f 19, f 20, f 21, f 22, f 23, f 24, f 25, f 26, f 27, f 28, f 29, f 30, f 31, f 32, f 33, f 34, f 35, f 36, f 37, f 38, f 39, f 40, f 41, f 42, f 43, f 44, f 45, f 46, f 47, f 48, f 49, f 50, f 51, f 52, f 53, f 54, f 55, f 56, f 57, f 58, f 59, f 60, f 61, f 62, f 63, f 64, f 65, f 66, f 67, f 68, f 69, f 70, f 71, f 72, f 73, f 74, f 75, f 76, f 77, f 78, f 79, f 80, f 81, f 82, f 83, f 84, f 85, f 86, f 87, f 88, f 89, f 90, f 91, f 92, f 93, f 94, f 95, f 96, f 97, f 98, f 99, f 100, f 101, f 102, f 103, f 104, f 105, f 106, f 107, f 108, f 109, f 110], defers := [] } W
    clear hK hd hold
    simp only [ze48] at HK ⊢
    clear ze48
    have HK := Aside.mk HK
    go_wp2
    exact HK.out _ _ (Chg.refl _) rfl
  · -- 50 := load 129 t49
    intro f W hW hold hd K hK
    refine .inl ⟨wanted_free rfl _, ?_⟩
    dsimp only [bare]
    have ze49 : f 49 = .pointer (some ⟨L.p, 1, none⟩) := hd 49 rfl rfl
    have HK : ∀ v W', Chg (· = L.k) (CAny L.k L.t L.n) W W' → chgV (· = L.k) (CAny L.k L.t L.n) _ 50 v W' → K { tmps := #[f 0, f 1, f 2, f 3, f 4, f 5, f 6, f 7, f 8, f 9, f 10, f 11, f 12, f 13, f 14, f 15, f 16, f 17, f 18, f 19, f 20, f 21, f 22, f 23, f 24, f 25, f 26, f 27, f 28, f 29, f 30, f 31, f 32, f 33, f 34, f 35, f 36, f 37, f 38, f 39, f 40, f 41, f 42, f 43, f 44, f 45, f 46, f 47, f 48, f 49, v, f 51, f 52, f 53, f 54, f 55, f 56, f 57, f 58, f 59, f 60, f 61, f 62, f 63, f 64, f 65, f 66, f 67, f 68, f 69, f 70, f 71, f 72, f 73, f 74, f 75, f 76, f 77, f 78, f 79, f 80, f 81, f 82, f 83, f 84, f 85, f 86, f 87, f 88, f 89, f 90, f 91, f 92, f 93, f 94, f 95, f 96, f 97, f 98, f 99, f 100, f 101, f 102, f 103, f 104, f 105, f 106, f 107, f 108, f 109, f 110], defers := [] } W' := hK
    change wpList _ #[_] _ [_] { tmps := #[f 0, f 1, f 2, f 3, f 4, f 5, f 6, f 7, f 8, f 9, f 10, f 11, f 12, f 13, f 14, f 15, f 16, f 17, f 18, f 19, f 20, f 21, f 22, f 23, f 24, f 25, f 26, f 27, f 28, f 29, f 30, f 31, f 32, f 33, f 34, f 35, f 36, f 37, f 38, f 39, f 40, f 41, f 42, f 43, f 44, f 45, f 46, f 47, f 48, f 49, f 50, f 51, f 52, f 53, f 54, f 55, f 56, f 57, f 58, f 59, f 60, f 61, f 62, f 63, f 64, f 65, f 66, f 67, f 68, f 69, f 70, f 71, f 72, f 73, f 74, f 75, f 76, f 77, f 78, f 79, f 80, f 81, f 82, f 83, f 84, f 85, f 86, f 87, f 88, f 89, f 90, f 91, f 92, f 93, f 94, f 95, f 96, f 97, f 98, f 99, f 100, f 101, f 102, f 103, f 104, f 105, f 106, f 107, f 108, f 109, f 110], defers := [] } W
    clear hK hd hold
    simp only [ze49] at HK ⊢
    clear ze49
    have HK := Aside.mk HK
    have hh := hW.blk (H3.out.1.pgr) (fun e => HNE.out _ _ _ _ H3.out.1 _ H3.out.1.pgr (by decide) e); have hcell := cell_of_row W (L.p) 1 _ _ _ hh; clear hh
    go_wp2
    exact HK.out _ _ (Chg.refl _) rfl
  · -- 51 := CALL f58 (*chert/bch.Code).Parity [t50] : [129]
    intro f W hW hold hd K hK
    refine .inl ⟨wanted_free rfl _, ?_⟩
    dsimp only [bare]
    have ze50 : f 50 = .pointer (some ⟨L.k, 0, none⟩) := hd 50 rfl rfl
    have HK : ∀ v W', Chg (· = L.k) (CAny L.k L.t L.n) W W' → chgV (· = L.k) (CAny L.k L.t L.n) _ 51 v W' → K { tmps := #[f 0, f 1, f 2, f 3, f 4, f 5, f 6, f 7, f 8, f 9, f 10, f 11, f 12, f 13, f 14, f 15, f 16, f 17, f 18, f 19, f 20, f 21, f 22, f 23, f 24, f 25, f 26, f 27, f 28, f 29, f 30, f 31, f 32, f 33, f 34, f 35, f 36, f 37, f 38, f 39, f 40, f 41, f 42, f 43, f 44, f 45, f 46, f 47, f 48, f 49, f 50, v, f 52, f 53, f 54, f 55, f 56, f 57, f 58, f 59, f 60, f 61, f 62, f 63, f 64, f 65, f 66, f 67, f 68, f 69, f 70, f 71, f 72, f 73, f 74, f 75, f 76, f 77, f 78, f 79, f 80, f 81, f 82, f 83, f 84, f 85, f 86, f 87, f 88, f 89, f 90, f 91, f 92, f 93, f 94, f 95, f 96, f 97, f 98, f 99, f 100, f 101, f 102, f 103, f 104, f 105, f 106, f 107, f 108, f 109, f 110], defers := [] } W' := hK
    change wpList _ #[_] _ [_] { tmps := #[f 0, f 1, f 2, f 3, f 4, f 5, f 6, f 7, f 8, f 9, f 10, f 11, f 12, f 13, f 14, f 15, f 16, f 17, f 18, f 19, f 20, f 21, f 22, f 23, f 24, f 25, f 26, f 27, f 28, f 29, f 30, f 31, f 32, f 33, f 34, f 35, f 36, f 37, f 38, f 39, f 40, f 41, f 42, f 43, f 44, f 45, f 46, f 47, f 48, f 49, f 50, f 51, f 52, f 53, f 54, f 55, f 56, f 57, f 58, f 59, f 60, f 61, f 62, f 63, f 64, f 65, f 66, f 67, f 68, f 69, f 70, f 71, f 72, f 73, f 74, f 75, f 76, f 77, f 78, f 79, f 80, f 81, f 82, f 83, f 84, f 85, f 86, f 87, f 88, f 89, f 90, f 91, f 92, f 93, f 94, f 95, f 96, f 97, f 98, f 99, f 100, f 101, f 102, f 103, f 104, f 105, f 106, f 107, f 108, f 109, f 110], defers := [] } W
    clear hK hd hold
    simp only [ze50] at HK ⊢
    clear ze50
    have HK := Aside.mk HK
    go_wp2_with (go_at_call 58; refine (HPA.out W (hW.inv H3.out.1.code)).mono ?_; rintro e w5 ⟨rfl, hg5, hi5⟩)
    exact HK.out _ _ (Chg.of_grown hg5 rfl hi5) rfl
  · -- 52 := binOp add 3 t46 t51 3
    intro f W hW hold hd K hK
    refine .inl ⟨wanted_free rfl _, ?_⟩
    dsimp only [bare]
    have ze46 : f 46 = .int .i64 (L.n : Int) := hd 46 rfl rfl
    have ze51 : f 51 = .int .i64 l8 := hd 51 rfl rfl
    have HK : ∀ v W', Chg (· = L.k) (CAny L.k L.t L.n) W W' → chgV (· = L.k) (CAny L.k L.t L.n) _ 52 v W' → K { tmps := #[f 0, f 1, f 2, f 3, f 4, f 5, f 6, f 7, f 8, f 9, f 10, f 11, f 12, f 13, f 14, f 15, f 16, f 17, f 18, f 19, f 20, f 21, f 22, f 23, f 24, f 25, f 26, f 27, f 28, f 29, f 30, f 31, f 32, f 33, f 34, f 35, f 36, f 37, f 38, f 39, f 40, f 41, f 42, f 43, f 44, f 45, f 46, f 47, f 48, f 49, f 50, f 51, v, f 53, f 54, f 55, f 56, f 57, f 58, f 59, f 60, f 61, f 62, f 63, f 64, f 65, f 66, f 67, f 68, f 69, f 70, f 71, f 72, f 73, f 74, f 75, f 76, f 77, f 78, f 79, f 80, f 81, f 82, f 83, f 84, f 85, f 86, f 87, f 88, f 89, f 90, f 91, f 92, f 93, f 94, f 95, f 96, f 97, f 98, f 99, f 100, f 101, f 102, f 103, f 104, f 105, f 106, f 107, f 108, f 109, f 110], defers := [] } W' := hK
    change wpList _ #[_] _ [_] { tmps := #[f 0, f 1, f 2, f 3, f 4, f 5, f 6, f 7, f 8, f 9, f 10, f 11, f 12, f 13, f 14, f 15, f 16, f 17, f 18, f 19, f 20, f 21, f 22, f 23, f 24, f 25, f 26, f 27, f 28, f 29, f 30, f 31, f 32, f 33, f 34, f 35, f 36, f 37, f 38, f 39, f 40, f 41, f 42, f 43, f 44, f 45, f 46, f 47, f 48, f 49, f 50, f 51, f 52, f 53, f 54, f 55, f 56, f 57, f 58, f 59, f 60, f 61, f 62, f 63, f 64, f 65, f 66, f 67, f 68, f 69, f 70, f 71, f 72, f 73, f 74, f 75, f 76, f 77, f 78, f 79, f 80, f 81, f 82, f 83, f 84, f 85, f 86, f 87, f 88, f 89, f 90, f 91, f 92, f 93, f 94, f 95, f 96, f 97, f 98, f 99, f 100, f 101, f 102, f 103, f 104, f 105, f 106, f 107, f 108, f 109, f 110], defers := [] } W
    clear hK hd hold
    simp only [ze46, ze51] at HK ⊢
    clear ze46 ze51
    have HK := Aside.mk HK
    have q1 := HE.out
    go_wp2
    exact HK.out _ _ (Chg.refl _) rfl
  · -- 12 := assign t52
    intro f W hW hold hd K hK
    refine .inl ⟨wanted_free rfl _, ?_⟩
    dsimp only [bare]
    have ze52 : f 52 = .int .i64 sz := hd 52 rfl rfl
    have HK : ∀ v W', Chg (· = L.k) (CAny L.k L.t L.n) W W' → chgV (· = L.k) (CAny L.k L.t L.n) _ 12 v W' → K { tmps := #[f 0, f 1, f 2, f 3, f 4, f 5, f 6, f 7, f 8, f 9, f 10, f 11, v, f 13, f 14, f 15, f 16, f 17, f 18, f 19, f 20, f 21, f 22, f 23, f 24, f 25, f 26, f 27, f 28, f 29, f 30, f 31, f 32, f 33, f 34, f 35, f 36, f 37, f 38, f 39, f 40, f 41, f 42, f 43, f 44, f 45, f 46, f 47, f 48, f 49, f 50, f 51, f 52, f 53, f 54, f 55, f 56, f 57, f 58, f 59, f 60, f 61, f 62, f 63, f 64, f 65, f 66, f 67, f 68, f 69, f 70, f 71, f 72, f 73, f 74, f 75, f 76, f 77, f 78, f 79, f 80, f 81, f 82, f 83, f 84, f 85, f 86, f 87, f 88, f 89, f 90, f 91, f 92, f 93, f 94, f 95, f 96, f 97, f 98, f 99, f 100, f 101, f 102, f 103, f 104, f 105, f 106, f 107, f 108, f 109, f 110], defers := [] } W' := hK
    change wpList _ #[_] _ [_] { tmps := #[f 0, f 1, f 2, f 3, f 4, f 5, f 6, f 7, f 8, f 9, f 10, f 11, f 12, f 13, f 14, f 15, f 16, f 17, f 18, f 19, f 20, f 21, f 22, f 23, f 24, f 25, f 26, f 27, f 28, f 29, f 30, f 31, f 32, f 33, f 34, f 35, f 36, f 37, f 38, f 39, f 40, f 41, f 42, f 43, f 44, f 45, f 46, f 47, f 48, f 49, f 50, f 51, f 52, f 53, f 54, f 55, f 56, f 57, f 58, f 59, f 60, f 61, f 62, f 63, f 64, f 65, f 66, f 67, f 68, f 69, f 70, f 71, f 72, f 73, f 74, f 75, f 76, f 77, f 78, f 79, f 80, f 81, f 82, f 83, f 84, f 85, f 86, f 87, f 88, f 89, f 90, f 91, f 92, f 93, f 94, f 95, f 96, f 97, f 98, f 99, f 100, f 101, f 102, f 103, f 104, f 105, f 106, f 107, f 108, f 109, f 110], defers := [] } W
    clear hK hd hold
    simp only [ze52] at HK ⊢
    clear ze52
    have HK := Aside.mk HK
    go_wp2
    exact HK.out _ _ (Chg.refl _) rfl
  · intro f W hW hold hd aAct hAct
    replace hAct := hAct.trans (rel_puts hold)
    have ze12 : f 12 = .int .i64 sz := hd 12 rfl
    have ze42 : f 42 = .pointer (some ⟨L.p, 0, none⟩) := hd 42 rfl
    have ze43 : f 43 = .pointer (some ⟨L.p, 0, none⟩) := hd 43 rfl
    have ze44 : f 44 = .pointer (some ⟨L.p, 2, none⟩) := hd 44 rfl
    have ze45 : f 45 = .pointer (some ⟨L.p, 5, none⟩) := hd 45 rfl
    have ze46 : f 46 = .int .i64 (L.n : Int) := hd 46 rfl
    have ze47 : f 47 = .pointer (some ⟨L.p, 0, none⟩) := hd 47 rfl
    have ze48 : f 48 = .pointer (some ⟨L.p, 0, none⟩) := hd 48 rfl
    have ze49 : f 49 = .pointer (some ⟨L.p, 1, none⟩) := hd 49 rfl
    have ze50 : f 50 = .pointer (some ⟨L.k, 0, none⟩) := hd 50 rfl
    have ze51 : f 51 = .int .i64 l8 := hd 51 rfl
    have ze52 : f 52 = .int .i64 sz := hd 52 rfl
    simp only [List.take_succ_cons, List.take_zero, putAll, List.foldl_cons, List.foldl_nil, Option.getD_some] at hAct
    simp only [ze12, ze42, ze43, ze44, ze45, ze46, ze47, ze48, ze49, ze50, ze51, ze52] at hAct
    subst hAct
    simp only [List.drop_succ_cons, List.drop_nil, Act.put, List.setIfInBounds_toArray, List.set_cons_zero, List.set_cons_succ]
    clear hold hd ze12 ze42 ze43 ze44 ze45 ze46 ze47 ze48 ze49 ze50 ze51 ze52
    have hpw := H3.out.1.rdyC hW
    have hmw : Mv L.lo L.hi w W := H3.out.2.1.trans ⟨hW.os, hW.tape, hW.output, hW.size, fun q hq hx => hW.block q hq (fun e => hx (by rw [e]; exact H3.out.1.rk)), fun _ => trivial⟩
    have H4 : Aside (PgrAt W L S2 ∧ Mv L.lo L.hi w W ∧ W.heap[R0]? = some (.cells #[.int .i64 0, .string ⟨#[]⟩, .int .i64 0] 70 (0, 0)) ∧ BldN W B0 ∧ w.heap.size ≤ B0) := ⟨hpw, hmw, hW.blk H3.out.2.2.1 (fun e => HNE.out _ _ _ _ H3.out.1 _ H3.out.2.2.1 (by decide) e), hW.blk H3.out.2.2.2.1 (fun e => HNE.out _ _ _ _ H3.out.1 _ H3.out.2.2.2.1 (by decide) e), H3.out.2.2.2.2⟩
    have HB0 := Aside.mk H3.out.2.2.2.2
    clear hW hpw hmw H3 HPA
    have hxs : x.size = sz := by have h1 := HX.out.1; have h2 := HZ.out; omega
    have hbe : x.toList.isEmpty = false := by
      rw [ByteArray.toList_eq]
      have h0 : x.data.toList.length = x.size := by simp
      have := HZ.out
      cases hl : x.data.toList with
      | nil => rw [hl] at h0; simp at h0; omega
      | cons y r => rfl
    have hbe2 : (⟨#[]⟩ : ByteArray).toList.isEmpty = true := by rw [ByteArray.toList_eq]; rfl
    have HXS := Aside.mk hxs
    have HBE := Aside.mk (And.intro hbe hbe2)
    obtain ⟨dt, hdt⟩ : ∃ dt, dt = x.extract 0 L.n := ⟨_, rfl⟩
    obtain ⟨pt, hpt⟩ : ∃ pt, pt = x.extract L.n x.size := ⟨_, rfl⟩
    have HSL : Aside (∀ W, (Instr.slice 9 (.string x) none (some (.int .i64 (L.n : Int))) none).run Tryz.prog W = .ok (.string dt) W ∧ (Instr.slice 9 (.string x) (some (.int .i64 (L.n : Int))) (some (.int .i64 (sz : Int))) none).run Tryz.prog W = .ok (.string pt) W ∧ (Instr.slice 9 (.string x) (some (.int .i64 (sz : Int))) none none).run Tryz.prog W = .ok (.string ⟨#[]⟩) W) := ⟨fun W => by
      have hz := HZ.out
      refine ⟨?_, ?_, ?_⟩
      · have := slice_to x L.n (by omega) W
        rwa [← hdt] at this
      · have := slice_mid x L.n sz (by omega) (by omega) W
        rw [← hxs] at this ⊢
        rwa [← hpt] at this
      · have := slice_from x sz (by omega) W
        rwa [← hxs, extract_none, hxs] at this⟩
    rw [← hdt, ← hpt] at HDD
    clear hdt hpt hxs hbe hbe2
    go_wp2_with fail
    go_loopw [8, 11, 13, 14, 15, 16] (fun s8 s11 _ _ _ _ wr => (s8 = .string x ∧ s11 = .int .i64 0 ∧ W = wr) ∨ (s8 = .string ⟨#[]⟩ ∧ s11 = .int .i64 (cnt : Int) ∧ ∃ W4 g, Aside (PgrAt W4 L S2 ∧ Mv L.lo L.hi w W4 ∧ W4.heap[R0]? = some (.cells #[.int .i64 0, .string ⟨#[]⟩, .int .i64 0] 70 (0, 0)) ∧ BldN W4 B0 ∧ W4.heap.size ≤ g ∧ Chg (fun q => q = B0 ∨ q = g) (fun _ => True) W4 wr ∧ Bld wr B0 g d.data.toList))) (fun s8 _ _ _ _ _ _ => match s8 with | .string s => s.size | _ => 0)
    case atStart => exact .inl ⟨rfl, rfl, rfl⟩
    case round =>
      rcases hrel with ⟨rfl, rfl, rfl⟩ | ⟨rfl, rfl, W4, g, HI⟩
      · have hbe := HBE.out.1
        go_upto_region 11 with fail
        clear hbe
        generalize W = wl at *
        refine wp_region_r 29 (by kernel_rfl) (by kernel_rfl) (rel_small (by kernel_rfl)) (chgV (· = L.k) (CAny L.k L.t L.n) [(13, .val (.string d)), (14, .val (.string pp)), (15, .val (.int .i64 cnt)), (16, .val (.bool true)), (58, .val (.tuple #[.string d, .string pp, .int .i64 cnt, .bool true])), (59, .val (.pointer (some ⟨L.p, 0, none⟩))), (60, .val (.pointer (some ⟨L.p, 0, none⟩))), (61, .val (.pointer (some ⟨L.p, 1, none⟩))), (62, .val (.pointer (some ⟨L.k, 0, none⟩))), (63, .val (.string x)), (64, .val (.pointer (some ⟨L.p, 0, none⟩))), (65, .val (.pointer (some ⟨L.p, 0, none⟩))), (66, .val (.pointer (some ⟨L.p, 2, none⟩))), (67, .val (.pointer (some ⟨L.p, 5, none⟩))), (68, .val (.int .i64 (L.n : Int))), (69, .val (.string dt)), (70, .val (.string x)), (71, .val (.pointer (some ⟨L.p, 0, none⟩))), (72, .val (.pointer (some ⟨L.p, 0, none⟩))), (73, .val (.pointer (some ⟨L.p, 2, none⟩))), (74, .val (.pointer (some ⟨L.p, 5, none⟩))), (75, .val (.int .i64 (L.n : Int))), (76, .val (.int .i64 sz)), (77, .val (.string pt)), (78, .val (.tuple #[.string d, .string pp, .int .i64 cnt, .bool true])), (79, .val (.string d)), (80, .val (.string pp)), (81, .val (.int .i64 cnt)), (82, .val (.bool true))]) (Chg (· = L.k) (CAny L.k L.t L.n)) (chg_drew _ _ _ (CAny.drew)) Chg.refl (fun _ _ _ => Chg.trans) (chgV_stable _ _ _) ⟨?_, ?_, ?_, ?_, ?_, ?_, ?_, ?_, ?_, ?_, ?_, ?_, ?_, ?_, ?_, ?_, ?_, ?_, ?_, ?_, ?_, ?_, ?_, ?_, ?_, ?_, ?_, ?_, ?_, trivial⟩ ?_
        · -- 59 := move t0
          intro f W hW hold hd K hK
          refine .inl ⟨wanted_free rfl _, ?_⟩
          dsimp only [bare]
          have ze0 : f 0 = .pointer (some ⟨L.p, 0, none⟩) := hold 0 rfl
          have HK : ∀ v W', Chg (· = L.k) (CAny L.k L.t L.n) W W' → chgV (· = L.k) (CAny L.k L.t L.n) _ 59 v W' → K { tmps := #[f 0, f 1, f 2, f 3, f 4, f 5, f 6, f 7, f 8, f 9, f 10, f 11, f 12, f 13, f 14, f 15, f 16, f 17, f 18, f 19, f 20, f 21, f 22, f 23, f 24, f 25, f 26, f 27, f 28, f 29, f 30, f 31, f 32, f 33, f 34, f 35, f 36, f 37, f 38, f 39, f 40, f 41, f 42, f 43, f 44, f 45, f 46, f 47, f 48, f 49, f 50, f 51, f 52, f 53, f 54, f 55, f 56, f 57, f 58, v, f 60, f 61, f 62, f 63, f 64, f 65, f 66, f 67, f 68, f 69, f 70, f 71, f 72, f 73, f 74, f 75, f 76, f 77, f 78, f 79, f 80, f 81, f 82, f 83, f 84, f 85, f 86, f 87, f 88, f 89, f 90, f 91, f 92, f 93, f 94, f 95, f 96, f 97, f 98, f 99, f 100, f 101, f 102, f 103, f 104, f 105, f 106, f 107, f 108, f 109, f 110], defers := [] } W' := hK
          change wpList _ #[_] _ [_] { tmps := #[f 0, f 1, f 2, f 3, f 4, f 5, f 6, f 7, f 8, f 9, f 10, f 11, f 12, f 13, f 14, f 15, f 16, f 17, f 18, f 19, f 20, f 21, f 22, f 23, f 24, f 25, f 26, f 27, f 28, f 29, f 30, f 31, f 32, f 33, f 34, f 35, f 36, f 37, f 38, f 39, f 40, f 41, f 42, f 43, f 44, f 45, f 46, f 47, f 48, f 49, f 50, f 51, f 52, f 53, f 54, f 55, f 56, f 57, f 58, f 59, f 60, f 61, f 62, f 63, f 64, f 65, f 66, f 67, f 68, f 69, f 70, f 71, f 72, f 73, f 74, f 75, f 76, f 77, f 78, f 79, f 80, f 81, f 82, f 83, f 84, f 85, f 86, f 87, f 88, f 89, f 90, f 91, f 92, f 93, f 94, f 95, f 96, f 97, f 98, f 99, f 100, f 101, f 102, f 103, f 104, f 105, f 106, f 107, f 108, f 109, f 110], defers := [] } W
          clear hK hd hold
          simp only [ze0] at HK ⊢
          clear ze0
          have HK := Aside.mk HK
          go_wp2
          exact HK.out _ _ (Chg.refl _) rfl
        · -- 60 := nilCheck t59
          intro f W hW hold hd K hK
          refine .inl ⟨wanted_free rfl _, ?_⟩
          dsimp only [bare]
          have ze59 : f 59 = .pointer (some ⟨L.p, 0, none⟩) := hd 59 rfl rfl
          have HK : ∀ v W', Chg (· = L.k) (CAny L.k L.t L.n) W W' → chgV (· = L.k) (CAny L.k L.t L.n) _ 60 v W' → K { tmps := #[f 0, f 1, f 2, f 3, f 4, f 5, f 6, f 7, f 8, f 9, f 10, f 11, f 12, f 13, f 14, f 15, f 16, f 17, f 18, f 19, f 20, f 21, f 22, f 23, f 24, f 25, f 26, f 27, f 28, f 29, f 30, f 31, f 32, f 33, f 34, f 35, f 36, f 37, f 38, f 39, f 40, f 41, f 42, f 43, f 44, f 45, f 46, f 47, f 48, f 49, f 50, f 51, f 52, f 53, f 54, f 55, f 56, f 57, f 58, f 59, v, f 61, f 62, f 63, f 64, f 65, f 66, f 67, f 68, f 69, f 70, f 71, f 72, f 73, f 74, f 75, f 76, f 77, f 78, f 79, f 80, f 81, f 82, f 83, f 84, f 85, f 86, f 87, f 88, f 89, f 90, f 91, f 92, f 93, f 94, f 95, f 96, f 97, f 98, f 99, f 100, f 101, f 102, f 103, f 104, f 105, f 106, f 107, f 108, f 109, f 110], defers := [] } W' := hK
          change wpList _ #[_] _ [_] { tmps := #[f 0, f 1, f 2, f 3, f 4, f 5, f 6, f 7, f 8, f 9, f 10, f 11, f 12, f 13, f 14, f 15, f 16, f 17, f 18, f 19, f 20, f 21, f 22, f 23, f 24, f 25, f 26, f 27, f 28, f 29, f 30, f 31, f 32, f 33, f 34, f 35, f 36, f 37, f 38, f 39, f 40, f 41, f 42, f 43, f 44, f 45, f 46, f 47, f 48, f 49, f 50, f 51, f 52, f 53, f 54, f 55, f 56, f 57, f 58, f 59, f 60, f 61, f 62, f 63, f 64, f 65, f 66, f 67, f 68, f 69, f 70, f 71, f 72, f 73, f 74, f 75, f 76, f 77, f 78, f 79, f 80, f 81, f 82, f 83, f 84, f 85, f 86, f 87, f 88, f 89, f 90, f 91, f 92, f 93, f 94, f 95, f 96, f 97, f 98, f 99, f 100, f 101, f 102, f 103, f 104, f 105, f 106, f 107, f 108, f 109, f 110], defers := [] } W
          clear hK hd hold
          simp only [ze59] at HK ⊢
          clear ze59
          have HK := Aside.mk HK
          go_wp2
          exact HK.out _ _ (Chg.refl _) rfl
        · -- 61 := fieldAddr 132 t60 1
          intro f W hW hold hd K hK
          refine .inl ⟨wanted_free rfl _, ?_⟩
          dsimp only [bare]
          have ze60 : f 60 = .pointer (some ⟨L.p, 0, none⟩) := hd 60 rfl rfl
          have HK : ∀ v W', Chg (· = L.k) (CAny L.k L.t L.n) W W' → chgV (· = L.k) (CAny L.k L.t L.n) _ 61 v W' → K { tmps := #[f 0, f 1, f 2, f 3, f 4, f 5, f 6, f 7, f 8, f 9, f 10, f 11, f 12, f 13, f 14, f 15, f 16, f 17, f 18, f 19, f 20, f 21, f 22, f 23, f 24, f 25, f 26, f 27, f 28, f 29, f 30, f 31, f 32, f 33, f 34, f 35, f 36, f 37, f 38, f 39, f 40, f 41, f 42, f 43, f 44, f 45, f 46, f 47, f 48, f 49, f 50, f 51, f 52, f 53, f 54, f 55, f 56, f 57, f 58, f 59, f 60, v, f 62, f 63, f 64, f 65, f 66, f 67, f 68, f 69, f 70, f 71, f 72, f 73, f 74, f 75, f 76, f 77, f 78, f 79, f 80, f 81, f 82, f 83, f 84, f 85, f 86, f 87, f 88, f 89, f 90, f 91, f 92, f 93, f 94, f 95, f 96, f 97, f 98, f 99, f 100, f 101, f 102, f 103, f 104, f 105, f 106, f 107, f 108, f 109, f 110], defers := [] } W' := hK
          change wpList _ #[_] _ [_] { tmps := #[f 0, f 1, f 2, f 3, f 4, f 5, f 6, f 7, f 8, f 9, f 10, f 11, f 12, f 13, f 14, f 15, f 16, f 17, f 18, f 19, f 20, f 21, f 22, f 23, f 24, f 25, f 26, f 27, f 28, f 29, f 30, f 31, f 32, f 33, f 34, f 35, f 36, f 37, f 38, f 39, f 40, f 41, f 42, f 43, f 44, f 45, f 46, f 47, f 48, f 49, f 50, f 51, f 52, f 53, f 54, f 55, f 56, f 57, f 58, f 59, f 60, f 61, f 62, f 63, f 64, f 65, f 66, f 67, f 68, f 69, f 70, f 71, f 72, f 73, f 74, f 75, f 76, f 77, f 78, f 79, f 80, f 81, f 82, f 83, f 84, f 85, f 86, f 87, f 88, f 89, f 90, f 91, f 92, f 93, f 94, f 95, f 96, f 97, f 98, f 99, f 100, f 101, f 102, f 103, f 104, f 105, f 106, f 107, f 108, f 109, f 110], defers := [] } W
          clear hK hd hold
          simp only [ze60] at HK ⊢
          clear ze60
          have HK := Aside.mk HK
          go_wp2
          exact HK.out _ _ (Chg.refl _) rfl
        · -- 62 := load 129 t61
          intro f W hW hold hd K hK
          refine .inl ⟨wanted_free rfl _, ?_⟩
          dsimp only [bare]
          have ze61 : f 61 = .pointer (some ⟨L.p, 1, none⟩) := hd 61 rfl rfl
          have HK : ∀ v W', Chg (· = L.k) (CAny L.k L.t L.n) W W' → chgV (· = L.k) (CAny L.k L.t L.n) _ 62 v W' → K { tmps := #[f 0, f 1, f 2, f 3, f 4, f 5, f 6, f 7, f 8, f 9, f 10, f 11, f 12, f 13, f 14, f 15, f 16, f 17, f 18, f 19, f 20, f 21, f 22, f 23, f 24, f 25, f 26, f 27, f 28, f 29, f 30, f 31, f 32, f 33, f 34, f 35, f 36, f 37, f 38, f 39, f 40, f 41, f 42, f 43, f 44, f 45, f 46, f 47, f 48, f 49, f 50, f 51, f 52, f 53, f 54, f 55, f 56, f 57, f 58, f 59, f 60, f 61, v, f 63, f 64, f 65, f 66, f 67, f 68, f 69, f 70, f 71, f 72, f 73, f 74, f 75, f 76, f 77, f 78, f 79, f 80, f 81, f 82, f 83, f 84, f 85, f 86, f 87, f 88, f 89, f 90, f 91, f 92, f 93, f 94, f 95, f 96, f 97, f 98, f 99, f 100, f 101, f 102, f 103, f 104, f 105, f 106, f 107, f 108, f 109, f 110], defers := [] } W' := hK
          change wpList _ #[_] _ [_] { tmps := #[f 0, f 1, f 2, f 3, f 4, f 5, f 6, f 7, f 8, f 9, f 10, f 11, f 12, f 13, f 14, f 15, f 16, f 17, f 18, f 19, f 20, f 21, f 22, f 23, f 24, f 25, f 26, f 27, f 28, f 29, f 30, f 31, f 32, f 33, f 34, f 35, f 36, f 37, f 38, f 39, f 40, f 41, f 42, f 43, f 44, f 45, f 46, f 47, f 48, f 49, f 50, f 51, f 52, f 53, f 54, f 55, f 56, f 57, f 58, f 59, f 60, f 61, f 62, f 63, f 64, f 65, f 66, f 67, f 68, f 69, f 70, f 71, f 72, f 73, f 74, f 75, f 76, f 77, f 78, f 79, f 80, f 81, f 82, f 83, f 84, f 85, f 86, f 87, f 88, f 89, f 90, f 91, f 92, f 93, f 94, f 95, f 96, f 97, f 98, f 99, f 100, f 101, f 102, f 103, f 104, f 105, f 106, f 107, f 108, f 109, f 110], defers := [] } W
          clear hK hd hold
          simp only [ze61] at HK ⊢
          clear ze61
          have HK := Aside.mk HK
          have hh := hW.blk (H4.out.1.pgr) (fun e => HNE.out _ _ _ _ H4.out.1 _ H4.out.1.pgr (by decide) e); have hcell := cell_of_row W (L.p) 1 _ _ _ hh; clear hh
          go_wp2
          exact HK.out _ _ (Chg.refl _) rfl
        · -- 63 := move t8
          intro f W hW hold hd K hK
          refine .inl ⟨wanted_free rfl _, ?_⟩
          dsimp only [bare]
          have ze8 : f 8 = .string x := hold 8 rfl
          have HK : ∀ v W', Chg (· = L.k) (CAny L.k L.t L.n) W W' → chgV (· = L.k) (CAny L.k L.t L.n) _ 63 v W' → K { tmps := #[f 0, f 1, f 2, f 3, f 4, f 5, f 6, f 7, f 8, f 9, f 10, f 11, f 12, f 13, f 14, f 15, f 16, f 17, f 18, f 19, f 20, f 21, f 22, f 23, f 24, f 25, f 26, f 27, f 28, f 29, f 30, f 31, f 32, f 33, f 34, f 35, f 36, f 37, f 38, f 39, f 40, f 41, f 42, f 43, f 44, f 45, f 46, f 47, f 48, f 49, f 50, f 51, f 52, f 53, f 54, f 55, f 56, f 57, f 58, f 59, f 60, f 61, f 62, v, f 64, f 65, f 66, f 67, f 68, f 69, f 70, f 71, f 72, f 73, f 74, f 75, f 76, f 77, f 78, f 79, f 80, f 81, f 82, f 83, f 84, f 85, f 86, f 87, f 88, f 89, f 90, f 91, f 92, f 93, f 94, f 95, f 96, f 97, f 98, f 99, f 100, f 101, f 102, f 103, f 104, f 105, f 106, f 107, f 108, f 109, f 110], defers := [] } W' := hK
          change wpList _ #[_] _ [_] { tmps := #[f 0, f 1, f 2, f 3, f 4, f 5, f 6, f 7, f 8, f 9, f 10, f 11, f 12, f 13, f 14, f 15, f 16, f 17, f 18, f 19, f 20, f 21, f 22, f 23, f 24, f 25, f 26, f 27, f 28, f 29, f 30, f 31, f 32, f 33, f 34, f 35, f 36, f 37, f 38, f 39, f 40, f 41, f 42, f 43, f 44, f 45, f 46, f 47, f 48, f 49, f 50, f 51, f 52, f 53, f 54, f 55, f 56, f 57, f 58, f 59, f 60, f 61, f 62, f 63, f 64, f 65, f 66, f 67, f 68, f 69, f 70, f 71, f 72, f 73, f 74, f 75, f 76, f 77, f 78, f 79, f 80, f 81, f 82, f 83, f 84, f 85, f 86, f 87, f 88, f 89, f 90, f 91, f 92, f 93, f 94, f 95, f 96, f 97, f 98, f 99, f 100, f 101, f 102, f 103, f 104, f 105, f 106, f 107, f 108, f 109, f 110], defers := [] } W
          clear hK hd hold
          simp only [ze8] at HK ⊢
          clear ze8
          have HK := Aside.mk HK
          go_wp2
          exact HK.out _ _ (Chg.refl _) rfl
        · -- 64 := move t0
          intro f W hW hold hd K hK
          refine .inl ⟨wanted_free rfl _, ?_⟩
          dsimp only [bare]
          have ze0 : f 0 = .pointer (some ⟨L.p, 0, none⟩) := hold 0 rfl
          have HK : ∀ v W', Chg (· = L.k) (CAny L.k L.t L.n) W W' → chgV (· = L.k) (CAny L.k L.t L.n) _ 64 v W' → K { tmps := #[f 0, f 1, f 2, f 3, f 4, f 5, f 6, f 7, f 8, f 9, f 10, f 11, f 12, f 13, f 14, f 15, f 16, f 17, f 18, f 19, f 20, f 21, f 22, f 23, f 24, f 25, f 26, f 27, f 28, f 29, f 30, f 31, f 32, f 33, f 34, f 35, f 36, f 37, f 38, f 39, f 40, f 41, f 42, f 43, f 44, f 45, f 46, f 47, f 48, f 49, f 50, f 51, f 52, f 53, f 54, f 55, f 56, f 57, f 58, f 59, f 60, f 61, f 62, f 63, v, f 65, f 66, f 67, f 68, f 69, f 70, f 71, f 72, f 73, f 74, f 75, f 76, f 77, f 78, f 79, f 80, f 81, f 82, f 83, f 84, f 85, f 86, f 87, f 88, f 89, f 90, f 91, f 92, f 93, f 94, f 95, f 96, f 97, f 98, f 99, f 100, f 101, f 102, f 103, f 104, f 105, f 106, f 107, f 108, f 109, f 110], defers := [] } W' := hK
          change wpList _ #[_] _ [_] { tmps := #[f 0, f 1, f 2, f 3, f 4, f 5, f 6, f 7, f 8, f 9, f 10, f 11, f 12, f 13, f 14, f 15, f 16, f 17, f 18, f 19, f 20, f 21, f 22, f 23, f 24, f 25, f 26, f 27, f 28, f 29, f 30, f 31, f 32, f 33, f 34, f 35, f 36, f 37, f 38, f 39, f 40, f 41, f 42, f 43, f 44, f 45, f 46, f 47, f 48, f 49, f 50, f 51, f 52, f 53, f 54, f 55, f 56, f 57, f 58, f 59, f 60, f 61, f 62, f 63, f 64, f 65, f 66, f 67, f 68, f 69, f 70, f 71, f 72, f 73, f 74, f 75, f 76, f 77, f 78, f 79, f 80, f 81, f 82, f 83, f 84, f 85, f 86, f 87, f 88, f 89, f 90, f 91, f 92, f 93, f 94, f 95, f 96, f 97, f 98, f 99, f 100, f 101, f 102, f 103, f 104, f 105, f 106, f 107, f 108, f 109, f 110], defers := [] } W
          clear hK hd hold
          simp only [ze0] at HK ⊢
          clear ze0
          have HK := Aside.mk HK
          go_wp2
          exact HK.out _ _ (Chg.refl _) rfl
        · -- 65 := nilCheck t64
          intro f W hW hold hd K hK
          refine .inl ⟨wanted_free rfl _, ?_⟩
          dsimp only [bare]
          have ze64 : f 64 = .pointer (some ⟨L.p, 0, none⟩) := hd 64 rfl rfl
          have HK : ∀ v W', Chg (· = L.k) (CAny L.k L.t L.n) W W' → chgV (· = L.k) (CAny L.k L.t L.n) _ 65 v W' → K { tmps := #[f 0, f 1, f 2, f 3, f 4, f 5, f 6, f 7, f 8, f 9, f 10, f 11, f 12, f 13, f 14, f 15, f 16, f 17, f 18, f 19, f 20, f 21, f 22, f 23, f 24, f 25, f 26, f 27, f 28, f 29, f 30, f 31, f 32, f 33, f 34, f 35, f 36, f 37, f 38, f 39, f 40, f 41, f 42, f 43, f 44, f 45, f 46, f 47, f 48, f 49, f 50, f 51, f 52, f 53, f 54, f 55, f 56, f 57, f 58, f 59, f 60, f 61, f 62, f 63, f 64, v, f 66, f 67, f 68, f 69, f 70, f 71, f 72, f 73, f 74, f 75, f 76, f 77, f 78, f 79, f 80, f 81, f 82, f 83, f 84, f 85, f 86, f 87, f 88, f 89, f 90, f 91, f 92, f 93, f 94, f 95, f 96, f 97, f 98, f 99, f 100, f 101, f 102, f 103, f 104, f 105, f 106, f 107, f 108, f 109, f 110], defers := [] } W' := hK
          change wpList _ #[_] _ [_] { tmps := #[f 0, f 1, f 2, f 3, f 4, f 5, f 6, f 7, f 8, f 9, f 10, f 11, f 12, f 13, f 14, f 15, f 16, f 17, f 18, f 19, f 20, f 21, f 22, f 23, f 24, f 25, f 26, f 27, f 28, f 29, f 30, f 31, f 32, f 33, f 34, f 35, f 36, f 37, f 38, f 39, f 40, f 41, f 42, f 43, f 44, f 45, f 46, f 47, f 48, f 49, f 50, f 51, f 52, f 53, f 54, f 55, f 56, f 57, f 58, f 59, f 60, f 61, f 62, f 63, f 64, f 65, f 66, f 67, f 68, f 69, f 70, f 71, f 72, f 73, f 74, f 75, f 76, f 77, f 78, f 79, f 80, f 81, f 82, f 83, f 84, f 85, f 86, f 87, f 88, f 89, f 90, f 91, f 92, f 93, f 94, f 95, f 96, f 97, f 98, f 99, f 100, f 101, f 102, f 103, f 104, f 105, f 106, f 107, f 108, f 109, f 110], defers := [] } W
          clear hK hd hold
          simp only [ze64] at HK ⊢
          clear ze64
          have HK := Aside.mk HK
          go_wp2
          exact HK.out _ _ (Chg.refl _) rfl
        · -- 66 := fieldAddr 132 t65 2
          intro f W hW hold hd K hK
          refine .inl ⟨wanted_free rfl _, ?_⟩
          dsimp only [bare]
          have ze65 : f 65 = .pointer (some ⟨L.p, 0, none⟩) := hd 65 rfl rfl
          have HK : ∀ v W', Chg (· = L.k) (CAny L.k L.t L.n) W W' → chgV (· = L.k) (CAny L.k L.t L.n) _ 66 v W' → K { tmps := #[f 0, f 1, f 2, f 3, f 4, f 5, f 6, f 7, f 8, f 9, f 10, f 11, f 12, f 13, f 14, f 15, f 16, f 17, f 18, f 19, f 20, f 21, f 22, f 23, f 24, f 25, f 26, f 27, f 28, f 29, f 30, f 31, f 32, f 33, f 34, f 35, f 36, f 37, f 38, f 39, f 40, f 41, f 42, f 43, f 44, f 45, f 46, f 47, f 48, f 49, f 50, f 51, f 52, f 53, f 54, f 55, f 56, f 57, f 58, f 59, f 60, f 61, f 62, f 63, f 64, f 65, v, f 67, f 68, f 69, f 70, f 71, f 72, f 73, f 74, f 75, f 76, f 77, f 78, f 79, f 80, f 81, f 82, f 83, f 84, f 85, f 86, f 87, f 88, f 89, f 90, f 91, f 92, f 93, f 94, f 95, f 96, f 97, f 98, f 99, f 100, f 101, f 102, f 103, f 104, f 105, f 106, f 107, f 108, f 109, f 110], defers := [] } W' := hK
          change wpList _ #[_] _ [_] { tmps := #[f 0, f 1, f 2, f 3, f 4, f 5, f 6, f 7, f 8, f 9, f 10, f 11, f 12, f 13, f 14, f 15, f 16, f 17, f 18, f 19, f 20, f 21, f 22, f 23, f 24, f 25, f 26, f 27, f 28, f 29, f 30, f 31, f 32, f 33, f 34, f 35, f 36, f 37, f 38, f 39, f 40, f 41, f 42, f 43, f 44, f 45, f 46, f 47, f 48, f 49, f 50, f 51, f 52, f 53, f 54, f 55, f 56, f 57, f 58, f 59, f 60, f 61, f 62, f 63, f 64, f 65, f 66, f 67, f 68, f 69, f 70, f 71, f 72, f 73, f 74, f 75, f 76, f 77, f 78, f 79, f 80, f 81, f 82, f 83, f 84, f 85, f 86, f 87, f 88, f 89, f 90, f 91, f 92, f 93, f 94, f 95, f 96, f 97, f 98, f 99, f 100, f 101, f 102, f 103, f 104, f 105, f 106, f 107, f 108, f 109, f 110], defers := [] } W
          clear hK hd hold
          simp only [ze65] at HK ⊢
          clear ze65
          have HK := Aside.mk HK
          go_wp2
          exact HK.out _ _ (Chg.refl _) rfl
        · -- 67 := fieldAddr 29 t66 3
          intro f W hW hold hd K hK
          refine .inl ⟨wanted_free rfl _, ?_⟩
          dsimp only [bare]
          have ze66 : f 66 = .pointer (some ⟨L.p, 2, none⟩) := hd 66 rfl rfl
          have HK : ∀ v W', Chg (· = L.k) (CAny L.k L.t L.n) W W' → chgV (· = L.k) (CAny L.k L.t L.n) _ 67 v W' → K { tmps := #[f 0, f 1, f 2, f 3, f 4, f 5, f 6, f 7, f 8, f 9, f 10, f 11, f 12, f 13, f 14, f 15, f 16, f 17, f 18, f 19, f 20, f 21, f 22, f 23, f 24, f 25, f 26, f 27, f 28, f 29, f 30, f 31, f 32, f 33, f 34, f 35, f 36, f 37, f 38, f 39, f 40, f 41, f 42, f 43, f 44, f 45, f 46, f 47, f 48, f 49, f 50, f 51, f 52, f 53, f 54, f 55, f 56, f 57, f 58, f 59, f 60, f 61, f 62, f 63, f 64, f 65, f 66, v, f 68, f 69, f 70, f 71, f 72, f 73, f 74, f 75, f 76, f 77, f 78, f 79, f 80, f 81, f 82, f 83, f 84, f 85, f 86, f 87, f 88, f 89, f 90, f 91, f 92, f 93, f 94, f 95, f 96, f 97, f 98, f 99, f 100, f 101, f 102, f 103, f 104, f 105, f 106, f 107, f 108, f 109, f 110], defers := [] } W' := hK
          change wpList _ #[_] _ [_] { tmps := #[f 0, f 1, f 2, f 3, f 4, f 5, f 6, f 7, f 8, f 9, f 10, f 11, f 12, f 13, f 14, f 15, f 16, f 17, f 18, f 19, f 20, f 21, f 22, f 23, f 24, f 25, f 26, f 27, f 28, f 29, f 30, f 31, f 32, f 33, f 34, f 35, f 36, f 37, f 38, f 39, f 40, f 41, f 42, f 43, f 44, f 45, f 46, f 47, f 48, f 49, f 50, f 51, f 52, f 53, f 54, f 55, f 56, f 57, f 58, f 59, f 60, f 61, f 62, f 63, f 64, f 65, f 66, f 67, f 68, f 69, f 70, f 71, f 72, f 73, f 74, f 75, f 76, f 77, f 78, f 79, f 80, f 81, f 82, f 83, f 84, f 85, f 86, f 87, f 88, f 89, f 90, f 91, f 92, f 93, f 94, f 95, f 96, f 97, f 98, f 99, f 100, f 101, f 102, f 103, f 104, f 105, f 106, f 107, f 108, f 109, f 110], defers := [] } W
          clear hK hd hold
          simp only [ze66] at HK ⊢
          clear ze66
          have HK := Aside.mk HK
          go_wp2
          exact HK.out _ _ (Chg.refl _) rfl
        · -- 68 := load 3 t67
          intro f W hW hold hd K hK
          refine .inl ⟨wanted_free rfl _, ?_⟩
          dsimp only [bare]
          have ze67 : f 67 = .pointer (some ⟨L.p, 5, none⟩) := hd 67 rfl rfl
          have HK : ∀ v W', Chg (· = L.k) (CAny L.k L.t L.n) W W' → chgV (· = L.k) (CAny L.k L.t L.n) _ 68 v W' → K { tmps := #[f 0, f 1, f 2, f 3, f 4, f 5, f 6, f 7, f 8, f 9, f 10, f 11, f 12, f 13, f 14, f 15, f 16, f 17, f 18, f 19, f 20, f 21, f 22, f 23, f 24, f 25, f 26, f 27, f 28, f 29, f 30, f 31, f 32, f 33, f 34, f 35, f 36, f 37, f 38, f 39, f 40, f 41, f 42, f 43, f 44, f 45, f 46, f 47, f 48, f 49, f 50, f 51, f 52, f 53, f 54, f 55, f 56, f 57, f 58, f 59, f 60, f 61, f 62, f 63, f 64, f 65, f 66, f 67, v, f 69, f 70, f 71, f 72, f 73, f 74, f 75, f 76, f 77, f 78, f 79, f 80, f 81, f 82, f 83, f 84, f 85, f 86, f 87, f 88, f 89, f 90, f 91, f 92, f 93, f 94, f 95, f 96, f 97, f 98, f 99, f 100, f 101, f 102, f 103, f 104, f 105, f 106, f 107, f 108, f 109, f 110], defers := [] } W' := hK
          change wpList _ #[_] _ [_] { tmps := #[f 0, f 1, f 2, f 3, f 4, f 5, f 6, f 7, f 8, f 9, f 10, f 11, f 12, f 13, f 14, f 15, f 16, f 17, f 18, f 19, f 20, f 21, f 22, f 23, f 24, f 25, f 26, f 27, f 28, f 29, f 30, f 31, f 32, f 33, f 34, f 35, f 36, f 37, f 38, f 39, f 40, f 41, f 42, f 43, f 44, f 45, f 46, f 47, f 48, f 49, f 50, f 51, f 52, f 53, f 54, f 55, f 56, f 57, f 58, f 59, f 60, f 61, f 62, f 63, f 64, f 65, f 66, f 67, f 68, f 69, f 70, f 71, f 72, f 73, f 74, f 75, f 76, f 77, f 78, f 79, f 80, f 81, f 82, f 83, f 84, f 85, f 86, f 87, f 88, f 89, f 90, f 91, f 92, f 93, f 94, f 95, f 96, f 97, f 98, f 99, f 100, f 101, f 102, f 103, f 104, f 105, f 106, f 107, f 108, f 109, f 110], defers := [] } W
          clear hK hd hold
          simp only [ze67] at HK ⊢
          clear ze67
          have HK := Aside.mk HK
          have hh := hW.blk (H4.out.1.pgr) (fun e => HNE.out _ _ _ _ H4.out.1 _ H4.out.1.pgr (by decide) e); have hcell := cell_of_row W (L.p) 5 _ _ _ hh; clear hh
          go_wp2
          exact HK.out _ _ (Chg.refl _) rfl
        · -- 69 := slice 9 t63 - t68 -
          intro f W hW hold hd K hK
          refine .inl ⟨wanted_free rfl _, ?_⟩
          dsimp only [bare]
          have ze63 : f 63 = .string x := hd 63 rfl rfl
          have ze68 : f 68 = .int .i64 (L.n : Int) := hd 68 rfl rfl
          have HK : ∀ v W', Chg (· = L.k) (CAny L.k L.t L.n) W W' → chgV (· = L.k) (CAny L.k L.t L.n) _ 69 v W' → K { tmps := #[f 0, f 1, f 2, f 3, f 4, f 5, f 6, f 7, f 8, f 9, f 10, f 11, f 12, f 13, f 14, f 15, f 16, f 17, f 18, f 19, f 20, f 21, f 22, f 23, f 24, f 25, f 26, f 27, f 28, f 29, f 30, f 31, f 32, f 33, f 34, f 35, f 36, f 37, f 38, f 39, f 40, f 41, f 42, f 43, f 44, f 45, f 46, f 47, f 48, f 49, f 50, f 51, f 52, f 53, f 54, f 55, f 56, f 57, f 58, f 59, f 60, f 61, f 62, f 63, f 64, f 65, f 66, f 67, f 68, v, f 70, f 71, f 72, f 73, f 74, f 75, f 76, f 77, f 78, f 79, f 80, f 81, f 82, f 83, f 84, f 85, f 86, f 87, f 88, f 89, f 90, f 91, f 92, f 93, f 94, f 95, f 96, f 97, f 98, f 99, f 100, f 101, f 102, f 103, f 104, f 105, f 106, f 107, f 108, f 109, f 110], defers := [] } W' := hK
          change wpList _ #[_] _ [_] { tmps := #[f 0, f 1, f 2, f 3, f 4, f 5, f 6, f 7, f 8, f 9, f 10, f 11, f 12, f 13, f 14, f 15, f 16, f 17, f 18, f 19, f 20, f 21, f 22, f 23, f 24, f 25, f 26, f 27, f 28, f 29, f 30, f 31, f 32, f 33, f 34, f 35, f 36, f 37, f 38, f 39, f 40, f 41, f 42, f 43, f 44, f 45, f 46, f 47, f 48, f 49, f 50, f 51, f 52, f 53, f 54, f 55, f 56, f 57, f 58, f 59, f 60, f 61, f 62, f 63, f 64, f 65, f 66, f 67, f 68, f 69, f 70, f 71, f 72, f 73, f 74, f 75, f 76, f 77, f 78, f 79, f 80, f 81, f 82, f 83, f 84, f 85, f 86, f 87, f 88, f 89, f 90, f 91, f 92, f 93, f 94, f 95, f 96, f 97, f 98, f 99, f 100, f 101, f 102, f 103, f 104, f 105, f 106, f 107, f 108, f 109, f 110], defers := [] } W
          clear hK hd hold
          simp only [ze63, ze68] at HK ⊢
          clear ze63 ze68
          have HK := Aside.mk HK
          have cz := (HSL.out W).1
          go_wp2
          exact HK.out _ _ (Chg.refl _) rfl
        · -- 70 := move t8
          intro f W hW hold hd K hK
          refine .inl ⟨wanted_free rfl _, ?_⟩
          dsimp only [bare]
          have ze8 : f 8 = .string x := hold 8 rfl
          have HK : ∀ v W', Chg (· = L.k) (CAny L.k L.t L.n) W W' → chgV (· = L.k) (CAny L.k L.t L.n) _ 70 v W' → K { tmps := #[f 0, f 1, f 2, f 3, f 4, f 5, f 6, f 7, f 8, f 9, f 10, f 11, f 12, f 13, f 14, f 15, f 16, f 17, f 18, f 19, f 20, f 21, f 22, f 23, f 24, f 25, f 26, f 27, f 28, f 29, f 30, f 31, f 32, f 33, f 34, f 35, f 36, f 37, f 38, f 39, f 40, f 41, f 42, f 43, f 44, f 45, f 46, f 47, f 48, f 49, f 50, f 51, f 52, f 53, f 54, f 55, f 56, f 57, f 58, f 59, f 60, f 61, f 62, f 63, f 64, f 65, f 66, f 67, f 68, f 69, v, f 71, f 72, f 73, f 74, f 75, f 76, f 77, f 78, f 79, f 80, f 81, f 82, f 83, f 84, f 85, f 86, f 87, f 88, f 89, f 90, f 91, f 92, f 93, f 94, f 95, f 96, f 97, f 98, f 99, f 100, f 101, f 102, f 103, f 104, f 105, f 106, f 107, f 108, f 109, f 110], defers := [] } W' := hK
          change wpList _ #[_] _ [_] { tmps := #[f 0, f 1, f 2, f 3, f 4, f 5, f 6, f 7, f 8, f 9, f 10, f 11, f 12, f 13, f 14, f 15, f 16, f 17, f 18, f 19, f 20, f 21, f 22, f 23, f 24, f 25, f 26, f 27, f 28, f 29, f 30, f 31, f 32, f 33, f 34, f 35, f 36, f 37, f 38, f 39, f 40, f 41, f 42, f 43, f 44, f 45, f 46, f 47, f 48, f 49, f 50, f 51, f 52, f 53, f 54, f 55, f 56, f 57, f 58, f 59, f 60, f 61, f 62, f 63, f 64, f 65, f 66, f 67, f 68, f 69, f 70, f 71, f 72, f 73, f 74, f 75, f 76, f 77, f 78, f 79, f 80, f 81, f 82, f 83, f 84, f 85, f 86, f 87, f 88, f 89, f 90, f 91, f 92, f 93, f 94, f 95, f 96, f 97, f 98, f 99, f 100, f 101, f 102, f 103, f 104, f 105, f 106, f 107, f 108, f 109, f 110], defers := [] } W
          clear hK hd hold
          simp only [ze8] at HK ⊢
          clear ze8
          have HK := Aside.mk HK
          go_wp2
          exact HK.out _ _ (Chg.refl _) rfl
        · -- 71 := move t0
          intro f W hW hold hd K hK
          refine .inl ⟨wanted_free rfl _, ?_⟩
          dsimp only [bare]
          have ze0 : f 0 = .pointer (some ⟨L.p, 0, none⟩) := hold 0 rfl
          have HK : ∀ v W', Chg (· = L.k) (CAny L.k L.t L.n) W W' → chgV (· = L.k) (CAny L.k L.t L.n) _ 71 v W' → K { tmps := #[f 0, f 1, f 2, f 3, f 4, f 5, f 6, f 7, f 8, f 9, f 10, f 11, f 12, f 13, f 14, f 15, f 16, f 17, f 18, f 19, f 20, f 21, f 22, f 23, f 24, f 25, f 26, f 27, f 28, f 29, f 30, f 31, f 32, f 33, f 34, f 35, f 36, f 37, f 38, f 39, f 40, f 41, f 42, f 43, f 44, f 45, f 46, f 47, f 48, f 49, f 50, f 51, f 52, f 53, f 54, f 55, f 56, f 57, f 58, f 59, f 60, f 61, f 62, f 63, f 64, f 65, f 66, f 67, f 68, f 69, f 70, v, f 72, f 73, f 74, f 75, f 76, f 77, f 78, f 79, f 80, f 81, f 82, f 83, f 84, f 85, f 86, f 87, f 88, f 89, f 90, f 91, f 92, f 93, f 94, f 95, f 96, f 97, f 98, f 99, f 100, f 101, f 102, f 103, f 104, f 105, f 106, f 107, f 108, f 109, f 110], defers := [] } W' := hK
          change wpList _ #[_] _ [_] { tmps := #[f 0, f 1, f 2, f 3, f 4, f 5, f 6, f 7, f 8, f 9, f 10, f 11, f 12, f 13, f 14, f 15, f 16, f 17, f 18, f 19, f 20, f 21, f 22, f 23, f 24, f 25, f 26, f 27, f 28, f 29, f 30, f 31, f 32, f 33, f 34, f 35, f 36, f 37, f 38, f 39, f 40, f 41, f 42, f 43, f 44, f 45, f 46, f 47, f 48, f 49, f 50, f 51, f 52, f 53, f 54, f 55, f 56, f 57, f 58, f 59, f 60, f 61, f 62, f 63, f 64, f 65, f 66, f 67, f 68, f 69, f 70, f 71, f 72, f 73, f 74, f 75, f 76, f 77, f 78, f 79, f 80, f 81, f 82, f 83, f 84, f 85, f 86, f 87, f 88, f 89, f 90, f 91, f 92, f 93, f 94, f 95, f 96, f 97, f 98, f 99, f 100, f 101, f 102, f 103, f 104, f 105, f 106, f 107, f 108, f 109, f 110], defers := [] } W
          clear hK hd hold
          simp only [ze0] at HK ⊢
          clear ze0
          have HK := Aside.mk HK
          go_wp2
          exact HK.out _ _ (Chg.refl _) rfl
        · -- 72 := nilCheck t71
          intro f W hW hold hd K hK
          refine .inl ⟨wanted_free rfl _, ?_⟩
          dsimp only [bare]
          have ze71 : f 71 = .pointer (some ⟨L.p, 0, none⟩) := hd 71 rfl rfl
          have HK : ∀ v W', Chg (· = L.k) (CAny L.k L.t L.n) W W' → chgV (· = L.k) (CAny L.k L.t L.n) _ 72 v W' → K { tmps := #[f 0, f 1, f 2, f 3, f 4, f 5, f 6, f 7, f 8, f 9, f 10, f 11, f 12, f 13, f 14, f 15, f 16, f 17, f 18, f 19, f 20, f 21, f 22, f 23, f 24, f 25, f 26, f 27, f 28, f 29, f 30, f 31, f 32, f 33, f 34, f 35, f 36, f 37, f 38, f 39, f 40, f 41, f 42, f 43, f 44, f 45, f 46, f 47, f 48, f 49, f 50, f 51, f 52, f 53, f 54, f 55, f 56, f 57, f 58, f 59, f 60, f 61, f 62, f 63, f 64, f 65, f 66, f 67, f 68, f 69, f 70, f 71, v, f 73, f 74, f 75, f 76, f 77, f 78, f 79, f 80, f 81, f 82, f 83, f 84, f 85, f 86, f 87, f 88, f 89, f 90, f 91, f 92, f 93, f 94, f 95, f 96, f 97, f 98, f 99, f 100, f 101, f 102, f 103, f 104, f 105, f 106, f 107, f 108, f 109, f 110], defers := [] } W' := hK
          change wpList _ #[_] _ [_] { tmps := #[f 0, f 1, f 2, f 3, f 4, f 5, f 6, f 7, f 8, f 9, f 10, f 11, f 12, f 13, f 14, f 15, f 16, f 17, f 18, f 19, f 20, f 21, f 22, f 23, f 24, f 25, f 26, f 27, f 28, f 29, f 30, f 31, f 32, f 33, f 34, f 35, f 36, f 37, f 38, f 39, f 40, f 41, f 42, f 43, f 44, f 45, f 46, f 47, f 48, f 49, f 50, f 51, f 52, f 53, f 54, f 55, f 56, f 57, f 58, f 59, f 60, f 61, f 62, f 63, f 64, f 65, f 66, f 67, f 68, f 69, f 70, f 71, f 72, f 73, f 74, f 75, f 76, f 77, f 78, f 79, f 80, f 81, f 82, f 83, f 84, f 85, f 86, f 87, f 88, f 89, f 90, f 91, f 92, f 93, f 94, f 95, f 96, f 97, f 98, f 99, f 100, f 101, f 102, f 103, f 104, f 105, f 106, f 107, f 108, f 109, f 110], defers := [] } W
          clear hK hd hold
          simp only [ze71] at HK ⊢
          clear ze71
          have HK := Aside.mk HK
          go_wp2
          exact HK.out _ _ (Chg.refl _) rfl
        · -- 73 := fieldAddr 132 t72 2
          intro f W hW hold hd K hK
          refine .inl ⟨wanted_free rfl _, ?_⟩
          dsimp only [bare]
          have ze72 : f 72 = .pointer (some ⟨L.p, 0, none⟩) := hd 72 rfl rfl
          have HK : ∀ v W', Chg (· = L.k) (CAny L.k L.t L.n) W W' → chgV (· = L.k) (CAny L.k L.t L.n) _ 73 v W' → K { tmps := #[f 0, f 1, f 2, f 3, f 4, f 5, f 6, f 7, f 8, f 9, f 10, f 11, f 12, f 13, f 14, f 15, f 16, f 17, f 18, f 19, f 20, f 21, f 22, f 23, f 24, f 25, f 26, f 27, f 28, f 29, f 30, f 31, f 32, f 33, f 34, f 35, f 36, f 37, f 38, f 39, f 40, f 41, f 42, f 43, f 44, f 45, f 46, f 47, f 48, f 49, f 50, f 51, f 52, f 53, f 54, f 55, f 56, f 57, f 58, f 59, f 60, f 61, f 62, f 63, f 64, f 65, f 66, f 67, f 68, f 69, f 70, f 71, f 72, v, f 74, f 75, f 76, f 77, f 78, f 79, f 80, f 81, f 82, f 83, f 84, f 85, f 86, f 87, f 88, f 89, f 90, f 91, f 92, f 93, f 94, f 95, f 96, f 97, f 98, f 99, f 100, f 101, f 102, f 103, f 104, f 105, f 106, f 107, f 108, f 109, f 110], defers := [] } W' := hK
          change wpList _ #[_] _ [_] { tmps := #[f 0, f 1, f 2, f 3, f 4, f 5, f 6, f 7, f 8, f 9, f 10, f 11, f 12, f 13, f 14, f 15, f 16, f 17, f 18, f 19, f 20, f 21, f 22, f 23, f 24, f 25, f 26, f 27, f 28, f 29, f 30, f 31, f 32, f 33, f 34, f 35, f 36, f 37, f 38, f 39, f 40, f 41, f 42, f 43, f 44, f 45, f 46, f 47, f 48, f 49, f 50, f 51, f 52, f 53, f 54, f 55, f 56, f 57, f 58, f 59, f 60, f 61, f 62, f 63, f 64, f 65, f 66, f 67, f 68, f 69, f 70, f 71, f 72, f 73, f 74, f 75, f 76, f 77, f 78, f 79, f 80, f 81, f 82, f 83, f 84, f 85, f 86, f 87, f 88, f 89, f 90, f 91, f 92, f 93, f 94, f 95, f 96, f 97, f 98, f 99, f 100, f 101, f 102, f 103, f 104, f 105, f 106, f 107, f 108, f 109, f 110], defers := [] } W
          clear hK hd hold
          simp only [ze72] at HK ⊢
          clear ze72
          have HK := Aside.mk HK
          go_wp2
          exact HK.out _ _ (Chg.refl _) rfl
        · -- 74 := fieldAddr 29 t73 3
          intro f W hW hold hd K hK
          refine .inl ⟨wanted_free rfl _, ?_⟩
          dsimp only [bare]
          have ze73 : f 73 = .pointer (some ⟨L.p, 2, none⟩) := hd 73 rfl rfl
          have HK : ∀ v W', Chg (· = L.k) (CAny L.k L.t L.n) W W' → chgV (· = L.k) (CAny L.k L.t L.n) _ 74 v W' → K { tmps := #[f 0, f 1, f 2, f 3, f 4, f 5, f 6, f 7, f 8, f 9, f 10, f 11, f 12, f 13, f 14, f 15, f 16, f 17, f 18, f 19, f 20, f 21, f 22, f 23, f 24, f 25, f 26, f 27, f 28, f 29, f 30, f 31, f 32, f 33, f 34, f 35, f 36, f 37, f 38, f 39, f 40, f 41, f 42, f 43, f 44, f 45, f 46, f 47, f 48, f 49, f 50, f 51, f 52, f 53, f 54, f 55, f 56, f 57, f 58, f 59, f 60, f 61, f 62, f 63, f 64, f 65, f 66, f 67, f 68, f 69, f 70, f 71, f 72, f 73, v, f 75, f 76, f 77, f 78, f 79, f 80, f 81, f 82, f 83, f 84, f 85, f 86, f 87, f 88, f 89, f 90, f 91, f 92, f 93, f 94, f 95, f 96, f 97, f 98, f 99, f 100, f 101, f 102, f 103, f 104, f 105, f 106, f 107, f 108, f 109, f 110], defers := [] } W' := hK
          change wpList _ #[_] _ [_] { tmps := #[f 0, f 1, f 2, f 3, f 4, f 5, f 6, f 7, f 8, f 9, f 10, f 11, f 12, f 13, f 14, f 15, f 16, f 17, f 18, f 19, f 20, f 21, f 22, f 23, f 24, f 25, f 26, f 27, f 28, f 29, f 30, f 31, f 32, f 33, f 34, f 35, f 36, f 37, f 38, f 39, f 40, f 41, f 42, f 43, f 44, f 45, f 46, f 47, f 48, f 49, f 50, f 51, f 52, f 53, f 54, f 55, f 56, f 57, f 58, f 59, f 60, f 61, f 62, f 63, f 64, f 65, f 66, f 67, f 68, f 69, f 70, f 71, f 72, f 73, f 74, f 75, f 76, f 77, f 78, f 79, f 80, f 81, f 82, f 83, f 84, f 85, f 86, f 87, f 88, f 89, f 90, f 91, f 92, f 93, f 94, f 95, f 96, f 97, f 98, f 99, f 100, f 101, f 102, f 103, f 104, f 105, f 106, f 107, f 108, f 109, f 110], defers := [] } W
          clear hK hd hold
          simp only [ze73] at HK ⊢
          clear ze73
          have HK := Aside.mk HK
          go_wp2
          exact HK.out _ _ (Chg.refl _) rfl
        · -- 75 := load 3 t74
          intro f W hW hold hd K hK
          refine .inl ⟨wanted_free rfl _, ?_⟩
          dsimp only [bare]
          have ze74 : f 74 = .pointer (some ⟨L.p, 5, none⟩) := hd 74 rfl rfl
          have HK : ∀ v W', Chg (· = L.k) (CAny L.k L.t L.n) W W' → chgV (· = L.k) (CAny L.k L.t L.n) _ 75 v W' → K { tmps := #[f 0, f 1, f 2, f 3, f 4, f 5, f 6, f 7, f 8, f 9, f 10, f 11, f 12, f 13, f 14, f 15, f 16, f 17, f 18, f 19, f 20, f 21, f 22, f 23, f 24, f 25, f 26, f 27, f 28, f 29, f 30, f 31, f 32, f 33, f 34, f 35, f 36, f 37, f 38, f 39, f 40, f 41, f 42, f 43, f 44, f 45, f 46, f 47, f 48, f 49, f 50, f 51, f 52, f 53, f 54, f 55, f 56, f 57, f 58, f 59, f 60, f 61, f 62, f 63, f 64, f 65, f 66, f 67, f 68, f 69, f 70, f 71, f 72, f 73, f 74, v, f 76, f 77, f 78, f 79, f 80, f 81, f 82, f 83, f 84, f 85, f 86, f 87, f 88, f 89, f 90, f 91, f 92, f 93, f 94, f 95, f 96, f 97, f 98, f 99, f 100, f 101, f 102, f 103, f 104, f 105, f 106, f 107, f 108, f 109, f 110], defers := [] } W' := hK
          change wpList _ #[_] _ [_] { tmps := #[f 0, f 1, f 2, f 3, f 4, f 5, f 6, f 7, f 8, f 9, f 10, f 11, f 12, f 13, f 14, f 15, f 16, f 17, f 18, f 19, f 20, f 21, f 22, f 23, f 24, f 25, f 26, f 27, f 28, f 29, f 30, f 31, f 32, f 33, f 34, f 35, f 36, f 37, f 38, f 39, f 40, f 41, f 42, f 43, f 44, f 45, f 46, f 47, f 48, f 49, f 50, f 51, f 52, f 53, f 54, f 55, f 56, f 57, f 58, f 59, f 60, f 61, f 62, f 63, f 64, f 65, f 66, f 67, f 68, f 69, f 70, f 71, f 72, f 73, f 74, f 75, f 76, f 77, f 78, f 79, f 80, f 81, f 82, f 83, f 84, f 85, f 86, f 87, f 88, f 89, f 90, f 91, f 92, f 93, f 94, f 95, f 96, f 97, f 98, f 99, f 100, f 101, f 102, f 103, f 104, f 105, f 106, f 107, f 108, f 109, f 110], defers := [] } W
          clear hK hd hold
          simp only [ze74] at HK ⊢
          clear ze74
          have HK := Aside.mk HK
          have hh := hW.blk (H4.out.1.pgr) (fun e => HNE.out _ _ _ _ H4.out.1 _ H4.out.1.pgr (by decide) e); have hcell := cell_of_row W (L.p) 5 _ _ _ hh; clear hh
          go_wp2
          exact HK.out _ _ (Chg.refl _) rfl
        · -- 76 := move t12
          intro f W hW hold hd K hK
          refine .inl ⟨wanted_free rfl _, ?_⟩
          dsimp only [bare]
          have ze12 : f 12 = .int .i64 sz := hold 12 rfl
          have HK : ∀ v W', Chg (· = L.k) (CAny L.k L.t L.n) W W' → chgV (· = L.k) (CAny L.k L.t L.n) _ 76 v W' → K { tmps := #[f 0, f 1, f 2, f 3, f 4, f 5, f 6, f 7, f 8, f 9, f 10, f 11, f 12, f 13, f 14, f 15, f 16, f 17, f 18, f 19, f 20, f 21, f 22, f 23, f 24, f 25, f 26, f 27, f 28, f 29, f 30, f 31, f 32, f 33, f 34, f 35, f 36, f 37, f 38, f 39, f 40, f 41, f 42, f 43, f 44, f 45, f 46, f 47, f 48, f 49, f 50, f 51, f 52, f 53, f 54, f 55, f 56, f 57, f 58, f 59, f 60, f 61, f 62, f 63, f 64, f 65, f 66, f 67, f 68, f 69, f 70, f 71, f 72, f 73, f 74, f 75, v, f 77, f 78, f 79, f 80, f 81, f 82, f 83, f 84, f 85, f 86, f 87, f 88, f 89, f 90, f 91, f 92, f 93, f 94, f 95, f 96, f 97, f 98, f 99, f 100, f 101, f 102, f 103, f 104, f 105, f 106, f 107, f 108, f 109, f 110], defers := [] } W' := hK
          change wpList _ #[_] _ [_] { tmps := #[f 0, f 1, f 2, f 3, f 4, f 5, f 6, f 7, f 8, f 9, f 10, f 11, f 12, f 13, f 14, f 15, f 16, f 17, f 18, f 19, f 20, f 21, f 22, f 23, f 24, f 25, f 26, f 27, f 28, f 29, f 30, f 31, f 32, f 33, f 34, f 35, f 36, f 37, f 38, f 39, f 40, f 41, f 42, f 43, f 44, f 45, f 46, f 47, f 48, f 49, f 50, f 51, f 52, f 53, f 54, f 55, f 56, f 57, f 58, f 59, f 60, f 61, f 62, f 63, f 64, f 65, f 66, f 67, f 68, f 69, f 70, f 71, f 72, f 73, f 74, f 75, f 76, f 77, f 78, f 79, f 80, f 81, f 82, f 83, f 84, f 85, f 86, f 87, f 88, f 89, f 90, f 91, f 92, f 93, f 94, f 95, f 96, f 97, f 98, f 99, f 100, f 101, f 102, f 103, f 104, f 105, f 106, f 107, f 108, f 109, f 110], defers := [] } W
          clear hK hd hold
          simp only [ze12] at HK ⊢
          clear ze12
          have HK := Aside.mk HK
          go_wp2
          exact HK.out _ _ (Chg.refl _) rfl
        · -- 77 := slice 9 t70 t75 t76 -
          intro f W hW hold hd K hK
          refine .inl ⟨wanted_free rfl _, ?_⟩
          dsimp only [bare]
          have ze70 : f 70 = .string x := hd 70 rfl rfl
          have ze75 : f 75 = .int .i64 (L.n : Int) := hd 75 rfl rfl
          have ze76 : f 76 = .int .i64 sz := hd 76 rfl rfl
          have HK : ∀ v W', Chg (· = L.k) (CAny L.k L.t L.n) W W' → chgV (· = L.k) (CAny L.k L.t L.n) _ 77 v W' → K { tmps := #[f 0, f 1, f 2, f 3, f 4, f 5, f 6, f 7, f 8, f 9, f 10, f 11, f 12, f 13, f 14, f 15, f 16, f 17, f 18, f 19, f 20, f 21, f 22, f 23, f 24, f 25, f 26, f 27, f 28, f 29, f 30, f 31, f 32, f 33, f 34, f 35, f 36, f 37, f 38, f 39, f 40, f 41, f 42, f 43, f 44, f 45, f 46, f 47, f 48, f 49, f 50, f 51, f 52, f 53, f 54, f 55, f 56, f 57, f 58, f 59, f 60, f 61, f 62, f 63, f 64, f 65, f 66, f 67, f 68, f 69, f 70, f 71, f 72, f 73, f 74, f 75, f 76, v, f 78, f 79, f 80, f 81, f 82, f 83, f 84, f 85, f 86, f 87, f 88, f 89, f 90, f 91, f 92, f 93, f 94, f 95, f 96, f 97, f 98, f 99, f 100, f 101, f 102, f 103, f 104, f 105, f 106, f 107, f 108, f 109, f 110], defers := [] } W' := hK
          change wpList _ #[_] _ [_] { tmps := #[f 0, f 1, f 2, f 3, f 4, f 5, f 6, f 7, f 8, f 9, f 10, f 11, f 12, f 13, f 14, f 15, f 16, f 17, f 18, f 19, f 20, f 21, f 22, f 23, f 24, f 25, f 26, f 27, f 28, f 29, f 30, f 31, f 32, f 33, f 34, f 35, f 36, f 37, f 38, f 39, f 40, f 41, f 42, f 43, f 44, f 45, f 46, f 47, f 48, f 49, f 50, f 51, f 52, f 53, f 54, f 55, f 56, f 57, f 58, f 59, f 60, f 61, f 62, f 63, f 64, f 65, f 66, f 67, f 68, f 69, f 70, f 71, f 72, f 73, f 74, f 75, f 76, f 77, f 78, f 79, f 80, f 81, f 82, f 83, f 84, f 85, f 86, f 87, f 88, f 89, f 90, f 91, f 92, f 93, f 94, f 95, f 96, f 97, f 98, f 99, f 100, f 101, f 102, f 103, f 104, f 105, f 106, f 107, f 108, f 109, f 110], defers := [] } W
          clear hK hd hold
          simp only [ze70, ze75, ze76] at HK ⊢
          clear ze70 ze75 ze76
          have HK := Aside.mk HK
          have cz := (HSL.out W).2.1
          go_wp2
          exact HK.out _ _ (Chg.refl _) rfl
        · -- 78 := CALL f66 (*chert/bch.Code).Decode [t62, t69, t77] : [129, 9, 9]
          intro f W hW hold hd K hK
          refine .inl ⟨wanted_free rfl _, ?_⟩
          dsimp only [bare]
          have ze62 : f 62 = .pointer (some ⟨L.k, 0, none⟩) := hd 62 rfl rfl
          have ze69 : f 69 = .string dt := hd 69 rfl rfl
          have ze77 : f 77 = .string pt := hd 77 rfl rfl
          have HK : ∀ v W', Chg (· = L.k) (CAny L.k L.t L.n) W W' → chgV (· = L.k) (CAny L.k L.t L.n) _ 78 v W' → K { tmps := #[f 0, f 1, f 2, f 3, f 4, f 5, f 6, f 7, f 8, f 9, f 10, f 11, f 12, f 13, f 14, f 15, f 16, f 17, f 18, f 19, f 20, f 21, f 22, f 23, f 24, f 25, f 26, f 27, f 28, f 29, f 30, f 31, f 32, f 33, f 34, f 35, f 36, f 37, f 38, f 39, f 40, f 41, f 42, f 43, f 44, f 45, f 46, f 47, f 48, f 49, f 50, f 51, f 52, f 53, f 54, f 55, f 56, f 57, f 58, f 59, f 60, f 61, f 62, f 63, f 64, f 65, f 66, f 67, f 68, f 69, f 70, f 71, f 72, f 73, f 74, f 75, f 76, f 77, v, f 79, f 80, f 81, f 82, f 83, f 84, f 85, f 86, f 87, f 88, f 89, f 90, f 91, f 92, f 93, f 94, f 95, f 96, f 97, f 98, f 99, f 100, f 101, f 102, f 103, f 104, f 105, f 106, f 107, f 108, f 109, f 110], defers := [] } W' := hK
          change wpList _ #[_] _ [_] { tmps := #[f 0, f 1, f 2, f 3, f 4, f 5, f 6, f 7, f 8, f 9, f 10, f 11, f 12, f 13, f 14, f 15, f 16, f 17, f 18, f 19, f 20, f 21, f 22, f 23, f 24, f 25, f 26, f 27, f 28, f 29, f 30, f 31, f 32, f 33, f 34, f 35, f 36, f 37, f 38, f 39, f 40, f 41, f 42, f 43, f 44, f 45, f 46, f 47, f 48, f 49, f 50, f 51, f 52, f 53, f 54, f 55, f 56, f 57, f 58, f 59, f 60, f 61, f 62, f 63, f 64, f 65, f 66, f 67, f 68, f 69, f 70, f 71, f 72, f 73, f 74, f 75, f 76, f 77, f 78, f 79, f 80, f 81, f 82, f 83, f 84, f 85, f 86, f 87, f 88, f 89, f 90, f 91, f 92, f 93, f 94, f 95, f 96, f 97, f 98, f 99, f 100, f 101, f 102, f 103, f 104, f 105, f 106, f 107, f 108, f 109, f 110], defers := [] } W
          clear hK hd hold
          simp only [ze62, ze69, ze77] at HK ⊢
          clear ze62 ze69 ze77
          have HK := Aside.mk HK
          go_wp2_with (go_at_call 66; refine (HDD.out W (hW.inv H4.out.1.code)).mono ?_; rintro e w5 ⟨rfl, hk5, hg5⟩)
          exact HK.out _ _ ⟨hg5.os, hg5.tape, hg5.output, hg5.size, hg5.block, fun _ => hk5⟩ rfl
        · -- 58 := move t78
          intro f W hW hold hd K hK
          refine .inl ⟨wanted_free rfl _, ?_⟩
          dsimp only [bare]
          have ze78 : f 78 = .tuple #[.string d, .string pp, .int .i64 cnt, .bool true] := hd 78 rfl rfl
          have HK : ∀ v W', Chg (· = L.k) (CAny L.k L.t L.n) W W' → chgV (· = L.k) (CAny L.k L.t L.n) _ 58 v W' → K { tmps := #[f 0, f 1, f 2, f 3, f 4, f 5, f 6, f 7, f 8, f 9, f 10, f 11, f 12, f 13, f 14, f 15, f 16, f 17, f 18, f 19, f 20, f 21, f 22, f 23, f 24, f 25, f 26, f 27, f 28, f 29, f 30, f 31, f 32, f 33, f 34, f 35, f 36, f 37, f 38, f 39, f 40, f 41, f 42, f 43, f 44, f 45, f 46, f 47, f 48, f 49, f 50, f 51, f 52, f 53, f 54, f 55, f 56, f 57, v, f 59, f 60, f 61, f 62, f 63, f 64, f 65, f 66, f 67, f 68, f 69, f 70, f 71, f 72, f 73, f 74, f 75, f 76, f 77, f 78, f 79, f 80, f 81, f 82, f 83, f 84, f 85, f 86, f 87, f 88, f 89, f 90, f 91, f 92, f 93, f 94, f 95, f 96, f 97, f 98, f 99, f 100, f 101, f 102, f 103, f 104, f 105, f 106, f 107, f 108, f 109, f 110], defers := [] } W' := hK
          change wpList _ #[_] _ [_] { tmps := #[f 0, f 1, f 2, f 3, f 4, f 5, f 6, f 7, f 8, f 9, f 10, f 11, f 12, f 13, f 14, f 15, f 16, f 17, f 18, f 19, f 20, f 21, f 22, f 23, f 24, f 25, f 26, f 27, f 28, f 29, f 30, f 31, f 32, f 33, f 34, f 35, f 36, f 37, f 38, f 39, f 40, f 41, f 42, f 43, f 44, f 45, f 46, f 47, f 48, f 49, f 50, f 51, f 52, f 53, f 54, f 55, f 56, f 57, f 58, f 59, f 60, f 61, f 62, f 63, f 64, f 65, f 66, f 67, f 68, f 69, f 70, f 71, f 72, f 73, f 74, f 75, f 76, f 77, f 78, f 79, f 80, f 81, f 82, f 83, f 84, f 85, f 86, f 87, f 88, f 89, f 90, f 91, f 92, f 93, f 94, f 95, f 96, f 97, f 98, f 99, f 100, f 101, f 102, f 103, f 104, f 105, f 106, f 107, f 108, f 109, f 110], defers := [] } W
          clear hK hd hold
          simp only [ze78] at HK ⊢
          clear ze78
          have HK := Aside.mk HK
          go_wp2
          exact HK.out _ _ (Chg.refl _) rfl
        · -- 79 := extract t58 0
          intro f W hW hold hd K hK
          refine .inl ⟨wanted_free rfl _, ?_⟩
          dsimp only [bare]
          have ze58 : f 58 = .tuple #[.string d, .string pp, .int .i64 cnt, .bool true] := hd 58 rfl rfl
          have HK : ∀ v W', Chg (· = L.k) (CAny L.k L.t L.n) W W' → chgV (· = L.k) (CAny L.k L.t L.n) _ 79 v W' → K { tmps := #[f 0, f 1, f 2, f 3, f 4, f 5, f 6, f 7, f 8, f 9, f 10, f 11, f 12, f 13, f 14, f 15, f 16, f 17, f 18, f 19, f 20, f 21, f 22, f 23, f 24, f 25, f 26, f 27, f 28, f 29, f 30, f 31, f 32, f 33, f 34, f 35, f 36, f 37, f 38, f 39, f 40, f 41, f 42, f 43, f 44, f 45, f 46, f 47, f 48, f 49, f 50, f 51, f 52, f 53, f 54, f 55, f 56, f 57, f 58, f 59, f 60, f 61, f 62, f 63, f 64, f 65, f 66, f 67, f 68, f 69, f 70, f 71, f 72, f 73, f 74, f 75, f 76, f 77, f 78, v, f 80, f 81, f 82, f 83, f 84, f 85, f 86, f 87, f 88, f 89, f 90, f 91, f 92, f 93, f 94, f 95, f 96, f 97, f 98, f 99, f 100, f 101, f 102, f 103, f 104, f 105, f 106, f 107, f 108, f 109, f 110], defers := [] } W' := hK
          change wpList _ #[_] _ [_] { tmps := #[f 0, f 1, f 2, f 3, f 4, f 5, f 6, f 7, f 8, f 9, f 10, f 11, f 12, f 13, f 14, f 15, f 16, f 17, f 18, f 19, f 20, f 21, f 22, f 23, f 24, f 25, f 26, f 27, f 28, f 29, f 30, f 31, f 32, f 33, f 34, f 35, f 36, f 37, f 38, f 39, f 40, f 41, f 42, f 43, f 44, f 45, f 46, f 47, f 48, f 49, f 50, f 51, f 52, f 53, f 54, f 55, f 56, f 57, f 58, f 59, f 60, f 61, f 62, f 63, f 64, f 65, f 66, f 67, f 68, f 69, f 70, f 71, f 72, f 73, f 74, f 75, f 76, f 77, f 78, f 79, f 80, f 81, f 82, f 83, f 84, f 85, f 86, f 87, f 88, f 89, f 90, f 91, f 92, f 93, f 94, f 95, f 96, f 97, f 98, f 99, f 100, f 101, f 102, f 103, f 104, f 105, f 106, f 107, f 108, f 109, f 110], defers := [] } W
          clear hK hd hold
          simp only [ze58] at HK ⊢
          clear ze58
          have HK := Aside.mk HK
          go_wp2
          exact HK.out _ _ (Chg.refl _) rfl
        · -- 80 := extract t58 1
          intro f W hW hold hd K hK
          refine .inl ⟨wanted_free rfl _, ?_⟩
          dsimp only [bare]
          have ze58 : f 58 = .tuple #[.string d, .string pp, .int .i64 cnt, .bool true] := hd 58 rfl rfl
          have HK : ∀ v W', Chg (· = L.k) (CAny L.k L.t L.n) W W' → chgV (· = L.k) (CAny L.k L.t L.n) _ 80 v W' → K { tmps := #[f 0, f 1, f 2, f 3, f 4, f 5, f 6, f 7, f 8, f 9, f 10, f 11, f 12, f 13, f 14, f 15, f 16, f 17, f 18, f 19, f 20, f 21, f 22, f 23, f 24, f 25, f 26, f 27, f 28, f 29, f 30, f 31, f 32, f 33, f 34, f 35, f 36, f 37, f 38, f 39, f 40, f 41, f 42, f 43, f 44, f 45, f 46, f 47, f 48, f 49, f 50, f 51, f 52, f 53, f 54, f 55, f 56, f 57, f 58, f 59, f 60, f 61, f 62, f 63, f 64, f 65, f 66, f 67, f 68, f 69, f 70, f 71, f 72, f 73, f 74, f 75, f 76, f 77, f 78, f 79, v, f 81, f 82, f 83, f 84, f 85, f 86, f 87, f 88, f 89, f 90, f 91, f 92, f 93, f 94, f 95, f 96, f 97, f 98, f 99, f 100, f 101, f 102, f 103, f 104, f 105, f 106, f 107, f 108, f 109, f 110], defers := [] } W' := hK
          change wpList _ #[_] _ [_] { tmps := #[f 0, f 1, f 2, f 3, f 4, f 5, f 6, f 7, f 8, f 9, f 10, f 11, f 12, f 13, f 14, f 15, f 16, f 17, f 18, f 19, f 20, f 21, f 22, f 23, f 24, f 25, f 26, f 27, f 28, f 29, f 30, f 31, f 32, f 33, f 34, f 35, f 36, f 37, f 38, f 39, f 40, f 41, f 42, f 43, f 44, f 45, f 46, f 47, f 48, f 49, f 50, f 51, f 52, f 53, f 54, f 55, f 56, f 57, f 58, f 59, f 60, f 61, f 62, f 63, f 64, f 65, f 66, f 67, f 68, f 69, f 70, f 71, f 72, f 73, f 74, f 75, f 76, f 77, f 78, f 79, f 80, f 81, f 82, f 83, f 84, f 85, f 86, f 87, f 88, f 89, f 90, f 91, f 92, f 93, f 94, f 95, f 96, f 97, f 98, f 99, f 100, f 101, f 102, f 103, f 104, f 105, f 106, f 107, f 108, f 109, f 110], defers := [] } W
          clear hK hd hold
          simp only [ze58] at HK ⊢
          clear ze58
          have HK := Aside.mk HK
          go_wp2
          exact HK.out _ _ (Chg.refl _) rfl
        · -- 81 := extract t58 2
          intro f W hW hold hd K hK
          refine .inl ⟨wanted_free rfl _, ?_⟩
          dsimp only [bare]
          have ze58 : f 58 = .tuple #[.string d, .string pp, .int .i64 cnt, .bool true] := hd 58 rfl rfl
          have HK : ∀ v W', Chg (· = L.k) (CAny L.k L.t L.n) W W' → chgV (· = L.k) (CAny L.k L.t L.n) _ 81 v W' → K { tmps := #[f 0, f 1, f 2, f 3, f 4, f 5, f 6, f 7, f 8, f 9, f 10, f 11, f 12, f 13, f 14, f 15, f 16, f 17, f 18, f 19, f 20, f 21, f 22, f 23, f 24, f 25, f 26, f 27, f 28, f 29, f 30, f 31, f 32, f 33, f 34, f 35, f 36, f 37, f 38, f 39, f 40, f 41, f 42, f 43, f 44, f 45, f 46, f 47, f 48, f 49, f 50, f 51, f 52, f 53, f 54, f 55, f 56, f 57, f 58, f 59, f 60, f 61, f 62, f 63, f 64, f 65, f 66, f 67, f 68, f 69, f 70, f 71, f 72, f 73, f 74, f 75, f 76, f 77, f 78, f 79, f 80, v, f 82, f 83, f 84, f 85, f 86, f 87, f 88, f 89, f 90, f 91, f 92, f 93, f 94, f 95, f 96, f 97, f 98, f 99, f 100, f 101, f 102, f 103, f 104, f 105, f 106, f 107, f 108, f 109, f 110], defers := [] } W' := hK
          change wpList _ #[_] _ [_] { tmps := #[f 0, f 1, f 2, f 3, f 4, f 5, f 6, f 7, f 8, f 9, f 10, f 11, f 12, f 13, f 14, f 15, f 16, f 17, f 18, f 19, f 20, f 21, f 22, f 23, f 24, f 25, f 26, f 27, f 28, f 29, f 30, f 31, f 32, f 33, f 34, f 35, f 36, f 37, f 38, f 39, f 40, f 41, f 42, f 43, f 44, f 45, f 46, f 47, f 48, f 49, f 50, f 51, f 52, f 53, f 54, f 55, f 56, f 57, f 58, f 59, f 60, f 61, f 62, f 63, f 64, f 65, f 66, f 67, f 68, f 69, f 70, f 71, f 72, f 73, f 74, f 75, f 76, f 77, f 78, f 79, f 80, f 81, f 82, f 83, f 84, f 85, f 86, f 87, f 88, f 89, f 90, f 91, f 92, f 93, f 94, f 95, f 96, f 97, f 98, f 99, f 100, f 101, f 102, f 103, f 104, f 105, f 106, f 107, f 108, f 109, f 110], defers := [] } W
          clear hK hd hold
          simp only [ze58] at HK ⊢
          clear ze58
          have HK := Aside.mk HK
          go_wp2
          exact HK.out _ _ (Chg.refl _) rfl
        · -- 82 := extract t58 3
          intro f W hW hold hd K hK
          refine .inl ⟨wanted_free rfl _, ?_⟩
          dsimp only [bare]
          have ze58 : f 58 = .tuple #[.string d, .string pp, .int .i64 cnt, .bool true] := hd 58 rfl rfl
          have HK : ∀ v W', Chg (· = L.k) (CAny L.k L.t L.n) W W' → chgV (· = L.k) (CAny L.k L.t L.n) _ 82 v W' → K { tmps := #[f 0, f 1, f 2, f 3, f 4, f 5, f 6, f 7, f 8, f 9, f 10, f 11, f 12, f 13, f 14, f 15, f 16, f 17, f 18, f 19, f 20, f 21, f 22, f 23, f 24, f 25, f 26, f 27, f 28, f 29, f 30, f 31, f 32, f 33, f 34, f 35, f 36, f 37, f 38, f 39, f 40, f 41, f 42, f 43, f 44, f 45, f 46, f 47, f 48, f 49, f 50, f 51, f 52, f 53, f 54, f 55, f 56, f 57, f 58, f 59, f 60, f 61, f 62, f 63, f 64, f 65, f 66, f 67, f 68, f 69, f 70, f 71, f 72, f 73, f 74, f 75, f 76, f 77, f 78, f 79, f 80, f 81, v, f 83, f 84, f 85, f 86, f 87, f 88, f 89, f 90, f 91, f 92, f 93, f 94, f 95, f 96, f 97, f 98, f 99, f 100, f 101, f 102, f 103, f 104, f 105, f 106, f 107, f 108, f 109, f 110], defers := [] } W' := hK
          change wpList _ #[_] _ [_] { tmps := #[f 0, f 1, f 2, f 3, f 4, f 5, f 6, f 7, f 8, f 9, f 10, f 11, f 12, f 13, f 14, f 15, f 16, f 17, f 18, f 19, f 20, f 21, f 22, f 23, f 24, f 25, f 26, f 27, f 28, f 29, f 30, f 31, f 32, f 33, f 34, f 35, f 36, f 37, f 38, f 39, f 40, f 41, f 42, f 43, f 44, f 45, f 46, f 47, f 48, f 49, f 50, f 51, f 52, f 53, f 54, f 55, f 56, f 57, f 58, f 59, f 60, f 61, f 62, f 63, f 64, f 65, f 66, f 67, f 68, f 69, f 70, f 71, f 72, f 73, f 74, f 75, f 76, f 77, f 78, f 79, f 80, f 81, f 82, f 83, f 84, f 85, f 86, f 87, f 88, f 89, f 90, f 91, f 92, f 93, f 94, f 95, f 96, f 97, f 98, f 99, f 100, f 101, f 102, f 103, f 104, f 105, f 106, f 107, f 108, f 109, f 110], defers := [] } W
          clear hK hd hold
          simp only [ze58] at HK ⊢
          clear ze58
          have HK := Aside.mk HK
          go_wp2
          exact HK.out _ _ (Chg.refl _) rfl
        · -- 13 := assign t79
          intro f W hW hold hd K hK
          refine .inl ⟨wanted_free rfl _, ?_⟩
          dsimp only [bare]
          have ze79 : f 79 = .string d := hd 79 rfl rfl
          have HK : ∀ v W', Chg (· = L.k) (CAny L.k L.t L.n) W W' → chgV (· = L.k) (CAny L.k L.t L.n) _ 13 v W' → K { tmps := #[f 0, f 1, f 2, f 3, f 4, f 5, f 6, f 7, f 8, f 9, f 10, f 11, f 12, v, f 14, f 15, f 16, f 17, f 18, f 19, f 20, f 21, f 22, f 23, f 24, f 25, f 26, f 27, f 28, f 29, f 30, f 31, f 32, f 33, f 34, f 35, f 36, f 37, f 38, f 39, f 40, f 41, f 42, f 43, f 44, f 45, f 46, f 47, f 48, f 49, f 50, f 51, f 52, f 53, f 54, f 55, f 56, f 57, f 58, f 59, f 60, f 61, f 62, f 63, f 64, f 65, f 66, f 67, f 68, f 69, f 70, f 71, f 72, f 73, f 74, f 75, f 76, f 77, f 78, f 79, f 80, f 81, f 82, f 83, f 84, f 85, f 86, f 87, f 88, f 89, f 90, f 91, f 92, f 93, f 94, f 95, f 96, f 97, f 98, f 99, f 100, f 101, f 102, f 103, f 104, f 105, f 106, f 107, f 108, f 109, f 110], defers := [] } W' := hK
          change wpList _ #[_] _ [_] { tmps := #[f 0, f 1, f 2, f 3, f 4, f 5, f 6, f 7, f 8, f 9, f 10, f 11, f 12, f 13, f 14, f 15, f 16, f 17, f 18, f 19, f 20, f 21, f 22, f 23, f 24, f 25, f 26, f 27, f 28, f 29, f 30, f 31, f 32, f 33, f 34, f 35, f 36, f 37, f 38, f 39, f 40, f 41, f 42, f 43, f 44, f 45, f 46, f 47, f 48, f 49, f 50, f 51, f 52, f 53, f 54, f 55, f 56, f 57, f 58, f 59, f 60, f 61, f 62, f 63, f 64, f 65, f 66, f 67, f 68, f 69, f 70, f 71, f 72, f 73, f 74, f 75, f 76, f 77, f 78, f 79, f 80, f 81, f 82, f 83, f 84, f 85, f 86, f 87, f 88, f 89, f 90, f 91, f 92, f 93, f 94, f 95, f 96, f 97, f 98, f 99, f 100, f 101, f 102, f 103, f 104, f 105, f 106, f 107, f 108, f 109, f 110], defers := [] } W
          clear hK hd hold
          simp only [ze79] at HK ⊢
          clear ze79
          have HK := Aside.mk HK
          go_wp2
          exact HK.out _ _ (Chg.refl _) rfl
        · -- 14 := assign t80
          intro f W hW hold hd K hK
          refine .inl ⟨wanted_free rfl _, ?_⟩
          dsimp only [bare]
          have ze80 : f 80 = .string pp := hd 80 rfl rfl
          have HK : ∀ v W', Chg (· = L.k) (CAny L.k L.t L.n) W W' → chgV (· = L.k) (CAny L.k L.t L.n) _ 14 v W' → K { tmps := #[f 0, f 1, f 2, f 3, f 4, f 5, f 6, f 7, f 8, f 9, f 10, f 11, f 12, f 13, v, f 15, f 16, f 17, f 18, f 19, f 20, f 21, f 22, f 23, f 24, f 25, f 26, f 27, f 28, f 29, f 30, f 31, f 32, f 33, f 34, f 35, f 36, f 37, f 38, f 39, f 40, f 41, f 42, f 43, f 44, f 45, f 46, f 47, f 48, f 49, f 50, f 51, f 52, f 53, f 54, f 55, f 56, f 57, f 58, f 59, f 60, f 61, f 62, f 63, f 64, f 65, f 66, f 67, f 68, f 69, f 70, f 71, f 72, f 73, f 74, f 75, f 76, f 77, f 78, f 79, f 80, f 81, f 82, f 83, f 84, f 85, f 86, f 87, f 88, f 89, f 90, f 91, f 92, f 93, f 94, f 95, f 96, f 97, f 98, f 99, f 100, f 101, f 102, f 103, f 104, f 105, f 106, f 107, f 108, f 109, f 110], defers := [] } W' := hK
          change wpList _ #[_] _ [_] { tmps := #[f 0, f 1, f 2, f 3, f 4, f 5, f 6, f 7, f 8, f 9, f 10, f 11, f 12, f 13, f 14, f 15, f 16, f 17, f 18, f 19, f 20, f 21, f 22, f 23, f 24, f 25, f 26, f 27, f 28, f 29, f 30, f 31, f 32, f 33, f 34, f 35, f 36, f 37, f 38, f 39, f 40, f 41, f 42, f 43, f 44, f 45, f 46, f 47, f 48, f 49, f 50, f 51, f 52, f 53, f 54, f 55, f 56, f 57, f 58, f 59, f 60, f 61, f 62, f 63, f 64, f 65, f 66, f 67, f 68, f 69, f 70, f 71, f 72, f 73, f 74, f 75, f 76, f 77, f 78, f 79, f 80, f 81, f 82, f 83, f 84, f 85, f 86, f 87, f 88, f 89, f 90, f 91, f 92, f 93, f 94, f 95, f 96, f 97, f 98, f 99, f 100, f 101, f 102, f 103, f 104, f 105, f 106, f 107, f 108, f 109, f 110], defers := [] } W
          clear hK hd hold
          simp only [ze80] at HK ⊢
          clear ze80
          have HK := Aside.mk HK
          go_wp2
          exact HK.out _ _ (Chg.refl _) rfl
        · -- 15 := assign t81
          intro f W hW hold hd K hK
          refine .inl ⟨wanted_free rfl _, ?_⟩
          dsimp only [bare]
          have ze81 : f 81 = .int .i64 cnt := hd 81 rfl rfl
          have HK : ∀ v W', Chg (· = L.k) (CAny L.k L.t L.n) W W' → chgV (· = L.k) (CAny L.k L.t L.n) _ 15 v W' → K { tmps := #[f 0, f 1, f 2, f 3, f 4, f 5, f 6, f 7, f 8, f 9, f 10, f 11, f 12, f 13, f 14, v, f 16, f 17, f 18, f 19, f 20, f 21, f 22, f 23, f 24, f 25, f 26, f 27, f 28, f 29, f 30, f 31, f 32, f 33, f 34, f 35, f 36, f 37, f 38, f 39, f 40, f 41, f 42, f 43, f 44, f 45, f 46, f 47, f 48, f 49, f 50, f 51, f 52, f 53, f 54, f 55, f 56, f 57, f 58, f 59, f 60, f 61, f 62, f 63, f 64, f 65, f 66, f 67, f 68, f 69, f 70, f 71, f 72, f 73, f 74, f 75, f 76, f 77, f 78, f 79, f 80, f 81, f 82, f 83, f 84, f 85, f 86, f 87, f 88, f 89, f 90, f 91, f 92, f 93, f 94, f 95, f 96, f 97, f 98, f 99, f 100, f 101, f 102, f 103, f 104, f 105, f 106, f 107, f 108, f 109, f 110], defers := [] } W' := hK
          change wpList _ #[_] _ [_] { tmps := #[f 0, f 1, f 2, f 3, f 4, f 5, f 6, f 7, f 8, f 9, f 10, f 11, f 12, f 13, f 14, f 15, f 16, f 17, f 18, f 19, f 20, f 21, f 22, f 23, f 24, f 25, f 26, f 27, f 28, f 29, f 30, f 31, f 32, f 33, f 34, f 35, f 36, f 37, f 38, f 39, f 40, f 41, f 42, f 43, f 44, f 45, f 46, f 47, f 48, f 49, f 50, f 51, f 52, f 53, f 54, f 55, f 56, f 57, f 58, f 59, f 60, f 61, f 62, f 63, f 64, f 65, f 66, f 67, f 68, f 69, f 70, f 71, f 72, f 73, f 74, f 75, f 76, f 77, f 78, f 79, f 80, f 81, f 82, f 83, f 84, f 85, f 86, f 87, f 88, f 89, f 90, f 91, f 92, f 93, f 94, f 95, f 96, f 97, f 98, f 99, f 100, f 101, f 102, f 103, f 104, f 105, f 106, f 107, f 108, f 109, f 110], defers := [] } W
          clear hK hd hold
          simp only [ze81] at HK ⊢
          clear ze81
          have HK := Aside.mk HK
          go_wp2
          exact HK.out _ _ (Chg.refl _) rfl
        · -- 16 := assign t82
          intro f W hW hold hd K hK
          refine .inl ⟨wanted_free rfl _, ?_⟩
          dsimp only [bare]
          have ze82 : f 82 = .bool true := hd 82 rfl rfl
          have HK : ∀ v W', Chg (· = L.k) (CAny L.k L.t L.n) W W' → chgV (· = L.k) (CAny L.k L.t L.n) _ 16 v W' → K { tmps := #[f 0, f 1, f 2, f 3, f 4, f 5, f 6, f 7, f 8, f 9, f 10, f 11, f 12, f 13, f 14, f 15, v, f 17, f 18, f 19, f 20, f 21, f 22, f 23, f 24, f 25, f 26, f 27, f 28, f 29, f 30, f 31, f 32, f 33, f 34, f 35, f 36, f 37, f 38, f 39, f 40, f 41, f 42, f 43, f 44, f 45, f 46, f 47, f 48, f 49, f 50, f 51, f 52, f 53, f 54, f 55, f 56, f 57, f 58, f 59, f 60, f 61, f 62, f 63, f 64, f 65, f 66, f 67, f 68, f 69, f 70, f 71, f 72, f 73, f 74, f 75, f 76, f 77, f 78, f 79, f 80, f 81, f 82, f 83, f 84, f 85, f 86, f 87, f 88, f 89, f 90, f 91, f 92, f 93, f 94, f 95, f 96, f 97, f 98, f 99, f 100, f 101, f 102, f 103, f 104, f 105, f 106, f 107, f 108, f 109, f 110], defers := [] } W' := hK
          change wpList _ #[_] _ [_] { tmps := #[f 0, f 1, f 2, f 3, f 4, f 5, f 6, f 7, f 8, f 9, f 10, f 11, f 12, f 13, f 14, f 15, f 16, f 17, f 18, f 19, f 20, f 21, f 22, f 23, f 24, f 25, f 26, f 27, f 28, f 29, f 30, f 31, f 32, f 33, f 34, f 35, f 36, f 37, f 38, f 39, f 40, f 41, f 42, f 43, f 44, f 45, f 46, f 47, f 48, f 49, f 50, f 51, f 52, f 53, f 54, f 55, f 56, f 57, f 58, f 59, f 60, f 61, f 62, f 63, f 64, f 65, f 66, f 67, f 68, f 69, f 70, f 71, f 72, f 73, f 74, f 75, f 76, f 77, f 78, f 79, f 80, f 81, f 82, f 83, f 84, f 85, f 86, f 87, f 88, f 89, f 90, f 91, f 92, f 93, f 94, f 95, f 96, f 97, f 98, f 99, f 100, f 101, f 102, f 103, f 104, f 105, f 106, f 107, f 108, f 109, f 110], defers := [] } W
          clear hK hd hold
          simp only [ze82] at HK ⊢
          clear ze82
          have HK := Aside.mk HK
          go_wp2
          exact HK.out _ _ (Chg.refl _) rfl
        · intro f W hW hold hd aAct hAct
          replace hAct := hAct.trans (rel_puts hold)
          have ze13 : f 13 = .string d := hd 13 rfl
          have ze14 : f 14 = .string pp := hd 14 rfl
          have ze15 : f 15 = .int .i64 cnt := hd 15 rfl
          have ze16 : f 16 = .bool true := hd 16 rfl
          have ze58 : f 58 = .tuple #[.string d, .string pp, .int .i64 cnt, .bool true] := hd 58 rfl
          have ze59 : f 59 = .pointer (some ⟨L.p, 0, none⟩) := hd 59 rfl
          have ze60 : f 60 = .pointer (some ⟨L.p, 0, none⟩) := hd 60 rfl
          have ze61 : f 61 = .pointer (some ⟨L.p, 1, none⟩) := hd 61 rfl
          have ze62 : f 62 = .pointer (some ⟨L.k, 0, none⟩) := hd 62 rfl
          have ze63 : f 63 = .string x := hd 63 rfl
          have ze64 : f 64 = .pointer (some ⟨L.p, 0, none⟩) := hd 64 rfl
          have ze65 : f 65 = .pointer (some ⟨L.p, 0, none⟩) := hd 65 rfl
          have ze66 : f 66 = .pointer (some ⟨L.p, 2, none⟩) := hd 66 rfl
          have ze67 : f 67 = .pointer (some ⟨L.p, 5, none⟩) := hd 67 rfl
          have ze68 : f 68 = .int .i64 (L.n : Int) := hd 68 rfl
          have ze69 : f 69 = .string dt := hd 69 rfl
          have ze70 : f 70 = .string x := hd 70 rfl
          have ze71 : f 71 = .pointer (some ⟨L.p, 0, none⟩) := hd 71 rfl
          have ze72 : f 72 = .pointer (some ⟨L.p, 0, none⟩) := hd 72 rfl
          have ze73 : f 73 = .pointer (some ⟨L.p, 2, none⟩) := hd 73 rfl
          have ze74 : f 74 = .pointer (some ⟨L.p, 5, none⟩) := hd 74 rfl
          have ze75 : f 75 = .int .i64 (L.n : Int) := hd 75 rfl
          have ze76 : f 76 = .int .i64 sz := hd 76 rfl
          have ze77 : f 77 = .string pt := hd 77 rfl
          have ze78 : f 78 = .tuple #[.string d, .string pp, .int .i64 cnt, .bool true] := hd 78 rfl
          have ze79 : f 79 = .string d := hd 79 rfl
          have ze80 : f 80 = .string pp := hd 80 rfl
          have ze81 : f 81 = .int .i64 cnt := hd 81 rfl
          have ze82 : f 82 = .bool true := hd 82 rfl
          simp only [List.take_succ_cons, List.take_zero, putAll, List.foldl_cons, List.foldl_nil, Option.getD_some] at hAct
          simp only [ze13, ze14, ze15, ze16, ze58, ze59, ze60, ze61, ze62, ze63, ze64, ze65, ze66, ze67, ze68, ze69, ze70, ze71, ze72, ze73, ze74, ze75, ze76, ze77, ze78, ze79, ze80, ze81, ze82] at hAct
          subst hAct
          simp only [List.drop_succ_cons, List.drop_nil, Act.put, List.setIfInBounds_toArray, List.set_cons_zero, List.set_cons_succ]
          clear hold hd ze13 ze14 ze15 ze16 ze58 ze59 ze60 ze61 ze62 ze63 ze64 ze65 ze66 ze67 ze68 ze69 ze70 ze71 ze72 ze73 ze74 ze75 ze76 ze77 ze78 ze79 ze80 ze81 ze82
          have hpW := H4.out.1.rdyC hW
          have hmW : Mv L.lo L.hi w W := H4.out.2.1.trans ⟨hW.os, hW.tape, hW.output, hW.size, fun q hq hx => hW.block q hq (fun e => hx (by rw [e]; exact H4.out.1.rk)), fun _ => trivial⟩
          have hrW := hW.blk H4.out.2.2.1 (fun e => HNE.out _ _ _ _ H4.out.1 _ H4.out.2.2.1 (by decide) e)
          have hBW : BldN W B0 := hW.blk H4.out.2.2.2.1 (fun e => HNE.out _ _ _ _ H4.out.1 _ H4.out.2.2.2.1 (by decide) e)
          have HW := Aside.mk (And.intro hpW (And.intro hmW (And.intro hrW hBW)))
          have ec : IntKind.i64.wrap (cnt : Int) = (cnt : Int) := by have := HOK.out.2.2.2.2.2; rw [IntKind.wrap_i64]; omega
          clear hpW hmW hrW hBW hW
          go_wp2_with (go_at_call 61; refine (bld_first B0 d _ HW.out.2.2.2 (by have := HOK.out.2.2.1; have := HZ.out; omega) (by have := HOK.out.2.2.1; have := HZ.out; omega)).mono ?_; rintro e w5 ⟨rfl, ⟨g, hg, hF⟩, hgr⟩; have hch : Chg (fun q => q = B0 ∨ q = g) (fun _ => True) W w5 := ⟨hgr.os, hgr.tape, hgr.output, hgr.size, fun q hq hne => hgr.block q hq (fun e => hne (.inl (by injection e))), fun _ => trivial⟩; have cz2 := (HSL.out w5).2.2; have H5 := Aside.mk (And.intro hg (And.intro hch hF)); clear hg hch hF hgr)
          go_roundw
          case rel => exact .inr ⟨rfl, rfl, W, g, ⟨HW.out.1, HW.out.2.1, HW.out.2.2.1, HW.out.2.2.2, H5.out.1, H5.out.2.1, H5.out.2.2⟩⟩
          case measure =>
            show (⟨#[]⟩ : ByteArray).size < x.size
            rw [HXS.out]
            have := HZ.out
            show 0 < sz
            omega
      · have hbe := HBE.out.2
        have HCH : Aside (∀ V, Chg (fun q => q = B0 ∨ q = g) (fun _ => True) W4 V → PgrAt V L S2 ∧ Mv L.lo L.hi w V ∧ V.heap[R0]? = some (.cells #[.int .i64 0, .string ⟨#[]⟩, .int .i64 0] 70 (0, 0))) := ⟨fun V hch => by
          have hrl := (Array.getElem?_eq_some_iff.1 HI.out.2.2.1).1
          refine ⟨HI.out.1.keptT hch (fun q cs ty fr h1 h2 => ?_), ⟨hch.os.trans HI.out.2.1.os, hch.tape.trans HI.out.2.1.tape, hch.output.trans HI.out.2.1.output, Nat.le_trans HI.out.2.1.size hch.size, fun q hq hx => (hch.block q (Nat.lt_of_lt_of_le hq HI.out.2.1.size) (fun e => by have h1 := HB0.out; have h2 := HI.out.2.2.2.2.1; have h3 := HI.out.2.1.size; rcases e with e | e <;> omega)).trans (HI.out.2.1.block q hq hx), fun _ => trivial⟩, hch.blk HI.out.2.2.1 fun e => ?_⟩
          · rcases h2 with rfl | rfl
            · rw [HI.out.2.2.2.1] at h1
              simp only [Option.some.injEq, Obj.cells.injEq] at h1
              exact .inl h1.2.1.symm
            · have h3 := (Array.getElem?_eq_some_iff.1 h1).1
              have h4 := HI.out.2.2.2.2.1
              omega
          · rcases e with e | e
            · have h1 := HI.out.2.2.1
              rw [e, HI.out.2.2.2.1] at h1
              simp only [Option.some.injEq, Obj.cells.injEq] at h1
              exact absurd h1.2.1 (by decide)
            · have h4 := HI.out.2.2.2.2.1
              omega⟩
        have HST : Aside (Calls Tryz.prog 63 #[.pointer (some ⟨B0, 0, none⟩)] wr fun e w' => e = .returned (.string d) ∧ Chg (fun q => q = B0 ∨ q = g) (fun _ => True) W4 w') := ⟨by
          refine (bld_text B0 g _ wr HI.out.2.2.2.2.2.2 (fun e => ?_)).mono ?_
          · have h1 : d.data.toList.length = d.size := by simp
            rw [e] at h1
            have h2 := HOK.out.2.2.1
            have h3 := HZ.out
            simp at h1
            omega
          · rintro e w' ⟨rfl, hc⟩
            exact ⟨rfl, HI.out.2.2.2.2.2.1.trans ⟨hc.os, hc.tape, hc.output, hc.size, fun q hq hne => hc.block q hq (fun e => hne (.inr e)), fun _ => trivial⟩⟩⟩
        have HOP : Aside (∀ V, Nib V → Calls Tryz.prog 67 #[.string d] V fun e w' => e = .returned (.tuple #[.string (openText d), .bool ok]) ∧ Below V.heap.size V w') := ⟨fun V hV => by
          have := crc_open d V (by have h1 := HOK.out.2.2.1; have h2 := HZ.out; omega) hV
          rwa [HOK.out.1] at this⟩
        have HCP : Aside (∀ V, Calls Tryz.prog 68 #[.string (openText d), .string ⟨#[0, 0, 0]⟩] V fun e w' => e = .returned (.tuple #[.string (sayP d), .bool is]) ∧ V = w') := ⟨fun V => by
          refine (Tryz.strings_CutPrefix (openText d) ⟨#[0, 0, 0]⟩ V).mono ?_
          rintro e w' ⟨rfl, rfl⟩
          refine ⟨?_, rfl⟩
          rw [← HOK.out.2.1]
          rfl⟩
        go_upto_region 17 with (first | (go_at_call 63; refine HST.out.mono ?_; rintro e w6 ⟨rfl, hc6⟩; have H6 := Aside.mk (HCH.out w6 hc6); clear hc6) | (go_at_call 67; refine (HOP.out w6 (HOK.out.2.2.2.1.mv H6.out.2.1 HOK.out.2.2.2.2.1)).mono ?_; rintro e w7 ⟨rfl, hb7⟩; have H7 := Aside.mk (And.intro (H6.out.1.below hb7) (And.intro (H6.out.2.1.trans (Mv.below hb7)) (below_blk H6.out.2.2 hb7))); clear hb7))
        clear hbe
        go_upto_region 18 with (go_at_call 68; refine (HCP.out _).mono ?_; rintro e w8 ⟨rfl, rfl⟩)
        have hr7 := H7.out.2.2
        have d0 := cell_of_row w7 R0 0 _ _ _ hr7
        have d1 := cell_of_row w7 R0 1 _ _ _ hr7
        have d2 := cell_of_row w7 R0 2 _ _ _ hr7
        have f0 : ∀ j, w7.frozen? ⟨R0, j, none⟩ = false := fun j => by simp only [World.frozen?, hr7]; simp
        have f00 := f0 0
        have f01 := f0 1
        have f02 := f0 2
        have HFE : Aside (∀ v0 v1 v2, PgrAt (((w7.setCell ⟨R0, 0, none⟩ v0).setCell ⟨R0, 1, none⟩ v1).setCell ⟨R0, 2, none⟩ v2) L S2 ∧ Mv L.lo L.hi w (((w7.setCell ⟨R0, 0, none⟩ v0).setCell ⟨R0, 1, none⟩ v1).setCell ⟨R0, 2, none⟩ v2) ∧
          (((w7.setCell ⟨R0, 0, none⟩ v0).setCell ⟨R0, 1, none⟩ v1).setCell ⟨R0, 2, none⟩ v2).cell? ⟨R0, 0, none⟩ = some v0 ∧ (((w7.setCell ⟨R0, 0, none⟩ v0).setCell ⟨R0, 1, none⟩ v1).setCell ⟨R0, 2, none⟩ v2).cell? ⟨R0, 1, none⟩ = some v1 ∧ (((w7.setCell ⟨R0, 0, none⟩ v0).setCell ⟨R0, 1, none⟩ v1).setCell ⟨R0, 2, none⟩ v2).cell? ⟨R0, 2, none⟩ = some v2) := ⟨fun v0 v1 v2 => found_end H7.out.1 H7.out.2.1 (by rw [HRR.out]; exact Nat.le_refl _) hr7 v0 v1 v2⟩
        clear hr7 f0
        simp only [List.getElem?_cons_zero, List.getElem?_cons_succ, List.getElem?_toArray] at d0 d1 d2
        cases ok <;> cases is
        case' true.true =>
          go_wp2
          obtain ⟨hp, hm, z0, z1, z2⟩ := HFE.out (.int .i64 1) (.string (sayP d)) (.int .i64 (cnt : Int))
          clear HFE
          generalize ((w7.setCell ⟨R0, 0, none⟩ (.int .i64 1)).setCell ⟨R0, 1, none⟩ (.string (sayP d))).setCell ⟨R0, 2, none⟩ (.int .i64 (cnt : Int)) = Wf at *
          exact bodyPost_ret (v := .tuple #[.agg #[.int .i64 1, .string (sayP d), .int .i64 (cnt : Int)], .int .i64 0]) (by simp [results, Tryz.results26, go_sem, z0, z1, z2]) rfl ⟨rfl, hp, hm⟩
        all_goals
          go_wp2
          obtain ⟨hp, hm, z0, z1, z2⟩ := HFE.out (.int .i64 2) (.string ⟨#[]⟩) (.int .i64 0)
          clear HFE
          generalize ((w7.setCell ⟨R0, 0, none⟩ (.int .i64 2)).setCell ⟨R0, 1, none⟩ (.string ⟨#[]⟩)).setCell ⟨R0, 2, none⟩ (.int .i64 0) = Wf at *
          exact bodyPost_ret (v := .tuple #[.agg #[.int .i64 2, .string ⟨#[]⟩, .int .i64 0], .int .i64 0]) (by simp [results, Tryz.results26, go_sem, z0, z1, z2]) rfl ⟨rfl, hp, hm⟩
end Go.Proofs.YtkgacnenmflegaaGreatDoor
