/-
  The tables are made once.
-/
import Derived.Test.YtkdfbganhohbfaaDoorGfTab
import Derived.Test.YtkdfbganhohbfaaDoorBits64
namespace Go.Proofs.YtkdfbganhohbfaaDoor
open Go.RowKit

theorem makeTab (m : Nat) (h : m ≤ 1000000) (W : World) :
    (Instr.makeSlice 45 (.int .i64 (m : Int)) (.int .i64 (m : Int))).run Tryd.prog W = .ok (.slice (some ⟨W.heap.size, 0, none⟩) m m) (W.alloc (.cells (madeCells #[.int .i64 0] m) 3)) :=
  run_make_row' 45 3 (.int .i64 0) 8 Tryd.underlying45 infoInt rfl .i64 .i64 m (by omega) (by omega) W

theorem size_setCell' (w : World) (a : Addr) (v : Value) : (w.setCell a v).heap.size = w.heap.size := by simp [World.setCell]
/-- A new row of noughts, and its slice in the field's block. -/
theorem fill_lay (w : World) (f i n : Nat) (v : Value) (hn : n ≤ 1000000) :
    Row ((w.setCell ⟨f, i, none⟩ v).alloc (.cells (madeCells #[.int .i64 0] n) 3)) 0 3 1 (.slice (some ⟨w.heap.size, 0, none⟩) n n) n (List.replicate n (.int .i64 0)) ∧
    w.grownBy ((w.setCell ⟨f, i, none⟩ v).alloc (.cells (madeCells #[.int .i64 0] n) 3)) (some f) := by
  have h := Row.zeros (w.setCell ⟨f, i, none⟩ v) 0 3 (.int .i64 0) n (Nat.zero_le _) (by simp only [maxLen]; omega)
  rw [size_setCell'] at h
  exact ⟨h, World.grownBy.trans (grownBy_setCell w f i v) (World.grownBy_alloc _ _ _)⟩
theorem grownBy_drew {w w' : World} {row : Option Nat} (h : w.grownBy w' row) : w.grownBy w'.drew row := ⟨h.os, h.tape, h.output, h.size, h.block⟩

set_option maxRecDepth 100000 in
set_option maxHeartbeats 1600000 in
theorem tables_fill [Host] (f bx : Nat) (d s m p : Value) (w : World) (hF : FB w f d s m (.slice none 0 0) (.slice none 0 0) p) (hbx : w.cell? ⟨bx, 0, none⟩ = some (.pointer (some ⟨f, 5, none⟩))) (hne : bx ≠ f) (hlt : bx < w.heap.size) :
    Calls Tryd.prog 55 #[.pointer (some ⟨bx, 0, none⟩)] w fun e w' => e = .returned (.tuple #[]) ∧ ∃ ge gl, TInv w f bx d s m p ge gl 8191 8191 w' := by
  go_enter Tryd.func55, Tryd.ntmps55
  have hf := hF.lt
  have c3 : w.cell? ⟨f, 8, none⟩ = some (.slice none 0 0) := hF.cell (i := 8) rfl
  have z3 := hF.free 8
  have hmk : ∀ W : World, (Instr.makeSlice 45 (.int .i64 16382) (.int .i64 16382)).run Tryd.prog W = .ok (.slice (some ⟨W.heap.size, 0, none⟩) 16382 16382) (W.alloc (.cells (madeCells #[.int .i64 0] 16382) 3)) := makeTab 16382 (by omega)
  have hmk2 : ∀ W : World, (Instr.makeSlice 45 (.int .i64 8192) (.int .i64 8192)).run Tryd.prog W = .ok (.slice (some ⟨W.heap.size, 0, none⟩) 8192 8192) (W.alloc (.cells (madeCells #[.int .i64 0] 8192) 3)) := makeTab 8192 (by omega)
  obtain ⟨cE, hcE⟩ : ∃ c, c = madeCells #[Value.int .i64 0] 16382 := ⟨_, rfl⟩
  obtain ⟨cL, hcL⟩ : ∃ c, c = madeCells #[Value.int .i64 0] 8192 := ⟨_, rfl⟩
  rw [← hcE] at hmk
  rw [← hcL] at hmk2
  have HE := Aside.mk (And.intro hcE hcL)
  clear hcE hcL
  go_upto_region 0 with fail
  go_cut [1] (fun _ wx => ∃ ge, w.heap.size ≤ ge ∧ ge < wx.heap.size ∧ FB wx f d s m (.slice (some ⟨ge, 0, none⟩) 16382 16382) (.slice none 0 0) p ∧ ExpR wx ge 0 ∧ w.grownBy wx (some f))
  case first =>
    go_region
    all_goals
      go_wp2
      go_meet
      have h1 := fill_lay w f 8 16382 (.slice (some ⟨w.heap.size, 0, none⟩) 16382 16382) (by omega)
      rw [← HE.out.1, ← expV_zero] at h1
      refine ⟨w.heap.size, Nat.le_refl _, by simp, ((hF.set3 _).kept (World.grownBy_alloc _ _ none) (by simp)).drew, h1.1.drew, grownBy_drew h1.2⟩
  case rest =>
    obtain ⟨ge, hge, hgl, hFB, hE, hgr⟩ := hcut
    have hb2 : wc.cell? ⟨bx, 0, none⟩ = some (.pointer (some ⟨f, 5, none⟩)) := hgr.cell hbx (by simp; omega)
    have hf2 := hFB.lt
    have hlt2 : bx < wc.heap.size := by have := hgr.size; omega
    have c4 : wc.cell? ⟨f, 9, none⟩ = some (.slice none 0 0) := hFB.cell (i := 9) rfl
    have z4 := hFB.free 9
    have HK := Aside.mk (And.intro hFB (And.intro hE (And.intro hgr (And.intro hge hgl))))
    clear c3 z3 hFB hE hgr hge hgl hmk
    go_upto_region 1 with fail
    go_cut [1] (fun _ wx => ∃ gl, TInv w f bx d s m p ge gl 0 0 wx)
    case first =>
      go_region
      all_goals
        go_wp2
        go_meet
        obtain ⟨hFB, hE, hgr, hge, hgl⟩ := HK.out
        have h1 := fill_lay wc f 9 8192 (.slice (some ⟨wc.heap.size, 0, none⟩) 8192 8192) (by omega)
        rw [← HE.out.2, ← logV_zero] at h1
        have hw := hgr.size
        refine ⟨wc.heap.size, ((hFB.set4 _).kept (World.grownBy_alloc _ _ none) (by simp)).drew, (hE.kept h1.2 (.inr (by simp only [Value.ownBlock, ne_eq, Option.some.injEq]; omega))).drew, h1.1.drew, ?_, grownBy_drew (World.grownBy.trans hgr h1.2), hge, by omega, by omega, hf, hlt, hne⟩
        exact h1.2.cell hb2 (by simp; omega)
    case rest =>
      obtain ⟨gl, hI⟩ := hcut
      clear HK hb2 c4 z4 hf2 HE hmk2 hlt2
      go_wp2
      go_loopw [1, 11] (fun s1 s11 wr => ∃ k : Nat, k ≤ 8191 ∧ s11 = .int .i64 k ∧ s1 = .int .i64 (Gf.pw k : Nat) ∧ TInv w f bx d s m p ge gl k k wr) (fun _ s11 _ => 8191 - (intOf s11).toNat)
      case atStart => exact ⟨0, by omega, rfl, rfl, hI⟩
      case round =>
        obtain ⟨k, hk, rfl, rfl, hJ⟩ := hrel
        have hk1 : IntKind.i64.wrap ((k : Int) + 1) = (k : Int) + 1 := by rw [IntKind.wrap_i64]; omega
        have hlp := Gf.pw_lt k
        by_cases hlt2 : k < 8191
        · have o := hJ.old
          obtain ⟨k2, hk2e⟩ : ∃ k2, k2 = k + 8191 := ⟨_, rfl⟩
          have hk2 : IntKind.i64.wrap ((k : Int) + 8191) = (k2 : Int) := by rw [IntKind.wrap_i64]; omega
          have hk3 : (k : Int) < 16382 := by omega
          have hk4 : (k2 : Int) < 16382 := by omega
          have b0 := hJ.box
          have c3 : wr.cell? ⟨f, 8, none⟩ = some (.slice (some ⟨ge, 0, none⟩) 16382 16382) := hJ.fb.cell (i := 8) rfl
          obtain ⟨x1, z1⟩ := hJ.ex.at_ rfl k (by omega)
          obtain ⟨x2, z2⟩ := hJ.ex.at_ rfl k2 (by omega)
          rw [Nat.zero_add] at x1 z1 x2 z2
          have hS := hJ.step1 hlt2
          rw [← hk2e] at hS
          have HS := Aside.mk (And.intro hJ (And.intro hk2e hS))
          obtain ⟨q, hq⟩ : ∃ q, q = Gf.pw k := ⟨_, rfl⟩
          rw [← hq] at HS hlp ⊢
          have HQ := Aside.mk hq
          have hne1 : k ≠ k2 := by omega
          have hk5 : (0 : Int) ≤ (k : Int) := by omega
          have hk6 : (0 : Int) ≤ (k2 : Int) := by omega
          generalize (expV k).getD k undef = y1 at *
          generalize (expV k).getD k2 undef = y2 at *
          clear hJ hS hq o hk2e
          go_upto_region 6 with fail
          go_region
          all_goals
            have hT := HS.out.2.2.drew
            clear HS x1 x2 z1 z2 c3 b0 hk2 hk3 hk4
            generalize ((wr.setCell ⟨ge, k, none⟩ (.int .i64 (q : Int))).setCell ⟨ge, k2, none⟩ (.int .i64 (q : Int))).drew = w5 at *
            have b0 := hT.box
            have c4 : w5.cell? ⟨f, 9, none⟩ = some (.slice (some ⟨gl, 0, none⟩) 8192 8192) := hT.fb.cell (i := 9) rfl
            obtain ⟨x1, z1⟩ := hT.lg.at_ rfl q (by omega)
            rw [Nat.zero_add] at x1 z1
            generalize (logV k).getD q undef = y3 at *
            have hS := hT.step2 hlt2
            rw [← HQ.out] at hS
            have HS := Aside.mk hS
            have hq1 : (0 : Int) ≤ (q : Int) := by omega
            have hq2 : (q : Int) < 8192 := by omega
            clear hT hS
            go_upto_region 8 with fail
            clear b0 c4 x1 z1
            generalize w5.setCell ⟨gl, q, none⟩ (.int .i64 (k : Int)) = w6 at *
            go_upto_region 9 with fail
            have hpq : Gf.pw (k + 1) = Gf.stp q := by rw [HQ.out]; rfl
            have HP := Aside.mk hpq
            clear hpq
            by_cases h8 : 8192 ≤ 2 * q
            · have hx : bits .xor .i64 ((q : Int) * 2) 8219 = ((Gf.stp q : Nat) : Int) := by
                have h := i64_xor_nat (a := 2 * q) (b := 8219) (by omega) (by omega)
                have e : Gf.stp q = 2 * q ^^^ 8219 := by unfold Gf.stp; rw [if_pos h8]
                rw [show (q : Int) * 2 = ((2 * q : Nat) : Int) by omega, e]
                exact h
              have h9 : (8192 : Int) ≤ (q : Int) * 2 := by omega
              clear h8
              go_wp2
              go_roundw
              case rel => exact ⟨k + 1, by omega, by go_num, by rw [HP.out], HS.out⟩
              case measure => simp [intOf]; omega
            · have h9 : ¬ (8192 : Int) ≤ (q : Int) * 2 := by omega
              have hst : Gf.stp q = 2 * q := by unfold Gf.stp; rw [if_neg h8]
              have HT := Aside.mk hst
              clear h8 hst
              go_wp2
              go_roundw
              case rel => exact ⟨k + 1, by omega, by go_num, by rw [HP.out, HT.out]; go_num, HS.out⟩
              case measure => simp [intOf]; omega
        · obtain rfl : k = 8191 := by omega
          have HJ := Aside.mk hJ
          clear hJ
          go_wp2
          go_end0
          exact ⟨rfl, ge, gl, HJ.out⟩
end Go.Proofs.YtkdfbganhohbfaaDoor
