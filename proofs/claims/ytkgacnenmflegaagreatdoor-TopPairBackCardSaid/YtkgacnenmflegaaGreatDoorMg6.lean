/-
  The field's tables, and what fills them.
  Bit operations on whole numbers of 64 bits, as natural numbers.
  The tables are made once.
  A field in memory, fresh or with its tables; the tables are made once.
  What the field's methods answer.
  A world some draws later.
  Powers and values of polynomials, by the field.
  The field's methods once the tables are made: the tables stay where they are.
-/
import Derived.Test.YtkgacnenmflegaaGreatDoorMg2
import Derived.Test.YtkgacnenmflegaaGreatDoorMg5
import Derived.Laws.BitsAll
import Derived.Laws.Bits128
import GoSem.ClaimData
import Derived.Laws.NewBlocks
import Derived.Deep.QuietTactic
import Derived.BigQuiet
import Derived.Test.YtkgacnenmflegaaGreatDoorMg1
namespace Go.Proofs.YtkgacnenmflegaaGreatDoor
open Go.RowKit

/-! ### Plain lists -/
theorem set_map_lt {f g : Nat → Value} {m j0 : Nat} {y : Value} (h0 : g j0 = y) (h : ∀ j, j < m → j ≠ j0 → g j = f j) : ((List.range m).map f).set j0 y = (List.range m).map g := by
  apply List.ext_getElem
  · simp
  · intro i h1 h2
    have him : i < m := by simpa using h2
    simp only [List.getElem_set, List.getElem_map, List.getElem_range]
    by_cases e : j0 = i
    · subst e; rw [if_pos rfl, h0]
    · rw [if_neg e, h i him (Ne.symm e)]
def expAt (k i : Nat) : Value := .int .i64 (if i < k ∨ (8191 ≤ i ∧ i < 8191 + k) then (Gf.pw i : Int) else 0)
noncomputable def logAt (k x : Nat) : Value := .int .i64 (if 0 < x ∧ Gf.log x < k then (Gf.log x : Int) else 0)
def expV (k : Nat) : List Value := (List.range 16382).map (expAt k)
noncomputable def logV (k : Nat) : List Value := (List.range 8192).map (logAt k)
theorem expV_length (k : Nat) : (expV k).length = 16382 := by simp [expV]
theorem logV_length (k : Nat) : (logV k).length = 8192 := by simp [logV]
theorem expV_zero : expV 0 = List.replicate 16382 (.int .i64 0) := by
  apply List.ext_getElem
  · rw [List.length_replicate, expV_length]
  · intro i h1 h2
    simp only [expV, expAt, List.getElem_map, List.getElem_range, List.getElem_replicate]
    rw [if_neg (by omega)]
theorem logV_zero : logV 0 = List.replicate 8192 (.int .i64 0) := by
  apply List.ext_getElem
  · rw [List.length_replicate, logV_length]
  · intro i h1 h2
    simp only [logV, logAt, List.getElem_map, List.getElem_range, List.getElem_replicate]
    rw [if_neg (by omega)]
theorem expV_step {k : Nat} (hk : k < 8191) : ((expV k).set k (.int .i64 (Gf.pw k : Int))).set (k + 8191) (.int .i64 (Gf.pw k : Int)) = expV (k + 1) := by
  have h1 : (expV k).set k (.int .i64 (Gf.pw k : Int)) = (List.range 16382).map (fun j => if j = k then .int .i64 (Gf.pw k : Int) else expAt k j) := by
    refine set_map_lt (by simp) (fun j _ hj => by rw [if_neg hj])
  rw [h1]
  refine set_map_lt ?_ (fun j hj hne => ?_)
  · unfold expAt
    rw [if_pos (by omega), Gf.pw_add_order]
  · by_cases e : j = k
    · subst e
      rw [if_pos rfl]
      unfold expAt
      rw [if_pos (by omega)]
    · rw [if_neg e]
      unfold expAt
      by_cases h : j < k ∨ (8191 ≤ j ∧ j < 8191 + k)
      · rw [if_pos h, if_pos (by omega)]
      · rw [if_neg h, if_neg (by omega)]
theorem logV_step {k : Nat} (hk : k < 8191) : (logV k).set (Gf.pw k) (.int .i64 (k : Int)) = logV (k + 1) := by
  have hp := Gf.pw_pos k
  refine set_map_lt ?_ (fun j hj hne => ?_)
  · unfold logAt
    rw [Gf.log_pw hk, if_pos (by omega)]
  · unfold logAt
    by_cases h0 : 0 < j
    · have hl : Gf.log j ≠ k := fun e => hne (by rw [← e, (Gf.log_spec h0 hj).2])
      by_cases h : 0 < j ∧ Gf.log j < k
      · rw [if_pos h, if_pos (by omega)]
      · rw [if_neg h, if_neg (by omega)]
    · rw [if_neg (by omega), if_neg (by omega)]
theorem expV_get {k i : Nat} (h : i < 16382) : (expV k)[i]? = some (expAt k i) := by simp [expV, h]
theorem logV_get {k i : Nat} (h : i < 8192) : (logV k)[i]? = some (logAt k i) := by simp [logV, h]

/-! ### A field in memory: one block of six cells -/
/-- What stands around the field in its block. -/
class Host where
  x0 : Value
  x1 : Value
  x2 : Value
  x3 : Value
  x4 : Value
  x11 : Value
  x12 : Value
def FB [Host] (w : World) (f : Nat) (d s m ev lv p : Value) : Prop := w.heap[f]? = some (.cells #[Host.x0, Host.x1, Host.x2, Host.x3, Host.x4, d, s, m, ev, lv, p, Host.x11, Host.x12] 231)
section
variable {w w' : World} {f : Nat} {d s m ev lv p : Value}
theorem FB.lt [Host] (h : FB w f d s m ev lv p) : f < w.heap.size := (Array.getElem?_eq_some_iff.1 h).1
theorem FB.cell [Host] (h : FB w f d s m ev lv p) {i : Nat} {v : Value} (hv : (#[Host.x0, Host.x1, Host.x2, Host.x3, Host.x4, d, s, m, ev, lv, p, Host.x11, Host.x12] : Array Value)[i]? = some v) : w.cell? ⟨f, i, none⟩ = some v := (cell_of_row w f i _ _ _ h).trans hv
theorem FB.free [Host] (h : FB w f d s m ev lv p) (i : Nat) : w.frozen? ⟨f, i, none⟩ = false := by
  unfold FB at h
  simp only [World.frozen?, h]
  simp
theorem FB.set [Host] (h : FB w f d s m ev lv p) (i : Nat) (v : Value) : (w.setCell ⟨f, i, none⟩ v).heap[f]? = some (.cells ((#[Host.x0, Host.x1, Host.x2, Host.x3, Host.x4, d, s, m, ev, lv, p, Host.x11, Host.x12] : Array Value).setIfInBounds i v) 231) := by
  unfold FB at h
  simp [World.setCell, Array.getElem?_modify, h]
theorem FB.set0 [Host] (h : FB w f d s m ev lv p) (v : Value) : FB (w.setCell ⟨f, 5, none⟩ v) f v s m ev lv p := h.set 5 v
theorem FB.set1 [Host] (h : FB w f d s m ev lv p) (v : Value) : FB (w.setCell ⟨f, 6, none⟩ v) f d v m ev lv p := h.set 6 v
theorem FB.set3 [Host] (h : FB w f d s m ev lv p) (v : Value) : FB (w.setCell ⟨f, 8, none⟩ v) f d s m v lv p := h.set 8 v
theorem FB.set4 [Host] (h : FB w f d s m ev lv p) (v : Value) : FB (w.setCell ⟨f, 9, none⟩ v) f d s m ev v p := h.set 9 v
theorem FB.set5 [Host] (h : FB w f d s m ev lv p) (v : Value) : FB (w.setCell ⟨f, 10, none⟩ v) f d s m ev lv v := h.set 10 v
theorem FB.kept [Host] (h : FB w f d s m ev lv p) {row : Option Nat} (hg : w.grownBy w' row) (hne : some f ≠ row) : FB w' f d s m ev lv p := (hg.block f h.lt hne).trans h
theorem FB.drew [Host] (h : FB w f d s m ev lv p) : FB w.drew f d s m ev lv p := h
theorem grownBy_setCell (w : World) (f i : Nat) (v : Value) : w.grownBy (w.setCell ⟨f, i, none⟩ v) (some f) :=
  ⟨rfl, rfl, rfl, by simp [World.setCell], fun k _ hne => Below.heap_setCell _ _ _ _ (fun e => hne (by rw [e]))⟩
end

abbrev ExpR (w : World) (g k : Nat) : Prop := Row w 0 3 1 (.slice (some ⟨g, 0, none⟩) 16382 16382) 16382 (expV k)
abbrev LogR (w : World) (g k : Nat) : Prop := Row w 0 3 1 (.slice (some ⟨g, 0, none⟩) 8192 8192) 8192 (logV k)
/-- The tables as far as k and j powers; all but the field's own block is as it was. -/
structure TInv [Host] (w0 : World) (f bx : Nat) (d s m p : Value) (ge gl k j : Nat) (w : World) : Prop where
  fb : FB w f d s m (.slice (some ⟨ge, 0, none⟩) 16382 16382) (.slice (some ⟨gl, 0, none⟩) 8192 8192) p
  ex : ExpR w ge k
  lg : LogR w gl j
  box : w.cell? ⟨bx, 0, none⟩ = some (.pointer (some ⟨f, 5, none⟩))
  gr : w0.grownBy w (some f)
  old : w0.heap.size ≤ ge ∧ w0.heap.size ≤ gl ∧ ge ≠ gl ∧ f < w0.heap.size ∧ bx < w0.heap.size ∧ bx ≠ f
theorem TInv.drew [Host] {w0 : World} {f bx : Nat} {d s m p : Value} {ge gl k j : Nat} {w : World} (h : TInv w0 f bx d s m p ge gl k j w) : TInv w0 f bx d s m p ge gl k j w.drew :=
  ⟨h.fb, h.ex.drew, h.lg.drew, h.box, ⟨h.gr.os, h.gr.tape, h.gr.output, h.gr.size, h.gr.block⟩, h.old⟩
theorem cell_setCell_far (w : World) {a b : Nat} (i j : Nat) (v : Value) (h : a ≠ b) : (w.setCell ⟨a, i, none⟩ v).cell? ⟨b, j, none⟩ = w.cell? ⟨b, j, none⟩ := by
  apply World.cell?_setCell_other
  intro e
  injection e with e
  exact h e
/-- One power more. -/
theorem TInv.step1 [Host] {w0 : World} {f bx : Nat} {d s m p : Value} {ge gl k : Nat} {w : World} (h : TInv w0 f bx d s m p ge gl k k w) (hk : k < 8191) :
    TInv w0 f bx d s m p ge gl (k + 1) k ((w.setCell ⟨ge, k, none⟩ (.int .i64 (Gf.pw k : Int))).setCell ⟨ge, k + 8191, none⟩ (.int .i64 (Gf.pw k : Int))) := by
  have o := h.old
  have g1 := grownBy_setCell w ge k (.int .i64 (Gf.pw k : Int))
  have g2 := grownBy_setCell (w.setCell ⟨ge, k, none⟩ (.int .i64 (Gf.pw k : Int))) ge (k + 8191) (.int .i64 (Gf.pw k : Int))
  have e1 := (h.ex.store rfl k (by omega) (.int .i64 (Gf.pw k : Int))).1
  rw [Nat.zero_add] at e1
  have e2 := (e1.store rfl (k + 8191) (by omega) (.int .i64 (Gf.pw k : Int))).1
  rw [Nat.zero_add, expV_step hk] at e2
  refine ⟨(h.fb.kept g1 (by simp; omega)).kept g2 (by simp; omega), e2, h.lg.kept (World.grownBy.trans g1 g2) (.inr (by simp only [Value.ownBlock, ne_eq, Option.some.injEq]; omega)), ?_, ?_, o⟩
  · rw [cell_setCell_far _ _ _ _ (by omega), cell_setCell_far _ _ _ _ (by omega)]
    exact h.box
  · refine World.grownBy.andThen (World.grownBy.andThen h.gr g1 ?_) g2 ?_
    all_goals (intro j hj; injection hj with hj; left; omega)
theorem TInv.step2 [Host] {w0 : World} {f bx : Nat} {d s m p : Value} {ge gl k : Nat} {w : World} (h : TInv w0 f bx d s m p ge gl (k + 1) k w) (hk : k < 8191) :
    TInv w0 f bx d s m p ge gl (k + 1) (k + 1) (w.setCell ⟨gl, Gf.pw k, none⟩ (.int .i64 (k : Int))) := by
  have o := h.old
  have hp := Gf.pw_lt k
  have g3 := grownBy_setCell w gl (Gf.pw k) (.int .i64 (k : Int))
  have e4 := (h.lg.store rfl (Gf.pw k) (by omega) (.int .i64 (k : Int))).1
  rw [Nat.zero_add, logV_step hk] at e4
  refine ⟨h.fb.kept g3 (by simp; omega), h.ex.kept g3 (.inr (by simp only [Value.ownBlock, ne_eq, Option.some.injEq]; omega)), e4, ?_, ?_, o⟩
  · rw [cell_setCell_far _ _ _ _ (by omega)]
    exact h.box
  · refine World.grownBy.andThen h.gr g3 ?_
    intro j hj; injection hj with hj; left; omega
end Go.Proofs.YtkgacnenmflegaaGreatDoor
namespace Go.Proofs.YtkgacnenmflegaaGreatDoor

theorem i64_toNat {a : Nat} (ha : a < 9223372036854775808) : (BitVec.ofInt 64 (a : Int)).toNat = a := ofInt_u64 a (by omega)
theorem i64_xor_nat {a b : Nat} (ha : a < 9223372036854775808) (hb : b < 9223372036854775808) : bits .xor .i64 (a : Int) (b : Int) = ((a ^^^ b : Nat) : Int) := by
  have hx : a ^^^ b < 2 ^ 63 := Nat.xor_lt_two_pow (by omega) (by omega)
  show IntKind.i64.wrap ((BitVec.ofInt 64 (a : Int) ^^^ BitVec.ofInt 64 (b : Int)).toNat : Int) = _
  rw [BitVec.toNat_xor, i64_toNat ha, i64_toNat hb, IntKind.wrap_i64]
  omega
theorem i64_and_nat {a b : Nat} (ha : a < 9223372036854775808) (hb : b < 9223372036854775808) : bits .and .i64 (a : Int) (b : Int) = ((a &&& b : Nat) : Int) := by
  have hx : a &&& b < 2 ^ 63 := Nat.and_lt_two_pow _ (by omega)
  show IntKind.i64.wrap ((BitVec.ofInt 64 (a : Int) &&& BitVec.ofInt 64 (b : Int)).toNat : Int) = _
  rw [BitVec.toNat_and, i64_toNat ha, i64_toNat hb, IntKind.wrap_i64]
  omega
theorem i64_and8191 (n : Int) : bits .and .i64 n 8191 = n % 8192 := by
  have h127 : (BitVec.ofInt 64 8191).toNat = 2 ^ 13 - 1 := by decide
  have key : (BitVec.ofInt 64 n &&& BitVec.ofInt 64 8191).toNat = (n % ((2 ^ 64 : Nat) : Int)).toNat % 2 ^ 13 := by
    rw [BitVec.toNat_and, BitVec.toNat_ofInt, h127, Nat.and_two_pow_sub_one_eq_mod]
  show IntKind.i64.wrap ((BitVec.ofInt 64 n &&& BitVec.ofInt 64 8191).toNat : Nat) = n % 8192
  rw [key, IntKind.wrap_i64]
  omega
theorem xor_mod (x y n : Nat) : (x ^^^ y) % 2 ^ n = x % 2 ^ n ^^^ y % 2 ^ n := by
  apply Nat.eq_of_testBit_eq
  intro i
  simp only [Nat.testBit_mod_two_pow, Nat.testBit_xor]
  by_cases h : i < n <;> simp [h]
/-- The lowest thirteen bits. -/
def lowN (a : Int) : Nat := (a % 8192).toNat
theorem lowN_lt (a : Int) : lowN a < 8192 := by unfold lowN; omega
theorem lowN_cast (a : Int) : (lowN a : Int) = a % 8192 := by unfold lowN; omega
theorem lowN_nat (a : Nat) : lowN (a : Int) = a % 8192 := by unfold lowN; omega
theorem lowN_of_lt {a : Nat} (h : a < 8192) : lowN (a : Int) = a := by unfold lowN; omega
theorem lowN_xor (a b : Int) : lowN (bits .xor .i64 a b) = lowN a ^^^ lowN b := by
  have e : ∀ z : Int, lowN z = (BitVec.ofInt 64 z).toNat % 2 ^ 13 := fun z => by
    rw [BitVec.toNat_ofInt]
    unfold lowN
    omega
  have e2 : bits .xor .i64 a b = IntKind.i64.wrap ((BitVec.ofInt 64 a ^^^ BitVec.ofInt 64 b).toNat : Int) := rfl
  have e3 : lowN (IntKind.i64.wrap ((BitVec.ofInt 64 a ^^^ BitVec.ofInt 64 b).toNat : Int)) = (BitVec.ofInt 64 a ^^^ BitVec.ofInt 64 b).toNat % 2 ^ 13 := by
    generalize (BitVec.ofInt 64 a ^^^ BitVec.ofInt 64 b).toNat = x
    rw [IntKind.wrap_i64]
    unfold lowN
    omega
  rw [e2, e3, BitVec.toNat_xor, xor_mod, ← e, ← e]
theorem and8191 (a : Int) : bits .and .i64 a 8191 = (lowN a : Int) := by rw [i64_and8191, lowN_cast]
end Go.Proofs.YtkgacnenmflegaaGreatDoor
namespace Go.Proofs.YtkgacnenmflegaaGreatDoor
open Go.RowKit

theorem makeTab (m : Nat) (h : m ≤ 1000000) (W : World) :
    (Instr.makeSlice 36 (.int .i64 (m : Int)) (.int .i64 (m : Int))).run Tryz.prog W = .ok (.slice (some ⟨W.heap.size, 0, none⟩) m m) (W.alloc (.cells (madeCells #[.int .i64 0] m) 3)) :=
  run_make_row' 36 3 (.int .i64 0) 8 Tryz.underlying36 infoInt rfl .i64 .i64 m (by omega) (by omega) W

theorem size_setCell' (w : World) (a : Addr) (v : Value) : (w.setCell a v).heap.size = w.heap.size := by simp [World.setCell]
/-- A new row of noughts, and its slice in the field's block. -/
theorem fill_lay (w : World) (f i n : Nat) (v : Value) (hn : n ≤ 1000000) :
    Row ((w.setCell ⟨f, i, none⟩ v).alloc (.cells (madeCells #[.int .i64 0] n) 3)) 0 3 1 (.slice (some ⟨w.heap.size, 0, none⟩) n n) n (List.replicate n (.int .i64 0)) ∧
    w.grownBy ((w.setCell ⟨f, i, none⟩ v).alloc (.cells (madeCells #[.int .i64 0] n) 3)) (some f) := by
  have h := Row.zeros (w.setCell ⟨f, i, none⟩ v) 0 3 (.int .i64 0) n (Nat.zero_le _) (by simp only [maxLen]; omega)
  rw [size_setCell'] at h
  exact ⟨h, World.grownBy.trans (grownBy_setCell w f i v) (World.grownBy_alloc _ _ _)⟩
theorem grownBy_drew {w w' : World} {row : Option Nat} (h : w.grownBy w' row) : w.grownBy w'.drew row := ⟨h.os, h.tape, h.output, h.size, h.block⟩

set_option maxRecDepth 100000 in
set_option maxHeartbeats 1600000 in
theorem tables_fill [Host] (f bx : Nat) (d s m p : Value) (w : World) (hF : FB w f d s m (.slice none 0 0) (.slice none 0 0) p) (hbx : w.cell? ⟨bx, 0, none⟩ = some (.pointer (some ⟨f, 5, none⟩))) (hne : bx ≠ f) (hlt : bx < w.heap.size) :
    Calls Tryz.prog 210 #[.pointer (some ⟨bx, 0, none⟩)] w fun e w' => e = .returned (.tuple #[]) ∧ ∃ ge gl, TInv w f bx d s m p ge gl 8191 8191 w' := by
  go_enter Tryz.func210, Tryz.ntmps210
  have hf := hF.lt
  have c3 : w.cell? ⟨f, 8, none⟩ = some (.slice none 0 0) := hF.cell (i := 8) rfl
  have z3 := hF.free 8
  have hmk : ∀ W : World, (Instr.makeSlice 36 (.int .i64 16382) (.int .i64 16382)).run Tryz.prog W = .ok (.slice (some ⟨W.heap.size, 0, none⟩) 16382 16382) (W.alloc (.cells (madeCells #[.int .i64 0] 16382) 3)) := makeTab 16382 (by omega)
  have hmk2 : ∀ W : World, (Instr.makeSlice 36 (.int .i64 8192) (.int .i64 8192)).run Tryz.prog W = .ok (.slice (some ⟨W.heap.size, 0, none⟩) 8192 8192) (W.alloc (.cells (madeCells #[.int .i64 0] 8192) 3)) := makeTab 8192 (by omega)
  obtain ⟨cE, hcE⟩ : ∃ c, c = madeCells #[Value.int .i64 0] 16382 := ⟨_, rfl⟩
  obtain ⟨cL, hcL⟩ : ∃ c, c = madeCells #[Value.int .i64 0] 8192 := ⟨_, rfl⟩
  rw [← hcE] at hmk
  rw [← hcL] at hmk2
  have HE := Aside.mk (And.intro hcE hcL)
  clear hcE hcL
  go_upto_region 0 with fail
  go_cut [1] (fun _ wx => ∃ ge, w.heap.size ≤ ge ∧ ge < wx.heap.size ∧ FB wx f d s m (.slice (some ⟨ge, 0, none⟩) 16382 16382) (.slice none 0 0) p ∧ ExpR wx ge 0 ∧ w.grownBy wx (some f))
  case first =>
    go_region
    all_goals
      go_wp2
      go_meet
      have h1 := fill_lay w f 8 16382 (.slice (some ⟨w.heap.size, 0, none⟩) 16382 16382) (by omega)
      rw [← HE.out.1, ← expV_zero] at h1
      refine ⟨w.heap.size, Nat.le_refl _, by simp, ((hF.set3 _).kept (World.grownBy_alloc _ _ none) (by simp)).drew, h1.1.drew, grownBy_drew h1.2⟩
  case rest =>
    obtain ⟨ge, hge, hgl, hFB, hE, hgr⟩ := hcut
    have hb2 : wc.cell? ⟨bx, 0, none⟩ = some (.pointer (some ⟨f, 5, none⟩)) := hgr.cell hbx (by simp; omega)
    have hf2 := hFB.lt
    have hlt2 : bx < wc.heap.size := by have := hgr.size; omega
    have c4 : wc.cell? ⟨f, 9, none⟩ = some (.slice none 0 0) := hFB.cell (i := 9) rfl
    have z4 := hFB.free 9
    have HK := Aside.mk (And.intro hFB (And.intro hE (And.intro hgr (And.intro hge hgl))))
    clear c3 z3 hFB hE hgr hge hgl hmk
    go_upto_region 1 with fail
    go_cut [1] (fun _ wx => ∃ gl, TInv w f bx d s m p ge gl 0 0 wx)
    case first =>
      go_region
      all_goals
        go_wp2
        go_meet
        obtain ⟨hFB, hE, hgr, hge, hgl⟩ := HK.out
        have h1 := fill_lay wc f 9 8192 (.slice (some ⟨wc.heap.size, 0, none⟩) 8192 8192) (by omega)
        rw [← HE.out.2, ← logV_zero] at h1
        have hw := hgr.size
        refine ⟨wc.heap.size, ((hFB.set4 _).kept (World.grownBy_alloc _ _ none) (by simp)).drew, (hE.kept h1.2 (.inr (by simp only [Value.ownBlock, ne_eq, Option.some.injEq]; omega))).drew, h1.1.drew, ?_, grownBy_drew (World.grownBy.trans hgr h1.2), hge, by omega, by omega, hf, hlt, hne⟩
        exact h1.2.cell hb2 (by simp; omega)
    case rest =>
      obtain ⟨gl, hI⟩ := hcut
      clear HK hb2 c4 z4 hf2 HE hmk2 hlt2
      go_wp2
      go_loopw [1, 11] (fun s1 s11 wr => ∃ k : Nat, k ≤ 8191 ∧ s11 = .int .i64 k ∧ s1 = .int .i64 (Gf.pw k : Nat) ∧ TInv w f bx d s m p ge gl k k wr) (fun _ s11 _ => 8191 - (intOf s11).toNat)
      case atStart => exact ⟨0, by omega, rfl, rfl, hI⟩
      case round =>
        obtain ⟨k, hk, rfl, rfl, hJ⟩ := hrel
        have hk1 : IntKind.i64.wrap ((k : Int) + 1) = (k : Int) + 1 := by rw [IntKind.wrap_i64]; omega
        have hlp := Gf.pw_lt k
        by_cases hlt2 : k < 8191
        · have o := hJ.old
          obtain ⟨k2, hk2e⟩ : ∃ k2, k2 = k + 8191 := ⟨_, rfl⟩
          have hk2 : IntKind.i64.wrap ((k : Int) + 8191) = (k2 : Int) := by rw [IntKind.wrap_i64]; omega
          have hk3 : (k : Int) < 16382 := by omega
          have hk4 : (k2 : Int) < 16382 := by omega
          have b0 := hJ.box
          have c3 : wr.cell? ⟨f, 8, none⟩ = some (.slice (some ⟨ge, 0, none⟩) 16382 16382) := hJ.fb.cell (i := 8) rfl
          obtain ⟨x1, z1⟩ := hJ.ex.at_ rfl k (by omega)
          obtain ⟨x2, z2⟩ := hJ.ex.at_ rfl k2 (by omega)
          rw [Nat.zero_add] at x1 z1 x2 z2
          have hS := hJ.step1 hlt2
          rw [← hk2e] at hS
          have HS := Aside.mk (And.intro hJ (And.intro hk2e hS))
          obtain ⟨q, hq⟩ : ∃ q, q = Gf.pw k := ⟨_, rfl⟩
          rw [← hq] at HS hlp ⊢
          have HQ := Aside.mk hq
          have hne1 : k ≠ k2 := by omega
          have hk5 : (0 : Int) ≤ (k : Int) := by omega
          have hk6 : (0 : Int) ≤ (k2 : Int) := by omega
          generalize (expV k).getD k undef = y1 at *
          generalize (expV k).getD k2 undef = y2 at *
          clear hJ hS hq o hk2e
          go_upto_region 6 with fail
          go_region
          all_goals
            have hT := HS.out.2.2.drew
            clear HS x1 x2 z1 z2 c3 b0 hk2 hk3 hk4
            generalize ((wr.setCell ⟨ge, k, none⟩ (.int .i64 (q : Int))).setCell ⟨ge, k2, none⟩ (.int .i64 (q : Int))).drew = w5 at *
            have b0 := hT.box
            have c4 : w5.cell? ⟨f, 9, none⟩ = some (.slice (some ⟨gl, 0, none⟩) 8192 8192) := hT.fb.cell (i := 9) rfl
            obtain ⟨x1, z1⟩ := hT.lg.at_ rfl q (by omega)
            rw [Nat.zero_add] at x1 z1
            generalize (logV k).getD q undef = y3 at *
            have hS := hT.step2 hlt2
            rw [← HQ.out] at hS
            have HS := Aside.mk hS
            have hq1 : (0 : Int) ≤ (q : Int) := by omega
            have hq2 : (q : Int) < 8192 := by omega
            clear hT hS
            go_upto_region 8 with fail
            clear b0 c4 x1 z1
            generalize w5.setCell ⟨gl, q, none⟩ (.int .i64 (k : Int)) = w6 at *
            go_upto_region 9 with fail
            have hpq : Gf.pw (k + 1) = Gf.stp q := by rw [HQ.out]; rfl
            have HP := Aside.mk hpq
            clear hpq
            by_cases h8 : 8192 ≤ 2 * q
            · have hx : bits .xor .i64 ((q : Int) * 2) 8219 = ((Gf.stp q : Nat) : Int) := by
                have h := i64_xor_nat (a := 2 * q) (b := 8219) (by omega) (by omega)
                have e : Gf.stp q = 2 * q ^^^ 8219 := by unfold Gf.stp; rw [if_pos h8]
                rw [show (q : Int) * 2 = ((2 * q : Nat) : Int) by omega, e]
                exact h
              have h9 : (8192 : Int) ≤ (q : Int) * 2 := by omega
              clear h8
              go_wp2
              go_roundw
              case rel => exact ⟨k + 1, by omega, by go_num, by rw [HP.out], HS.out⟩
              case measure => simp [intOf]; omega
            · have h9 : ¬ (8192 : Int) ≤ (q : Int) * 2 := by omega
              have hst : Gf.stp q = 2 * q := by unfold Gf.stp; rw [if_neg h8]
              have HT := Aside.mk hst
              clear h8 hst
              go_wp2
              go_roundw
              case rel => exact ⟨k + 1, by omega, by go_num, by rw [HP.out, HT.out]; go_num, HS.out⟩
              case measure => simp [intOf]; omega
        · obtain rfl : k = 8191 := by omega
          have HJ := Aside.mk hJ
          clear hJ
          go_wp2
          go_end0
          exact ⟨rfl, ge, gl, HJ.out⟩
end Go.Proofs.YtkgacnenmflegaaGreatDoor
namespace Go.Proofs.YtkgacnenmflegaaGreatDoor
open Go.RowKit

def Fresh [Host] (w : World) (f p : Nat) : Prop := FB w f (.int .u32 0) (.int .i32 0) (.int .u32 0) (.slice none 0 0) (.slice none 0 0) (.int .i64 (IntKind.i64.wrap (p : Int)))
/-- The tables are there. -/
structure MadeAt [Host] (w : World) (f ge gl p : Nat) : Prop where
  fb : FB w f (.int .u32 1) (.int .i32 0) (.int .u32 0) (.slice (some ⟨ge, 0, none⟩) 16382 16382) (.slice (some ⟨gl, 0, none⟩) 8192 8192) (.int .i64 (IntKind.i64.wrap (p : Int)))
  ex : ExpR w ge 8191
  lg : LogR w gl 8191
  ne : ge ≠ f ∧ gl ≠ f
def Made [Host] (w : World) (f p : Nat) : Prop := ∃ ge gl, MadeAt w f ge gl p
def Fld [Host] (w : World) (f p : Nat) : Prop := Fresh w f p ∨ Made w f p

theorem MadeAt.drewN [Host] {w : World} {f ge gl p : Nat} (h : MadeAt w f ge gl p) (m : Nat) : MadeAt (w.drewN m) f ge gl p := ⟨h.fb, h.ex.drewN m, h.lg.drewN m, h.ne⟩
theorem MadeAt.drew [Host] {w : World} {f ge gl p : Nat} (h : MadeAt w f ge gl p) : MadeAt w.drew f ge gl p := ⟨h.fb, h.ex.drew, h.lg.drew, h.ne⟩
theorem MadeAt.expCell [Host] {w : World} {f ge gl p : Nat} (h : MadeAt w f ge gl p) {i : Nat} (hi : i < 16382) : w.cell? ⟨ge, i, none⟩ = some (.int .i64 (Gf.pw i : Nat)) := by
  have h1 := Row.cells h.ex rfl i _ (expV_get hi)
  rw [add_plain, Nat.zero_add] at h1
  rw [h1]
  unfold expAt
  rw [if_pos (by omega)]
theorem MadeAt.logCell [Host] {w : World} {f ge gl p : Nat} (h : MadeAt w f ge gl p) {x : Nat} (h0 : 0 < x) (hx : x < 8192) : w.cell? ⟨gl, x, none⟩ = some (.int .i64 (Gf.log x : Nat)) := by
  have h1 := Row.cells h.lg rfl x _ (logV_get hx)
  rw [add_plain, Nat.zero_add] at h1
  rw [h1]
  have h2 := Gf.log_lt x
  unfold logAt
  rw [if_pos ⟨h0, h2⟩]
theorem MadeAt.c3 [Host] {w : World} {f ge gl p : Nat} (h : MadeAt w f ge gl p) : w.cell? ⟨f, 8, none⟩ = some (.slice (some ⟨ge, 0, none⟩) 16382 16382) := h.fb.cell (i := 8) rfl
theorem MadeAt.c4 [Host] {w : World} {f ge gl p : Nat} (h : MadeAt w f ge gl p) : w.cell? ⟨f, 9, none⟩ = some (.slice (some ⟨gl, 0, none⟩) 8192 8192) := h.fb.cell (i := 9) rfl
theorem MadeAt.kept [Host] {w w' : World} {f ge gl p : Nat} {row : Option Nat} (h : MadeAt w f ge gl p) (hg : w.grownBy w' row) (h1 : some f ≠ row) (h2 : some ge ≠ row) (h3 : some gl ≠ row) : MadeAt w' f ge gl p :=
  ⟨h.fb.kept hg h1, h.ex.kept hg (.inr h2), h.lg.kept hg (.inr h3), h.ne⟩
theorem Made.below [Host] {w w' : World} {f p : Nat} (h : Made w f p) (hb : Below w.heap.size w w') : Made w' f p := by
  obtain ⟨ge, gl, h⟩ := h
  exact ⟨ge, gl, h.kept (grownBy_of_below hb none) (by simp) (by simp) (by simp)⟩
theorem Fld.below [Host] {w w' : World} {f p : Nat} (h : Fld w f p) (hb : Below w.heap.size w w') : Fld w' f p := by
  rcases h with h | h
  · exact .inl (FB.kept h (grownBy_of_below hb none) (by simp))
  · exact .inr (h.below hb)
theorem Fld.lt [Host] {w : World} {f p : Nat} (h : Fld w f p) : f < w.heap.size := by
  rcases h with h | ⟨_, _, h⟩
  · exact FB.lt h
  · exact h.fb.lt

def SlowPost [Host] (w : World) (f p : Nat) (e : Ending) (w' : World) : Prop := e = .returned (.tuple #[]) ∧ Made w' f p ∧ w.grownBy w' (some f)

set_option maxRecDepth 100000 in
set_option maxHeartbeats 1600000 in
theorem once_slow [Host] (f bx p : Nat) (w : World) (hF : Fresh w f p) (hbx : w.cell? ⟨bx, 0, none⟩ = some (.pointer (some ⟨f, 5, none⟩))) (hne : bx ≠ f) (hlt : bx < w.heap.size) :
    Calls Tryz.prog 172 #[.pointer (some ⟨f, 5, none⟩), .func (.func 210) #[] #[.pointer (some ⟨bx, 0, none⟩)]] w (SlowPost w f p) := by
  have h1 := FB.set1 hF (.int .i32 1)
  have c0 : (w.setCell ⟨f, 6, none⟩ (.int .i32 1)).cell? ⟨f, 5, none⟩ = some (.int .u32 0) := h1.cell (i := 5) rfl
  have l0 : w.cell? ⟨f, 6, none⟩ = some (.int .i32 0) := FB.cell hF (i := 6) rfl
  have z0 : w.frozen? ⟨f, 6, none⟩ = false := FB.free hF 6
  have hb1 : (w.setCell ⟨f, 6, none⟩ (.int .i32 1)).cell? ⟨bx, 0, none⟩ = some (.pointer (some ⟨f, 5, none⟩)) := by rw [cell_setCell_far _ _ _ _ (Ne.symm hne)]; exact hbx
  have hg1 := grownBy_setCell w f 6 (.int .i32 1)
  have hs1 := size_setCell' w ⟨f, 6, none⟩ (.int .i32 1)
  have HA := Aside.mk (And.intro h1 (And.intro c0 (And.intro hb1 (And.intro hg1 (And.intro hs1 (And.intro l0 z0))))))
  clear h1 c0 hb1 hg1 hs1 l0 z0
  go_enter_defers Tryz.func172, Tryz.ntmps172
  go_wp2_with (first | (go_at_call 200; refine (Once.lock_free ⟨f, 6, none⟩ _ HA.out.2.2.2.2.2.1 HA.out.2.2.2.2.2.2).mono ?_; rintro e w1 ⟨rfl, rfl⟩) | (go_at_call 171; refine (Once.bool_load ⟨f, 5, none⟩ 0 false _ HA.out.2.1 rfl).mono ?_; rintro e w1 ⟨rfl, rfl⟩) | (go_at_call 210; refine (tables_fill f bx _ _ _ _ _ HA.out.1 HA.out.2.2.1 hne (by rw [HA.out.2.2.2.2.1]; exact hlt)).mono ?_; rintro e w2 ⟨rfl, ge, gl, hT⟩))
  have hF2 := hT.fb
  refine leaves_cons (f := 202) (args := #[.pointer (some ⟨f, 5, none⟩), .bool true]) (by simp) (by simp [go_sem]) ?_
  refine (Once.store_deferred ⟨f, 5, none⟩ (.int .u32 0) .returning _ (hF2.cell (i := 5) rfl) (hF2.free 5)).mono ?_
  rintro e u' w3 ⟨rfl, rfl, rfl⟩
  have hF3 := FB.set0 hF2.drew (.int .u32 1)
  refine leaves_cons (f := 201) (args := #[.pointer (some ⟨f, 6, none⟩)]) (by simp [settle]) (by simp [go_sem]) ?_
  refine (Once.unlock_deferred ⟨f, 6, none⟩ _ _ (hF3.cell (i := 6) rfl) (hF3.free 6)).mono ?_
  rintro e u' w4 ⟨rfl, rfl, rfl⟩
  have hF4 := FB.set1 hF3 (.int .i32 0)
  have o := hT.old
  have g1 := grownBy_setCell w2.drew f 5 (.int .u32 1)
  have g2 := grownBy_setCell (w2.drew.setCell ⟨f, 5, none⟩ (.int .u32 1)) f 6 (.int .i32 0)
  have hsz := HA.out.2.2.2.2.1
  have hfl := FB.lt hF
  have hP : SlowPost w f p (.returned (.tuple #[])) ((w2.drew.setCell ⟨f, 5, none⟩ (.int .u32 1)).setCell ⟨f, 6, none⟩ (.int .i32 0)) := by
    refine ⟨rfl, ⟨ge, gl, hF4, (hT.ex.drew.kept g1 (.inr (by simp only [Value.ownBlock, ne_eq, Option.some.injEq]; omega))).kept g2 (.inr (by simp only [Value.ownBlock, ne_eq, Option.some.injEq]; omega)), (hT.lg.drew.kept g1 (.inr (by simp only [Value.ownBlock, ne_eq, Option.some.injEq]; omega))).kept g2 (.inr (by simp only [Value.ownBlock, ne_eq, Option.some.injEq]; omega)), by omega, by omega⟩, ?_⟩
    exact World.grownBy.trans (World.grownBy.trans (World.grownBy.trans HA.out.2.2.2.1 hT.gr) (grownBy_drew (World.grownBy.refl _ _))) (World.grownBy.trans g1 g2)
  simp [Leaves, settle, results, Tryz.results172]
  exact hP

/-- Not yet done. -/
theorem once_first [Host] (f bx p : Nat) (w : World) (hF : Fresh w f p) (hbx : w.cell? ⟨bx, 0, none⟩ = some (.pointer (some ⟨f, 5, none⟩))) (hne : bx ≠ f) (hlt : bx < w.heap.size) :
    Calls Tryz.prog 143 #[.pointer (some ⟨f, 5, none⟩), .func (.func 210) #[] #[.pointer (some ⟨bx, 0, none⟩)]] w (SlowPost w f p) := by
  have c0 : w.cell? ⟨f, 5, none⟩ = some (.int .u32 0) := FB.cell hF (i := 5) rfl
  go_enter Tryz.func143, Tryz.ntmps143
  go_wp2_with (first | (go_at_call 171; refine (Once.bool_load ⟨f, 5, none⟩ 0 false _ c0 rfl).mono ?_; rintro e w1 ⟨rfl, rfl⟩) | (go_at_call 172; refine (once_slow f bx p _ hF hbx hne hlt).mono ?_; rintro e w2 ⟨rfl, hM, hg⟩))
  go_end0
  exact ⟨rfl, hM, hg⟩
/-- Done already. -/
theorem once_again (f : Nat) (fv : Value) (w : World) (hc : w.cell? ⟨f, 5, none⟩ = some (.int .u32 1)) :
    Calls Tryz.prog 143 #[.pointer (some ⟨f, 5, none⟩), fv] w fun e w' => e = .returned (.tuple #[]) ∧ w' = w := by
  go_enter Tryz.func143, Tryz.ntmps143
  go_wp2_with (go_at_call 171; refine (Once.bool_load ⟨f, 5, none⟩ 1 true _ hc rfl).mono ?_; rintro e w1 ⟨rfl, rfl⟩)
  go_end0
  exact ⟨rfl, rfl⟩

set_option maxHeartbeats 800000 in
theorem gf_tables [Host] (f p : Nat) (w : World) (hF : Fld w f p) :
    Calls Tryz.prog 179 #[.pointer (some ⟨f, 5, none⟩)] w (SlowPost w f p) := by
  have hmf : ∀ (fn : Fn) (first cap : Array Value) (w : World), (Instr.makeFunc fn first cap).run Tryz.prog w = .ok (.func fn first cap) w := fun _ _ _ _ => rfl
  have hfl := hF.lt
  have g0 := World.grownBy_alloc w (.cells #[.pointer (some ⟨f, 5, none⟩)] 273) (some f)
  have b0 : (w.alloc (.cells #[.pointer (some ⟨f, 5, none⟩)] 273)).cell? ⟨w.heap.size, 0, none⟩ = some (.pointer (some ⟨f, 5, none⟩)) := by simp
  have hF1 := hF.below ((Below.refl w.heap.size w).alloc (Nat.le_refl _) (.cells #[.pointer (some ⟨f, 5, none⟩)] 273))
  have HA := Aside.mk (And.intro g0 (And.intro b0 hF1))
  clear g0 b0 hF1
  rcases HA.out.2.2 with h | h
  · go_enter Tryz.func179, Tryz.ntmps179
    go_wp2_with (go_at_call 143; refine (once_first f w.heap.size p _ h HA.out.2.1 (by omega) (by simp)).mono ?_; rintro e w2 ⟨rfl, hM, hg⟩)
    go_end0
    exact ⟨rfl, hM, World.grownBy.trans HA.out.1 hg⟩
  · have c0 : (w.alloc (.cells #[.pointer (some ⟨f, 5, none⟩)] 273)).cell? ⟨f, 5, none⟩ = some (.int .u32 1) := by
      obtain ⟨ge, gl, h⟩ := h
      exact h.fb.cell (i := 5) rfl
    have HC := Aside.mk c0
    clear c0
    go_enter Tryz.func179, Tryz.ntmps179
    go_wp2_with (go_at_call 143; refine (once_again f _ _ HC.out).mono ?_; rintro e w2 ⟨rfl, rfl⟩)
    go_end0
    exact ⟨rfl, h, HA.out.1⟩
end Go.Proofs.YtkgacnenmflegaaGreatDoor
namespace Go.Proofs.YtkgacnenmflegaaGreatDoor
open Go.RowKit

theorem gf_low (a : Int) (w : World) : Calls Tryz.prog 183 #[.int .i64 a] w fun e w' => e = .returned (.int .i64 (lowN a : Nat)) ∧ w = w' := by
  have h := and8191 a
  go_enter Tryz.func183, Tryz.ntmps183
  go_wp2
  go_ret
  exact ⟨rfl, rfl⟩
/-- A number's remainder, 0 and more. -/
def arN (n : Int) : Nat := (n % 8191).toNat
theorem arN_lt (n : Int) : arN n < 8191 := by unfold arN; omega
theorem arN_nat (n : Nat) : arN (n : Int) = n % 8191 := by unfold arN; omega
theorem tmod_nonneg {n : Int} (h : 0 ≤ n) : n.tmod 8191 = (arN n : Int) := by rw [Int.tmod_eq_emod_of_nonneg h]; unfold arN; omega
theorem tmod_neg {n : Int} (h : n < 0) : n.tmod 8191 = (arN n : Int) - 8191 ∨ (n.tmod 8191 = 0 ∧ arN n = 0) := by
  have h1 := Int.tmod_eq_emod (a := n) (b := 8191)
  rw [h1]
  unfold arN
  split
  · rename_i hc
    rcases hc with hc | hc
    · omega
    · right; omega
  · simp; omega
set_option maxHeartbeats 400000 in
theorem gf_around (n : Int) (w : World) (h1 : -9223372036854775808 ≤ n) (h2 : n ≤ 9223372036854775807) :
    Calls Tryz.prog 180 #[.int .i64 n] w fun e w' => e = .returned (.int .i64 (arN n : Nat)) ∧ w = w' := by
  have hl := arN_lt n
  by_cases h0 : 0 ≤ n
  · have ht := tmod_nonneg h0
    have HT := Aside.mk ht
    have he : n % 8191 = (arN n : Int) := by unfold arN; omega
    generalize arN n = r at *
    clear ht
    go_enter Tryz.func180, Tryz.ntmps180
    go_wp2
    go_ret
    exact ⟨by show Ending.returned (.int .i64 (n % 8191)) = _; rw [he], rfl⟩
  · rcases tmod_neg (show n < 0 by omega) with ht | ⟨ht, h00⟩
    · have hw : IntKind.i64.wrap ((arN n : Int) - 8191 + 8191) = (arN n : Int) := by rw [IntKind.wrap_i64]; omega
      generalize arN n = r at *
      have hlt : (r : Int) - 8191 < 0 := by omega
      go_enter Tryz.func180, Tryz.ntmps180
      go_wp2
      go_ret
      exact ⟨by first | rfl | (congr 2; omega), rfl⟩
    · rw [h00]
      go_enter Tryz.func180, Tryz.ntmps180
      go_wp2
      go_ret
      exact ⟨rfl, rfl⟩

set_option maxHeartbeats 800000 in
set_option maxRecDepth 100000 in
theorem gf_times [Host] (f p : Nat) (a b : Int) (w : World) (hM : Made w f p) :
    Calls Tryz.prog 182 #[.pointer (some ⟨f, 5, none⟩), .int .i64 a, .int .i64 b] w fun e w' => e = .returned (.int .i64 (Gf.mul (lowN a) (lowN b) : Nat)) ∧ ∃ m, w' = w.drewN m := by
  have ha := lowN_lt a
  have hb := lowN_lt b
  have HA := Aside.mk (And.intro (gf_low a) (gf_low b))
  generalize lowN a = x at *
  generalize lowN b = y at *
  rcases Nat.eq_zero_or_pos x with rfl | hx
  · rw [Gf.mul_zero_left]
    go_enter Tryz.func182, Tryz.ntmps182
    have HA1 := HA
    go_wp2_with (first | (obtain ⟨HI⟩ := HA1; go_at_call 183; refine (HI.1 _).mono ?_; rintro e w1 ⟨rfl, rfl⟩) | (obtain ⟨HI⟩ := HA; go_at_call 183; refine (HI.2 _).mono ?_; rintro e w1 ⟨rfl, rfl⟩))
    go_ret
    exact ⟨rfl, 0, rfl⟩
  · rcases Nat.eq_zero_or_pos y with rfl | hy
    · rw [Gf.mul_zero_right]
      have hx2 : ((x : Int) == 0) = false := by simp; omega
      go_enter Tryz.func182, Tryz.ntmps182
      have HA1 := HA
      go_wp2_with (first | (obtain ⟨HI⟩ := HA1; go_at_call 183; refine (HI.1 _).mono ?_; rintro e w1 ⟨rfl, rfl⟩) | (obtain ⟨HI⟩ := HA; go_at_call 183; refine (HI.2 _).mono ?_; rintro e w1 ⟨rfl, rfl⟩))
      go_ret
      exact ⟨rfl, 0, rfl⟩
    · obtain ⟨ge, gl, hM⟩ := hM
      have c3 := hM.c3
      have c4 := hM.c4
      have x1 := hM.logCell hx ha
      have y1 := hM.logCell hy hb
      have lx := Gf.log_lt x
      have ly := Gf.log_lt y
      have e1 := hM.expCell (show Gf.log x + Gf.log y < 16382 by omega)
      rw [← Gf.mul_log hx ha hy hb] at e1
      generalize Gf.log x = i at *
      generalize Gf.log y = j at *
      generalize Gf.mul x y = z at *
      have hx2 : ((x : Int) == 0) = false := by simp; omega
      have hy2 : ((y : Int) == 0) = false := by simp; omega
      have hx3 : (0 : Int) ≤ (x : Int) := by omega
      have hy3 : (0 : Int) ≤ (y : Int) := by omega
      have hx4 : (x : Int) < 8192 := by omega
      have hy4 : (y : Int) < 8192 := by omega
      obtain ⟨k, hk⟩ : ∃ k, k = i + j := ⟨_, rfl⟩
      rw [← hk] at e1
      have hk2 : IntKind.i64.wrap ((i : Int) + (j : Int)) = (k : Int) := by rw [IntKind.wrap_i64]; omega
      have hk3 : (0 : Int) ≤ (k : Int) := by omega
      have hk4 : (k : Int) < 16382 := by omega
      clear hk
      go_enter Tryz.func182, Tryz.ntmps182
      have HA1 := HA
      go_upto_region 4 with (first | (obtain ⟨HI⟩ := HA1; go_at_call 183; refine (HI.1 _).mono ?_; rintro e w1 ⟨rfl, rfl⟩) | (obtain ⟨HI⟩ := HA; go_at_call 183; refine (HI.2 _).mono ?_; rintro e w1 ⟨rfl, rfl⟩))
      go_quiet (fail)
      go_wp2
      go_ret
      exact ⟨rfl, _, rfl⟩

/-- What is left of a call of a method. -/
def Fpost [Host] (w : World) (f p : Nat) (v : Value) (e : Ending) (w' : World) : Prop := e = .returned v ∧ Fld w' f p ∧ w.grownBy w' (some f)
/-- The same, the tables made. -/
def Mpost [Host] (w : World) (f p : Nat) (v : Value) (e : Ending) (w' : World) : Prop := e = .returned v ∧ Made w' f p ∧ w.grownBy w' (some f)
theorem grownBy_drewN {w w' : World} {row : Option Nat} (h : w.grownBy w' row) (m : Nat) : w.grownBy (w'.drewN m) row := ⟨h.os, h.tape, h.output, h.size, h.block⟩
theorem Made.drewN [Host] {w : World} {f p : Nat} (h : Made w f p) (m : Nat) : Made (w.drewN m) f p := by
  obtain ⟨ge, gl, h⟩ := h
  exact ⟨ge, gl, h.drewN m⟩
theorem Made.count [Host] {w : World} {f p : Nat} (h : Made w f p) : Made (w.setCell ⟨f, 10, none⟩ (.int .i64 (IntKind.i64.wrap ((p + 1 : Nat) : Int)))) f (p + 1) := by
  obtain ⟨ge, gl, h⟩ := h
  have g := grownBy_setCell w f 10 (.int .i64 (IntKind.i64.wrap ((p + 1 : Nat) : Int)))
  have n := h.ne
  exact ⟨ge, gl, h.fb.set5 _, h.ex.kept g (.inr (by simp only [Value.ownBlock, ne_eq, Option.some.injEq]; omega)), h.lg.kept g (.inr (by simp only [Value.ownBlock, ne_eq, Option.some.injEq]; omega)), n⟩

theorem gf_mulW [Host] (f p : Nat) (a b : Int) (w : World) (hF : Fld w f p) :
    Calls Tryz.prog 153 #[.pointer (some ⟨f, 5, none⟩), .int .i64 a, .int .i64 b] w (Mpost w f (p + 1) (.int .i64 (Gf.mul (lowN a) (lowN b) : Nat))) := by
  go_enter Tryz.func153, Tryz.ntmps153
  go_wp2_with (first | (go_at_call 179; refine (gf_tables f p _ hF).mono ?_; rintro e w1 ⟨rfl, hM, hg⟩; have c5 : w1.cell? ⟨f, 10, none⟩ = some (.int .i64 (IntKind.i64.wrap (p : Int))) := (by obtain ⟨ge, gl, h⟩ := hM; exact h.fb.cell (i := 10) rfl); have z5 : w1.frozen? ⟨f, 10, none⟩ = false := (by obtain ⟨ge, gl, h⟩ := hM; exact h.fb.free 10)) | (go_at_call 181; refine (Once.int_addw ⟨f, 10, none⟩ _ _ c5 z5).mono ?_; rintro e w2 ⟨rfl, hw2⟩; rw [Once.wrap_next] at hw2; have hM2 := hM.count; have hg2 := World.grownBy.trans hg (grownBy_setCell w1 f 10 (.int .i64 (IntKind.i64.wrap ((p + 1 : Nat) : Int)))); rw [← hw2] at hM2 hg2; clear hw2 c5 z5) | (go_at_call 182; refine (gf_times f (p + 1) a b _ hM2).mono ?_; rintro e w3 ⟨rfl, m, rfl⟩))
  go_ret
  exact ⟨rfl, hM2.drewN _, grownBy_drewN hg2 _⟩
theorem gf_mul [Host] (f p : Nat) (a b : Int) (w : World) (hF : Fld w f p) (_hp : p ≤ 1000000) :
    Calls Tryz.prog 153 #[.pointer (some ⟨f, 5, none⟩), .int .i64 a, .int .i64 b] w (Mpost w f (p + 1) (.int .i64 (Gf.mul (lowN a) (lowN b) : Nat))) := gf_mulW f p a b w hF
theorem gf_mul_nil (a b : Int) (w : World) :
    Calls Tryz.prog 153 #[.pointer none, .int .i64 a, .int .i64 b] w fun e w' => e = .returned (.int .i64 0) ∧ w = w' := by
  go_enter Tryz.func153, Tryz.ntmps153
  go_wp2
  go_ret
  exact ⟨rfl, rfl⟩
/-! Exp -/
set_option maxHeartbeats 800000 in
set_option maxRecDepth 100000 in
theorem gf_exp [Host] (f p : Nat) (n : Int) (w : World) (hF : Fld w f p) (h1 : -9223372036854775808 ≤ n) (h2 : n ≤ 9223372036854775807) :
    Calls Tryz.prog 152 #[.pointer (some ⟨f, 5, none⟩), .int .i64 n] w (Mpost w f p (.int .i64 (Gf.pw (arN n) : Nat))) := by
  have hl := arN_lt n
  have HA := Aside.mk (fun W => gf_around n W h1 h2)
  generalize arN n = r at *
  have hr1 : (0 : Int) ≤ (r : Int) := by omega
  have hr2 : (r : Int) < 16382 := by omega
  go_enter Tryz.func152, Tryz.ntmps152
  go_upto_region 4 with (go_at_call 179; refine (gf_tables f p _ hF).mono ?_; rintro e w1 ⟨rfl, hM, hg⟩)
  obtain ⟨ge, gl, hM⟩ := hM
  have c3 := hM.c3
  have e1 := hM.expCell (show r < 16382 by omega)
  generalize Gf.pw r = z at *
  go_quiet ((go_at_call 180; exact Calls.quiet_of_same ((HA.out _).mono fun e w' ⟨h1, h2⟩ => ⟨h1, h2.symm⟩)))
  go_wp2
  go_ret
  exact ⟨rfl, ⟨ge, gl, hM.drewN _⟩, grownBy_drewN hg _⟩
theorem gf_exp_nil (n : Int) (w : World) :
    Calls Tryz.prog 152 #[.pointer none, .int .i64 n] w fun e w' => e = .returned (.int .i64 0) ∧ w = w' := by
  go_enter Tryz.func152, Tryz.ntmps152
  go_wp2
  go_ret
  exact ⟨rfl, rfl⟩

/-! Log -/
set_option maxHeartbeats 800000 in
set_option maxRecDepth 100000 in
theorem gf_log [Host] (f p : Nat) (a : Int) (w : World) (hF : Fld w f p) (h0 : 0 < lowN a) :
    Calls Tryz.prog 156 #[.pointer (some ⟨f, 5, none⟩), .int .i64 a] w (Mpost w f p (.tuple #[.int .i64 (Gf.log (lowN a) : Nat), .bool true])) := by
  have hl := lowN_lt a
  have HA := Aside.mk (gf_low a)
  generalize lowN a = x at *
  have hx1 : (0 : Int) ≤ (x : Int) := by omega
  have hx2 : (x : Int) < 8192 := by omega
  have hx3 : ((x : Int) == 0) = false := by simp; omega
  go_enter Tryz.func156, Tryz.ntmps156
  go_upto_region 4 with (first | (go_at_call 183; refine (HA.out _).mono ?_; rintro e w1 ⟨rfl, rfl⟩) | (go_at_call 179; refine (gf_tables f p _ hF).mono ?_; rintro e w1 ⟨rfl, hM, hg⟩))
  obtain ⟨ge, gl, hM⟩ := hM
  have c4 := hM.c4
  have e1 := hM.logCell h0 hl
  generalize Gf.log x = z at *
  go_quiet ((go_at_call 183; exact Calls.quiet_of_same ((HA.out _).mono fun e w' ⟨h1, h2⟩ => ⟨h1, h2.symm⟩)))
  go_wp2
  go_ret2
  exact ⟨rfl, ⟨ge, gl, hM.drewN _⟩, grownBy_drewN hg _⟩
theorem gf_log_zero (f : Nat) (a : Int) (w : World) (h0 : lowN a = 0) :
    Calls Tryz.prog 156 #[.pointer (some ⟨f, 5, none⟩), .int .i64 a] w fun e w' => e = .returned (.tuple #[.int .i64 0, .bool false]) ∧ w = w' := by
  have HA := Aside.mk (gf_low a)
  rw [h0] at HA
  go_enter Tryz.func156, Tryz.ntmps156
  go_wp2_with (go_at_call 183; refine (HA.out _).mono ?_; rintro e w1 ⟨rfl, rfl⟩)
  go_ret2
  exact ⟨rfl, rfl⟩
theorem gf_log_nil (a : Int) (w : World) :
    Calls Tryz.prog 156 #[.pointer none, .int .i64 a] w fun e w' => e = .returned (.tuple #[.int .i64 0, .bool false]) ∧ w = w' := by
  go_enter Tryz.func156, Tryz.ntmps156
  go_wp2
  go_ret2
  exact ⟨rfl, rfl⟩

/-! Inv -/
set_option maxHeartbeats 800000 in
set_option maxRecDepth 100000 in
theorem gf_inv [Host] (f p : Nat) (a : Int) (w : World) (hF : Fld w f p) (h0 : 0 < lowN a) :
    Calls Tryz.prog 154 #[.pointer (some ⟨f, 5, none⟩), .int .i64 a] w (Mpost w f p (.tuple #[.int .i64 (Gf.pw (8191 - Gf.log (lowN a)) : Nat), .bool true])) := by
  have hl := lowN_lt a
  have HA := Aside.mk (gf_low a)
  generalize lowN a = x at *
  have hx1 : (0 : Int) ≤ (x : Int) := by omega
  have hx2 : (x : Int) < 8192 := by omega
  have hx3 : ((x : Int) == 0) = false := by simp; omega
  obtain ⟨k, hk⟩ : ∃ k, k = 8191 - Gf.log x := ⟨_, rfl⟩
  rw [← hk]
  have HK := Aside.mk hk
  clear hk
  go_enter Tryz.func154, Tryz.ntmps154
  go_upto_region 4 with (first | (go_at_call 183; refine (HA.out _).mono ?_; rintro e w1 ⟨rfl, rfl⟩) | (go_at_call 179; refine (gf_tables f p _ hF).mono ?_; rintro e w1 ⟨rfl, hM, hg⟩))
  obtain ⟨ge, gl, hM⟩ := hM
  have c3 := hM.c3
  have c4 := hM.c4
  have e1 := hM.logCell h0 hl
  have li := Gf.log_lt x
  have e2 := hM.expCell (show 8191 - Gf.log x < 16382 by omega)
  rw [← HK.out] at e2
  have hk := HK.out
  clear HK
  generalize Gf.log x = i at *
  have hk2 : IntKind.i64.wrap (8191 - (i : Int)) = (k : Int) := by rw [IntKind.wrap_i64]; omega
  have hk3 : (0 : Int) ≤ (k : Int) := by omega
  have hk4 : (k : Int) < 16382 := by omega
  clear hk
  generalize Gf.pw k = z at *
  go_quiet ((go_at_call 183; exact Calls.quiet_of_same ((HA.out _).mono fun e w' ⟨h1, h2⟩ => ⟨h1, h2.symm⟩)))
  go_wp2
  go_ret2
  exact ⟨rfl, ⟨ge, gl, hM.drewN _⟩, grownBy_drewN hg _⟩
theorem gf_inv_zero (f : Nat) (a : Int) (w : World) (h0 : lowN a = 0) :
    Calls Tryz.prog 154 #[.pointer (some ⟨f, 5, none⟩), .int .i64 a] w fun e w' => e = .returned (.tuple #[.int .i64 0, .bool false]) ∧ w = w' := by
  have HA := Aside.mk (gf_low a)
  rw [h0] at HA
  go_enter Tryz.func154, Tryz.ntmps154
  go_wp2_with (go_at_call 183; refine (HA.out _).mono ?_; rintro e w1 ⟨rfl, rfl⟩)
  go_ret2
  exact ⟨rfl, rfl⟩
theorem gf_inv_nil (a : Int) (w : World) :
    Calls Tryz.prog 154 #[.pointer none, .int .i64 a] w fun e w' => e = .returned (.tuple #[.int .i64 0, .bool false]) ∧ w = w' := by
  go_enter Tryz.func154, Tryz.ntmps154
  go_wp2
  go_ret2
  exact ⟨rfl, rfl⟩
end Go.Proofs.YtkgacnenmflegaaGreatDoor
namespace Go.Proofs.YtkgacnenmflegaaGreatDoor
open Go.RowKit
/-- Some draws later. -/
def DrewOf (a b : World) : Prop := ∃ m, b = a.drewN m
theorem DrewOf.refl (a : World) : DrewOf a a := ⟨0, rfl⟩
theorem DrewOf.more {a b : World} (h : DrewOf a b) (m : Nat) : DrewOf a (b.drewN m) := by
  obtain ⟨k, rfl⟩ := h
  exact ⟨k + m, by rw [World.drewN_drewN]⟩
theorem DrewOf.below {B : Nat} {w a b : World} (h : DrewOf a b) (hb : Below B w a) : Below B w b := by
  obtain ⟨k, rfl⟩ := h
  exact ⟨hb.os, hb.tape, hb.output, hb.size, hb.block⟩
theorem DrewOf.same {a b : World} (h : DrewOf a b) : Below a.heap.size a b := h.below (Below.refl _ _)
end Go.Proofs.YtkgacnenmflegaaGreatDoor
namespace Go.Proofs.YtkgacnenmflegaaGreatDoor
open Go.RowKit

/-- What Pow answers. -/
noncomputable def powN (a : Nat) (n : Int) : Nat := if n = 0 then 1 else if a = 0 then 0 else Gf.pw (Gf.log a * arN n % 8191)
theorem powN_zero (a : Nat) : powN a 0 = 1 := by unfold powN; rw [if_pos rfl]
theorem powN_none {n : Int} (h : n ≠ 0) : powN 0 n = 0 := by unfold powN; rw [if_neg h, if_pos rfl]
theorem powN_some {a : Nat} {n : Int} (h : n ≠ 0) (h0 : 0 < a) : powN a n = Gf.pw (Gf.log a * arN n % 8191) := by unfold powN; rw [if_neg h, if_neg (by omega)]
/-- Of a natural number it is the power. -/
theorem powN_nat {a : Nat} (ha : a < 8192) (n : Nat) : powN a (n : Int) = Gf.pow a n := by
  rcases Nat.eq_zero_or_pos n with rfl | hn
  · exact powN_zero a
  · have hn' : (n : Int) ≠ 0 := by omega
    rcases Nat.eq_zero_or_pos a with rfl | h0
    · rw [powN_none hn', Gf.pow_zero hn]
    · rw [powN_some hn' h0, Gf.pw_mod, arN_nat, ← Gf.pow_log h0 ha, Gf.pow_mod h0 ha]

set_option maxHeartbeats 800000 in
set_option maxRecDepth 100000 in
theorem gf_pow [Host] (f p : Nat) (a n : Int) (w : World) (hF : Fld w f p) (h1 : -9223372036854775808 ≤ n) (h2 : n ≤ 9223372036854775807) :
    Calls Tryz.prog 204 #[.pointer (some ⟨f, 5, none⟩), .int .i64 a, .int .i64 n] w (Fpost w f p (.int .i64 (powN (lowN a) n : Nat))) := by
  have hl := lowN_lt a
  have HA := Aside.mk (gf_low a)
  generalize lowN a = x at *
  by_cases hn : n = 0
  · subst hn
    rw [powN_zero]
    go_enter Tryz.func204, Tryz.ntmps204
    go_wp2_with (go_at_call 183; refine (HA.out _).mono ?_; rintro e w1 ⟨rfl, rfl⟩)
    go_ret
    exact ⟨rfl, hF, World.grownBy.refl _ _⟩
  · have hn1 : (n == 0) = false := by simp [hn]
    rcases Nat.eq_zero_or_pos x with rfl | h0
    · rw [powN_none hn]
      clear hn
      go_enter Tryz.func204, Tryz.ntmps204
      go_wp2_with (go_at_call 183; refine (HA.out _).mono ?_; rintro e w1 ⟨rfl, rfl⟩)
      go_ret
      exact ⟨rfl, hF, World.grownBy.refl _ _⟩
    · rw [powN_some hn h0]
      have hr := arN_lt n
      have HR := Aside.mk (fun W => gf_around n W h1 h2)
      generalize arN n = r at *
      obtain ⟨k, hk⟩ : ∃ k, k = Gf.log x * r % 8191 := ⟨_, rfl⟩
      rw [← hk]
      have HK := Aside.mk hk
      have hx1 : (0 : Int) ≤ (x : Int) := by omega
      have hx2 : (x : Int) < 8192 := by omega
      have hx3 : ((x : Int) == 0) = false := by simp; omega
      clear hk hn
      go_enter Tryz.func204, Tryz.ntmps204
      go_upto_region 9 with (first | (go_at_call 183; refine (HA.out _).mono ?_; rintro e w1 ⟨rfl, rfl⟩) | (go_at_call 179; refine (gf_tables f p _ hF).mono ?_; rintro e w1 ⟨rfl, hM, hg⟩))
      obtain ⟨ge, gl, hM⟩ := hM
      have c3 := hM.c3
      have c4 := hM.c4
      have e1 := hM.logCell h0 hl
      have li := Gf.log_lt x
      have e2 := hM.expCell (show k < 16382 by rw [HK.out]; omega)
      have hk := HK.out
      clear HK
      generalize Gf.log x = i at *
      have hm0 : i * r ≤ 8190 * 8190 := Nat.mul_le_mul (by omega) (by omega)
      obtain ⟨m, hm⟩ : ∃ m, m = i * r := ⟨_, rfl⟩
      rw [← hm] at hk hm0
      have hm2 : IntKind.i64.wrap ((i : Int) * (r : Int)) = (m : Int) := by rw [hm, IntKind.wrap_i64, ← Int.natCast_mul, ← hm]; omega
      have hm3 : Int.tmod (m : Int) 8191 = (k : Int) := by rw [Int.tmod_eq_emod_of_nonneg (by omega)]; omega
      have hm4 : (m : Int) % 8191 = (k : Int) := by omega
      have hk3 : (0 : Int) ≤ (k : Int) := by omega
      have hk4 : (k : Int) < 16382 := by omega
      clear hk hm
      generalize Gf.pw k = z at *
      go_quiet ((go_at_call 180; exact Calls.quiet_of_same ((HR.out _).mono fun e w' ⟨h1, h2⟩ => ⟨h1, h2.symm⟩)))
      go_wp2
      go_ret
      exact ⟨rfl, .inr ⟨ge, gl, hM.drewN _⟩, grownBy_drewN hg _⟩
theorem gf_pow_nil (a n : Int) (w : World) :
    Calls Tryz.prog 204 #[.pointer none, .int .i64 a, .int .i64 n] w fun e w' => e = .returned (.int .i64 0) ∧ w = w' := by
  go_enter Tryz.func204, Tryz.ntmps204
  go_wp2_with (go_at_call 183; refine (gf_low a _).mono ?_; rintro e w1 ⟨rfl, rfl⟩)
  go_ret
  exact ⟨rfl, rfl⟩

/-- A polynomial's value, from the highest coefficient on downwards. -/
def evalH (l : List Int) (x : Nat) : Nat := l.foldr (fun c v => Gf.mul v x ^^^ lowN c) 0
theorem evalH_lt (l : List Int) (x : Nat) : evalH l x < 8192 := by
  induction l with
  | nil => exact (by decide : 0 < 8192)
  | cons c l ih => exact Gf.xor_lt (Gf.mul_lt _ ih) (lowN_lt c)
theorem evalH_drop {l : List Int} {k : Nat} (h : k < l.length) (x : Nat) : evalH (l.drop k) x = Gf.mul (evalH (l.drop (k + 1)) x) x ^^^ lowN (l.getD k 0) := by
  have e : l.getD k 0 = l[k] := by simp [List.getD_eq_getElem?_getD, List.getElem?_eq_getElem h]
  rw [List.drop_eq_getElem_cons h, e]
  rfl

end Go.Proofs.YtkgacnenmflegaaGreatDoor
namespace Go.Proofs.YtkgacnenmflegaaGreatDoor
open Go.RowKit

def AtPost [Host] (w : World) (f ge gl p : Nat) (v : Value) (e : Ending) (w' : World) : Prop := e = .returned v ∧ MadeAt w' f ge gl p ∧ w.grownBy w' (some f)
theorem MadeAt.count [Host] {w : World} {f ge gl p : Nat} (h : MadeAt w f ge gl p) : MadeAt (w.setCell ⟨f, 10, none⟩ (.int .i64 (IntKind.i64.wrap ((p + 1 : Nat) : Int)))) f ge gl (p + 1) := by
  have g := grownBy_setCell w f 10 (.int .i64 (IntKind.i64.wrap ((p + 1 : Nat) : Int)))
  have n := h.ne
  exact ⟨h.fb.set5 _, h.ex.kept g (.inr (by simp only [Value.ownBlock, ne_eq, Option.some.injEq]; omega)), h.lg.kept g (.inr (by simp only [Value.ownBlock, ne_eq, Option.some.injEq]; omega)), n⟩
set_option maxHeartbeats 800000 in
theorem gf_tables_at [Host] (f ge gl p : Nat) (w : World) (hF : MadeAt w f ge gl p) :
    Calls Tryz.prog 179 #[.pointer (some ⟨f, 5, none⟩)] w (AtPost w f ge gl p (.tuple #[])) := by
  have hmf : ∀ (fn : Fn) (first cap : Array Value) (w : World), (Instr.makeFunc fn first cap).run Tryz.prog w = .ok (.func fn first cap) w := fun _ _ _ _ => rfl
  have g0 := World.grownBy_alloc w (.cells #[.pointer (some ⟨f, 5, none⟩)] 273) (some f)
  have g1 := World.grownBy_alloc w (.cells #[.pointer (some ⟨f, 5, none⟩)] 273) none
  have h := hF.kept g1 (by simp) (by simp) (by simp)
  have HA := Aside.mk (And.intro g0 h)
  clear g0 g1
  have c0 := h.fb.cell (i := 5) rfl
  have HC := Aside.mk c0
  clear c0 h hF
  go_enter Tryz.func179, Tryz.ntmps179
  go_wp2_with (go_at_call 143; refine (once_again f _ _ HC.out).mono ?_; rintro e w2 ⟨rfl, rfl⟩)
  go_end0
  exact ⟨rfl, HA.out.2, HA.out.1⟩
theorem gf_mul_atW [Host] (f ge gl p : Nat) (a b : Int) (w : World) (hF : MadeAt w f ge gl p) :
    Calls Tryz.prog 153 #[.pointer (some ⟨f, 5, none⟩), .int .i64 a, .int .i64 b] w (AtPost w f ge gl (p + 1) (.int .i64 (Gf.mul (lowN a) (lowN b) : Nat))) := by
  go_enter Tryz.func153, Tryz.ntmps153
  go_wp2_with (first | (go_at_call 179; refine (gf_tables_at f ge gl p _ hF).mono ?_; rintro e w1 ⟨rfl, hM, hg⟩; have c5 : w1.cell? ⟨f, 10, none⟩ = some (.int .i64 (IntKind.i64.wrap (p : Int))) := (by exact hM.fb.cell (i := 10) rfl); have z5 : w1.frozen? ⟨f, 10, none⟩ = false := (by exact hM.fb.free 10)) | (go_at_call 181; refine (Once.int_addw ⟨f, 10, none⟩ _ _ c5 z5).mono ?_; rintro e w2 ⟨rfl, hw2⟩; rw [Once.wrap_next] at hw2; have hM2 := hM.count; have hg2 := World.grownBy.trans hg (grownBy_setCell w1 f 10 (.int .i64 (IntKind.i64.wrap ((p + 1 : Nat) : Int)))); rw [← hw2] at hM2 hg2; clear hw2 c5 z5) | (go_at_call 182; refine (gf_times f (p + 1) a b _ ⟨ge, gl, hM2⟩).mono ?_; rintro e w3 ⟨rfl, m, rfl⟩))
  go_ret
  exact ⟨rfl, hM2.drewN _, grownBy_drewN hg2 _⟩
theorem gf_mul_at [Host] (f ge gl p : Nat) (a b : Int) (w : World) (hF : MadeAt w f ge gl p) (_hp : p ≤ 1000000) :
    Calls Tryz.prog 153 #[.pointer (some ⟨f, 5, none⟩), .int .i64 a, .int .i64 b] w (AtPost w f ge gl (p + 1) (.int .i64 (Gf.mul (lowN a) (lowN b) : Nat))) := gf_mul_atW f ge gl p a b w hF
set_option maxHeartbeats 800000 in
set_option maxRecDepth 100000 in
theorem gf_exp_at [Host] (f ge gl p : Nat) (n : Int) (w : World) (hF : MadeAt w f ge gl p) (h1 : -9223372036854775808 ≤ n) (h2 : n ≤ 9223372036854775807) :
    Calls Tryz.prog 152 #[.pointer (some ⟨f, 5, none⟩), .int .i64 n] w (AtPost w f ge gl p (.int .i64 (Gf.pw (arN n) : Nat))) := by
  have hl := arN_lt n
  have HA := Aside.mk (fun W => gf_around n W h1 h2)
  generalize arN n = r at *
  have hr1 : (0 : Int) ≤ (r : Int) := by omega
  have hr2 : (r : Int) < 16382 := by omega
  go_enter Tryz.func152, Tryz.ntmps152
  go_upto_region 4 with (go_at_call 179; refine (gf_tables_at f ge gl p _ hF).mono ?_; rintro e w1 ⟨rfl, hM, hg⟩)
  have c3 := hM.c3
  have e1 := hM.expCell (show r < 16382 by omega)
  generalize Gf.pw r = z at *
  go_quiet ((go_at_call 180; exact Calls.quiet_of_same ((HA.out _).mono fun e w' ⟨h1, h2⟩ => ⟨h1, h2.symm⟩)))
  go_wp2
  go_ret
  exact ⟨rfl, hM.drewN _, grownBy_drewN hg _⟩
set_option maxHeartbeats 800000 in
set_option maxRecDepth 100000 in
theorem gf_pow_at [Host] (f ge gl p : Nat) (a n : Int) (w : World) (hF : MadeAt w f ge gl p) (h1 : -9223372036854775808 ≤ n) (h2 : n ≤ 9223372036854775807) :
    Calls Tryz.prog 204 #[.pointer (some ⟨f, 5, none⟩), .int .i64 a, .int .i64 n] w (AtPost w f ge gl p (.int .i64 (powN (lowN a) n : Nat))) := by
  have hl := lowN_lt a
  have HA := Aside.mk (gf_low a)
  generalize lowN a = x at *
  by_cases hn : n = 0
  · subst hn
    rw [powN_zero]
    go_enter Tryz.func204, Tryz.ntmps204
    go_wp2_with (go_at_call 183; refine (HA.out _).mono ?_; rintro e w1 ⟨rfl, rfl⟩)
    go_ret
    exact ⟨rfl, hF, World.grownBy.refl _ _⟩
  · have hn1 : (n == 0) = false := by simp [hn]
    rcases Nat.eq_zero_or_pos x with rfl | h0
    · rw [powN_none hn]
      clear hn
      go_enter Tryz.func204, Tryz.ntmps204
      go_wp2_with (go_at_call 183; refine (HA.out _).mono ?_; rintro e w1 ⟨rfl, rfl⟩)
      go_ret
      exact ⟨rfl, hF, World.grownBy.refl _ _⟩
    · rw [powN_some hn h0]
      have hr := arN_lt n
      have HR := Aside.mk (fun W => gf_around n W h1 h2)
      generalize arN n = r at *
      obtain ⟨k, hk⟩ : ∃ k, k = Gf.log x * r % 8191 := ⟨_, rfl⟩
      rw [← hk]
      have HK := Aside.mk hk
      have hx1 : (0 : Int) ≤ (x : Int) := by omega
      have hx2 : (x : Int) < 8192 := by omega
      have hx3 : ((x : Int) == 0) = false := by simp; omega
      clear hk hn
      go_enter Tryz.func204, Tryz.ntmps204
      go_upto_region 9 with (first | (go_at_call 183; refine (HA.out _).mono ?_; rintro e w1 ⟨rfl, rfl⟩) | (go_at_call 179; refine (gf_tables_at f ge gl p _ hF).mono ?_; rintro e w1 ⟨rfl, hM, hg⟩))
      have c3 := hM.c3
      have c4 := hM.c4
      have e1 := hM.logCell h0 hl
      have li := Gf.log_lt x
      have e2 := hM.expCell (show k < 16382 by rw [HK.out]; omega)
      have hk := HK.out
      clear HK
      generalize Gf.log x = i at *
      have hm0 : i * r ≤ 8190 * 8190 := Nat.mul_le_mul (by omega) (by omega)
      obtain ⟨m, hm⟩ : ∃ m, m = i * r := ⟨_, rfl⟩
      rw [← hm] at hk hm0
      have hm2 : IntKind.i64.wrap ((i : Int) * (r : Int)) = (m : Int) := by rw [hm, IntKind.wrap_i64, ← Int.natCast_mul, ← hm]; omega
      have hm3 : Int.tmod (m : Int) 8191 = (k : Int) := by rw [Int.tmod_eq_emod_of_nonneg (by omega)]; omega
      have hm4 : (m : Int) % 8191 = (k : Int) := by omega
      have hk3 : (0 : Int) ≤ (k : Int) := by omega
      have hk4 : (k : Int) < 16382 := by omega
      clear hk hm
      generalize Gf.pw k = z at *
      go_quiet ((go_at_call 180; exact Calls.quiet_of_same ((HR.out _).mono fun e w' ⟨h1, h2⟩ => ⟨h1, h2.symm⟩)))
      go_wp2
      go_ret
      exact ⟨rfl, hM.drewN _, grownBy_drewN hg _⟩
end Go.Proofs.YtkgacnenmflegaaGreatDoor
