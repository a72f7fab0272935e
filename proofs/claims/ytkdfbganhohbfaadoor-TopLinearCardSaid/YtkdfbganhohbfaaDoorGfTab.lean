/-
  The field's tables, and what fills them.
-/
import Derived.Test.YtkdfbganhohbfaaDoorSlices
import Derived.Test.YtkdfbganhohbfaaDoorGfPlain
import Derived.Test.YtkdfbganhohbfaaDoorGfOnce
namespace Go.Proofs.YtkdfbganhohbfaaDoor
open Go.RowKit

/-! ### Plain lists -/
theorem set_map_lt {f g : Nat → Value} {m j0 : Nat} {y : Value} (h0 : g j0 = y) (h : ∀ j, j < m → j ≠ j0 → g j = f j) : ((List.range m).map f).set j0 y = (List.range m).map g := by
  apply List.ext_getElem
  · simp
  · intro i h1 h2
    have him : i < m := by simpa using h2
    simp only [List.getElem_set, List.getElem_map, List.getElem_range]
    by_cases e : j0 = i
    · subst e; rw [if_pos rfl, h0]
    · rw [if_neg e, h i him (Ne.symm e)]
def expAt (k i : Nat) : Value := .int .i64 (if i < k ∨ (8191 ≤ i ∧ i < 8191 + k) then (Gf.pw i : Int) else 0)
noncomputable def logAt (k x : Nat) : Value := .int .i64 (if 0 < x ∧ Gf.log x < k then (Gf.log x : Int) else 0)
def expV (k : Nat) : List Value := (List.range 16382).map (expAt k)
noncomputable def logV (k : Nat) : List Value := (List.range 8192).map (logAt k)
theorem expV_length (k : Nat) : (expV k).length = 16382 := by simp [expV]
theorem logV_length (k : Nat) : (logV k).length = 8192 := by simp [logV]
theorem expV_zero : expV 0 = List.replicate 16382 (.int .i64 0) := by
  apply List.ext_getElem
  · rw [List.length_replicate, expV_length]
  · intro i h1 h2
    simp only [expV, expAt, List.getElem_map, List.getElem_range, List.getElem_replicate]
    rw [if_neg (by omega)]
theorem logV_zero : logV 0 = List.replicate 8192 (.int .i64 0) := by
  apply List.ext_getElem
  · rw [List.length_replicate, logV_length]
  · intro i h1 h2
    simp only [logV, logAt, List.getElem_map, List.getElem_range, List.getElem_replicate]
    rw [if_neg (by omega)]
theorem expV_step {k : Nat} (hk : k < 8191) : ((expV k).set k (.int .i64 (Gf.pw k : Int))).set (k + 8191) (.int .i64 (Gf.pw k : Int)) = expV (k + 1) := by
  have h1 : (expV k).set k (.int .i64 (Gf.pw k : Int)) = (List.range 16382).map (fun j => if j = k then .int .i64 (Gf.pw k : Int) else expAt k j) := by
    refine set_map_lt (by simp) (fun j _ hj => by rw [if_neg hj])
  rw [h1]
  refine set_map_lt ?_ (fun j hj hne => ?_)
  · unfold expAt
    rw [if_pos (by omega), Gf.pw_add_order]
  · by_cases e : j = k
    · subst e
      rw [if_pos rfl]
      unfold expAt
      rw [if_pos (by omega)]
    · rw [if_neg e]
      unfold expAt
      by_cases h : j < k ∨ (8191 ≤ j ∧ j < 8191 + k)
      · rw [if_pos h, if_pos (by omega)]
      · rw [if_neg h, if_neg (by omega)]
theorem logV_step {k : Nat} (hk : k < 8191) : (logV k).set (Gf.pw k) (.int .i64 (k : Int)) = logV (k + 1) := by
  have hp := Gf.pw_pos k
  refine set_map_lt ?_ (fun j hj hne => ?_)
  · unfold logAt
    rw [Gf.log_pw hk, if_pos (by omega)]
  · unfold logAt
    by_cases h0 : 0 < j
    · have hl : Gf.log j ≠ k := fun e => hne (by rw [← e, (Gf.log_spec h0 hj).2])
      by_cases h : 0 < j ∧ Gf.log j < k
      · rw [if_pos h, if_pos (by omega)]
      · rw [if_neg h, if_neg (by omega)]
    · rw [if_neg (by omega), if_neg (by omega)]
theorem expV_get {k i : Nat} (h : i < 16382) : (expV k)[i]? = some (expAt k i) := by simp [expV, h]
theorem logV_get {k i : Nat} (h : i < 8192) : (logV k)[i]? = some (logAt k i) := by simp [logV, h]

/-! ### A field in memory: one block of six cells -/
/-- What stands around the field in its block. -/
class Host where
  x0 : Value
  x1 : Value
  x2 : Value
  x3 : Value
  x4 : Value
  x11 : Value
  x12 : Value
def FB [Host] (w : World) (f : Nat) (d s m ev lv p : Value) : Prop := w.heap[f]? = some (.cells #[Host.x0, Host.x1, Host.x2, Host.x3, Host.x4, d, s, m, ev, lv, p, Host.x11, Host.x12] 52)
section
variable {w w' : World} {f : Nat} {d s m ev lv p : Value}
theorem FB.lt [Host] (h : FB w f d s m ev lv p) : f < w.heap.size := (Array.getElem?_eq_some_iff.1 h).1
theorem FB.cell [Host] (h : FB w f d s m ev lv p) {i : Nat} {v : Value} (hv : (#[Host.x0, Host.x1, Host.x2, Host.x3, Host.x4, d, s, m, ev, lv, p, Host.x11, Host.x12] : Array Value)[i]? = some v) : w.cell? ⟨f, i, none⟩ = some v := (cell_of_row w f i _ _ _ h).trans hv
theorem FB.free [Host] (h : FB w f d s m ev lv p) (i : Nat) : w.frozen? ⟨f, i, none⟩ = false := by
  unfold FB at h
  simp only [World.frozen?, h]
  simp
theorem FB.set [Host] (h : FB w f d s m ev lv p) (i : Nat) (v : Value) : (w.setCell ⟨f, i, none⟩ v).heap[f]? = some (.cells ((#[Host.x0, Host.x1, Host.x2, Host.x3, Host.x4, d, s, m, ev, lv, p, Host.x11, Host.x12] : Array Value).setIfInBounds i v) 52) := by
  unfold FB at h
  simp [World.setCell, Array.getElem?_modify, h]
theorem FB.set0 [Host] (h : FB w f d s m ev lv p) (v : Value) : FB (w.setCell ⟨f, 5, none⟩ v) f v s m ev lv p := h.set 5 v
theorem FB.set1 [Host] (h : FB w f d s m ev lv p) (v : Value) : FB (w.setCell ⟨f, 6, none⟩ v) f d v m ev lv p := h.set 6 v
theorem FB.set3 [Host] (h : FB w f d s m ev lv p) (v : Value) : FB (w.setCell ⟨f, 8, none⟩ v) f d s m v lv p := h.set 8 v
theorem FB.set4 [Host] (h : FB w f d s m ev lv p) (v : Value) : FB (w.setCell ⟨f, 9, none⟩ v) f d s m ev v p := h.set 9 v
theorem FB.set5 [Host] (h : FB w f d s m ev lv p) (v : Value) : FB (w.setCell ⟨f, 10, none⟩ v) f d s m ev lv v := h.set 10 v
theorem FB.kept [Host] (h : FB w f d s m ev lv p) {row : Option Nat} (hg : w.grownBy w' row) (hne : some f ≠ row) : FB w' f d s m ev lv p := (hg.block f h.lt hne).trans h
theorem FB.drew [Host] (h : FB w f d s m ev lv p) : FB w.drew f d s m ev lv p := h
theorem grownBy_setCell (w : World) (f i : Nat) (v : Value) : w.grownBy (w.setCell ⟨f, i, none⟩ v) (some f) :=
  ⟨rfl, rfl, rfl, by simp [World.setCell], fun k _ hne => Below.heap_setCell _ _ _ _ (fun e => hne (by rw [e]))⟩
end

abbrev ExpR (w : World) (g k : Nat) : Prop := Row w 0 3 1 (.slice (some ⟨g, 0, none⟩) 16382 16382) 16382 (expV k)
abbrev LogR (w : World) (g k : Nat) : Prop := Row w 0 3 1 (.slice (some ⟨g, 0, none⟩) 8192 8192) 8192 (logV k)
/-- The tables as far as k and j powers; all but the field's own block is as it was. -/
structure TInv [Host] (w0 : World) (f bx : Nat) (d s m p : Value) (ge gl k j : Nat) (w : World) : Prop where
  fb : FB w f d s m (.slice (some ⟨ge, 0, none⟩) 16382 16382) (.slice (some ⟨gl, 0, none⟩) 8192 8192) p
  ex : ExpR w ge k
  lg : LogR w gl j
  box : w.cell? ⟨bx, 0, none⟩ = some (.pointer (some ⟨f, 5, none⟩))
  gr : w0.grownBy w (some f)
  old : w0.heap.size ≤ ge ∧ w0.heap.size ≤ gl ∧ ge ≠ gl ∧ f < w0.heap.size ∧ bx < w0.heap.size ∧ bx ≠ f
theorem TInv.drew [Host] {w0 : World} {f bx : Nat} {d s m p : Value} {ge gl k j : Nat} {w : World} (h : TInv w0 f bx d s m p ge gl k j w) : TInv w0 f bx d s m p ge gl k j w.drew :=
  ⟨h.fb, h.ex.drew, h.lg.drew, h.box, ⟨h.gr.os, h.gr.tape, h.gr.output, h.gr.size, h.gr.block⟩, h.old⟩
theorem cell_setCell_far (w : World) {a b : Nat} (i j : Nat) (v : Value) (h : a ≠ b) : (w.setCell ⟨a, i, none⟩ v).cell? ⟨b, j, none⟩ = w.cell? ⟨b, j, none⟩ := by
  apply World.cell?_setCell_other
  intro e
  injection e with e
  exact h e
/-- One power more. -/
theorem TInv.step1 [Host] {w0 : World} {f bx : Nat} {d s m p : Value} {ge gl k : Nat} {w : World} (h : TInv w0 f bx d s m p ge gl k k w) (hk : k < 8191) :
    TInv w0 f bx d s m p ge gl (k + 1) k ((w.setCell ⟨ge, k, none⟩ (.int .i64 (Gf.pw k : Int))).setCell ⟨ge, k + 8191, none⟩ (.int .i64 (Gf.pw k : Int))) := by
  have o := h.old
  have g1 := grownBy_setCell w ge k (.int .i64 (Gf.pw k : Int))
  have g2 := grownBy_setCell (w.setCell ⟨ge, k, none⟩ (.int .i64 (Gf.pw k : Int))) ge (k + 8191) (.int .i64 (Gf.pw k : Int))
  have e1 := (h.ex.store rfl k (by omega) (.int .i64 (Gf.pw k : Int))).1
  rw [Nat.zero_add] at e1
  have e2 := (e1.store rfl (k + 8191) (by omega) (.int .i64 (Gf.pw k : Int))).1
  rw [Nat.zero_add, expV_step hk] at e2
  refine ⟨(h.fb.kept g1 (by simp; omega)).kept g2 (by simp; omega), e2, h.lg.kept (World.grownBy.trans g1 g2) (.inr (by simp only [Value.ownBlock, ne_eq, Option.some.injEq]; omega)), ?_, ?_, o⟩
  · rw [cell_setCell_far _ _ _ _ (by omega), cell_setCell_far _ _ _ _ (by omega)]
    exact h.box
  · refine World.grownBy.andThen (World.grownBy.andThen h.gr g1 ?_) g2 ?_
    all_goals (intro j hj; injection hj with hj; left; omega)
theorem TInv.step2 [Host] {w0 : World} {f bx : Nat} {d s m p : Value} {ge gl k : Nat} {w : World} (h : TInv w0 f bx d s m p ge gl (k + 1) k w) (hk : k < 8191) :
    TInv w0 f bx d s m p ge gl (k + 1) (k + 1) (w.setCell ⟨gl, Gf.pw k, none⟩ (.int .i64 (k : Int))) := by
  have o := h.old
  have hp := Gf.pw_lt k
  have g3 := grownBy_setCell w gl (Gf.pw k) (.int .i64 (k : Int))
  have e4 := (h.lg.store rfl (Gf.pw k) (by omega) (.int .i64 (k : Int))).1
  rw [Nat.zero_add, logV_step hk] at e4
  refine ⟨h.fb.kept g3 (by simp; omega), h.ex.kept g3 (.inr (by simp only [Value.ownBlock, ne_eq, Option.some.injEq]; omega)), e4, ?_, ?_, o⟩
  · rw [cell_setCell_far _ _ _ _ (by omega)]
    exact h.box
  · refine World.grownBy.andThen h.gr g3 ?_
    intro j hj; injection hj with hj; left; omega
end Go.Proofs.YtkdfbganhohbfaaDoor
