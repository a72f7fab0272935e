/-
  A slice of blocks that the call itself made: what its cells hold, what a store makes of them.
-/
import Derived.Test.YtaganococolodaaWearWalks
namespace Go.Proofs.Ytaganococolodaa
open Go.RowKit

def cellOf (E : Nat → Nat) (U : Nat → Bool) (j : Nat) : Value :=
  if j % 4 = 0 then .int .i64 ((E (j / 4) : Nat) : Int) else if j % 4 = 1 then .int .i64 0 else if j % 4 = 2 then .bool (U (j / 4)) else .bool false
def blkV (E : Nat → Nat) (U : Nat → Bool) (n : Nat) : List Value := (List.range (n * 4)).map (cellOf E U)
theorem blkV_length (E : Nat → Nat) (U : Nat → Bool) (n : Nat) : (blkV E U n).length = n * 4 := by simp [blkV]
theorem blkV_get (E : Nat → Nat) (U : Nat → Bool) {n j : Nat} (h : j < n * 4) : (blkV E U n)[j]? = some (cellOf E U j) := by
  simp [blkV, h]
theorem set_map {f g : Nat → Value} {m j0 : Nat} {y : Value} (h0 : g j0 = y) (h : ∀ j, j ≠ j0 → g j = f j) : ((List.range m).map f).set j0 y = (List.range m).map g := by
  apply List.ext_getElem
  · simp
  · intro i h1 h2
    simp only [List.getElem_set, List.getElem_map, List.getElem_range]
    by_cases e : j0 = i
    · subst e; rw [if_pos rfl, h0]
    · rw [if_neg e, h i (Ne.symm e)]
theorem blkV_used (E : Nat → Nat) (U U' : Nat → Bool) (n k : Nat) (h0 : ∀ i, i ≠ k → U' i = U i) : (blkV E U n).set (k * 4 + 2) (.bool (U' k)) = blkV E U' n := by
  refine set_map ?_ ?_
  · unfold cellOf
    rw [if_neg (by omega), if_neg (by omega), if_pos (by omega), show (k * 4 + 2) / 4 = k by omega]
  · intro j hj
    unfold cellOf
    by_cases h2 : j % 4 = 2
    · rw [h0 (j / 4) (by omega)]
    · split
      · rfl
      · split
        · rfl
        · rfl
theorem blkV_erased (E E' : Nat → Nat) (U : Nat → Bool) (n k : Nat) (h0 : ∀ i, i ≠ k → E' i = E i) : (blkV E U n).set (k * 4) (.int .i64 ((E' k : Nat) : Int)) = blkV E' U n := by
  refine set_map ?_ ?_
  · unfold cellOf
    rw [if_pos (by omega), show k * 4 / 4 = k by omega]
  · intro j hj
    unfold cellOf
    by_cases h2 : j % 4 = 0
    · rw [h0 (j / 4) (by omega)]
    · rw [if_neg h2, if_neg h2]
/-- Only its own block counts. -/
theorem Row.of_block {w w' : World} {base : Nat} {e : TypeId} {size : Nat} {v : Value} {n : Nat} {xs : List Value} (h : Row w base e size v n xs) (hg : ∀ k, v.ownBlock = some k → w'.heap[k]? = w.heap[k]?) : Row w' base e size v n xs := by
  refine ⟨h.1, ?_⟩
  rcases h.2 with hn | ⟨g, off, cap, cur, fr, rfl, hb, hgg, rest⟩
  · exact .inl hn
  · exact .inr ⟨g, off, cap, cur, fr, rfl, hb, (hg g rfl).trans hgg, rest⟩
abbrev Blks (w : World) (b g n : Nat) (E : Nat → Nat) (U : Nat → Bool) : Prop := Row w b 27 4 (.slice (some ⟨g, 0, none⟩) n n) n (blkV E U n)
theorem Blks.at_ {w : World} {b g n : Nat} {E : Nat → Nat} {U : Nat → Bool} (h : Blks w b g n E U) {k : Nat} (hk : k < n) : BlkAt w g (k * 4) ⟨(E k : Nat), 0, U k, false⟩ := by
  have hc : ∀ j, j < n * 4 → w.cell? ⟨g, j, none⟩ = some (cellOf E U j) := fun j hj => by
    have := Row.cells h rfl j _ (blkV_get E U hj)
    rwa [add_plain, Nat.zero_add] at this
  refine ⟨?_, ?_, ?_, ?_⟩
  · rw [hc _ (by omega)]; unfold cellOf; rw [if_pos (by omega), show k * 4 / 4 = k by omega]
  · rw [hc _ (by omega)]; unfold cellOf; rw [if_neg (by omega), if_pos (by omega)]
  · rw [hc _ (by omega)]; unfold cellOf; rw [if_neg (by omega), if_neg (by omega), if_pos (by omega), show (k * 4 + 2) / 4 = k by omega]
  · rw [hc _ (by omega)]; unfold cellOf; rw [if_neg (by omega), if_neg (by omega), if_neg (by omega)]
theorem Blks.free {w : World} {b g n : Nat} {E : Nat → Nat} {U : Nat → Bool} (h : Blks w b g n E U) {j : Nat} (hj : j < n * 4) : w.frozen? ⟨g, j, none⟩ = false := by
  have := Row.free h rfl j hj
  rwa [Nat.zero_add] at this
theorem Blks.lt {w : World} {b g n : Nat} {E : Nat → Nat} {U : Nat → Bool} (h : Blks w b g n E U) : g < w.heap.size := (Row.blk h g rfl).2.1
theorem Blks.read {w : World} {b g n : Nat} {E : Nat → Nat} {U : Nat → Bool} (h : Blks w b g n E U) : BRd w (some ⟨g, 0, none⟩) n (fun i => ⟨(E i : Nat), 0, U i, false⟩) := fun k hk => ⟨g, 0, rfl, h.lt, by rw [Nat.zero_add]; exact h.at_ hk⟩
theorem Blks.use {w : World} {b g n : Nat} {E : Nat → Nat} {U : Nat → Bool} (h : Blks w b g n E U) {k : Nat} (hk : k < n) (U' : Nat → Bool) (x : Bool) (h0 : ∀ i, i ≠ k → U' i = U i) (hx : U' k = x) :
    Blks (w.setCell ⟨g, k * 4 + 2, none⟩ (.bool x)) b g n E U' ∧ w.grownBy (w.setCell ⟨g, k * 4 + 2, none⟩ (.bool x)) (some g) := by
  have := Row.store h rfl (k * 4 + 2) (by omega) (.bool x)
  rw [Nat.zero_add, ← hx, blkV_used E U U' n k h0] at this
  rwa [← hx]
theorem Blks.erase {w : World} {b g n : Nat} {E : Nat → Nat} {U : Nat → Bool} (h : Blks w b g n E U) {k : Nat} (hk : k < n) (E' : Nat → Nat) (h0 : ∀ i, i ≠ k → E' i = E i) :
    Blks (w.setCell ⟨g, k * 4, none⟩ (.int .i64 ((E' k : Nat) : Int))) b g n E' U ∧ w.grownBy (w.setCell ⟨g, k * 4, none⟩ (.int .i64 ((E' k : Nat) : Int))) (some g) := by
  have := Row.store h rfl (k * 4) (by omega) (.int .i64 ((E' k : Nat) : Int))
  rwa [Nat.zero_add, blkV_erased E E' U n k h0] at this
theorem Blks.far {w w' : World} {b g n : Nat} {E : Nat → Nat} {U : Nat → Bool} (h : Blks w b g n E U) (hb : Below (g + 1) w w') : Blks w' b g n E U :=
  Row.of_block h fun k hk => by
    obtain rfl : g = k := by simpa [Value.ownBlock] using hk
    exact hb.block g (Nat.lt_succ_self g)
/-- s[1:] -/
theorem Row.tail {w : World} {b : Nat} {e : TypeId} {g o n c : Nat} {xs : List Value} (h : Row w b e 1 (.slice (some ⟨g, o, none⟩) (n + 1) c) (n + 1) xs) :
    Row w b e 1 (.slice (if c = 1 then some ⟨g, o, none⟩ else some ⟨g, o + 1, none⟩) n (c - 1)) n xs.tail := by
  have hl := h.1
  refine ⟨by rw [List.length_tail]; omega, ?_⟩
  rcases h.2 with ⟨hv, _⟩ | ⟨g', o', c', cur, fr, hv, hb, hg, hc, hm, hs, hf, ht⟩
  · cases hv
  · injection hv with hv _ hcc
    injection hv with hv
    injection hv with h1 h2
    subst h1; subst h2; subst hcc
    by_cases h1 : c = 1
    · obtain rfl : n = 0 := by omega
      rw [if_pos h1]
      refine .inr ⟨g, o, c - 1, cur, fr, rfl, hb, hg, by omega, by omega, by omega, fun i hi => by omega, ?_⟩
      rw [Nat.zero_mul, List.take_zero]
      exact (List.eq_nil_of_length_eq_zero (by rw [List.length_tail]; omega)).symm
    · rw [if_neg h1]
      refine .inr ⟨g, o + 1, c - 1, cur, fr, rfl, hb, hg, by omega, by omega, by omega, fun i hi => by have := hf (1 + i) (by omega); omega, ?_⟩
      rw [← ht, ← List.drop_drop, ← List.drop_one, List.drop_take]
      congr 1
theorem infoBlk : (Try.prog.info? 27).map (fun i => (i.zero, i.size, i.bytes)) = some (some (.agg #[.int .i64 0, .int .i64 0, .bool false, .bool false]), 4, 24) := by kernel_rfl
theorem make_blks (n : Nat) (h : n ≤ 1000000) (W : World) :
    (Instr.makeSlice 23 (.int .i64 (n : Int)) (.int .i64 (n : Int))).run Try.prog W = .ok (.slice (some ⟨W.heap.size, 0, none⟩) n n) (W.alloc (.cells (madeCells #[.int .i64 0, .int .i64 0, .bool false, .bool false] (n * 4)) 27)) := by
  obtain ⟨i, hi, hzz⟩ := Option.map_eq_some_iff.1 infoBlk
  simp only [Prod.mk.injEq] at hzz
  obtain ⟨hz, hs, hb⟩ := hzz
  have hr := run_make (P := Try.prog) W 23 27 i _ Try.underlying23 hi hz .i64 .i64 n n (by omega) (Int.le_refl _) (by rw [hb]; omega) (by omega)
  rw [Int.toNat_natCast, hs] at hr
  exact hr
theorem Blks.made (w : World) (b n : Nat) (hb : b ≤ w.heap.size) (hn : n ≤ 1000000) :
    Blks (w.alloc (.cells (madeCells #[.int .i64 0, .int .i64 0, .bool false, .bool false] (n * 4)) 27)) b w.heap.size n (fun _ => 0) (fun _ => false) := by
  have h := Row.lit w b 27 4 (madeCells #[.int .i64 0, .int .i64 0, .bool false, .bool false] (n * 4)) n hb (by simp only [maxLen]; omega) (by simp [size_madeCells])
  have e : (madeCells #[.int .i64 0, .int .i64 0, .bool false, .bool false] (n * 4)).toList = blkV (fun _ => 0) (fun _ => false) n := by
    apply List.ext_getElem
    · simp [size_madeCells, blkV_length]
    · intro j h1 h2
      simp only [madeCells, blkV, Array.getElem_toList, Array.getElem_map, Array.getElem_range, List.getElem_map, List.getElem_range]
      unfold cellOf
      have h4 : j % 4 < 4 := Nat.mod_lt _ (by omega)
      have e4 : j % (#[Value.int IntKind.i64 0, .int .i64 0, .bool false, .bool false] : Array Value).size = j % 4 := rfl
      rw [e4]
      rcases (show j % 4 = 0 ∨ j % 4 = 1 ∨ j % 4 = 2 ∨ j % 4 = 3 by omega) with h | h | h | h <;> rw [h] <;> rfl
  rwa [e] at h
end Go.Proofs.Ytaganococolodaa
