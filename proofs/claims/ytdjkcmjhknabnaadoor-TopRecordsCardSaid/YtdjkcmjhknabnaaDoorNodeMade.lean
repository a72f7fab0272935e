/-
  A node: which are good.
-/
import Derived.Test.YtdjkcmjhknabnaaDoorNodeNums
namespace Go.Proofs.YtdjkcmjhknabnaaDoor
open Go.RowKit

/-- A node as the code holds it. -/
abbrev nodeV (q : Int) (g l : Bool) (k v : ByteArray) : Value := .agg #[.int .i64 q, .bool g, .bool l, .string k, .string v]
abbrev nodeC (q : Int) (g l : Bool) (k v : ByteArray) : Array Value := #[.int .i64 q, .bool g, .bool l, .string k, .string v]
def goodN (q : Int) (g : Bool) (k v : ByteArray) : Bool :=
  decide (0 ≤ q ∧ q ≤ 1099511627776 ∧ 1 ≤ k.size ∧ k.size ≤ 64 ∧ v.size ≤ 200 ∧ (g = true → v.size = 0))
theorem toList_empty (s : ByteArray) : s.toList.isEmpty = decide (s.size = 0) := by
  rw [ByteArray.toList_eq, Bool.eq_iff_iff]
  simp only [List.isEmpty_iff, decide_eq_true_eq, ← List.length_eq_zero_iff, data_len]
theorem ret_bool {a b : Bool} (h : a = b) : Ending.returned (.bool a) = .returned (.bool b) := by rw [h]
theorem rd_one {w : World} {g : Nat} {x : Int} {t : TypeId} (h : w.heap[g]? = some (.cells #[.int .i64 x] t (0, 0))) : Rd w (some ⟨g, 0, none⟩) 1 (fun i => .int .i64 ([x].getD i 0)) := by
  intro k hk
  obtain rfl : k = 0 := by omega
  have hg : g < w.heap.size := by
    rcases Nat.lt_or_ge g w.heap.size with h1 | h1
    · exact h1
    · rw [Array.getElem?_eq_none h1] at h; cases h
  exact ⟨_, 0, rfl, hg, cell_of_row _ g 0 _ _ _ h⟩
theorem new_two (w : World) (A B : Obj) : ((w.alloc A).alloc B).heap[w.heap.size + 1]? = some B := by
  have := heap_alloc_new (w.alloc A) B
  rwa [World.size_alloc] at this

set_option maxHeartbeats 1000000 in
theorem node_good (q : Int) (g l : Bool) (k v : ByteArray) (w : World) :
    Calls Tryd.prog 13 #[nodeV q g l k v] w fun e w' => e = .returned (.bool (goodN q g k v)) ∧ Below w.heap.size w w' := by
  have he := toList_empty k
  have hv := toList_empty v
  have HF : ∀ (W : World) (gg : Nat), W.heap[gg]? = some (.cells #[.int .i64 q] 3 (0, 0)) → Calls Tryd.prog 24 #[.slice (some ⟨gg, 0, none⟩) 1 1] W fun e w' => e = .returned (.bool (fitsB q)) ∧ W = w' := fun W gg hw => by
    have := node_fits (some ⟨gg, 0, none⟩) 1 1 [q] W rfl (by omega) (rd_one hw)
    simpa using this
  have hF := Aside.mk HF
  clear HF
  obtain ⟨f, hf⟩ : ∃ f, f = fitsB q := ⟨_, rfl⟩
  have HQ := Aside.mk hf
  rw [← hf] at hF
  clear hf
  have hk3 : (k.size = 0 ∧ k.toList.isEmpty = true) ∨ (k.toList.isEmpty = false ∧ 1 ≤ k.size ∧ k.size ≤ 64) ∨ (k.toList.isEmpty = false ∧ 64 < k.size) := by
    rw [he]; simp only [decide_eq_true_eq, decide_eq_false_iff_not]; omega
  have hv3 : (v.size = 0 ∧ v.toList.isEmpty = true) ∨ (v.toList.isEmpty = false ∧ 1 ≤ v.size ∧ v.size ≤ 200) ∨ (v.toList.isEmpty = false ∧ 200 < v.size) := by
    rw [hv]; simp only [decide_eq_true_eq, decide_eq_false_iff_not]; omega
  clear he hv
  have fin : ∀ b : Bool, (b = true ↔ 0 ≤ q ∧ q ≤ 1099511627776 ∧ 1 ≤ k.size ∧ k.size ≤ 64 ∧ v.size ≤ 200 ∧ (g = true → v.size = 0)) → Ending.returned (.bool b) = .returned (.bool (goodN q g k v)) := fun b hb => ret_bool (by rw [Bool.eq_iff_iff, hb]; simp only [goodN, decide_eq_true_eq])
  have HE := Aside.mk fin
  clear fin
  generalize goodN q g k v = r at *
  rcases hk3 with ⟨hk1, hk2⟩ | ⟨hk2, hk1, hk3⟩ | ⟨hk2, hk1⟩ <;> rcases hv3 with ⟨hv1, hv2⟩ | ⟨hv2, hv1, hv3⟩ | ⟨hv2, hv1⟩ <;> cases f <;> cases g
  all_goals
    go_enter Tryd.func13, Tryd.ntmps13
    go_wp2_with (go_at_call 24; refine (hF.out _ _ (new_two w _ _)).mono ?_; rintro e w1 ⟨rfl, rfl⟩)
    go_ret
    refine ⟨HE.out _ ?_, ((Below.refl _ _).alloc (Nat.le_refl _) _).alloc (by simp) _⟩
    have hq := HQ.out.symm
    clear HQ hF HE
    simp only [fitsB, decide_eq_true_eq, decide_eq_false_iff_not] at hq
    simp only [Bool.false_eq_true, false_iff, true_iff, false_implies, and_true, forall_const]
    omega
end Go.Proofs.YtdjkcmjhknabnaaDoor
