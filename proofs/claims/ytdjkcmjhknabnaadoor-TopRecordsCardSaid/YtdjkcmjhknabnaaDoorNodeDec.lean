/-
  Reading a node: the ways that end early.
-/
import Derived.Test.YtdjkcmjhknabnaaDoorNodeEncRef
import Derived.Test.YtdjkcmjhknabnaaDoorRelTail
import Derived.Test.YtdjkcmjhknabnaaDoorCells
namespace Go.Proofs.YtdjkcmjhknabnaaDoor
open Go.RowKit

abbrev noNode : Value := nodeV 0 false false ⟨#[]⟩ ⟨#[]⟩
abbrev decE (e : Int) : Value := .tuple #[noNode, .int .i64 0, .int .i64 e]

set_option maxHeartbeats 1000000 in
theorem node_decode_arg (s : ByteArray) (n : Int) (w : World) (h : n < 0 ∨ (s.size : Int) < n) :
    Calls Tryd.prog 7 #[.string s, .int .i64 n] w fun e w' => e = .returned (decE 1) ∧ Below w.heap.size w w' := by
  have h2 : n < 0 ∨ 0 ≤ n ∧ (s.size : Int) < n := by omega
  clear h
  rcases h2 with h | ⟨h, h'⟩
  all_goals
    go_enter Tryd.func7, Tryd.ntmps7
    go_wp2
    exact bodyPost_ret (v := decE 1) (by simp [results, Tryd.results7, go_sem]) rfl ⟨rfl, (Below.refl _ _).alloc (Nat.le_refl _) _⟩
set_option maxHeartbeats 1000000 in
theorem node_decode_none (s : ByteArray) (n : Nat) (w : World) (hn : n < s.size) (h : s[n] = 0) :
    Calls Tryd.prog 7 #[.string s, .int .i64 n] w fun e w' => e = .returned (decE 3) ∧ Below w.heap.size w w' := by
  have h0 : s[n].toNat = 0 := by rw [h]; rfl
  have h1 : (n : Int) < s.size := by omega
  clear h
  go_enter Tryd.func7, Tryd.ntmps7
  go_wp2
  exact bodyPost_ret (v := decE 3) (by simp [results, Tryd.results7, go_sem]) rfl ⟨rfl, (Below.refl _ _).alloc (Nat.le_refl _) _⟩
set_option maxHeartbeats 1000000 in
theorem node_decode_end (s : ByteArray) (w : World) :
    Calls Tryd.prog 7 #[.string s, .int .i64 s.size] w fun e w' => e = .returned (decE 3) ∧ Below w.heap.size w w' := by
  go_enter Tryd.func7, Tryd.ntmps7
  go_wp2
  exact bodyPost_ret (v := decE 3) (by simp [results, Tryd.results7, go_sem]) rfl ⟨rfl, (Below.refl _ _).alloc (Nat.le_refl _) _⟩
set_option maxHeartbeats 1000000 in
theorem node_decode_form (s : ByteArray) (n : Nat) (w : World) (hn : n < s.size) (h : s[n] ≠ 0) (h' : s[n] ≠ 78) :
    Calls Tryd.prog 7 #[.string s, .int .i64 n] w fun e w' => e = .returned (decE 4) ∧ Below w.heap.size w w' := by
  have h0 : ((s[n].toNat : Int) == 0) = false := by simp; intro h2; exact h (UInt8.toNat_inj.1 (by simpa using h2))
  have h3 : ((s[n].toNat : Int) == 78) = false := by simp; intro h2; exact h' (UInt8.toNat_inj.1 (by simp; omega))
  have h1 : (n : Int) < s.size := by omega
  clear h h'
  go_enter Tryd.func7, Tryd.ntmps7
  go_wp2
  exact bodyPost_ret (v := decE 4) (by simp [results, Tryd.results7, go_sem]) rfl ⟨rfl, (Below.refl _ _).alloc (Nat.le_refl _) _⟩
theorem fin5 {W : World} {g : Nat} {q0 : Int} {g0 l0 : Bool} {k0 v0 : ByteArray} {t : TypeId} (h : W.heap[g]? = some (.cells (nodeC q0 g0 l0 k0 v0) t (0, 0))) (q : Int) (gg l : Bool) (k v : ByteArray) :
    (((((W.setCell ⟨g, 0, none⟩ (.int .i64 q)).setCell ⟨g, 1, none⟩ (.bool gg)).setCell ⟨g, 2, none⟩ (.bool l)).setCell ⟨g, 3, none⟩ (.string k)).setCell ⟨g, 4, none⟩ (.string v)).heap[g]? = some (.cells (nodeC q gg l k v) t (0, 0)) :=
  row_set (row_set (row_set (row_set (row_set h _) _) _) _) _
theorem below_set5 {B : Nat} {w W : World} (h : Below B w W) (g : Nat) (hg : B ≤ g) (a b c d e : Value) : Below B w (((((W.setCell ⟨g, 0, none⟩ a).setCell ⟨g, 1, none⟩ b).setCell ⟨g, 2, none⟩ c).setCell ⟨g, 3, none⟩ d).setCell ⟨g, 4, none⟩ e) :=
  ((((h.setCell hg _).setCell hg _).setCell hg _).setCell hg _).setCell hg _

end Go.Proofs.YtdjkcmjhknabnaaDoor
