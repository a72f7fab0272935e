/-
  Inodes, names and labels as texts.
-/
import Derived.Test.YtdjkcmjhknabnaaDoorNodeMade
import Derived.Test.YtdjkcmjhknabnaaDoorRel
namespace Go.Proofs.YtdjkcmjhknabnaaDoor
open Go.RowKit

/-- One byte's text. -/
abbrev byteB (x : UInt8) : ByteArray := ⟨#[x]⟩
abbrev flagB (b : Bool) : UInt8 := if b then 1 else 0
theorem flag_nat (b : Bool) : ((flagB b).toNat : Int) = bitI b := by cases b <;> rfl
theorem row_text {W : World} {g : Nat} {cs : Array Value} {l : List UInt8} {n : Nat} (hn : l.length = n) (hc : cs.toList = bytesV l) (hm : n ≤ maxLen) (hw : W.heap[g]? = some (.cells cs 5 (0, 0))) :
    (convert 42 9 (.slice (some ⟨g, 0, none⟩) n n)).run Tryd.prog W = .ok (.string ⟨l.toArray⟩) W := by
  have hs : cs.size = n := by rw [← Array.length_toList, hc, bytesV_length, hn]
  have h : Row W 0 5 1 (.slice (some ⟨g, 0, none⟩) n n) n (bytesV l) := ⟨by simp [bytesV_length, hn], .inr ⟨_, 0, n, _, _, rfl, Nat.zero_le _, hw, Nat.le_refl _, hm, by omega, fun i _ => by simp only []; omega, by rw [List.drop_zero, hc, List.take_of_length_le (by simp [bytesV, hn])]⟩⟩
  exact h.toString Tryd.underlying42 Tryd.underlying5 Tryd.underlying9
theorem rd_ints {w : World} {g : Nat} {cs : Array Value} {l : List Int} {t : TypeId} {n : Nat} (hl : l.length = n) (hc : cs.toList = intsV l) (h : w.heap[g]? = some (.cells cs t (0, 0))) : Rd w (some ⟨g, 0, none⟩) n (fun i => .int .i64 (l.getD i 0)) := by
  intro k hk
  have hg : g < w.heap.size := by
    rcases Nat.lt_or_ge g w.heap.size with h1 | h1
    · exact h1
    · rw [Array.getElem?_eq_none h1] at h; cases h
  refine ⟨_, 0, rfl, hg, ?_⟩
  have hk2 : cs[k]? = some (.int .i64 (l.getD k 0)) := by
    rw [← Array.getElem?_toList, hc]
    simp [intsV, List.getD, show k < l.length by omega]
  have := cell_of_row w g k cs t (0, 0) h
  rw [Nat.zero_add]
  rw [this, hk2]

theorem numsB_size (l : List Int) : (numsB l).size = 8 * l.length := by rw [← data_len]; exact numsL_length l

def inodeB (d : Bool) (a b : Int) : ByteArray := byteB (flagB d) ++ numsB [a, b]
end Go.Proofs.YtdjkcmjhknabnaaDoor
