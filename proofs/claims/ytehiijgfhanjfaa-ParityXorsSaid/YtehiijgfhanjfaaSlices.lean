/-
  Slices of numbers and of texts as lists: what they hold, how they are copied and made.
-/
import Derived.Test.YtehiijgfhanjfaaProg
import Derived.Test.YtehiijgfhanjfaaMem
import Derived.WalkKit
import Derived.WalkSpells
import Derived.WalkLawsBesides
import Derived.RegionTactic
import Derived.BigRegion
import Derived.OwnWalk
import Derived.Deep.DeepCutAuto
import Derived.Deep.RegionWith
namespace Go.Proofs.Ytehiijgfhanjfaa
open Go.RowKit

def intsV (l : List Int) : List Value := l.map fun i => .int .i64 i
def strsV (l : List ByteArray) : List Value := l.map fun s => .string s
theorem intsV_append (l m : List Int) : intsV (l ++ m) = intsV l ++ intsV m := by simp [intsV]
theorem strsV_append (l m : List ByteArray) : strsV (l ++ m) = strsV l ++ strsV m := by simp [strsV]
theorem intsV_length (l : List Int) : (intsV l).length = l.length := by simp [intsV]
theorem strsV_length (l : List ByteArray) : (strsV l).length = l.length := by simp [strsV]
theorem intsV_one (l : List Int) : ∀ u ∈ intsV l, u.oneCell' = true := by
  intro u hu
  simp only [intsV, List.mem_map] at hu
  obtain ⟨b, _, rfl⟩ := hu
  rfl
theorem strsV_one (l : List ByteArray) : ∀ u ∈ strsV l, u.oneCell' = true := by
  intro u hu
  simp only [strsV, List.mem_map] at hu
  obtain ⟨b, _, rfl⟩ := hu
  rfl
theorem Rd.congr {w : World} {A : Option Addr} {len : Nat} {f g : Nat → Value} (h : Rd w A len f) (e : ∀ i, i < len → f i = g i) : Rd w A len g := by
  intro k hk
  obtain ⟨b, off, h1, h2, h3⟩ := h k hk
  exact ⟨b, off, h1, h2, by rw [h3, e k hk]⟩
/-- What is handed in may be appended. -/
theorem Src.of_rd {w : World} {A : Option Addr} {len cap : Nat} {f : Nat → Value} (h : Rd w A len f) : Src w 1 (.slice A len cap) len ((List.range len).map f) := by
  refine ⟨by simp, ?_⟩
  rcases A with _ | a
  · by_cases h0 : len = 0
    · exact .inl ⟨⟨cap, rfl⟩, h0⟩
    · obtain ⟨b, off, hA, _⟩ := h 0 (by omega)
      cases hA
  · refine .inr ⟨a, cap, rfl, fun j u hu => ?_⟩
    by_cases hj : j < len
    · obtain ⟨b, off, hA, _, hc⟩ := h j hj
      injection hA with hA
      subst hA
      rw [add_plain, hc]
      simpa [hj] using hu
    · rw [List.getElem?_eq_none (by simp; omega)] at hu
      cases hu
/-- A row is a slice that is read. -/
theorem Row.read {w : World} {base : Nat} {e : TypeId} {v : Value} {n : Nat} {xs : List Value} (h : Row w base e 1 v n xs) : ∃ A c, v = .slice A n c ∧ n ≤ c ∧ c ≤ maxLen ∧ Rd w A n (fun k => xs.getD k undef) := by
  have h2 : ∃ A c, v = .slice A n c ∧ n ≤ c ∧ c ≤ maxLen := by
    rcases h.2 with ⟨rfl, rfl⟩ | ⟨g, off, cap, cur, fr, rfl, hb, hg, hc, hm, _⟩
    · exact ⟨none, 0, rfl, Nat.le_refl _, Nat.zero_le _⟩
    · exact ⟨_, cap, rfl, hc, hm⟩
  obtain ⟨A, c, rfl, h3, h4⟩ := h2
  exact ⟨A, c, rfl, h3, h4, Rd.of_row h⟩
theorem Row.readInts {w : World} {base : Nat} {e : TypeId} {v : Value} {n : Nat} {l : List Int} (h : Row w base e 1 v n (intsV l)) : ∃ A c, v = .slice A n c ∧ n = l.length ∧ n ≤ c ∧ c ≤ 9223372036854775807 ∧ Rd w A n (fun k => .int .i64 (l.getD k 0)) := by
  have hl : l.length = n := by have := h.1; rw [intsV_length] at this; omega
  obtain ⟨A, c, rfl, h3, h4, h5⟩ := h.read
  refine ⟨A, c, rfl, hl.symm, h3, h4, h5.congr fun i hi => ?_⟩
  simp [intsV, List.getD_eq_getElem?_getD, List.getElem?_eq_getElem (show i < l.length by omega)]
theorem Row.readStrs {w : World} {base : Nat} {e : TypeId} {v : Value} {n : Nat} {l : List ByteArray} (h : Row w base e 1 v n (strsV l)) : ∃ A c, v = .slice A n c ∧ n = l.length ∧ n ≤ c ∧ c ≤ 9223372036854775807 ∧ Rd w A n (fun k => .string (l.getD k ByteArray.empty)) := by
  have hl : l.length = n := by have := h.1; rw [strsV_length] at this; omega
  obtain ⟨A, c, rfl, h3, h4, h5⟩ := h.read
  refine ⟨A, c, rfl, hl.symm, h3, h4, h5.congr fun i hi => ?_⟩
  simp [strsV, List.getD_eq_getElem?_getD, List.getElem?_eq_getElem (show i < l.length by omega)]
theorem range_getD_ints (l : List Int) : (List.range l.length).map (fun i => Value.int .i64 (l.getD i 0)) = intsV l := by
  apply List.ext_getElem
  · simp [intsV]
  · intro i h1 h2
    simp only [List.length_map, List.length_range] at h1
    simp [intsV, List.getD_eq_getElem?_getD, List.getElem?_eq_getElem h1]
theorem range_getD_strs (l : List ByteArray) : (List.range l.length).map (fun i => Value.string (l.getD i ByteArray.empty)) = strsV l := by
  apply List.ext_getElem
  · simp [strsV]
  · intro i h1 h2
    simp only [List.length_map, List.length_range] at h1
    simp [strsV, List.getD_eq_getElem?_getD, List.getElem?_eq_getElem h1]
/-- One cell that is read, in all later worlds. -/
theorem Rd.cells {w : World} {A : Option Addr} {n : Nat} {f : Nat → Value} (h : Rd w A n f) {k : Nat} (hk : k < n) : ∃ b off, A = some ⟨b, off, none⟩ ∧ ∀ B wz, w.heap.size ≤ B → Below B w wz → wz.cell? ⟨b, off + k, none⟩ = some (f k) := by
  obtain ⟨b, off, h1, h2, h3⟩ := h k hk
  exact ⟨b, off, h1, fun B wz hB hz => (hz.cell (p := ⟨b, off + k, none⟩) (Nat.lt_of_lt_of_le h2 hB)).trans h3⟩
theorem infoInt : (Try.prog.info? 3).map (fun i => (i.zero, i.size, i.bytes)) = some (some (.int .i64 0), 1, 8) := by kernel_rfl
theorem infoU8 : (Try.prog.info? 5).map (fun i => (i.zero, i.size, i.bytes)) = some (some (.int .u8 0), 1, 1) := by kernel_rfl
theorem infoStr : (Try.prog.info? 9).map (fun i => (i.zero, i.size, i.bytes)) = some (some (.string ByteArray.empty), 1, 16) := by kernel_rfl
theorem make_bytes (m : Nat) (h : m ≤ 281474976710656) (W : World) :
    (Instr.makeSlice 42 (.int .i64 (m : Int)) (.int .i64 (m : Int))).run Try.prog W = .ok (.slice (some ⟨W.heap.size, 0, none⟩) m m) (W.alloc (.cells (madeCells #[.int .u8 0] m) 5)) :=
  run_make_row' 42 5 (.int .u8 0) 1 Try.underlying42 infoU8 rfl .i64 .i64 m (by omega) (by omega) W
end Go.Proofs.Ytehiijgfhanjfaa
