/-
  Slices of numbers and of texts as lists: what they hold, how they are copied and made.
-/
import Derived.Test.YtaganococolodaaProg
import Derived.Test.YtaganococolodaaMem
import Derived.WalkKit
import Derived.WalkSpells
import Derived.WalkLawsBesides
import Derived.RegionTactic
import Derived.BigRegion
import Derived.OwnWalk
import Derived.Deep.DeepCutAuto
import Derived.Deep.RegionWith
import Derived.Deep.RegionLaw
namespace Go.Proofs.Ytaganococolodaa
open Go.RowKit

def intsV (l : List Int) : List Value := l.map fun i => .int .i64 i
def strsV (l : List ByteArray) : List Value := l.map fun s => .string s
theorem intsV_append (l m : List Int) : intsV (l ++ m) = intsV l ++ intsV m := by simp [intsV]
theorem strsV_append (l m : List ByteArray) : strsV (l ++ m) = strsV l ++ strsV m := by simp [strsV]
theorem intsV_length (l : List Int) : (intsV l).length = l.length := by simp [intsV]
theorem strsV_length (l : List ByteArray) : (strsV l).length = l.length := by simp [strsV]
theorem intsV_one (l : List Int) : ∀ u ∈ intsV l, u.oneCell' = true := by
  intro u hu
  simp only [intsV, List.mem_map] at hu
  obtain ⟨b, _, rfl⟩ := hu
  rfl
theorem strsV_one (l : List ByteArray) : ∀ u ∈ strsV l, u.oneCell' = true := by
  intro u hu
  simp only [strsV, List.mem_map] at hu
  obtain ⟨b, _, rfl⟩ := hu
  rfl
theorem Rd.congr {w : World} {A : Option Addr} {len : Nat} {f g : Nat → Value} (h : Rd w A len f) (e : ∀ i, i < len → f i = g i) : Rd w A len g := by
  intro k hk
  obtain ⟨b, off, h1, h2, h3⟩ := h k hk
  exact ⟨b, off, h1, h2, by rw [h3, e k hk]⟩
/-- What is handed in may be appended. -/
theorem Src.of_rd {w : World} {A : Option Addr} {len cap : Nat} {f : Nat → Value} (h : Rd w A len f) : Src w 1 (.slice A len cap) len ((List.range len).map f) := by
  refine ⟨by simp, ?_⟩
  rcases A with _ | a
  · by_cases h0 : len = 0
    · exact .inl ⟨⟨cap, rfl⟩, h0⟩
    · obtain ⟨b, off, hA, _⟩ := h 0 (by omega)
      cases hA
  · refine .inr ⟨a, cap, rfl, fun j u hu => ?_⟩
    by_cases hj : j < len
    · obtain ⟨b, off, hA, _, hc⟩ := h j hj
      injection hA with hA
      subst hA
      rw [add_plain, hc]
      simpa [hj] using hu
    · rw [List.getElem?_eq_none (by simp; omega)] at hu
      cases hu
/-- A row is a slice that is read. -/
theorem Row.read {w : World} {base : Nat} {e : TypeId} {v : Value} {n : Nat} {xs : List Value} (h : Row w base e 1 v n xs) : ∃ A c, v = .slice A n c ∧ n ≤ c ∧ c ≤ maxLen ∧ Rd w A n (fun k => xs.getD k undef) := by
  have h2 : ∃ A c, v = .slice A n c ∧ n ≤ c ∧ c ≤ maxLen := by
    rcases h.2 with ⟨rfl, rfl⟩ | ⟨g, off, cap, cur, fr, rfl, hb, hg, hc, hm, _⟩
    · exact ⟨none, 0, rfl, Nat.le_refl _, Nat.zero_le _⟩
    · exact ⟨_, cap, rfl, hc, hm⟩
  obtain ⟨A, c, rfl, h3, h4⟩ := h2
  exact ⟨A, c, rfl, h3, h4, Rd.of_row h⟩
theorem Row.readInts {w : World} {base : Nat} {e : TypeId} {v : Value} {n : Nat} {l : List Int} (h : Row w base e 1 v n (intsV l)) : ∃ A c, v = .slice A n c ∧ n = l.length ∧ n ≤ c ∧ c ≤ 9223372036854775807 ∧ Rd w A n (fun k => .int .i64 (l.getD k 0)) := by
  have hl : l.length = n := by have := h.1; rw [intsV_length] at this; omega
  obtain ⟨A, c, rfl, h3, h4, h5⟩ := h.read
  refine ⟨A, c, rfl, hl.symm, h3, h4, h5.congr fun i hi => ?_⟩
  simp [intsV, List.getD_eq_getElem?_getD, List.getElem?_eq_getElem (show i < l.length by omega)]
theorem Row.readStrs {w : World} {base : Nat} {e : TypeId} {v : Value} {n : Nat} {l : List ByteArray} (h : Row w base e 1 v n (strsV l)) : ∃ A c, v = .slice A n c ∧ n = l.length ∧ n ≤ c ∧ c ≤ 9223372036854775807 ∧ Rd w A n (fun k => .string (l.getD k ByteArray.empty)) := by
  have hl : l.length = n := by have := h.1; rw [strsV_length] at this; omega
  obtain ⟨A, c, rfl, h3, h4, h5⟩ := h.read
  refine ⟨A, c, rfl, hl.symm, h3, h4, h5.congr fun i hi => ?_⟩
  simp [strsV, List.getD_eq_getElem?_getD, List.getElem?_eq_getElem (show i < l.length by omega)]
theorem range_getD_ints (l : List Int) : (List.range l.length).map (fun i => Value.int .i64 (l.getD i 0)) = intsV l := by
  apply List.ext_getElem
  · simp [intsV]
  · intro i h1 h2
    simp only [List.length_map, List.length_range] at h1
    simp [intsV, List.getD_eq_getElem?_getD, List.getElem?_eq_getElem h1]
theorem range_getD_strs (l : List ByteArray) : (List.range l.length).map (fun i => Value.string (l.getD i ByteArray.empty)) = strsV l := by
  apply List.ext_getElem
  · simp [strsV]
  · intro i h1 h2
    simp only [List.length_map, List.length_range] at h1
    simp [strsV, List.getD_eq_getElem?_getD, List.getElem?_eq_getElem h1]
/-- One cell that is read, in all later worlds. -/
theorem Rd.cells {w : World} {A : Option Addr} {n : Nat} {f : Nat → Value} (h : Rd w A n f) {k : Nat} (hk : k < n) : ∃ b off, A = some ⟨b, off, none⟩ ∧ ∀ B wz, w.heap.size ≤ B → Below B w wz → wz.cell? ⟨b, off + k, none⟩ = some (f k) := by
  obtain ⟨b, off, h1, h2, h3⟩ := h k hk
  exact ⟨b, off, h1, fun B wz hB hz => (hz.cell (p := ⟨b, off + k, none⟩) (Nat.lt_of_lt_of_le h2 hB)).trans h3⟩
theorem infoInt : (Try.prog.info? 3).map (fun i => (i.zero, i.size, i.bytes)) = some (some (.int .i64 0), 1, 8) := by kernel_rfl
theorem infoU8 : (Try.prog.info? 5).map (fun i => (i.zero, i.size, i.bytes)) = some (some (.int .u8 0), 1, 1) := by kernel_rfl
theorem infoStr : (Try.prog.info? 9).map (fun i => (i.zero, i.size, i.bytes)) = some (some (.string ByteArray.empty), 1, 16) := by kernel_rfl

section
variable {P : Program} {ops : Array Oper} {o : Oper} {a : Act} {K : Act → World → Prop} {Q : Exit → Act → World → Prop} {E : Prop}
/-- append(s, x...) as one step of a region that draws its order. -/
theorem step_append_row {W w0 : World} (base : Nat) (hgd : o.guard = none) (s x : Operand) (t e : TypeId) (size bytes : Nat) (z : Value)
    (ho : o.op = .call { callee := .builtin .append, args := #[s, x], argTypes := #[t, t] })
    (ht : P.underlying t = some (.slice e)) (hinfo : (P.info? e).map (fun i => (i.zero, i.size, i.bytes)) = some (some z, size, bytes)) (hzs : z.cells.size = size) (hsz : 0 < size)
    (v : Value) (n : Nat) (xs : List Value) (y : Value) (m : Nat) (ys : List Value) (hs : a.eval s = v) (hx : a.eval x = y)
    (HR : Row W base e size v n xs) (HS : Src W size y m ys) (h1 : ∀ u ∈ ys, u.oneCell' = true) (HB : Below base w0 W) (hbase : base ≤ W.heap.size) (hl : (n + m) * bytes ≤ 140737488355328) (hm : n + m ≤ maxLen)
    (h : ∀ v1 w1, Row w1 base e size v1 (n + m) (xs ++ ys) → Below base w0 w1 → W.grownBy w1 v.ownBlock → (v1.ownBlock = v.ownBlock ∨ v1.ownBlock = some W.heap.size) → K (a.put o.dst v1) w1) :
    if Region.wanted o (yielded ops a.tmps) = true then Oper.wp P o a W K Q else E := by
  obtain ⟨v1, w1, hr, h2, h3, h4⟩ := run_append_row (P := P) W base t o.type e size bytes z ht hinfo hzs hsz v n xs HR y m ys HS h1 hm hl hbase
  have hw : Region.wanted o (yielded ops a.tmps) = true := by simp [Region.wanted, hgd]
  rw [if_pos hw]
  unfold Oper.wp execOp
  simp only [ho, resolve, invoke, builtin, Sem.run_bind, Sem.run_pure, Result.andThen_ok, List.map_toArray, List.map_cons, List.map_nil, hs, hx, hr]
  exact h v1 w1 h2 (HB.grown h3 hbase (fun k hk => (HR.blk k hk).1)) h3 h4
end
/-- s[:j] and s[j:] of a slice that has a block. -/
theorem cut_to {P : Program} (t e : TypeId) (ht : P.underlying t = some (.slice e)) (hsz : (P.info? e).map (·.size) = some 1) (b off n c j : Nat) (hj : j ≤ c) (W : World) :
    (Instr.slice t (.slice (some ⟨b, off, none⟩) n c) none (some (.int .i64 (j : Int))) none).run P W = .ok (.slice (some ⟨b, off, none⟩) j c) W := by
  obtain ⟨i, hi, hsz⟩ := Option.map_eq_some_iff.1 hsz
  have he : P.elem t = e := by simp [Program.elem, ht]
  rw [run_slice_h W t (some ⟨b, off, none⟩) n c (by rw [he]; exact ht) .i64 j (by omega) (by omega)]
  simp [sizeOf, typeInfo, he, hi, sliced, Addr.add]
theorem cut_from {P : Program} (t e : TypeId) (ht : P.underlying t = some (.slice e)) (hsz : (P.info? e).map (·.size) = some 1) (b off n c j : Nat) (hj : j ≤ n) (W : World) :
    (Instr.slice t (.slice (some ⟨b, off, none⟩) n c) (some (.int .i64 (j : Int))) none none).run P W = .ok (.slice (if c = j then some ⟨b, off, none⟩ else some ⟨b, off + j, none⟩) (n - j) (c - j)) W := by
  obtain ⟨i, hi, hsz⟩ := Option.map_eq_some_iff.1 hsz
  have he : P.elem t = e := by simp [Program.elem, ht]
  rw [run_slice_l W t (some ⟨b, off, none⟩) n c (by rw [he]; exact ht) .i64 j (by omega) (by omega)]
  simp [sizeOf, typeInfo, he, hi, sliced, add_plain, hsz]
end Go.Proofs.Ytaganococolodaa
