/-
  A code in memory: its block of thirteen cells, the field among them.
-/
import Derived.Test.YtkdfbganhohbfaaDoorPolyGen
namespace Go.Proofs.YtkdfbganhohbfaaDoor
open Go.RowKit

/-- What stands around the field of a code. -/
@[reducible] def hst (t n : Nat) (d s m dg lo : Value) : Host := ⟨.int .i64 (t : Int), .int .i64 (n : Int), d, s, m, dg, lo⟩
/-- A code's block, and its field, fresh or with its tables. -/
def CF (w : World) (c t n : Nat) (d s m dg lo : Value) (q : Nat) : Prop := @Fld (hst t n d s m dg lo) w c q
section
variable {w w' : World} {c t n q : Nat} {d s m dg lo : Value}
theorem CF.lt (h : CF w c t n d s m dg lo q) : c < w.heap.size := @Fld.lt (hst t n d s m dg lo) _ _ _ h
theorem CF.blk (h : CF w c t n d s m dg lo q) : ∃ fd fs fm ev lv p, w.heap[c]? = some (.cells #[.int .i64 (t : Int), .int .i64 (n : Int), d, s, m, fd, fs, fm, ev, lv, p, dg, lo] 52 (0, 0)) := by
  rcases h with h | ⟨ge, gl, ⟨hfb, _, _, _⟩⟩
  · exact ⟨_, _, _, _, _, _, h⟩
  · exact ⟨_, _, _, _, _, _, hfb⟩
theorem CF.c0 (h : CF w c t n d s m dg lo q) : w.cell? ⟨c, 0, none⟩ = some (.int .i64 (t : Int)) := by obtain ⟨_, _, _, _, _, _, h⟩ := h.blk; exact cell_of_row w c 0 _ _ _ h
theorem CF.c1 (h : CF w c t n d s m dg lo q) : w.cell? ⟨c, 1, none⟩ = some (.int .i64 (n : Int)) := by obtain ⟨_, _, _, _, _, _, h⟩ := h.blk; exact cell_of_row w c 1 _ _ _ h
theorem CF.c2 (h : CF w c t n d s m dg lo q) : w.cell? ⟨c, 2, none⟩ = some d := by obtain ⟨_, _, _, _, _, _, h⟩ := h.blk; exact cell_of_row w c 2 _ _ _ h
theorem CF.c3 (h : CF w c t n d s m dg lo q) : w.cell? ⟨c, 3, none⟩ = some s := by obtain ⟨_, _, _, _, _, _, h⟩ := h.blk; exact cell_of_row w c 3 _ _ _ h
theorem CF.c11 (h : CF w c t n d s m dg lo q) : w.cell? ⟨c, 11, none⟩ = some dg := by obtain ⟨_, _, _, _, _, _, h⟩ := h.blk; exact cell_of_row w c 11 _ _ _ h
theorem CF.c12 (h : CF w c t n d s m dg lo q) : w.cell? ⟨c, 12, none⟩ = some lo := by obtain ⟨_, _, _, _, _, _, h⟩ := h.blk; exact cell_of_row w c 12 _ _ _ h
theorem CF.free (h : CF w c t n d s m dg lo q) (i : Nat) : w.frozen? ⟨c, i, none⟩ = false := by
  obtain ⟨_, _, _, _, _, _, h⟩ := h.blk
  simp only [World.frozen?, h]
  simp
/-- What stands around the field is written. -/
theorem Fld.host {H H' : Host} (h : @Fld H w c q) (hg : w.grownBy w' (some c)) (hb : ∀ d s m ev lv p, @FB H w c d s m ev lv p → @FB H' w' c d s m ev lv p) : @Fld H' w' c q := by
  rcases h with h | ⟨ge, gl, ⟨hfb, hex, hlg, hne⟩⟩
  · exact .inl (hb _ _ _ _ _ _ h)
  · exact .inr ⟨ge, gl, hb _ _ _ _ _ _ hfb, hex.kept hg (.inr (by have := hne.1; simpa [Value.ownBlock] using this)), hlg.kept hg (.inr (by have := hne.2; simpa [Value.ownBlock] using this)), hne⟩
theorem CF.set2 (h : CF w c t n d s m dg lo q) (v : Value) : CF (w.setCell ⟨c, 2, none⟩ v) c t n v s m dg lo q :=
  Fld.host h (grownBy_setCell w c 2 v) fun _ _ _ _ _ _ hb => by letI := hst t n d s m dg lo; exact FB.set hb 2 v
theorem CF.set3 (h : CF w c t n d s m dg lo q) (v : Value) : CF (w.setCell ⟨c, 3, none⟩ v) c t n d v m dg lo q :=
  Fld.host h (grownBy_setCell w c 3 v) fun _ _ _ _ _ _ hb => by letI := hst t n d s m dg lo; exact FB.set hb 3 v
theorem CF.set11 (h : CF w c t n d s m dg lo q) (v : Value) : CF (w.setCell ⟨c, 11, none⟩ v) c t n d s m v lo q :=
  Fld.host h (grownBy_setCell w c 11 v) fun _ _ _ _ _ _ hb => by letI := hst t n d s m dg lo; exact FB.set hb 11 v
theorem CF.set12 (h : CF w c t n d s m dg lo q) (v : Value) : CF (w.setCell ⟨c, 12, none⟩ v) c t n d s m dg v q :=
  Fld.host h (grownBy_setCell w c 12 v) fun _ _ _ _ _ _ hb => by letI := hst t n d s m dg lo; exact FB.set hb 12 v
theorem CF.below (h : CF w c t n d s m dg lo q) (hb : Below w.heap.size w w') : CF w' c t n d s m dg lo q := @Fld.below (hst t n d s m dg lo) _ _ _ _ h hb
theorem CF.drewN (h : CF w c t n d s m dg lo q) (k : Nat) : CF (w.drewN k) c t n d s m dg lo q := h.below ⟨rfl, rfl, rfl, Nat.le_refl _, fun _ _ => rfl⟩
theorem CF.drew (h : CF w c t n d s m dg lo q) : CF w.drew c t n d s m dg lo q := h.below ⟨rfl, rfl, rfl, Nat.le_refl _, fun _ _ => rfl⟩
theorem CF.off {b k : Nat} {e : TypeId} {v : Value} {xs : List Value} (h : CF w c t n d s m dg lo q) (hs : Row w b e 1 v k xs) (he : e ≠ 52) : v.ownBlock ≠ some c := by
  intro e1
  obtain ⟨_, _, cur, fr, h1⟩ := hs.blk c e1
  obtain ⟨_, _, _, _, _, _, h2⟩ := h.blk
  rw [h1] at h2
  simp only [Option.some.injEq, Obj.cells.injEq] at h2
  exact he h2.2.1
/-- A row of bytes is written. -/
theorem CF.bytes {b k : Nat} {v : Value} {xs : List Value} (h : CF w c t n d s m dg lo q) (hs : Row w b 5 1 v k xs) (hg : w.grownBy w' v.ownBlock) : CF w' c t n d s m dg lo q := by
  have hf : some c ≠ v.ownBlock := by
    intro e
    obtain ⟨_, _, cur, fr, h1⟩ := hs.blk c e.symm
    obtain ⟨_, _, _, _, _, _, h2⟩ := h.blk
    rw [h1] at h2
    simp only [Option.some.injEq, Obj.cells.injEq] at h2
    exact absurd h2.2.1 (by decide)
  letI := hst t n d s m dg lo
  rcases h with h | ⟨ge, gl, h⟩
  · exact .inl (FB.kept h hg hf)
  · refine .inr ⟨ge, gl, h.kept hg hf ?_ ?_⟩
    · have := Row.other h.ex hs (by decide)
      simpa [Value.ownBlock] using this
    · have := Row.other h.lg hs (by decide)
      simpa [Value.ownBlock] using this
end
/-- A new code. -/
theorem CF.new (w : World) (t n : Nat) : CF (w.alloc (.cells #[.int .i64 (t : Int), .int .i64 (n : Int), .int .u32 0, .int .i32 0, .int .u32 0, .int .u32 0, .int .i32 0, .int .u32 0, .slice none 0 0, .slice none 0 0, .int .i64 0, .int .i64 0, .slice none 0 0] 52)) w.heap.size t n (.int .u32 0) (.int .i32 0) (.int .u32 0) (.int .i64 0) (.slice none 0 0) 0 := .inl (heap_alloc_new w _)
/-! ### Bytes -/
theorem u8_toNat {a : Nat} (ha : a < 256) : (BitVec.ofInt 64 (a : Int)).toNat = a := i64_toNat (by omega)
theorem u8_or {a b : Nat} (ha : a < 256) (hb : b < 256) : bits .or .u8 (a : Int) (b : Int) = ((a ||| b : Nat) : Int) := by
  have hx : a ||| b < 2 ^ 8 := Nat.or_lt_two_pow (by omega) (by omega)
  show IntKind.u8.wrap ((BitVec.ofInt 8 (a : Int) ||| BitVec.ofInt 8 (b : Int)).toNat : Int) = _
  rw [BitVec.toNat_or, BitVec.toNat_ofInt, BitVec.toNat_ofInt]
  have e1 : ((a : Int) % ((2 ^ 8 : Nat) : Int)).toNat = a := by omega
  have e2 : ((b : Int) % ((2 ^ 8 : Nat) : Int)).toNat = b := by omega
  rw [e1, e2, IntKind.wrap_u8]
  omega
end Go.Proofs.YtkdfbganhohbfaaDoor
