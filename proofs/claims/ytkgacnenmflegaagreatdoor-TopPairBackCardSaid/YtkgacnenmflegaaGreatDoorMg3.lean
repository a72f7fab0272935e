/-
  A chip in memory: its block, the blocks' row, the pages of each block.
  Blocks that were laid in this call and that nobody writes any more: they stay, whatever is called.
  Which pages of a block hold data and which parities: what the program's and the document's functions make.
  What asks a chip before it is changed: has it the page, may the block be changed, is the change torn; a page is written.
-/
import Derived.Test.YtkgacnenmflegaaGreatDoorMg2
import Derived.Test.YtkgacnenmflegaaGreatDoorMg1
namespace Go.Proofs.YtkgacnenmflegaaGreatDoor
open Go.RowKit

/-! ### Rows of structs of k cells -/
def rows (k : Nat) (f : Nat → Nat → Value) (n : Nat) : List Value := (List.range (n * k)).map fun i => f (i / k) (i % k)
theorem rows_len (k : Nat) (f : Nat → Nat → Value) (n : Nat) : (rows k f n).length = n * k := by simp [rows]
theorem rows_lt {k n i j : Nat} (hi : i < n) (hj : j < k) : i * k + j < n * k := by
  have : (i + 1) * k ≤ n * k := Nat.mul_le_mul_right k hi
  rw [Nat.add_mul, Nat.one_mul] at this
  omega
theorem rows_div {k i j : Nat} (hj : j < k) : (i * k + j) / k = i ∧ (i * k + j) % k = j := by
  have h0 : 0 < k := by omega
  constructor
  · rw [Nat.mul_comm, Nat.mul_add_div h0, Nat.div_eq_of_lt hj]; rfl
  · rw [Nat.mul_comm, Nat.mul_add_mod, Nat.mod_eq_of_lt hj]
theorem rows_at {k n : Nat} {f : Nat → Nat → Value} {i j : Nat} (hi : i < n) (hj : j < k) : (rows k f n)[i * k + j]? = some (f i j) := by
  unfold rows
  rw [List.getElem?_map, List.getElem?_range (rows_lt hi hj)]
  simp only [Option.map_some]
  rw [(rows_div hj).1, (rows_div hj).2]
theorem rows_congr {k n : Nat} {f g : Nat → Nat → Value} (h : ∀ i j, i < n → j < k → f i j = g i j) : rows k f n = rows k g n := by
  unfold rows
  refine List.map_congr_left fun x hx => ?_
  have hx := List.mem_range.1 hx
  have h0 : 0 < k := by
    rcases Nat.eq_zero_or_pos k with h | h
    · subst h; simp at hx
    · exact h
  exact h _ _ ((Nat.div_lt_iff_lt_mul h0).2 hx) (Nat.mod_lt _ h0)
theorem rows_set {k n : Nat} {f g : Nat → Nat → Value} {i j : Nat} (hi : i < n) (hj : j < k) (v : Value) (h : ∀ a b, a < n → b < k → g a b = if a = i ∧ b = j then v else f a b) : (rows k f n).set (i * k + j) v = rows k g n := by
  apply List.ext_getElem?
  intro x
  by_cases hx : x < n * k
  · have h0 : 0 < k := by omega
    obtain ⟨a, b, ha, hb, rfl⟩ : ∃ a b, a < n ∧ b < k ∧ x = a * k + b := ⟨x / k, x % k, (Nat.div_lt_iff_lt_mul h0).2 hx, Nat.mod_lt _ h0, by rw [Nat.mul_comm]; exact (Nat.div_add_mod x k).symm⟩
    rw [List.getElem?_set, rows_at ha hb, rows_at ha hb, h a b ha hb]
    by_cases he : a = i ∧ b = j
    · obtain ⟨rfl, rfl⟩ := he
      rw [if_pos rfl, if_pos (by rw [rows_len]; exact rows_lt hi hj), if_pos ⟨rfl, rfl⟩]
    · rw [if_neg he, if_neg]
      intro e
      apply he
      have h1 := rows_div (i := i) hj
      have h2 := rows_div (i := a) hb
      rw [e] at h1
      exact ⟨h2.1.symm.trans h1.1, h2.2.symm.trans h1.2⟩
  · rw [List.getElem?_eq_none (by rw [List.length_set, rows_len]; omega), List.getElem?_eq_none (by rw [rows_len]; omega)]
theorem Chg.setCell {X : Nat → Prop} {w : World} (a : Addr) (v : Value) (h : X a.block) : Chg X (fun _ => True) w (w.setCell a v) :=
  ⟨rfl, rfl, rfl, by simp [World.setCell], fun b _ hx => Below.heap_setCell _ _ _ _ (fun e => hx (e ▸ h)), fun _ => trivial⟩
/-- Only blocks between lo and hi are changed. -/
abbrev InR (lo hi : Nat) (q : Nat) : Prop := lo ≤ q ∧ q < hi
abbrev Mv (lo hi : Nat) (w w' : World) : Prop := Chg (InR lo hi) (fun _ => True) w w'
theorem Mv.below {lo hi : Nat} {w w' : World} (h : Below w.heap.size w w') : Mv lo hi w w' := Chg.of_below h fun _ => trivial
theorem Mv.drew {lo hi : Nat} (w : World) : Mv lo hi w w.drew := ⟨rfl, rfl, rfl, Nat.le_refl _, fun _ _ _ => rfl, fun _ => trivial⟩
theorem Mv.mono {lo hi lo' hi' : Nat} {w w' : World} (h : Mv lo hi w w') (h1 : lo' ≤ lo) (h2 : hi ≤ hi') : Mv lo' hi' w w' := ⟨h.os, h.tape, h.output, h.size, fun b hb hx => h.block b hb fun hy => hx ⟨Nat.le_trans h1 hy.1, Nat.lt_of_lt_of_le hy.2 h2⟩, fun _ => trivial⟩
theorem Mv.row {lo hi : Nat} {w w' : World} {b : Nat} {e : TypeId} {s : Nat} {v : Value} {n : Nat} {xs : List Value} (h : Mv lo hi w w') (hr : Row w b e s v n xs) (hx : ∀ q, v.ownBlock = some q → ¬ InR lo hi q) : Row w' b e s v n xs := by
  refine ⟨hr.1, ?_⟩
  rcases hr.2 with hn | ⟨g, off, cap, cur, fr, rfl, hb, hgg, rest⟩
  · exact .inl hn
  · refine .inr ⟨g, off, cap, cur, fr, rfl, hb, ?_, rest⟩
    rw [h.block g (Array.getElem?_eq_some_iff.1 hgg).1 (hx g rfl)]
    exact hgg
/-- Where the range lies above all that was there it is new memory alone. -/
theorem Mv.bel {lo hi B : Nat} {w w' : World} (h : Mv lo hi w w') (hl : B ≤ lo) (hB : B ≤ w.heap.size) : Below B w w' := ⟨h.os, h.tape, h.output, h.size, fun q hq => h.block q (Nat.lt_of_lt_of_le hq hB) fun hx => by have := hx.1; omega⟩

/-! ### The chip -/
structure PgS where
  st : Nat
  data : ByteArray
  tch : Bool
structure ChS where
  nb : Nat
  np : Nat
  raw : Nat
  pg : Nat → Nat → PgS
  er : Nat → Nat
  rd : Nat → Nat
  wo : Nat → Bool
  seed : Int
  most : Int
  piece : Int
  left : Int
  mode : Int
  off : Bool
  chg : Nat
def pgF (x : PgS) : Nat → Value
  | 0 => .int .i64 (x.st : Int)
  | 1 => .string x.data
  | _ => .bool x.tch
def blF (v : Value) (er rd : Nat) (wo : Bool) : Nat → Value
  | 0 => v
  | 1 => .int .i64 (er : Int)
  | 2 => .int .i64 (rd : Int)
  | _ => .bool wo
def pgsL (S : ChS) (b : Nat) : List Value := rows 3 (fun p j => pgF (S.pg b p) j) S.np
def blksL (pb : Nat → Nat) (S : ChS) : List Value := rows 4 (fun b j => blF (.slice (some ⟨pb b, 0, none⟩) S.np S.np) (S.er b) (S.rd b) (S.wo b) j) S.nb
/-- A chip in memory; all its blocks lie between lo and hi. -/
structure ChipAt (w : World) (lo hi c bb bo cap : Nat) (pb : Nat → Nat) (S : ChS) : Prop where
  cb : w.heap[c]? = some (.cells #[.slice (some ⟨bb, bo, none⟩) S.nb cap, .int .i64 (S.raw : Int), .int .i64 S.seed, .int .i64 S.most, .int .i64 S.piece, .int .i64 S.left, .int .i64 S.mode, .bool S.off, .int .i64 (S.chg : Int)] 150 (0, 0))
  br : Row w lo 162 4 (.slice (some ⟨bb, bo, none⟩) S.nb cap) S.nb (blksL pb S)
  pc : ∀ b, b < S.nb → w.heap[pb b]? = some (.cells (pgsL S b).toArray 159 (0, 0))
  inj : ∀ i j, i < S.nb → j < S.nb → pb i = pb j → i = j
  rc : InR lo hi c
  rb : InR lo hi bb
  rp : ∀ b, b < S.nb → InR lo hi (pb b)
/-- The chip's own blocks. -/
def ChX (c bb : Nat) (pb : Nat → Nat) (nb q : Nat) : Prop := q = c ∨ q = bb ∨ ∃ b, b < nb ∧ q = pb b
abbrev Cv (c bb : Nat) (pb : Nat → Nat) (nb : Nat) (w w' : World) : Prop := Chg (ChX c bb pb nb) (fun _ => True) w w'
theorem Cv.below {c bb : Nat} {pb : Nat → Nat} {nb : Nat} {w w' : World} (h : Below w.heap.size w w') : Cv c bb pb nb w w' := Chg.of_below h fun _ => trivial
section
variable {w w' : World} {lo hi c bb bo cap : Nat} {pb : Nat → Nat} {S : ChS}
theorem ChipAt.mv (h : ChipAt w lo hi c bb bo cap pb S) (hc : Cv c bb pb S.nb w w') : Mv lo hi w w' := ⟨hc.os, hc.tape, hc.output, hc.size, fun q hq hx => hc.block q hq fun hy => hx (by
  rcases hy with rfl | rfl | ⟨b, hb, rfl⟩
  · exact h.rc
  · exact h.rb
  · exact h.rp b hb), fun _ => trivial⟩
/-- Blocks of other types are not the chip's. -/
theorem ChipAt.other (h : ChipAt w lo hi c bb bo cap pb S) (hc : Cv c bb pb S.nb w w') {q : Nat} {cs : Array Value} {t : TypeId} {fr : Nat × Nat} (hq : w.heap[q]? = some (.cells cs t fr)) (h1 : t ≠ 150) (h2 : t ≠ 162) (h3 : t ≠ 159) : w'.heap[q]? = some (.cells cs t fr) := by
  refine hc.blk hq fun hx => ?_
  rcases hx with rfl | rfl | ⟨b, hb, rfl⟩
  · rw [h.cb] at hq
    simp only [Option.some.injEq, Obj.cells.injEq] at hq
    exact h1 hq.2.1.symm
  · obtain ⟨_, _, cur, fr', h4⟩ := h.br.blk q rfl
    rw [h4] at hq
    simp only [Option.some.injEq, Obj.cells.injEq] at hq
    exact h2 hq.2.1.symm
  · rw [h.pc b hb] at hq
    simp only [Option.some.injEq, Obj.cells.injEq] at hq
    exact h3 hq.2.1.symm
/-- Another block was changed, that is none of the chip's. -/
theorem ChipAt.keptX (h : ChipAt w lo hi c bb bo cap pb S) {X : Nat → Prop} {I : World → Prop} (hg : Chg X I w w') (h1 : ∀ q, ChX c bb pb S.nb q → ¬ X q) : ChipAt w' lo hi c bb bo cap pb S := by
  refine ⟨hg.blk h.cb (h1 _ (.inl rfl)), ?_, fun b hbn => hg.blk (h.pc b hbn) (h1 _ (.inr (.inr ⟨b, hbn, rfl⟩))), h.inj, h.rc, h.rb, h.rp⟩
  refine ⟨h.br.1, ?_⟩
  rcases h.br.2 with hn | ⟨g, off, cap', cur, fr, hv, hb, hgg, rest⟩
  · exact .inl hn
  · have hgb : g = bb := by injection hv with hv; injection hv with hv; injection hv with hv; exact hv.symm
    exact .inr ⟨g, off, cap', cur, fr, hv, hb, hg.blk hgg (by rw [hgb]; exact h1 _ (.inr (.inl rfl))), rest⟩
/-- A block of another type is none of the chip's. -/
theorem ChipAt.notX (h : ChipAt w lo hi c bb bo cap pb S) {q : Nat} {cs : Array Value} {t : TypeId} {fr : Nat × Nat} (hq : w.heap[q]? = some (.cells cs t fr)) (h1 : t ≠ 150) (h2 : t ≠ 162) (h3 : t ≠ 159) : ¬ ChX c bb pb S.nb q := by
  intro hx
  rcases hx with rfl | rfl | ⟨b, hb, rfl⟩
  · rw [h.cb] at hq
    simp only [Option.some.injEq, Obj.cells.injEq] at hq
    exact h1 hq.2.1.symm
  · obtain ⟨_, _, cur, fr', h4⟩ := h.br.blk q rfl
    rw [h4] at hq
    simp only [Option.some.injEq, Obj.cells.injEq] at hq
    exact h2 hq.2.1.symm
  · rw [h.pc b hb] at hq
    simp only [Option.some.injEq, Obj.cells.injEq] at hq
    exact h3 hq.2.1.symm
theorem ChipAt.bcells (h : ChipAt w lo hi c bb bo cap pb S) : ∃ cur fr, w.heap[bb]? = some (.cells cur 162 fr) := by
  obtain ⟨_, _, cur, fr, h1⟩ := h.br.blk bb rfl
  exact ⟨cur, fr, h1⟩
theorem ChipAt.ne_cb (h : ChipAt w lo hi c bb bo cap pb S) : c ≠ bb := by
  rintro rfl
  obtain ⟨cur, fr, h1⟩ := h.bcells
  have := h.cb
  rw [h1] at this
  simp only [Option.some.injEq, Obj.cells.injEq] at this
  exact absurd this.2.1 (by decide)
theorem ChipAt.ne_cp (h : ChipAt w lo hi c bb bo cap pb S) {b : Nat} (hb : b < S.nb) : c ≠ pb b := by
  intro e
  have h1 := h.pc b hb
  have := h.cb
  rw [← e, this] at h1
  simp only [Option.some.injEq, Obj.cells.injEq] at h1
  exact absurd h1.2.1 (by decide)
theorem ChipAt.ne_bp (h : ChipAt w lo hi c bb bo cap pb S) {b : Nat} (hb : b < S.nb) : bb ≠ pb b := by
  intro e
  obtain ⟨cur, fr, h2⟩ := h.bcells
  have h1 := h.pc b hb
  rw [← e, h2] at h1
  simp only [Option.some.injEq, Obj.cells.injEq] at h1
  exact absurd h1.2.1 (by decide)
theorem ChipAt.below (h : ChipAt w lo hi c bb bo cap pb S) (hb : Below w.heap.size w w') : ChipAt w' lo hi c bb bo cap pb S :=
  ⟨below_blk h.cb hb, h.br.below hb, fun b hbn => below_blk (h.pc b hbn) hb, h.inj, h.rc, h.rb, h.rp⟩
/-- Another block was changed. -/
theorem ChipAt.kept (h : ChipAt w lo hi c bb bo cap pb S) {X : Nat → Prop} {I : World → Prop} (hg : Chg X I w w') (h1 : ∀ q, InR lo hi q → ¬ X q) : ChipAt w' lo hi c bb bo cap pb S := by
  refine ⟨hg.blk h.cb (h1 _ h.rc), ?_, fun b hbn => hg.blk (h.pc b hbn) (h1 _ (h.rp b hbn)), h.inj, h.rc, h.rb, h.rp⟩
  refine ⟨h.br.1, ?_⟩
  rcases h.br.2 with hn | ⟨g, off, cap', cur, fr, hv, hb, hgg, rest⟩
  · exact .inl hn
  · have hgb : g = bb := by injection hv with hv; injection hv with hv; injection hv with hv; exact hv.symm
    exact .inr ⟨g, off, cap', cur, fr, hv, hb, hg.blk hgg (by rw [hgb]; exact h1 _ h.rb), rest⟩
theorem ChipAt.cc (h : ChipAt w lo hi c bb bo cap pb S) (j : Nat) : w.cell? ⟨c, j, none⟩ = (#[.slice (some ⟨bb, bo, none⟩) S.nb cap, .int .i64 (S.raw : Int), .int .i64 S.seed, .int .i64 S.most, .int .i64 S.piece, .int .i64 S.left, .int .i64 S.mode, .bool S.off, .int .i64 (S.chg : Int)] : Array Value)[j]? := cell_of_row w c j _ _ _ h.cb
theorem ChipAt.cf (h : ChipAt w lo hi c bb bo cap pb S) (j : Nat) : w.frozen? ⟨c, j, none⟩ = false := by simp only [World.frozen?, h.cb]; simp
theorem ChipAt.bc (h : ChipAt w lo hi c bb bo cap pb S) {b : Nat} (hb : b < S.nb) {j : Nat} (hj : j < 4) : w.cell? ⟨bb, bo + b * 4 + j, none⟩ = some (blF (.slice (some ⟨pb b, 0, none⟩) S.np S.np) (S.er b) (S.rd b) (S.wo b) j) := by
  have h1 := h.br.cells rfl (b * 4 + j) _ (rows_at hb hj)
  rwa [add_plain, ← Nat.add_assoc] at h1
theorem ChipAt.bf (h : ChipAt w lo hi c bb bo cap pb S) {b : Nat} (hb : b < S.nb) {j : Nat} (hj : j < 4) : w.frozen? ⟨bb, bo + b * 4 + j, none⟩ = false := by
  have h1 := h.br.free rfl (b * 4 + j) (by have := rows_lt hb hj; obtain ⟨A, k, e, hk⟩ := h.br.slice; injection e with _ _ e; subst e; have := Nat.mul_le_mul_right 4 hk; omega)
  rwa [← Nat.add_assoc] at h1
theorem ChipAt.pcell (h : ChipAt w lo hi c bb bo cap pb S) {b p : Nat} (hb : b < S.nb) (hp : p < S.np) {j : Nat} (hj : j < 3) : w.cell? ⟨pb b, p * 3 + j, none⟩ = some (pgF (S.pg b p) j) := by
  rw [cell_of_row w (pb b) (p * 3 + j) _ _ _ (h.pc b hb), List.getElem?_toArray]
  exact rows_at hp hj
theorem ChipAt.pf (h : ChipAt w lo hi c bb bo cap pb S) {b : Nat} (hb : b < S.nb) (j : Nat) : w.frozen? ⟨pb b, j, none⟩ = false := by simp only [World.frozen?, h.pc b hb]; simp
theorem ChipAt.c0 (h : ChipAt w lo hi c bb bo cap pb S) : w.cell? ⟨c, 0, none⟩ = some (.slice (some ⟨bb, bo, none⟩) S.nb cap) := h.cc 0
theorem ChipAt.c1 (h : ChipAt w lo hi c bb bo cap pb S) : w.cell? ⟨c, 1, none⟩ = some (.int .i64 (S.raw : Int)) := h.cc 1
theorem ChipAt.c2 (h : ChipAt w lo hi c bb bo cap pb S) : w.cell? ⟨c, 2, none⟩ = some (.int .i64 S.seed) := h.cc 2
theorem ChipAt.c3 (h : ChipAt w lo hi c bb bo cap pb S) : w.cell? ⟨c, 3, none⟩ = some (.int .i64 S.most) := h.cc 3
theorem ChipAt.c4 (h : ChipAt w lo hi c bb bo cap pb S) : w.cell? ⟨c, 4, none⟩ = some (.int .i64 S.piece) := h.cc 4
theorem ChipAt.c5 (h : ChipAt w lo hi c bb bo cap pb S) : w.cell? ⟨c, 5, none⟩ = some (.int .i64 S.left) := h.cc 5
theorem ChipAt.c6 (h : ChipAt w lo hi c bb bo cap pb S) : w.cell? ⟨c, 6, none⟩ = some (.int .i64 S.mode) := h.cc 6
theorem ChipAt.c7 (h : ChipAt w lo hi c bb bo cap pb S) : w.cell? ⟨c, 7, none⟩ = some (.bool S.off) := h.cc 7
theorem ChipAt.c8 (h : ChipAt w lo hi c bb bo cap pb S) : w.cell? ⟨c, 8, none⟩ = some (.int .i64 (S.chg : Int)) := h.cc 8
theorem ChipAt.b0 (h : ChipAt w lo hi c bb bo cap pb S) {b : Nat} (hb : b < S.nb) : w.cell? ⟨bb, bo + b * 4, none⟩ = some (.slice (some ⟨pb b, 0, none⟩) S.np S.np) := h.bc hb (j := 0) (by omega)
theorem ChipAt.b1 (h : ChipAt w lo hi c bb bo cap pb S) {b : Nat} (hb : b < S.nb) : w.cell? ⟨bb, bo + b * 4 + 1, none⟩ = some (.int .i64 (S.er b : Int)) := h.bc hb (j := 1) (by omega)
theorem ChipAt.b2 (h : ChipAt w lo hi c bb bo cap pb S) {b : Nat} (hb : b < S.nb) : w.cell? ⟨bb, bo + b * 4 + 2, none⟩ = some (.int .i64 (S.rd b : Int)) := h.bc hb (j := 2) (by omega)
theorem ChipAt.b3 (h : ChipAt w lo hi c bb bo cap pb S) {b : Nat} (hb : b < S.nb) : w.cell? ⟨bb, bo + b * 4 + 3, none⟩ = some (.bool (S.wo b)) := h.bc hb (j := 3) (by omega)
theorem ChipAt.p0 (h : ChipAt w lo hi c bb bo cap pb S) {b p : Nat} (hb : b < S.nb) (hp : p < S.np) : w.cell? ⟨pb b, p * 3, none⟩ = some (.int .i64 ((S.pg b p).st : Int)) := h.pcell hb hp (j := 0) (by omega)
theorem ChipAt.p1 (h : ChipAt w lo hi c bb bo cap pb S) {b p : Nat} (hb : b < S.nb) (hp : p < S.np) : w.cell? ⟨pb b, p * 3 + 1, none⟩ = some (.string (S.pg b p).data) := h.pcell hb hp (j := 1) (by omega)
theorem ChipAt.p2 (h : ChipAt w lo hi c bb bo cap pb S) {b p : Nat} (hb : b < S.nb) (hp : p < S.np) : w.cell? ⟨pb b, p * 3 + 2, none⟩ = some (.bool (S.pg b p).tch) := h.pcell hb hp (j := 2) (by omega)
/-- One of the chip's own cells is written. -/
theorem ChipAt.setC (h : ChipAt w lo hi c bb bo cap pb S) (j : Nat) (v : Value) (S' : ChS) (hnb : S'.nb = S.nb) (hnp : S'.np = S.np) (hpg : S'.pg = S.pg) (her : S'.er = S.er) (hrd : S'.rd = S.rd) (hwo : S'.wo = S.wo)
    (hc : (#[.slice (some ⟨bb, bo, none⟩) S.nb cap, .int .i64 (S.raw : Int), .int .i64 S.seed, .int .i64 S.most, .int .i64 S.piece, .int .i64 S.left, .int .i64 S.mode, .bool S.off, .int .i64 (S.chg : Int)] : Array Value).setIfInBounds j v = #[.slice (some ⟨bb, bo, none⟩) S'.nb cap, .int .i64 (S'.raw : Int), .int .i64 S'.seed, .int .i64 S'.most, .int .i64 S'.piece, .int .i64 S'.left, .int .i64 S'.mode, .bool S'.off, .int .i64 (S'.chg : Int)]) :
    ChipAt (w.setCell ⟨c, j, none⟩ v) lo hi c bb bo cap pb S' := by
  have hg := Chg.setCell (X := (· = c)) (w := w) ⟨c, j, none⟩ v rfl
  have e1 : blksL pb S' = blksL pb S := by unfold blksL; rw [hnb, hnp, her, hrd, hwo]
  have e2 : ∀ b, pgsL S' b = pgsL S b := fun b => by unfold pgsL; rw [hnp, hpg]
  refine ⟨?_, ?_, fun b hb => ?_, by rw [hnb]; exact h.inj, h.rc, h.rb, by rw [hnb]; exact h.rp⟩
  · rw [← hc]
    have := h.cb
    simp [World.setCell, Array.getElem?_modify, this]
  · rw [e1, hnb]
    exact h.br.kept (row := some c) ⟨hg.os, hg.tape, hg.output, hg.size, fun b hb hne => hg.block b hb (fun e => hne (by rw [e]))⟩ (.inr (by simp only [Value.ownBlock, ne_eq, Option.some.injEq]; exact fun e => h.ne_cb e.symm))
  · rw [hnb] at hb
    rw [e2]
    exact hg.blk (h.pc b hb) (fun e => h.ne_cp hb e.symm)
/-- A cell of the blocks' row is written. -/
theorem ChipAt.setB (h : ChipAt w lo hi c bb bo cap pb S) {b j : Nat} (hb : b < S.nb) (hj : j < 4) (v : Value) (S' : ChS) (hnb : S'.nb = S.nb) (hnp : S'.np = S.np) (hpg : S'.pg = S.pg) (hch : S'.raw = S.raw ∧ S'.seed = S.seed ∧ S'.most = S.most ∧ S'.piece = S.piece ∧ S'.left = S.left ∧ S'.mode = S.mode ∧ S'.off = S.off ∧ S'.chg = S.chg)
    (hv : ∀ a k, a < S.nb → k < 4 → blF (.slice (some ⟨pb a, 0, none⟩) S.np S.np) (S'.er a) (S'.rd a) (S'.wo a) k = if a = b ∧ k = j then v else blF (.slice (some ⟨pb a, 0, none⟩) S.np S.np) (S.er a) (S.rd a) (S.wo a) k) :
    ChipAt (w.setCell ⟨bb, bo + b * 4 + j, none⟩ v) lo hi c bb bo cap pb S' := by
  have hg := Chg.setCell (X := (· = bb)) (w := w) ⟨bb, bo + b * 4 + j, none⟩ v rfl
  have e2 : ∀ b, pgsL S' b = pgsL S b := fun b => by unfold pgsL; rw [hnp, hpg]
  obtain ⟨h1, h2, h3, h4, h5, h6, h7, h8⟩ := hch
  refine ⟨?_, ?_, fun a ha => ?_, by rw [hnb]; exact h.inj, h.rc, h.rb, by rw [hnb]; exact h.rp⟩
  · rw [hnb, h1, h2, h3, h4, h5, h6, h7, h8]
    exact hg.blk h.cb h.ne_cb
  · have hs := (h.br.store rfl (b * 4 + j) (rows_lt hb hj) v).1
    rw [← Nat.add_assoc] at hs
    have e1 : (blksL pb S).set (b * 4 + j) v = blksL pb S' := by
      unfold blksL
      rw [hnb, hnp]
      exact rows_set hb hj v hv
    rw [e1] at hs
    rw [hnb]
    exact hs
  · rw [hnb] at ha
    rw [e2]
    exact hg.blk (h.pc a ha) (fun e => h.ne_bp ha e.symm)
def ChS.setPg (S : ChS) (b p : Nat) (x : PgS) : ChS := { S with pg := fun i k => if i = b ∧ k = p then x else S.pg i k }
/-- A cell of a page is written. -/
theorem ChipAt.setP (h : ChipAt w lo hi c bb bo cap pb S) {b p j : Nat} (hb : b < S.nb) (hp : p < S.np) (hj : j < 3) (v : Value) (x : PgS)
    (hv : ∀ k, k < 3 → pgF x k = if k = j then v else pgF (S.pg b p) k) :
    ChipAt (w.setCell ⟨pb b, p * 3 + j, none⟩ v) lo hi c bb bo cap pb (S.setPg b p x) := by
  have hg := Chg.setCell (X := (· = pb b)) (w := w) ⟨pb b, p * 3 + j, none⟩ v rfl
  refine ⟨hg.blk h.cb (h.ne_cp hb), ?_, fun a ha => ?_, h.inj, h.rc, h.rb, h.rp⟩
  · exact h.br.kept (row := some (pb b)) ⟨hg.os, hg.tape, hg.output, hg.size, fun q hq hne => hg.block q hq (fun e => hne (by rw [e]))⟩ (.inr (by simp only [Value.ownBlock, ne_eq, Option.some.injEq]; exact fun e => h.ne_bp hb e))
  · by_cases hab : a = b
    · subst hab
      have e1 : (pgsL S a).set (p * 3 + j) v = pgsL (S.setPg a p x) a := by
        unfold pgsL
        refine rows_set hp hj v fun q k hq hk => ?_
        by_cases hqp : q = p
        · subst hqp
          have e2 : (S.setPg a q x).pg a q = x := by simp [ChS.setPg]
          rw [e2, hv k hk]
          by_cases hkj : k = j
          · rw [if_pos hkj, if_pos ⟨rfl, hkj⟩]
          · rw [if_neg hkj, if_neg (fun hh => hkj hh.2)]
        · have e2 : (S.setPg a p x).pg a q = S.pg a q := by simp [ChS.setPg, hqp]
          rw [e2, if_neg (fun hh => hqp hh.1)]
      have := h.pc a hb
      rw [← e1]
      simp [World.setCell, Array.getElem?_modify, this]
    · have e2 : pgsL (S.setPg b p x) a = pgsL S a := by
        unfold pgsL
        refine rows_congr fun q k hq hk => ?_
        simp [ChS.setPg, hab]
      rw [e2]
      exact hg.blk (h.pc a ha) (fun e => hab (h.inj a b ha hb e))
end
end Go.Proofs.YtkgacnenmflegaaGreatDoor
namespace Go.Proofs.YtkgacnenmflegaaGreatDoor
open Go.RowKit

structure Held (w : World) (bs : List (Nat × Obj)) (W : World) : Prop where
  bel : Below w.heap.size w W
  has : ∀ x ∈ bs, x.1 < W.heap.size ∧ W.heap[x.1]? = some x.2
section
variable {w W W' : World} {bs : List (Nat × Obj)}
theorem Held.refl (w : World) : Held w [] w := ⟨Below.refl _ _, by simp⟩
theorem Held.step (h : Held w bs W) (hb : Below W.heap.size W W') : Held w bs W' :=
  ⟨h.bel.trans (hb.mono h.bel.size), fun x hx => ⟨Nat.lt_of_lt_of_le (h.has x hx).1 hb.size, (hb.block _ (h.has x hx).1).trans (h.has x hx).2⟩⟩
theorem Held.drew (h : Held w bs W) : Held w bs W.drew := ⟨h.bel.drew, h.has⟩
theorem Held.alloc (h : Held w bs W) (o : Obj) : Held w bs (W.alloc o) := h.step ((Below.refl _ _).alloc (Nat.le_refl _) o)
/-- A new block, held from now on. -/
theorem Held.lay (h : Held w bs W) (o : Obj) : Held w ((W.heap.size, o) :: bs) (W.alloc o) :=
  ⟨(h.alloc o).bel, fun x hx => by
    rcases List.mem_cons.1 hx with rfl | hx
    · exact ⟨by simp, heap_alloc_new W o⟩
    · exact (h.alloc o).has x hx⟩
theorem Held.cells (h : Held w bs W) {g : Nat} {cs : Array Value} {t : TypeId} {fr : Nat × Nat} (hx : (g, Obj.cells cs t fr) ∈ bs) (i : Nat) {v : Value} (hv : cs[i]? = some v) : W.cell? ⟨g, i, none⟩ = some v :=
  (cell_of_row W g i _ _ _ (h.has _ hx).2).trans hv
theorem Held.more (h : Held w bs W) {x : Nat × Obj} (hx : x.1 < W.heap.size ∧ W.heap[x.1]? = some x.2) : Held w (x :: bs) W :=
  ⟨h.bel, fun y hy => by
    rcases List.mem_cons.1 hy with rfl | hy
    · exact hx
    · exact h.has y hy⟩
end
end Go.Proofs.YtkgacnenmflegaaGreatDoor
namespace Go.Proofs.YtkgacnenmflegaaGreatDoor
open Go.RowKit

def upB (p : Int) : Bool := decide (0 ≤ p ∧ 2 ≤ p % 4)
def grp (p : Int) : Int := if upB p = true then 1 else 0

theorem tmod4 {p : Int} (h : 0 ≤ p) : p.tmod 4 = p % 4 := by rw [Int.tmod_eq_emod_of_nonneg h]
set_option maxHeartbeats 400000 in
theorem nand_upper (p : Int) (w : World) (h : 0 ≤ p) (_h2 : p ≤ 9223372036854775807) :
    Calls Tryz.prog 69 #[.int .i64 p] w fun e w' => e = .returned (.bool (decide (2 ≤ p % 4))) ∧ w = w' := by
  have ht := tmod4 h
  have hw : IntKind.i64.wrap (p.tmod 4) = p % 4 := by rw [ht, IntKind.wrap_i64]; omega
  go_enter Tryz.func69, Tryz.ntmps69
  go_wp2
  go_ret
  exact ⟨rfl, rfl⟩
def pairQ (p : Int) : Int := if p < 0 then 0 else if upB p = true then p - 2 else p + 2
set_option maxHeartbeats 400000 in
theorem nand_pair (p : Int) (w : World) (h2 : p ≤ 9223372036854775805) :
    Calls Tryz.prog 27 #[.int .i64 p] w fun e w' => e = .returned (.tuple #[.int .i64 (pairQ p), .bool (upB p)]) ∧ w = w' := by
  unfold pairQ
  by_cases h : p < 0
  · have hu : upB p = false := by unfold upB; simp; omega
    rw [if_pos h, hu]
    go_enter Tryz.func27, Tryz.ntmps27
    go_wp2
    go_ret2
    exact ⟨rfl, rfl⟩
  · rw [if_neg h]
    have h0 : 0 ≤ p := by omega
    by_cases hu : 2 ≤ p % 4
    · have hu2 : upB p = true := by unfold upB; simp; omega
      have hd : decide (2 ≤ p % 4) = true := by simp [hu]
      have hw : IntKind.i64.wrap (p - 2) = p - 2 := by rw [IntKind.wrap_i64]; omega
      rw [if_pos hu2, hu2]
      go_enter Tryz.func27, Tryz.ntmps27
      go_wp2_with (go_at_call 69; refine (nand_upper p _ h0 (by omega)).mono ?_; rintro e w1 ⟨rfl, rfl⟩)
      go_ret2
      exact ⟨rfl, rfl⟩
    · have hu2 : upB p = false := by unfold upB; simp; omega
      have hd : decide (2 ≤ p % 4) = false := by simp; omega
      have hw : IntKind.i64.wrap (p + 2) = p + 2 := by rw [IntKind.wrap_i64]; omega
      rw [if_neg (by simp [hu2]), hu2]
      go_enter Tryz.func27, Tryz.ntmps27
      go_wp2_with (go_at_call 69; refine (nand_upper p _ h0 (by omega)).mono ?_; rintro e w1 ⟨rfl, rfl⟩)
      go_ret2
      exact ⟨rfl, rfl⟩
set_option maxHeartbeats 400000 in
theorem parity_group (p : Int) (w : World) (h2 : p ≤ 9223372036854775805) :
    Calls Tryz.prog 70 #[.int .i64 p] w fun e w' => e = .returned (.int .i64 (grp p)) ∧ w = w' := by
  unfold grp
  cases hu : upB p
  · go_enter Tryz.func70, Tryz.ntmps70
    go_wp2_with (go_at_call 27; refine (nand_pair p _ h2).mono ?_; rintro e w1 ⟨rfl, rfl⟩)
    go_ret
    exact ⟨rfl, rfl⟩
  · go_enter Tryz.func70, Tryz.ntmps70
    go_wp2_with (go_at_call 27; refine (nand_pair p _ h2).mono ?_; rintro e w1 ⟨rfl, rfl⟩)
    go_ret
    exact ⟨rfl, rfl⟩
/-- The data pages among the first k ones, and the parities' pages. -/
def dataL (b : Bool) : Nat → List Int
  | 0 => []
  | k + 1 => if (upB k && b) = true then dataL b k else dataL b k ++ [(k : Int)]
def parL (b : Bool) (N : Nat) : List Int := if b = true then [(N : Int) - 3] else [(N : Int) - 3, (N : Int) - 1]
theorem dataL_skip {b : Bool} {k : Nat} (h : (upB k && b) = true) : dataL b (k + 1) = dataL b k := by rw [dataL, if_pos h]
theorem dataL_more {b : Bool} {k : Nat} (h : (upB k && b) = false) : dataL b (k + 1) = dataL b k ++ [(k : Int)] := by rw [dataL, if_neg (by simp [h])]
theorem dataL_len (b : Bool) : ∀ k, (dataL b k).length ≤ k
  | 0 => by simp [dataL]
  | k + 1 => by
    have := dataL_len b k
    cases h : (upB k && b)
    · rw [dataL_more h, List.length_append]; simp; omega
    · rw [dataL_skip h]; omega
/-- A plan lies in block g. -/
def PlanAt (w : World) (g : Nat) (v1 v2 : Value) : Prop := w.heap[g]? = some (.cells #[v1, v2] 78 (0, 0))
section
variable {w w' : World} {g : Nat} {v1 v2 : Value}
theorem PlanAt.lt (p : PlanAt w g v1 v2) : g < w.heap.size := (Array.getElem?_eq_some_iff.1 p).1
theorem PlanAt.c0 (p : PlanAt w g v1 v2) : w.cell? ⟨g, 0, none⟩ = some v1 := cell_of_row w g 0 _ _ _ p
theorem PlanAt.c1 (p : PlanAt w g v1 v2) : w.cell? ⟨g, 1, none⟩ = some v2 := cell_of_row w g 1 _ _ _ p
theorem PlanAt.free (p : PlanAt w g v1 v2) (i : Nat) : w.frozen? ⟨g, i, none⟩ = false := by
  unfold PlanAt at p
  simp [World.frozen?, p]
theorem PlanAt.kept {row : Option Nat} (p : PlanAt w g v1 v2) (hg : w.grownBy w' row) (hne : some g ≠ row) : PlanAt w' g v1 v2 := (hg.block g p.lt hne).trans p
theorem PlanAt.below {B : Nat} (p : PlanAt w g v1 v2) (hb : Below B w w') (hlt : g < B) : PlanAt w' g v1 v2 := (hb.block g hlt).trans p
theorem PlanAt.set0 (p : PlanAt w g v1 v2) (x : Value) : PlanAt (w.setCell ⟨g, 0, none⟩ x) g x v2 := by
  have hlt := p.lt
  unfold PlanAt at *
  simp [World.setCell, Array.getElem?_modify, p]
theorem PlanAt.set1 (p : PlanAt w g v1 v2) (x : Value) : PlanAt (w.setCell ⟨g, 1, none⟩ x) g v1 x := by
  have hlt := p.lt
  unfold PlanAt at *
  simp [World.setCell, Array.getElem?_modify, p]
end
theorem grownBy_set (w : World) (g i : Nat) (x : Value) : w.grownBy (w.setCell ⟨g, i, none⟩ x) (some g) :=
  ⟨rfl, rfl, rfl, by simp [World.setCell], fun k _ hne => Below.heap_setCell _ _ _ _ (by simpa using fun e => hne (by simp [e]))⟩

theorem Row.belowAt {w w' : World} {base : Nat} {e : TypeId} {size : Nat} {v : Value} {n : Nat} {xs : List Value} {B : Nat} (h : Row w base e size v n xs) (hb : Below B w w') (hlt : ∀ q, v.ownBlock = some q → q < B) : Row w' base e size v n xs := by
  refine ⟨h.1, ?_⟩
  rcases h.2 with hn | ⟨g, off, cap, cur, fr, rfl, hbg, hgg, rest⟩
  · exact .inl hn
  · exact .inr ⟨g, off, cap, cur, fr, rfl, hbg, (hb.block g (hlt g rfl)).trans hgg, rest⟩

/-- What Of answers where there is a plan. -/
def PlanEnd (N : Nat) (b : Bool) (base : Nat) (e : Ending) (w : World) : Prop :=
  ∃ v1 v2, Row w base 3 1 v1 (dataL b (N - 3)).length (intsV (dataL b (N - 3))) ∧ Row w base 3 1 v2 (parL b N).length (intsV (parL b N)) ∧ e = .returned (.tuple #[.agg #[v1, v2], .bool true])

set_option maxHeartbeats 4000000 in
theorem parity_of (N : Nat) (b : Bool) (w : World) (h1 : 4 ≤ N) (h2 : N ≤ 64) (h3 : N % 4 = 0) :
    Calls Tryz.prog 28 #[.int .i64 N, .bool b] w fun e w' => PlanEnd N b w.heap.size e w' ∧ Below w.heap.size w w' := by
  have ht : ((N : Int).tmod 4) = 0 := by rw [tmod4 (by omega)]; omega
  have hw : IntKind.i64.wrap ((N : Int).tmod 4) = 0 := by rw [ht]; rfl
  have hw1 : IntKind.i64.wrap ((N : Int) - 3) = (N : Int) - 3 := by rw [IntKind.wrap_i64]; omega
  have hw2 : IntKind.i64.wrap ((N : Int) - 1) = (N : Int) - 1 := by rw [IntKind.wrap_i64]; omega
  have g1 : ¬ (N : Int) < 4 := by omega
  have g2 : ¬ 64 < (N : Int) := by omega
  go_enter Tryz.func28, Tryz.ntmps28
  go_upto_region 4 with fail
  obtain ⟨g, hg⟩ : ∃ g, g = w.heap.size := ⟨_, rfl⟩
  have hP0 : PlanAt (((w.alloc (.cells #[.slice none 0 0, .slice none 0 0] 78)).alloc (.cells #[.int .i64 ((N : Int) - 3)] 3)).alloc (.cells #[.slice none 0 0, .slice (some ⟨w.heap.size + 1, 0, none⟩) 1 1] 78)) g (.slice none 0 0) (.slice none 0 0) := by
    have h0 : PlanAt (w.alloc (.cells #[.slice none 0 0, .slice none 0 0] 78)) w.heap.size (.slice none 0 0) (.slice none 0 0) := heap_alloc_new w _
    rw [hg]
    exact (h0.kept (World.grownBy_alloc _ _ none) (by simp)).kept (World.grownBy_alloc _ _ none) (by simp)
  have hP : PlanAt (((w.alloc (.cells #[.slice none 0 0, .slice none 0 0] 78)).alloc (.cells #[.int .i64 ((N : Int) - 3)] 3)).alloc (.cells #[.slice none 0 0, .slice (some ⟨w.heap.size + 1, 0, none⟩) 1 1] 78)) (g + 1 + 1) (.slice none 0 0) (.slice (some ⟨w.heap.size + 1, 0, none⟩) 1 1) := by
    have h0 := heap_alloc_new ((w.alloc (.cells #[.slice none 0 0, .slice none 0 0] 78)).alloc (.cells #[.int .i64 ((N : Int) - 3)] 3)) (.cells #[.slice none 0 0, .slice (some ⟨w.heap.size + 1, 0, none⟩) 1 1] 78)
    simp only [World.size_alloc] at h0
    rw [hg]
    exact h0
  have hr : Row (((w.alloc (.cells #[.slice none 0 0, .slice none 0 0] 78)).alloc (.cells #[.int .i64 ((N : Int) - 3)] 3)).alloc (.cells #[.slice none 0 0, .slice (some ⟨w.heap.size + 1, 0, none⟩) 1 1] 78)) (g + 1) 3 1 (.slice (some ⟨w.heap.size + 1, 0, none⟩) 1 1) 1 (intsV [(N : Int) - 3]) := by
    have h0 := Row.lit (w.alloc (.cells #[.slice none 0 0, .slice none 0 0] 78)) (w.heap.size + 1) 3 1 #[.int .i64 ((N : Int) - 3)] 1 (by simp) (by decide) rfl
    simp only [World.size_alloc] at h0
    rw [hg]
    exact h0.alloc _
  have hb : Below g w (((w.alloc (.cells #[.slice none 0 0, .slice none 0 0] 78)).alloc (.cells #[.int .i64 ((N : Int) - 3)] 3)).alloc (.cells #[.slice none 0 0, .slice (some ⟨w.heap.size + 1, 0, none⟩) 1 1] 78)) := by
    rw [hg]
    exact (((Below.refl _ _).alloc (Nat.le_refl _) _).alloc (by simp) _).alloc (by simp; omega) _
  have hsz : (((w.alloc (.cells #[.slice none 0 0, .slice none 0 0] 78)).alloc (.cells #[.int .i64 ((N : Int) - 3)] 3)).alloc (.cells #[.slice none 0 0, .slice (some ⟨w.heap.size + 1, 0, none⟩) 1 1] 78)).heap.size = g + 3 := by
    rw [hg]; simp
  generalize ((w.alloc (.cells #[.slice none 0 0, .slice none 0 0] 78)).alloc (.cells #[.int .i64 ((N : Int) - 3)] 3)).alloc (.cells #[.slice none 0 0, .slice (some ⟨w.heap.size + 1, 0, none⟩) 1 1] 78) = W at *
  rw [← hg] at hP hr ⊢
  have HG := Aside.mk (And.intro hg hsz)
  clear hg hsz
  have c0 := hP.c0
  have c1 := hP.c1
  have f0 := hP.free 0
  have f1 := hP.free 1
  go_upto_if 27 with fail
  go_cut [6] (fun s6 wx => ∃ v2, s6 = .pointer (some ⟨g + 1 + 1, 0, none⟩) ∧ PlanAt wx g (.slice none 0 0) (.slice none 0 0) ∧ PlanAt wx (g + 1 + 1) (.slice none 0 0) v2 ∧ Row wx (g + 1) 3 1 v2 (parL b N).length (intsV (parL b N)) ∧ v2.ownBlock ≠ some (g + 1 + 1) ∧ Below g w wx)
  case first =>
    cases b
    · have hsz := HG.out.2
      have hbs : g + 1 ≤ W.heap.size := by omega
      have HA := Aside.mk (And.intro hP0 (And.intro hP (And.intro hr (And.intro hb hbs))))
      clear hP0 hP hr hb hsz hbs
      go_wp2_with (at_builtin; refine wpList_append_one (w0 := W) (g + 1) rfl _ _ 36 3 1 8 (.int .i64 0) rfl Tryz.underlying36 infoInt rfl (by decide) (.slice (some ⟨g + 1, 0, none⟩) 1 1) 1 _ #[.int .i64 ((N : Int) - 1)] rfl rfl rfl HA.out.2.2.1 (by simp [Value.oneCell']) (Below.refl (g + 1) W) HA.out.2.2.2.2 (by omega) (by decide) ?_; intro v1 w1 hr1 hb1 hg1 hat1; obtain ⟨A1, k1, rfl, hk1⟩ := hr1.slice; have hP1 := HA.out.2.1.kept hg1 (by simp [Value.ownBlock]); have d1 := hP1.c1; have d2 := hP1.free 1; have HC := Aside.mk (And.intro hr1 (And.intro hb1 (And.intro hg1 (And.intro hat1 hP1)))); clear hr1 hb1 hg1 hat1 hP1)
      go_meet
      obtain ⟨hP0, hP, hr, hb, hbs⟩ := HA.out
      obtain ⟨hr1, hb1, hg1, hat1, hP1⟩ := HC.out
      have hv1 : (Value.slice A1 (1 + 1) k1).ownBlock ≠ some (g + 1 + 1) := by
        rcases hat1 with h | ⟨b, h, hb⟩
        · rw [h]; simp [Value.ownBlock]
        · rw [h]; have := HG.out.2; simp; omega
      refine ⟨_, rfl, ?_, hP1.set1 _, ?_, hv1, ?_⟩
      · exact (hP0.kept hg1 (by simp [Value.ownBlock])).kept (grownBy_set _ _ _ _) (by simp; omega)
      · exact hr1.kept (grownBy_set _ _ _ _) (.inr hv1)
      · exact (hb.trans (hb1.mono (by omega))).setCell (by simp; omega) _
    · go_wp2
      go_meet
      exact ⟨_, rfl, hP0, hP, hr, by simp [Value.ownBlock], hb⟩
  case rest =>
    clear hP0 hP hr hb c0 c1 f0 f1
    obtain ⟨v2, rfl, hP0, hP, hr2, hne, hb⟩ := hcut
    obtain ⟨A2, k2, rfl, hk2⟩ := hr2.slice
    have HB2 := Aside.mk (fun q hq => (hr2.blk q hq).2.1)
    have hlt := hP.lt
    have hlt0 := hb.size
    clear hk2
    generalize hlen2 : (parL b N).length = n2 at *
    have HL2 := Aside.mk hlen2
    clear hlen2
    obtain ⟨B1, hB1⟩ : ∃ B1, B1 = wc.heap.size := ⟨_, rfl⟩
    have hBg : g + 1 + 1 < B1 := by omega
    have HQ := Aside.mk hB1
    have hin := Aside.mk (And.intro hP0 (And.intro hP (And.intro hr2 (And.intro hb (show B1 ≤ wc.heap.size by omega)))))
    clear hP0 hP hr2 hb hlt hlt0 hB1
    go_wp2
    go_loopw [37] (fun s37 wr => ∃ (k : Nat) (A1 : Option Addr) (k1 : Nat), s37 = .int .i64 k ∧ k ≤ N - 3 ∧ PlanAt wr g (.slice none 0 0) (.slice none 0 0) ∧ PlanAt wr (g + 1 + 1) (.slice A1 (dataL b k).length k1) (.slice A2 n2 k2) ∧ Aside (Row wr (g + 1) 3 1 (.slice A2 n2 k2) n2 (intsV (parL b N)) ∧ Row wr B1 3 1 (.slice A1 (dataL b k).length k1) (dataL b k).length (intsV (dataL b k)) ∧ Below g w wr ∧ B1 ≤ wr.heap.size)) (fun s37 _ => N - (intOf s37).toNat)
    case atStart =>
      obtain ⟨q1, q2, q3, q4, q5⟩ := hin.out
      exact ⟨0, none, 0, rfl, by omega, q1, q2, ⟨q3, Row.nil _ _ _ _, q4, q5⟩⟩
    case round =>
      obtain ⟨k, A1, k1, rfl, hk, hP0, hP, hI⟩ := hrel
      clear hin
      have c0 := hP.c0
      have f0 := hP.free 0
      by_cases hlt : k < N - 3
      · have hk1 : IntKind.i64.wrap ((k : Int) + 1) = (k : Int) + 1 := by rw [IntKind.wrap_i64]; omega
        have hlt2 : (k : Int) < (N : Int) - 3 := by omega
        have hdl := dataL_len b k
        cases hs : (upB k && b)
        · have HD := Aside.mk (dataL_more hs)
          generalize hln : (dataL b k).length = ln at *
          have HLN := Aside.mk hln
          clear hln
          have hcs : (upB k = false) ∨ (upB k = true ∧ b = false) := by
            cases h : upB k <;> simp_all
          clear hs
          rcases hcs with hu | ⟨hu, rfl⟩
          all_goals
            go_wp2_with (first | (go_at_call 27; refine (nand_pair k _ (by omega)).mono ?_; rintro e w5 ⟨rfl, rfl⟩) | (at_builtin; refine wpList_append_one (w0 := wr) B1 rfl _ _ 36 3 1 8 (.int .i64 0) rfl Tryz.underlying36 infoInt rfl (by decide) (.slice A1 ln k1) ln _ #[.int .i64 (k : Int)] rfl rfl rfl hI.out.2.1 (by simp [Value.oneCell']) (Below.refl B1 wr) hI.out.2.2.2 (by omega) (by simp only [maxLen]; omega) ?_; intro v1 w1 hr1 hb1 hg1 hat1; obtain ⟨A3, k3, rfl, hk3⟩ := hr1.slice; have hPk := hP.below hb1 hBg; have d1 := hPk.c0; have d2 := hPk.free 0; have HC := Aside.mk (And.intro hr1 (And.intro hb1 (And.intro hg1 (And.intro hat1 hPk)))); clear hr1 hb1 hg1 hat1 hPk))
            go_roundw
            case rel =>
              obtain ⟨q1, q2, q3, q4⟩ := hI.out
              obtain ⟨hr1, hb1, hg1, hat1, hPk⟩ := HC.out
              have hne3 : (Value.slice A3 (ln + 1) k3).ownBlock ≠ some (g + 1 + 1) := fun h => by
                have := (hr1.blk _ h).1
                omega
              have hll := congrArg List.length HD.out
              rw [List.length_append, HLN.out] at hll
              have hll : _ = ln + 1 := hll
              refine ⟨k + 1, A3, k3, by go_num, by omega, (hP0.below hb1 (by omega)).kept (grownBy_set _ _ _ _) (by simp; omega), ?_, ⟨?_, ?_, ?_, ?_⟩⟩
              · rw [hll]; exact hPk.set0 _
              · exact (q1.belowAt hb1 (fun q hq => by have := HB2.out q hq; have := HQ.out; omega)).kept (grownBy_set _ _ _ _) (.inr hne)
              · rw [hll, HD.out, intsV_append]
                exact hr1.kept (grownBy_set _ _ _ _) (.inr hne3)
              · exact (q3.trans (hb1.mono (by omega))).setCell (by simp; omega) _
              · exact Nat.le_trans (Nat.le_trans q4 hb1.size) (grownBy_set _ _ _ _).size
            case measure => simp [intOf]; omega
        · obtain ⟨hu, hbt⟩ : upB k = true ∧ b = true := by simpa using hs
          have HD := Aside.mk (dataL_skip hs)
          clear hs
          subst hbt
          go_wp2_with (go_at_call 27; refine (nand_pair k _ (by omega)).mono ?_; rintro e w5 ⟨rfl, rfl⟩)
          go_roundw
          case rel => exact ⟨k + 1, A1, k1, by go_num, by omega, hP0, by rw [HD.out]; exact hP, by rw [HD.out]; exact hI⟩
          case measure => simp [intOf]; omega
      · obtain rfl : k = N - 3 := by omega
        have hkc : ((N - 3 : Nat) : Int) = (N : Int) - 3 := by omega
        have hge : ¬ ((N - 3 : Nat) : Int) < (N : Int) - 3 := by omega
        have c1 := hP.c1
        have f1 := hP.free 1
        have e0 := hP0.c0
        have e1 := hP0.c1
        have e2 := hP0.free 0
        have e3 := hP0.free 1
        go_wp2
        obtain ⟨q1, q2, q3, q4⟩ := hI.out
        have hgl : g < B1 := by omega
        have hne2 : (Value.slice A2 n2 k2).ownBlock ≠ some g := fun h => by
          have := (q1.blk _ h).1
          omega
        have hne1 : (Value.slice A1 (dataL b (N - 3)).length k1).ownBlock ≠ some g := fun h => by
          have := (q2.blk _ h).1
          omega
        have hPf := (hP0.set0 (.slice A1 (dataL b (N - 3)).length k1)).set1 (.slice A2 n2 k2)
        have q1 := (q1.kept (grownBy_set _ g 0 (.slice A1 (dataL b (N - 3)).length k1)) (.inr hne2)).kept (grownBy_set _ g 1 (.slice A2 n2 k2)) (.inr hne2)
        have q2 := (q2.kept (grownBy_set _ g 0 (.slice A1 (dataL b (N - 3)).length k1)) (.inr hne1)).kept (grownBy_set _ g 1 (.slice A2 n2 k2)) (.inr hne1)
        have q3 := (q3.setCell (p := ⟨g, 0, none⟩) (Nat.le_refl g) (.slice A1 (dataL b (N - 3)).length k1)).setCell (p := ⟨g, 1, none⟩) (Nat.le_refl g) (.slice A2 n2 k2)
        have z0 := hPf.c0
        have z1 := hPf.c1
        clear c0 c1 f0 f1 e0 e1 e2 e3 hP hP0 hPf hI
        generalize (wr.setCell ⟨g, 0, none⟩ (.slice A1 (dataL b (N - 3)).length k1)).setCell ⟨g, 1, none⟩ (.slice A2 n2 k2) = Wf at *
        rw [HG.out.1] at q3
        have r1 : Row Wf (g + 1) 3 1 (.slice A2 n2 k2) (parL b N).length (intsV (parL b N)) := by rw [HL2.out]; exact q1
        exact bodyPost_ret (v := .tuple #[.agg #[.slice A1 (dataL b (N - 3)).length k1, .slice A2 n2 k2], .bool true]) (by simp [results, Tryz.results28, go_sem, z0, z1]) rfl ⟨⟨_, _, q2.mono (show w.heap.size ≤ B1 by have := HG.out.1; omega), r1.mono (show w.heap.size ≤ g + 1 by have := HG.out.1; omega), rfl⟩, q3⟩

set_option maxHeartbeats 1000000 in
theorem parity_of_not (n : Int) (b : Bool) (w : World) (h : ¬ (4 ≤ n ∧ n ≤ 64 ∧ n % 4 = 0)) :
    Calls Tryz.prog 28 #[.int .i64 n, .bool b] w fun e w' => e = .returned (.tuple #[.agg #[.slice none 0 0, .slice none 0 0], .bool false]) ∧ Below w.heap.size w w' := by
  have hcas : n < 4 ∨ (¬ n < 4 ∧ 64 < n) ∨ (¬ n < 4 ∧ ¬ 64 < n ∧ n % 4 ≠ 0) := by omega
  clear h
  have hb := (Below.refl w.heap.size w).alloc (Nat.le_refl _) (.cells #[.slice none 0 0, .slice none 0 0] 78)
  have hP : PlanAt (w.alloc (.cells #[.slice none 0 0, .slice none 0 0] 78)) w.heap.size (.slice none 0 0) (.slice none 0 0) := heap_alloc_new w _
  have z0 := hP.c0
  have z1 := hP.c1
  have HZ := Aside.mk (And.intro hb (And.intro z0 z1))
  clear hb hP z0 z1
  have ht : ¬ n < 4 → n.tmod 4 = n % 4 := fun h => tmod4 (by omega)
  rcases hcas with h | ⟨h, h2⟩ | ⟨h, h2, h3⟩
  all_goals
    have hw : ¬ n < 4 → IntKind.i64.wrap (n.tmod 4) = n % 4 := fun h => by rw [ht h, IntKind.wrap_i64]; omega
  case' inr.inr => have hw := hw h; have h4 : (n % 4 == 0) = false := by simp; exact h3
  all_goals
    clear ht
    go_enter Tryz.func28, Tryz.ntmps28
    go_wp2
    obtain ⟨hb, z0, z1⟩ := HZ.out
    generalize w.alloc (.cells #[.slice none 0 0, .slice none 0 0] 78) = Wf at *
    exact bodyPost_ret (v := .tuple #[.agg #[.slice none 0 0, .slice none 0 0], .bool false]) (by simp [results, Tryz.results28, go_sem, z0, z1]) rfl ⟨rfl, hb⟩
end Go.Proofs.YtkgacnenmflegaaGreatDoor
namespace Go.Proofs.YtkgacnenmflegaaGreatDoor
open Go.RowKit

section
variable {w : World} {lo hi c bb bo cap : Nat} {pb : Nat → Nat} {S : ChS}
theorem nand_has (h : ChipAt w lo hi c bb bo cap pb S) (b : Nat) (hb : b < S.nb) :
    Calls Tryz.prog 117 #[.pointer (some ⟨c, 0, none⟩), .int .i64 (b : Int)] w fun e w' => e = .returned (.bool true) ∧ w = w' := by
  have c0 := h.c0
  have h1 : (0 : Int) ≤ (b : Int) := by omega
  have h2 : (b : Int) < (S.nb : Int) := by omega
  clear h
  go_enter Tryz.func117, Tryz.ntmps117
  go_wp2
  go_ret
  exact ⟨rfl, rfl⟩
theorem nand_hasPage (h : ChipAt w lo hi c bb bo cap pb S) (b p : Nat) (hb : b < S.nb) (hp : p < S.np) :
    Calls Tryz.prog 71 #[.pointer (some ⟨c, 0, none⟩), .int .i64 (b : Int), .int .i64 (p : Int)] w fun e w' => e = .returned (.bool true) ∧ w = w' := by
  have HH := Aside.mk (nand_has h b hb)
  have c0 := h.c0
  have b0 := h.b0 hb
  have h0 : (0 : Int) ≤ (b : Int) := by omega
  have h1 : (0 : Int) ≤ (p : Int) := by omega
  have h2 : (b : Int) < (S.nb : Int) := by omega
  have h3 : (p : Int) < (S.np : Int) := by omega
  clear h
  go_enter Tryz.func71, Tryz.ntmps71
  go_wp2_with (go_at_call 117; refine HH.out.mono ?_; rintro e w' ⟨rfl, rfl⟩)
  go_ret
  exact ⟨rfl, rfl⟩
theorem nand_may (h : ChipAt w lo hi c bb bo cap pb S) (b : Nat) (hb : b < S.nb) (ho : S.off = false) (hw : S.wo b = false) :
    Calls Tryz.prog 108 #[.pointer (some ⟨c, 0, none⟩), .int .i64 (b : Int)] w fun e w' => e = .returned (.int .i64 0) ∧ w = w' := by
  have c0 := h.c0
  have c7 := h.c7
  have b3 := h.b3 hb
  rw [ho] at c7
  rw [hw] at b3
  have h0 : (0 : Int) ≤ (b : Int) := by omega
  have h2 : (b : Int) < (S.nb : Int) := by omega
  clear h ho hw
  go_enter Tryz.func108, Tryz.ntmps108
  go_wp2
  go_ret
  exact ⟨rfl, rfl⟩
theorem nand_may_off (h : ChipAt w lo hi c bb bo cap pb S) (b : Nat) (ho : S.off = true) :
    Calls Tryz.prog 108 #[.pointer (some ⟨c, 0, none⟩), .int .i64 (b : Int)] w fun e w' => e = .returned (.int .i64 20) ∧ w = w' := by
  have c7 := h.c7
  rw [ho] at c7
  clear h ho
  go_enter Tryz.func108, Tryz.ntmps108
  go_wp2
  go_ret
  exact ⟨rfl, rfl⟩
/-- How a change is torn, 0 to 7. -/
def ChS.mode8 (S : ChS) : Int := (if S.mode < 0 then -(S.mode + 1) else S.mode) % 8
/-- The chip behind a change that begins. -/
def ChS.tick0 (S : ChS) : ChS := { S with chg := S.chg + 1 }
def ChS.tickL (S : ChS) : ChS := { S with chg := S.chg + 1, left := S.left - 1 }
def ChS.tick1 (S : ChS) : ChS := { S with chg := S.chg + 1, left := 0, off := true }
def TornPost (w : World) (lo hi c bb bo cap : Nat) (pb : Nat → Nat) (S' : ChS) (m : Int) (t : Bool) (e : Ending) (w' : World) : Prop := e = .returned (.tuple #[.int .i64 m, .bool t]) ∧ ChipAt w' lo hi c bb bo cap pb S' ∧ Cv c bb pb S'.nb w w'
theorem nand_torn0 (h : ChipAt w lo hi c bb bo cap pb S) (hc : S.chg ≤ 1000000) (hl : S.left = 0) :
    Calls Tryz.prog 109 #[.pointer (some ⟨c, 0, none⟩)] w (TornPost w lo hi c bb bo cap pb S.tick0 0 false) := by
  have c5 := h.c5
  have c8 := h.c8
  have f8 := h.cf 8
  rw [hl] at c5
  have e1 : IntKind.i64.wrap ((S.chg : Int) + 1) = ((S.chg + 1 : Nat) : Int) := by rw [IntKind.wrap_i64]; omega
  have H := Aside.mk (And.intro (h.setC 8 (.int .i64 ((S.chg + 1 : Nat) : Int)) S.tick0 rfl rfl rfl rfl rfl rfl (by simp [ChS.tick0])) (Chg.setCell (X := ChX c bb pb S.nb) (w := w) ⟨c, 8, none⟩ (.int .i64 ((S.chg + 1 : Nat) : Int)) (.inl rfl)))
  clear h hl
  generalize S.chg + 1 = k at *
  go_enter Tryz.func109, Tryz.ntmps109
  go_wp2
  go_ret2
  exact ⟨rfl, H.out.1, H.out.2⟩
theorem nand_tornL (h : ChipAt w lo hi c bb bo cap pb S) (hc : S.chg ≤ 1000000) (hl : 2 ≤ S.left) (hl2 : S.left ≤ 1000000) :
    Calls Tryz.prog 109 #[.pointer (some ⟨c, 0, none⟩)] w (TornPost w lo hi c bb bo cap pb S.tickL 0 false) := by
  have c8 := h.c8
  have f8 := h.cf 8
  obtain ⟨l1, hl1⟩ : ∃ l1, l1 = S.left - 1 := ⟨_, rfl⟩
  have e1 : IntKind.i64.wrap ((S.chg : Int) + 1) = ((S.chg + 1 : Nat) : Int) := by rw [IntKind.wrap_i64]; omega
  have e2 : IntKind.i64.wrap (S.left - 1) = l1 := by rw [IntKind.wrap_i64]; omega
  have h1 := h.setC 8 (.int .i64 ((S.chg + 1 : Nat) : Int)) S.tick0 rfl rfl rfl rfl rfl rfl (by simp [ChS.tick0])
  have m1 := Chg.setCell (X := ChX c bb pb S.nb) (w := w) ⟨c, 8, none⟩ (.int .i64 ((S.chg + 1 : Nat) : Int)) (.inl rfl)
  have c5 : (w.setCell ⟨c, 8, none⟩ (.int .i64 ((S.chg + 1 : Nat) : Int))).cell? ⟨c, 5, none⟩ = some (.int .i64 S.left) := h1.c5
  have f5 := h1.cf 5
  have h2 := h1.setC 5 (.int .i64 l1) S.tickL rfl rfl rfl rfl rfl rfl (by simp [ChS.tick0, ChS.tickL, hl1])
  have m2 := m1.trans (Chg.setCell (X := ChX c bb pb S.nb) (w := w.setCell ⟨c, 8, none⟩ (.int .i64 ((S.chg + 1 : Nat) : Int))) ⟨c, 5, none⟩ (.int .i64 l1) (.inl rfl))
  have d5 : ((w.setCell ⟨c, 8, none⟩ (.int .i64 ((S.chg + 1 : Nat) : Int))).setCell ⟨c, 5, none⟩ (.int .i64 l1)).cell? ⟨c, 5, none⟩ = some (.int .i64 l1) := by rw [hl1]; rw [hl1] at h2; exact h2.c5
  have H := Aside.mk (And.intro h2 m2)
  clear h h1 h2 m1 m2
  have hz : (S.left == 0) = false := by simp; omega
  have hz2 : ¬ S.left = 0 := by omega
  have hp : 0 < l1 := by omega
  clear hl1
  generalize S.left = l at *
  generalize S.chg + 1 = k at *
  go_enter Tryz.func109, Tryz.ntmps109
  go_upto_region 2 with fail
  generalize w.setCell ⟨c, 8, none⟩ (.int .i64 (k : Int)) = w1 at *
  go_upto_region 5 with fail
  generalize w1.setCell ⟨c, 5, none⟩ (.int .i64 l1) = w2 at *
  go_wp2
  go_ret2
  exact ⟨rfl, H.out.1, H.out.2⟩
theorem nand_torn1 (h : ChipAt w lo hi c bb bo cap pb S) (hc : S.chg ≤ 1000000) (hl : S.left = 1) (hm1 : -9223372036854775808 ≤ S.mode) (hm2 : S.mode ≤ 9223372036854775807) :
    Calls Tryz.prog 109 #[.pointer (some ⟨c, 0, none⟩)] w (TornPost w lo hi c bb bo cap pb S.tick1 S.mode8 true) := by
  have c8 := h.c8
  have f8 := h.cf 8
  have e1 : IntKind.i64.wrap ((S.chg : Int) + 1) = ((S.chg + 1 : Nat) : Int) := by rw [IntKind.wrap_i64]; omega
  have h1 := h.setC 8 (.int .i64 ((S.chg + 1 : Nat) : Int)) S.tick0 rfl rfl rfl rfl rfl rfl (by simp [ChS.tick0])
  have m1 := Chg.setCell (X := ChX c bb pb S.nb) (w := w) ⟨c, 8, none⟩ (.int .i64 ((S.chg + 1 : Nat) : Int)) (.inl rfl)
  obtain ⟨k, hk⟩ : ∃ k, k = S.chg + 1 := ⟨_, rfl⟩
  rw [← hk] at e1 h1 m1
  obtain ⟨w1, hw1⟩ : ∃ w1, w1 = w.setCell ⟨c, 8, none⟩ (.int .i64 (k : Int)) := ⟨_, rfl⟩
  rw [← hw1] at h1 m1
  have c5 : w1.cell? ⟨c, 5, none⟩ = some (.int .i64 1) := by have := h1.c5; rwa [show S.tick0.left = 1 from hl] at this
  have f5 := h1.cf 5
  have h2 := h1.setC 5 (.int .i64 0) { S.tick0 with left := 0 } rfl rfl rfl rfl rfl rfl (by simp)
  have m2 := m1.trans (Chg.setCell (X := ChX c bb pb S.nb) (w := w1) ⟨c, 5, none⟩ (.int .i64 0) (.inl rfl))
  obtain ⟨w2, hw2⟩ : ∃ w2, w2 = w1.setCell ⟨c, 5, none⟩ (.int .i64 0) := ⟨_, rfl⟩
  rw [← hw2] at h2 m2
  have d5 : w2.cell? ⟨c, 5, none⟩ = some (.int .i64 0) := h2.c5
  have c7 : w2.cell? ⟨c, 7, none⟩ = some (.bool S.off) := h2.c7
  have f7 := h2.cf 7
  have h3 := h2.setC 7 (.bool true) S.tick1 rfl rfl rfl rfl rfl rfl (by simp [ChS.tick0, ChS.tick1])
  have m3 := m2.trans (Chg.setCell (X := ChX c bb pb S.nb) (w := w2) ⟨c, 7, none⟩ (.bool true) (.inl rfl))
  obtain ⟨w3, hw3⟩ : ∃ w3, w3 = w2.setCell ⟨c, 7, none⟩ (.bool true) := ⟨_, rfl⟩
  rw [← hw3] at h3 m3
  have c6 : w3.cell? ⟨c, 6, none⟩ = some (.int .i64 S.mode) := h3.c6
  have H := Aside.mk (And.intro h3 m3)
  have HM : Aside (S.mode8 = S.mode8) := ⟨rfl⟩
  clear h h1 h2 h3 m1 m2 m3 hk
  unfold ChS.mode8
  generalize S.mode = m at *
  generalize S.off = ob at *
  go_enter Tryz.func109, Tryz.ntmps109
  go_upto_region 2 with fail
  rw [← hw1]
  clear hw1 c8 f8
  go_upto_region 5 with fail
  rw [← hw2]
  clear hw2 c5 f5
  go_upto_region 8 with fail
  rw [← hw3]
  clear hw3 c7 f7 d5
  by_cases hm : m < 0
  · have e3 : IntKind.i64.wrap (m + 1) = m + 1 := by rw [IntKind.wrap_i64]; omega
    have e4 : IntKind.i64.wrap (-(m + 1)) = -(m + 1) := by rw [IntKind.wrap_i64]; omega
    have e5 : (-(m + 1)).tmod 8 = -(m + 1) % 8 := by rw [Int.tmod_eq_emod_of_nonneg (by omega)]
    have e6 : IntKind.i64.wrap (-(m + 1) % 8) = -(m + 1) % 8 := by rw [IntKind.wrap_i64]; omega
    go_wp2
    go_ret2
    exact ⟨rfl, H.out.1, H.out.2⟩
  · have e5 : m.tmod 8 = m % 8 := by rw [Int.tmod_eq_emod_of_nonneg (by omega)]
    have e6 : IntKind.i64.wrap (m % 8) = m % 8 := by rw [IntKind.wrap_i64]; omega
    go_wp2
    go_ret2
    exact ⟨rfl, H.out.1, H.out.2⟩
/-- The page is written. -/
def PgS.put (x : PgS) (d : ByteArray) : PgS := { x with st := 1, data := d }
theorem setPg_setPg (S : ChS) (b p : Nat) (x y : PgS) : (S.setPg b p x).setPg b p y = S.setPg b p y := by
  unfold ChS.setPg
  congr 1
  funext i k
  by_cases h : i = b ∧ k = p <;> simp [h]
def ProgPost (w : World) (lo hi c bb bo cap : Nat) (pb : Nat → Nat) (S' : ChS) (r : Int) (e : Ending) (w' : World) : Prop := e = .returned (.int .i64 r) ∧ ChipAt w' lo hi c bb bo cap pb S' ∧ Cv c bb pb S'.nb w w'
/-- The page, and all behind it, are as erased. -/
def ChS.fresh (S : ChS) (b p : Nat) : Prop := ∀ q, p ≤ q → q < S.np → (S.pg b q).st = 0 ∧ (S.pg b q).tch = false
theorem slice_from3 {P : Program} (t e : TypeId) (ht : P.underlying t = some (.slice e)) (hsz : (P.info? e).map (·.size) = some 3) (b n j : Nat) (hj : j < n) (W : World) :
    (Instr.slice t (.slice (some ⟨b, 0, none⟩) n n) (some (.int .i64 (j : Int))) none none).run P W = .ok (.slice (some ⟨b, j * 3, none⟩) (n - j) (n - j)) W := by
  obtain ⟨i, hi, hsz⟩ := Option.map_eq_some_iff.1 hsz
  have he : P.elem t = e := by simp [Program.elem, ht]
  rw [run_slice_l W t (some ⟨b, 0, none⟩) n n (by rw [he]; exact ht) .i64 j (by omega) (by omega)]
  simp [sizeOf, typeInfo, he, hi, sliced, add_plain, hsz]
  omega
set_option maxRecDepth 20000 in
set_option maxHeartbeats 2000000 in
/-- A page is written, and the power stays. -/
theorem nand_program (h : ChipAt w lo hi c bb bo cap pb S) (b p : Nat) (hb : b < S.nb) (hp : p < S.np) (hnp : S.np ≤ 64) (d : ByteArray) (hd : d.size = S.raw) (ho : S.off = false) (hw : S.wo b = false) (hf : S.fresh b p) (S1 : ChS)
    (hpg : S1.pg = S.pg) (hnb1 : S1.nb = S.nb) (hnp1 : S1.np = S.np)
    (HT : ∀ W, ChipAt W lo hi c bb bo cap pb S → Calls Tryz.prog 109 #[.pointer (some ⟨c, 0, none⟩)] W (TornPost W lo hi c bb bo cap pb S1 0 false)) :
    Calls Tryz.prog 62 #[.pointer (some ⟨c, 0, none⟩), .int .i64 (b : Int), .int .i64 (p : Int), .string d] w (ProgPost w lo hi c bb bo cap pb (S1.setPg b p ((S.pg b p).put d)) 0) := by
  have HH := Aside.mk (nand_hasPage h b p hb hp)
  have HM := Aside.mk (nand_may h b hb ho hw)
  have HA := Aside.mk h
  have HTT := Aside.mk HT
  have c0 := h.c0
  have c1 := h.c1
  have b0 := h.b0 hb
  have hs3 := slice_from3 (P := Tryz.prog) 160 159 rfl (by kernel_rfl) (pb b) S.np p hp w
  have hdz : (d.size : Int) = (S.raw : Int) := by omega
  have g0 : (0 : Int) ≤ (b : Int) := by omega
  have g1 : (0 : Int) ≤ (p : Int) := by omega
  have g2 : (b : Int) < (S.nb : Int) := by omega
  have g3 : (p : Int) < (S.np : Int) := by omega
  have HF := Aside.mk (And.intro hf (And.intro hpg (And.intro hnb1 hnp1)))
  have HB := Aside.mk (And.intro hb (And.intro hp hnp))
  clear h HT hd ho hw hf hpg hnb1 hnp1 hb hp hnp
  go_enter Tryz.func62, Tryz.ntmps62
  go_upto_region 8 with (first | (go_at_call 71; refine HH.out.mono ?_; rintro e w' ⟨rfl, rfl⟩) | (go_at_call 108; refine HM.out.mono ?_; rintro e w' ⟨rfl, rfl⟩))
  obtain ⟨m, hm⟩ : ∃ m, m = S.np - p := ⟨_, rfl⟩
  rw [← hm] at hs3 ⊢
  have HMM : Aside (m = S.np - p) := ⟨hm⟩
  have hm64 : m ≤ 64 := by have := HB.out; omega
  clear hm hs3 c0 c1 b0 HH HM hdz g2 g3
  go_loopw [51] (fun s51 wr => ∃ i : Nat, i ≤ m ∧ s51 = .int .i64 (i : Int) ∧ Aside (Below w.heap.size w wr)) (fun s51 _ => m - (intOf s51).toNat)
  case atStart => exact ⟨0, by omega, rfl, ⟨Below.refl _ _⟩⟩
  case round =>
    obtain ⟨i, him, rfl, HI⟩ := hrel
    have hr := HA.out.below HI.out
    have i1 : IntKind.i64.wrap ((i : Int) + 1) = ((i + 1 : Nat) : Int) := by rw [IntKind.wrap_i64]; omega
    by_cases hlt : i < m
    · have hq : p + i < S.np := by have := HMM.out; omega
      have hz := HF.out.1 (p + i) (by omega) hq
      have y0 := hr.p0 HB.out.1 hq
      have y1 := hr.p1 HB.out.1 hq
      have y2 := hr.p2 HB.out.1 hq
      rw [hz.1, Nat.add_mul] at y0
      rw [Nat.add_mul] at y1
      rw [hz.2, Nat.add_mul] at y2
      have k0 : (0 : Int) ≤ (i : Int) := by omega
      have k1 : (i : Int) < (m : Int) := by omega
      have HB2 : Aside (∀ o, Below w.heap.size w (wr.alloc o)) := ⟨fun o => HI.out.alloc HI.out.size o⟩
      clear hr hz hq
      go_wp2
      go_roundw
      case rel => exact ⟨i + 1, by omega, rfl, ⟨HB2.out _⟩⟩
      case measure => simp [intOf]; omega
    · have k1 : ¬ (i : Int) < (m : Int) := by omega
      have HR := Aside.mk hr
      clear hr hlt i1
      go_upto_region 14 with (go_at_call 109; refine (HTT.out _ HR.out).mono ?_; rintro e w1 ⟨rfl, h1, hm1⟩)
      have hb1 : b < S1.nb := by rw [HF.out.2.2.1]; exact HB.out.1
      have hp1 : p < S1.np := by rw [HF.out.2.2.2]; exact HB.out.2.1
      have c0 := h1.c0
      have b0 := h1.b0 hb1
      have g2 : (b : Int) < (S1.nb : Int) := by omega
      have g3 : (p : Int) < (S1.np : Int) := by omega
      have y0 := h1.p0 hb1 hp1
      have z0 := h1.pf hb1 (p * 3)
      have e0 : S1.pg b p = S.pg b p := by rw [HF.out.2.1]
      have h2 := h1.setP hb1 hp1 (j := 0) (by omega) (.int .i64 1) { S.pg b p with st := 1 } (fun k hk => by rw [e0]; rcases (show k = 0 ∨ k = 1 ∨ k = 2 by omega) with rfl | rfl | rfl <;> simp [pgF])
      have m2 := hm1.trans (Chg.setCell (X := ChX c bb pb S1.nb) (w := w1) ⟨pb b, p * 3 + 0, none⟩ (.int .i64 1) (.inr (.inr ⟨b, hb1, rfl⟩)))
      rw [Nat.add_zero] at h2 m2
      have y1 := h2.p1 hb1 hp1
      have z1 := h2.pf hb1 (p * 3 + 1)
      have h3 := h2.setP hb1 hp1 (j := 1) (by omega) (.string d) ((S.pg b p).put d) (fun k hk => by
        have e2 : (S1.setPg b p { S.pg b p with st := 1 }).pg b p = { S.pg b p with st := 1 } := by simp [ChS.setPg]
        rw [e2]
        rcases (show k = 0 ∨ k = 1 ∨ k = 2 by omega) with rfl | rfl | rfl <;> simp [pgF, PgS.put])
      have m3 := m2.trans (Chg.setCell (X := ChX c bb pb S1.nb) (w := w1.setCell ⟨pb b, p * 3, none⟩ (.int .i64 1)) ⟨pb b, p * 3 + 1, none⟩ (.string d) (.inr (.inr ⟨b, hb1, rfl⟩)))
      rw [setPg_setPg] at h3
      have HE := Aside.mk (And.intro h3 ((Cv.below HI.out).trans m3))
      clear h1 h2 h3 hm1 m2 m3 hb1 hp1 e0
      go_wp2
      go_ret
      exact ⟨rfl, HE.out.1, HE.out.2⟩
end
end Go.Proofs.YtkgacnenmflegaaGreatDoor
