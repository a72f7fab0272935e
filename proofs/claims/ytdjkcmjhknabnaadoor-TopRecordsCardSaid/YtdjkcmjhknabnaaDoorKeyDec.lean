/-
  A key read back from a text.
-/
import Derived.Test.YtdjkcmjhknabnaaDoorKeyNum
import Derived.Test.YtdjkcmjhknabnaaDoorKeyRefEnc
import Derived.Test.YtdjkcmjhknabnaaDoorCells
namespace Go.Proofs.YtdjkcmjhknabnaaDoor.K
open Go.RowKit

abbrev noKey : Value := keyV 0 0 ⟨#[]⟩ 0
set_option maxHeartbeats 1000000 in
theorem key_decode_short (s : ByteArray) (w : World) (hs : s.size < 9) :
    Calls Tryd.prog 8 #[.string s] w fun e w' => e = .returned (.tuple #[noKey, .bool false]) ∧ Below w.heap.size w w' := by
  go_enter Tryd.func8, Tryd.ntmps8
  go_wp2
  exact bodyPost_ret (v := .tuple #[noKey, .bool false]) (by simp [results, Tryd.results8, go_sem]) rfl ⟨rfl, ((Below.refl _ _).alloc (Nat.le_refl _) _)⟩

def decV (n k : Int) (s : ByteArray) (p : Int) : Value := bif goodB n k s p then keyV n k s p else noKey
theorem num_at {s : ByteArray} (hs : 8 ≤ s.size) {n : Int} (hn : n = IntKind.i64.wrap (beN (s.data.toList.take 8))) (W : World) :
    Calls Tryd.prog 23 #[.string (s.extract 0 8)] W fun e w' => e = .returned (.int .i64 n) ∧ W = w' := by
  have h := key_number (s.extract 0 8) W (by simp; omega)
  have e : (s.extract 0 8).data.toList = s.data.toList.take 8 := by
    rw [ByteArray.data_extract, Array.toList_extract, List.extract_eq_take_drop]; simp
  rw [e, ← hn] at h
  exact h
theorem s8_lt {s : ByteArray} {k : Int} (hs : 9 ≤ s.size) (hk : (s[8].toNat : Int) = k) : IntKind.i64.wrap k = k := by
  have := s[8].toNat_lt
  rw [IntKind.wrap_i64]; omega
/-- Where a text is read as a key, that key's cells as they are laid first. -/
def decW (w : World) (n k : Int) : World := ((w.alloc (.cells #[.int .i64 0, .int .i64 0, .string ⟨#[]⟩, .int .i64 0] 26)).alloc (.cells #[.int .i64 n, .int .i64 k, .string ⟨#[]⟩, .int .i64 0] 26)).drew
def kRow (n k : Int) (s : ByteArray) (p : Int) : Array Value := #[.int .i64 n, .int .i64 k, .string s, .int .i64 p]
theorem decW_new (w : World) (n k : Int) : (decW w n k).heap[w.heap.size + 1]? = some (.cells (kRow n k ⟨#[]⟩ 0) 26 (0, 0)) := by
  have := heap_alloc_new (w.alloc (.cells #[.int .i64 0, .int .i64 0, .string ⟨#[]⟩, .int .i64 0] 26)) (.cells #[.int .i64 n, .int .i64 k, .string ⟨#[]⟩, .int .i64 0] 26)
  rwa [World.size_alloc] at this
theorem decW_old (w : World) (n k : Int) : (decW w n k).heap[w.heap.size]? = some (.cells (kRow 0 0 ⟨#[]⟩ 0) 26 (0, 0)) :=
  (Below.heap_alloc (w.alloc (.cells #[.int .i64 0, .int .i64 0, .string ⟨#[]⟩, .int .i64 0] 26)) _ _ (by simp)).trans (heap_alloc_new w _)
theorem decW_size (w : World) (n k : Int) : (decW w n k).heap.size = w.heap.size + 2 := by simp [decW]
theorem decW_below (w : World) (n k : Int) : Below w.heap.size w (decW w n k) := (((Below.refl _ _).alloc (Nat.le_refl _) _).alloc (by simp) _).drew
/-- Decode's two blocks: the answer's, the key's. -/
structure DSt (w : World) (n k : Int) (s : ByteArray) (p : Int) (W : World) : Prop where
  new : W.heap[w.heap.size + 1]? = some (.cells (kRow n k s p) 26 (0, 0))
  old : W.heap[w.heap.size]? = some (.cells (kRow 0 0 ⟨#[]⟩ 0) 26 (0, 0))
  bel : Below w.heap.size w W
theorem DSt.start (w : World) (n k : Int) : DSt w n k ⟨#[]⟩ 0 (decW w n k) := ⟨decW_new w n k, decW_old w n k, decW_below w n k⟩
theorem DSt.set2 {w W : World} {n k p : Int} {s : ByteArray} (h : DSt w n k s p W) (r : ByteArray) : DSt w n k r p (W.setCell ⟨w.heap.size + 1, 2, none⟩ (.string r)) :=
  ⟨row_set h.new _, row_other h.old (by omega) _, h.bel.setCell (by simp) _⟩
theorem DSt.set3 {w W : World} {n k p : Int} {s : ByteArray} (h : DSt w n k s p W) (q : Int) : DSt w n k s q (W.setCell ⟨w.heap.size + 1, 3, none⟩ (.int .i64 q)) :=
  ⟨row_set h.new _, row_other h.old (by omega) _, h.bel.setCell (by simp) _⟩
theorem DSt.alloc {w W : World} {n k p : Int} {s : ByteArray} (h : DSt w n k s p W) (X : Obj) : DSt w n k s p (W.alloc X) :=
  ⟨row_alloc h.new X, row_alloc h.old X, h.bel.alloc h.bel.size X⟩
theorem fin4 {W : World} {g : Nat} {a b d : Int} {c : ByteArray} {t : TypeId} (h : W.heap[g]? = some (.cells (kRow a b c d) t (0, 0))) (n k : Int) (s : ByteArray) (p : Int) :
    ((((W.setCell ⟨g, 0, none⟩ (.int .i64 n)).setCell ⟨g, 1, none⟩ (.int .i64 k)).setCell ⟨g, 2, none⟩ (.string s)).setCell ⟨g, 3, none⟩ (.int .i64 p)).heap[g]? = some (.cells (kRow n k s p) t (0, 0)) :=
  row_set (row_set (row_set (row_set h _) _) _) _
/-- Into the answer's block. -/
theorem below_set4 {w W : World} (h : Below w.heap.size w W) (a b c d : Value) : Below w.heap.size w ((((W.setCell ⟨w.heap.size, 0, none⟩ a).setCell ⟨w.heap.size, 1, none⟩ b).setCell ⟨w.heap.size, 2, none⟩ c).setCell ⟨w.heap.size, 3, none⟩ d) :=
  (((h.setCell (Nat.le_refl _) _).setCell (Nat.le_refl _) _).setCell (Nat.le_refl _) _).setCell (Nat.le_refl _) _

set_option maxHeartbeats 4000000 in
theorem key_decode_other (s : ByteArray) (w : World) (hs : 9 ≤ s.size) (hs2 : s.size ≤ 140737488351232) (n k : Int) (hn : n = IntKind.i64.wrap (beN (s.data.toList.take 8))) (hk : (s[8].toNat : Int) = k) (hk3 : (k == 3) = false) :
    Calls Tryd.prog 8 #[.string s] w fun e w' => e = .returned (.tuple #[decV n k (s.extract 9 s.size) 0, .bool (goodB n k (s.extract 9 s.size) 0)]) ∧ Below w.heap.size w w' := by
  have hs1 : (9 : Int) ≤ s.size := by omega
  have hkw := s8_lt hs hk
  have HN := Aside.mk (num_at (s := s) (by omega) hn)
  clear hn
  go_enter Tryd.func8, Tryd.ntmps8
  go_upto_region 3 with fail
  go_cut [4] (fun s4 wx => s4 = .pointer (some ⟨w.heap.size + 1, 0, none⟩) ∧ decW w n k = wx)
  case first =>
    go_region_with ((go_at_call 23; refine (HN.out _).mono ?_; rintro e w1 ⟨rfl, rfl⟩))
    all_goals (go_wp2; go_meet; exact ⟨rfl, rfl⟩)
  case rest =>
    obtain ⟨rfl, hW⟩ := hcut
    have hD := DSt.start w n k
    generalize decW w n k = W at hW hD
    subst hW
    generalize s.extract 9 s.size = r at *
    obtain ⟨c0, _⟩ := row_cell hD.new 0 (v := .int .i64 n) rfl
    obtain ⟨c1, _⟩ := row_cell hD.new 1 (v := .int .i64 k) rfl
    obtain ⟨c2, f2⟩ := row_cell hD.new 2 (v := .string ⟨#[]⟩) rfl
    obtain ⟨c3, _⟩ := row_cell hD.new 3 (v := .int .i64 0) rfl
    have hD2 := (hD.set2 (s.extract 9 s.size)).alloc (.cells #[.int .i64 n, .int .i64 k, .string (s.extract 9 s.size), .int .i64 0] 26)
    go_upto_if 33 with (go_at_call 10; refine (key_good n k _ 0 _).mono ?_; rintro e w3 ⟨rfl, hw3⟩; rw [hw3] at hD2; clear hw3 c0 c1 c2 f2 c3 hD)
    obtain ⟨c0, _⟩ := row_cell hD2.new 0 (v := .int .i64 n) rfl
    obtain ⟨c1, _⟩ := row_cell hD2.new 1 (v := .int .i64 k) rfl
    obtain ⟨c2, _⟩ := row_cell hD2.new 2 (v := .string (s.extract 9 s.size)) rfl
    obtain ⟨c3, _⟩ := row_cell hD2.new 3 (v := .int .i64 0) rfl
    obtain ⟨d0, e0⟩ := row_cell hD2.old 0 (v := .int .i64 0) rfl
    obtain ⟨d1, e1⟩ := row_cell hD2.old 1 (v := .int .i64 0) rfl
    obtain ⟨d2, e2⟩ := row_cell hD2.old 2 (v := .string ⟨#[]⟩) rfl
    obtain ⟨d3, e3⟩ := row_cell hD2.old 3 (v := .int .i64 0) rfl
    cases hg : goodB n k (s.extract 9 s.size) 0
    · go_wp2
      have hf := fin4 hD2.old 0 0 ⟨#[]⟩ 0
      have hbl := below_set4 hD2.bel (.int .i64 0) (.int .i64 0) (.string ⟨#[]⟩) (.int .i64 0)
      clear c0 c1 c2 c3 d0 d1 d2 d3 e0 e1 e2 e3
      generalize (((w3.setCell ⟨w.heap.size, 0, none⟩ (.int .i64 0)).setCell ⟨w.heap.size, 1, none⟩ (.int .i64 0)).setCell ⟨w.heap.size, 2, none⟩ (.string ⟨#[]⟩)).setCell ⟨w.heap.size, 3, none⟩ (.int .i64 0) = W4 at *
      obtain ⟨q0, _⟩ := row_cell hf 0 (v := .int .i64 0) rfl
      obtain ⟨q1, _⟩ := row_cell hf 1 (v := .int .i64 0) rfl
      obtain ⟨q2, _⟩ := row_cell hf 2 (v := .string ⟨#[]⟩) rfl
      obtain ⟨q3, _⟩ := row_cell hf 3 (v := .int .i64 0) rfl
      exact bodyPost_ret (v := .tuple #[decV n k (s.extract 9 s.size) 0, .bool (goodB n k (s.extract 9 s.size) 0)]) (by simp [results, Tryd.results8, go_sem, decV, hg, q0, q1, q2, q3]) rfl ⟨rfl, hbl⟩
    · go_wp2
      have hf := fin4 hD2.old n k (s.extract 9 s.size) 0
      have hbl := below_set4 hD2.bel (.int .i64 n) (.int .i64 k) (.string (s.extract 9 s.size)) (.int .i64 0)
      clear c0 c1 c2 c3 d0 d1 d2 d3 e0 e1 e2 e3
      generalize (((w3.setCell ⟨w.heap.size, 0, none⟩ (.int .i64 n)).setCell ⟨w.heap.size, 1, none⟩ (.int .i64 k)).setCell ⟨w.heap.size, 2, none⟩ (.string (s.extract 9 s.size))).setCell ⟨w.heap.size, 3, none⟩ (.int .i64 0) = W4 at *
      obtain ⟨q0, _⟩ := row_cell hf 0 (v := .int .i64 n) rfl
      obtain ⟨q1, _⟩ := row_cell hf 1 (v := .int .i64 k) rfl
      obtain ⟨q2, _⟩ := row_cell hf 2 (v := .string (s.extract 9 s.size)) rfl
      obtain ⟨q3, _⟩ := row_cell hf 3 (v := .int .i64 0) rfl
      exact bodyPost_ret (v := .tuple #[decV n k (s.extract 9 s.size) 0, .bool (goodB n k (s.extract 9 s.size) 0)]) (by simp [results, Tryd.results8, go_sem, decV, hg, q0, q1, q2, q3]) rfl ⟨rfl, hbl⟩
end Go.Proofs.YtdjkcmjhknabnaaDoor.K
