/-
  What the document's packer does to its three fields; what the packer's functions do with nil; how many bytes are held.
-/
import Derived.Test.YtbkkdglmcoglfaaPackWalks
import Derived.Deep.DeepCutAuto
namespace Go.Proofs.Ytbkkdglmcoglfaa
open Go.RowKit

/-- The document's packer lies in block g. -/
def Rk (w : World) (g : Nat) (z gv : Int) (h : ByteArray) : Prop := w.heap[g]? = some (.cells #[.int .i64 z, .int .i64 gv, .string h] 35 (0, 0))
section
variable {w w' : World} {g : Nat} {z gv : Int} {h : ByteArray}
theorem Rk.lt (p : Rk w g z gv h) : g < w.heap.size := (Array.getElem?_eq_some_iff.1 p).1
theorem Rk.c0 (p : Rk w g z gv h) : w.cell? ⟨g, 0, none⟩ = some (.int .i64 z) := cell_of_row w g 0 _ _ _ p
theorem Rk.c1 (p : Rk w g z gv h) : w.cell? ⟨g, 1, none⟩ = some (.int .i64 gv) := cell_of_row w g 1 _ _ _ p
theorem Rk.c2 (p : Rk w g z gv h) : w.cell? ⟨g, 2, none⟩ = some (.string h) := cell_of_row w g 2 _ _ _ p
theorem Rk.free (p : Rk w g z gv h) (i : Nat) : w.frozen? ⟨g, i, none⟩ = false := by
  unfold Rk at p
  simp [World.frozen?, p]
theorem Rk.kept {g' : Nat} (p : Rk w g z gv h) (hg : w.grownBy w' (some g')) (hne : g ≠ g') : Rk w' g z gv h := (hg.block g p.lt (by simpa using hne)).trans p
theorem Pk.kept' {g' : Nat} (p : Pk w g z gv h) (hg : w.grownBy w' (some g')) (hne : g ≠ g') : Pk w' g z gv h := (hg.block g p.lt (by simpa using hne)).trans p
theorem Rk.drew (p : Rk w g z gv h) : Rk w.drew g z gv h := p
theorem Rk.set2 (p : Rk w g z gv h) (x : ByteArray) : Rk (w.setCell ⟨g, 2, none⟩ (.string x)) g z gv x := by
  have hlt := p.lt
  unfold Rk at *
  simp [World.setCell, Array.getElem?_modify, p]
theorem Rk.set1 (p : Rk w g z gv h) (x : Int) : Rk (w.setCell ⟨g, 1, none⟩ (.int .i64 x)) g z x h := by
  have hlt := p.lt
  unfold Rk at *
  simp [World.setCell, Array.getElem?_modify, p]
theorem Rk.new (w : World) (z : Int) : Rk (w.alloc (.cells #[.int .i64 z, .int .i64 0, .string ⟨#[]⟩] 35)) w.heap.size z 0 ⟨#[]⟩ := heap_alloc_new w _
theorem Rk.eq {z' gv' : Int} {h' : ByteArray} (p : Rk w g z gv h) (e1 : z = z') (e2 : gv = gv') (e3 : h = h') : Rk w g z' gv' h' := by subst e1; subst e2; subst e3; exact p
end

set_option maxHeartbeats 400000 in
theorem ref_size (n : Int) (w : World) :
    Calls Try.prog 10 #[.int .i64 n] w fun e w' => e = .returned (.int .i64 (min (max n 1) 2048)) ∧ w = w' := by
  have hc : n < 1 ∨ 2048 < n ∨ (1 ≤ n ∧ n ≤ 2048) := by omega
  go_enter Try.func10, Try.ntmps10
  rcases hc with h | h | h
  · rw [show min (max n 1) 2048 = 1 by omega]
    go_wp2
    go_ret
    exact ⟨rfl, rfl⟩
  · rw [show min (max n 1) 2048 = 2048 by omega]
    have h2 : ¬ n < 1 := by omega
    go_wp2
    go_ret
    exact ⟨rfl, rfl⟩
  · rw [show min (max n 1) 2048 = n by omega]
    have h2 : ¬ n < 1 := by omega
    have h3 : ¬ 2048 < n := by omega
    go_wp2
    go_ret
    exact ⟨rfl, rfl⟩

set_option maxHeartbeats 400000 in
theorem ref_flush (g : Nat) (z gv : Int) (h : ByteArray) (w : World) (p : Rk w g z gv h) (hne : h.toList.isEmpty = false) (h0 : 0 ≤ gv) (h1 : gv < 9223372036854775807) :
    Calls Try.prog 11 #[.pointer (some ⟨g, 0, none⟩)] w fun e w' => e = .returned (.tuple #[.string h, .bool true]) ∧ Rk w' g z (gv + 1) ⟨#[]⟩ ∧ w.grownBy w' (some g) := by
  have c0 := p.c0
  have c1 := p.c1
  have c2 := p.c2
  have f1 := p.free 1
  have f2 := p.free 2
  go_enter Try.func11, Try.ntmps11
  go_wp2
  go_ret2
  exact ⟨rfl, (p.set2 _).set1 _, World.grownBy.trans (grownBy_set _ _ _ _) (grownBy_set _ _ _ _)⟩
set_option maxHeartbeats 400000 in
theorem ref_flush_none (g : Nat) (z gv : Int) (h : ByteArray) (w : World) (p : Rk w g z gv h) (hne : h.toList.isEmpty = true) :
    Calls Try.prog 11 #[.pointer (some ⟨g, 0, none⟩)] w fun e w' => e = .returned (.tuple #[.string ⟨#[]⟩, .bool false]) ∧ w = w' := by
  have c2 := p.c2
  go_enter Try.func11, Try.ntmps11
  go_wp2
  go_ret2
  exact ⟨rfl, rfl⟩
set_option maxHeartbeats 400000 in
theorem ref_add_empty (g : Nat) (s : ByteArray) (w : World) (hs : s.toList.isEmpty = true) :
    Calls Try.prog 12 #[.pointer (some ⟨g, 0, none⟩), .string s] w fun e w' => e = .returned (.tuple #[.string ⟨#[]⟩, .bool false, .int .i64 1]) ∧ w = w' := by
  go_enter Try.func12, Try.ntmps12
  go_wp2
  go_ret3
  exact ⟨rfl, rfl⟩
set_option maxHeartbeats 400000 in
theorem ref_add_long (g : Nat) (z gv : Int) (h s : ByteArray) (w : World) (p : Rk w g z gv h) (hs : s.toList.isEmpty = false) (hz : z < (s.size : Int)) :
    Calls Try.prog 12 #[.pointer (some ⟨g, 0, none⟩), .string s] w fun e w' => e = .returned (.tuple #[.string ⟨#[]⟩, .bool false, .int .i64 2]) ∧ w = w' := by
  have c0 := p.c0
  go_enter Try.func12, Try.ntmps12
  go_wp2
  go_ret3
  exact ⟨rfl, rfl⟩
set_option maxHeartbeats 1000000 in
theorem ref_add_fits (g : Nat) (z gv : Int) (h s : ByteArray) (w : World) (p : Rk w g z gv h) (hs : s.toList.isEmpty = false) (hz : (h.size : Int) + (s.size : Int) ≤ z) (hz2 : z ≤ 2048) :
    Calls Try.prog 12 #[.pointer (some ⟨g, 0, none⟩), .string s] w fun e w' => e = .returned (.tuple #[.string ⟨#[]⟩, .bool false, .int .i64 0]) ∧ Rk w' g z gv (h ++ s) ∧ w.grownBy w' (some g) := by
  have c0 := p.c0
  have c1 := p.c1
  have c2 := p.c2
  have f1 := p.free 1
  have f2 := p.free 2
  have hw : IntKind.i64.wrap ((h.size : Int) + (s.size : Int)) = (h.size : Int) + (s.size : Int) := by rw [IntKind.wrap_i64]; omega
  have hz3 : ¬ z < (s.size : Int) := by omega
  go_enter Try.func12, Try.ntmps12
  go_wp2_with fail
  go_region
  go_wp2
  go_ret3
  exact ⟨rfl, (p.set2 _).drew, grownBy_drew (grownBy_set _ _ _ _)⟩
set_option maxHeartbeats 1000000 in
theorem ref_add_full (g : Nat) (z gv : Int) (h s : ByteArray) (w : World) (p : Rk w g z gv h) (hs : s.toList.isEmpty = false) (hz : (s.size : Int) ≤ z) (hz2 : z ≤ 2048) (hf : z < (h.size : Int) + (s.size : Int)) (h0 : 0 ≤ gv) (h1 : gv < 9223372036854775807) (hh : h.size ≤ 2048) :
    Calls Try.prog 12 #[.pointer (some ⟨g, 0, none⟩), .string s] w fun e w' => e = .returned (.tuple #[.string h, .bool true, .int .i64 0]) ∧ Rk w' g z (gv + 1) s ∧ w.grownBy w' (some g) := by
  have c0 := p.c0
  have c1 := p.c1
  have c2 := p.c2
  have f1 := p.free 1
  have f2 := p.free 2
  have hw : IntKind.i64.wrap ((h.size : Int) + (s.size : Int)) = (h.size : Int) + (s.size : Int) := by rw [IntKind.wrap_i64]; omega
  have hz3 : ¬ z < (s.size : Int) := by omega
  have hz4 : ¬ (h.size : Int) + (s.size : Int) ≤ z := by omega
  go_enter Try.func12, Try.ntmps12
  go_wp2_with fail
  go_region
  go_wp2
  go_ret3
  exact ⟨rfl, ((p.set2 _).set1 _).drew, grownBy_drew (World.grownBy.trans (grownBy_set _ _ _ _) (grownBy_set _ _ _ _))⟩

set_option maxHeartbeats 400000 in
theorem pack_held (g : Nat) (z gv : Int) (h : ByteArray) (w : World) (p : Pk w g z gv h) :
    Calls Try.prog 13 #[.pointer (some ⟨g, 0, none⟩)] w fun e w' => e = .returned (.tuple #[.int .i64 h.size, .int .i64 gv]) ∧ Below w.heap.size w w' := by
  have c1 := p.c1
  have c2 := p.c2
  go_enter Try.func13, Try.ntmps13
  go_wp2_with fail
  go_region
  go_wp2
  go_ret2
  exact ⟨rfl, (Below.refl _ _).drew⟩
set_option maxHeartbeats 400000 in
theorem pack_held_nil (w : World) :
    Calls Try.prog 13 #[.pointer none] w fun e w' => e = .returned (.tuple #[.int .i64 0, .int .i64 0]) ∧ w = w' := by
  go_enter Try.func13, Try.ntmps13
  go_wp2
  go_ret2
  exact ⟨rfl, rfl⟩
set_option maxHeartbeats 400000 in
theorem pack_flush_nil (w : World) :
    Calls Try.prog 9 #[.pointer none] w fun e w' => e = .returned (.tuple #[.string ⟨#[]⟩, .bool false]) ∧ w = w' := by
  go_enter Try.func9, Try.ntmps9
  go_wp2
  go_ret2
  exact ⟨rfl, rfl⟩
set_option maxHeartbeats 400000 in
theorem pack_add_nil (s : ByteArray) (w : World) :
    Calls Try.prog 8 #[.pointer none, .string s] w fun e w' => e = .returned (.tuple #[.string ⟨#[]⟩, .bool false, .int .i64 1]) ∧ w = w' := by
  go_enter Try.func8, Try.ntmps8
  go_wp2
  go_ret3
  exact ⟨rfl, rfl⟩
end Go.Proofs.Ytbkkdglmcoglfaa
