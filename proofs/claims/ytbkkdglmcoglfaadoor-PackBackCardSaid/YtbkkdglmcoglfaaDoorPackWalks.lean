/-
  What the packer's functions do to the packer's three fields.
-/
import Derived.Test.YtbkkdglmcoglfaaDoorProg
import Derived.Test.YtbkkdglmcoglfaaDoorMem
import Derived.WalkKit
import Derived.WalkSpells
import Derived.WalkLawsBesides
import Derived.RegionTactic
import Derived.BigRegion
import Derived.OwnWalk
namespace Go.Proofs.YtbkkdglmcoglfaaDoor
open Go.RowKit

/-- A packer lies in block g: its size, how many pages were given, what is held. -/
def Pk (w : World) (g : Nat) (z gv : Int) (h : ByteArray) : Prop := w.heap[g]? = some (.cells #[.int .i64 z, .int .i64 gv, .string h] 49 (0, 0))
section
variable {w w' : World} {g : Nat} {z gv : Int} {h : ByteArray}
theorem Pk.lt (p : Pk w g z gv h) : g < w.heap.size := (Array.getElem?_eq_some_iff.1 p).1
theorem Pk.c0 (p : Pk w g z gv h) : w.cell? ⟨g, 0, none⟩ = some (.int .i64 z) := cell_of_row w g 0 _ _ _ p
theorem Pk.c1 (p : Pk w g z gv h) : w.cell? ⟨g, 1, none⟩ = some (.int .i64 gv) := cell_of_row w g 1 _ _ _ p
theorem Pk.c2 (p : Pk w g z gv h) : w.cell? ⟨g, 2, none⟩ = some (.string h) := cell_of_row w g 2 _ _ _ p
theorem Pk.free (p : Pk w g z gv h) (i : Nat) : w.frozen? ⟨g, i, none⟩ = false := by
  unfold Pk at p
  simp [World.frozen?, p]
theorem Pk.kept (p : Pk w g z gv h) (hg : w.grownBy w' none) : Pk w' g z gv h := (hg.block g p.lt (by simp)).trans p
theorem Pk.drew (p : Pk w g z gv h) : Pk w.drew g z gv h := p
theorem Pk.set2 (p : Pk w g z gv h) (x : ByteArray) : Pk (w.setCell ⟨g, 2, none⟩ (.string x)) g z gv x := by
  have hlt := p.lt
  unfold Pk at *
  simp [World.setCell, Array.getElem?_modify, p]
theorem Pk.set1 (p : Pk w g z gv h) (x : Int) : Pk (w.setCell ⟨g, 1, none⟩ (.int .i64 x)) g z x h := by
  have hlt := p.lt
  unfold Pk at *
  simp [World.setCell, Array.getElem?_modify, p]
end
theorem grownBy_set (w : World) (g i : Nat) (x : Value) : w.grownBy (w.setCell ⟨g, i, none⟩ x) (some g) :=
  ⟨rfl, rfl, rfl, by simp [World.setCell], fun k _ hne => Below.heap_setCell _ _ _ _ (by simpa using fun e => hne (by simp [e]))⟩
theorem grownBy_drew {w w' : World} {row : Option Nat} (h : w.grownBy w' row) : w.grownBy w'.drew row := ⟨h.os, h.tape, h.output, h.size, h.block⟩

theorem Pk.new (w : World) {z' z : Int} (h : z' = z) : Pk (w.alloc (.cells #[.int .i64 z', .int .i64 0, .string ⟨#[]⟩] 49)) w.heap.size z 0 ⟨#[]⟩ := by
  subst h; exact heap_alloc_new w _

set_option maxHeartbeats 400000 in
theorem pack_new (n : Int) (w : World) :
    Calls Tryd.prog 8 #[.int .i64 n] w fun e w' => e = .returned (.pointer (some ⟨w.heap.size, 0, none⟩)) ∧ Pk w' w.heap.size (min (max n 1) 2048) 0 ⟨#[]⟩ ∧ Below w.heap.size w w' := by
  go_enter Tryd.func8, Tryd.ntmps8
  go_wp2
  all_goals
    go_ret
    exact ⟨rfl, Pk.new w (by omega), (Below.refl _ _).alloc (Nat.le_refl _) _⟩
set_option maxHeartbeats 400000 in
theorem pack_flush (g : Nat) (z gv : Int) (h : ByteArray) (w : World) (p : Pk w g z gv h) (hne : h.toList.isEmpty = false) (h0 : 0 ≤ gv) (h1 : gv < 9223372036854775807) :
    Calls Tryd.prog 11 #[.pointer (some ⟨g, 0, none⟩)] w fun e w' => e = .returned (.tuple #[.string h, .bool true]) ∧ Pk w' g z (gv + 1) ⟨#[]⟩ ∧ w.grownBy w' (some g) := by
  have c0 := p.c0
  have c1 := p.c1
  have c2 := p.c2
  have f1 := p.free 1
  have f2 := p.free 2
  go_enter Tryd.func11, Tryd.ntmps11
  go_wp2
  go_ret2
  exact ⟨rfl, (p.set2 _).set1 _, World.grownBy.trans (grownBy_set _ _ _ _) (grownBy_set _ _ _ _)⟩
set_option maxHeartbeats 400000 in
theorem pack_flush_none (g : Nat) (z gv : Int) (h : ByteArray) (w : World) (p : Pk w g z gv h) (hne : h.toList.isEmpty = true) :
    Calls Tryd.prog 11 #[.pointer (some ⟨g, 0, none⟩)] w fun e w' => e = .returned (.tuple #[.string ⟨#[]⟩, .bool false]) ∧ w = w' := by
  have c2 := p.c2
  go_enter Tryd.func11, Tryd.ntmps11
  go_wp2
  go_ret2
  exact ⟨rfl, rfl⟩

set_option maxHeartbeats 400000 in
theorem pack_add_empty (g : Nat) (s : ByteArray) (w : World) (hs : s.toList.isEmpty = true) :
    Calls Tryd.prog 10 #[.pointer (some ⟨g, 0, none⟩), .string s] w fun e w' => e = .returned (.tuple #[.string ⟨#[]⟩, .bool false, .int .i64 1]) ∧ w = w' := by
  go_enter Tryd.func10, Tryd.ntmps10
  go_wp2
  go_ret3
  exact ⟨rfl, rfl⟩
set_option maxHeartbeats 400000 in
theorem pack_add_long (g : Nat) (z gv : Int) (h s : ByteArray) (w : World) (p : Pk w g z gv h) (hs : s.toList.isEmpty = false) (hz : z < (s.size : Int)) :
    Calls Tryd.prog 10 #[.pointer (some ⟨g, 0, none⟩), .string s] w fun e w' => e = .returned (.tuple #[.string ⟨#[]⟩, .bool false, .int .i64 2]) ∧ w = w' := by
  have c0 := p.c0
  go_enter Tryd.func10, Tryd.ntmps10
  go_wp2
  go_ret3
  exact ⟨rfl, rfl⟩
set_option maxHeartbeats 1000000 in
theorem pack_add_fits (g : Nat) (z gv : Int) (h s : ByteArray) (w : World) (p : Pk w g z gv h) (hs : s.toList.isEmpty = false) (hz : (h.size : Int) + (s.size : Int) ≤ z) (hz2 : z ≤ 2048) :
    Calls Tryd.prog 10 #[.pointer (some ⟨g, 0, none⟩), .string s] w fun e w' => e = .returned (.tuple #[.string ⟨#[]⟩, .bool false, .int .i64 0]) ∧ Pk w' g z gv (h ++ s) ∧ w.grownBy w' (some g) := by
  have c0 := p.c0
  have c1 := p.c1
  have c2 := p.c2
  have f1 := p.free 1
  have f2 := p.free 2
  have hw : IntKind.i64.wrap ((h.size : Int) + (s.size : Int)) = (h.size : Int) + (s.size : Int) := by rw [IntKind.wrap_i64]; omega
  have hz3 : ¬ z < (s.size : Int) := by omega
  go_enter Tryd.func10, Tryd.ntmps10
  go_wp2_with fail
  go_region
  go_wp2
  go_ret3
  exact ⟨rfl, (p.set2 _).drew, grownBy_drew (grownBy_set _ _ _ _)⟩
set_option maxHeartbeats 1000000 in
theorem pack_add_full (g : Nat) (z gv : Int) (h s : ByteArray) (w : World) (p : Pk w g z gv h) (hs : s.toList.isEmpty = false) (hz : (s.size : Int) ≤ z) (hz2 : z ≤ 2048) (hf : z < (h.size : Int) + (s.size : Int)) (h0 : 0 ≤ gv) (h1 : gv < 9223372036854775807) (hh : h.size ≤ 2048) :
    Calls Tryd.prog 10 #[.pointer (some ⟨g, 0, none⟩), .string s] w fun e w' => e = .returned (.tuple #[.string h, .bool true, .int .i64 0]) ∧ Pk w' g z (gv + 1) s ∧ w.grownBy w' (some g) := by
  have c0 := p.c0
  have c1 := p.c1
  have c2 := p.c2
  have f1 := p.free 1
  have f2 := p.free 2
  have hw : IntKind.i64.wrap ((h.size : Int) + (s.size : Int)) = (h.size : Int) + (s.size : Int) := by rw [IntKind.wrap_i64]; omega
  have hz3 : ¬ z < (s.size : Int) := by omega
  have hz4 : ¬ (h.size : Int) + (s.size : Int) ≤ z := by omega
  have hne : h.toList.isEmpty = false := by
    cases hq : h.toList.isEmpty
    · rfl
    · exfalso
      have : h.size = 0 := by
        have h5 : h.data.toList.length = 0 := by
          rw [← ByteArray.toList_eq]; simpa using hq
        rwa [data_len] at h5
      omega
  go_enter Tryd.func10, Tryd.ntmps10
  go_wp2_with fail
  go_region
  go_wp2_with (go_at_call 11; refine (pack_flush g z gv h _ p.drew hne h0 h1).mono ?_; rintro e w1 ⟨rfl, p1, hg1⟩; have d2 := p1.c2; have e2 := p1.free 2)
  go_ret3
  exact ⟨rfl, p1.set2 _, World.grownBy.trans (show w.grownBy _ (some g) from ⟨hg1.os, hg1.tape, hg1.output, hg1.size, hg1.block⟩) (grownBy_set _ _ _ _)⟩
end Go.Proofs.YtbkkdglmcoglfaaDoor
