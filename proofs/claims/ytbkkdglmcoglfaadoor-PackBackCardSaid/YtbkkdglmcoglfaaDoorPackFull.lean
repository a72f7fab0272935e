/-
  A page is given only when the next text does not fit into it.
-/
import Derived.Test.YtbkkdglmcoglfaaDoorPackWalks
import Derived.Test.YtbkkdglmcoglfaaDoorArgs
import Derived.Deep.DeepCutAuto
namespace Go.Proofs.YtbkkdglmcoglfaaDoor
open Go.RowKit

theorem cat_nil_left (s : ByteArray) : (⟨#[]⟩ : ByteArray) ++ s = s := ByteArray.ext (by simp)
theorem cat_nil_right (s : ByteArray) : s ++ (⟨#[]⟩ : ByteArray) = s := ByteArray.ext (by simp)
theorem Pk.eq {w : World} {g : Nat} {z gv z' gv' : Int} {h h' : ByteArray} (p : Pk w g z gv h) (e1 : z = z') (e2 : gv = gv') (e3 : h = h') : Pk w g z' gv' h' := by subst e1; subst e2; subst e3; exact p
theorem below_of_grown {B : Nat} {w0 w w' : World} {g : Nat} (h : Below B w0 w) (hB : B ≤ g) (hl : g < w.heap.size) (hg : w.grownBy w' (some g)) : Below B w0 w' :=
  h.trans ⟨hg.os, hg.tape, hg.output, hg.size, fun i hi => hg.block i (by omega) (by simp; omega)⟩

theorem abc_cat : (⟨#[97, 98]⟩ : ByteArray) ++ ⟨#[99]⟩ = ⟨#[97, 98, 99]⟩ := ByteArray.ext (by simp)
theorem ab_ne : (⟨#[97, 98]⟩ : ByteArray).toList.isEmpty = false := by rw [ByteArray.toList_eq]; rfl
theorem c_ne : (⟨#[99]⟩ : ByteArray).toList.isEmpty = false := by rw [ByteArray.toList_eq]; rfl
theorem d_ne : (⟨#[100]⟩ : ByteArray).toList.isEmpty = false := by rw [ByteArray.toList_eq]; rfl
theorem ab_size : ((⟨#[97, 98]⟩ : ByteArray).size : Int) = 2 := rfl
set_option maxHeartbeats 1000000 in
theorem pack_speaks (w : World) :
    Calls Tryd.prog 5 #[] w fun e w' => e = .returned (.bool true) ∧ Below w.heap.size w w' := by
  go_enter Tryd.func5, Tryd.ntmps5
  go_upto_region 2 with (go_at_call 8; refine (pack_new _ _).mono ?_; rintro e w1 ⟨rfl, p0', hb1⟩; have p0 := p0'.eq (z' := 3) (by decide) rfl rfl; clear p0')
  go_upto_region 3 with (go_at_call 10; refine (pack_add_fits w.heap.size 3 0 ⟨#[]⟩ ⟨#[97, 98]⟩ _ (by assumption) ab_ne (by decide) (by decide)).mono ?_; rintro e w2 ⟨rfl, p2', hg2⟩; have p2 := p2'.eq (h' := ⟨#[97, 98]⟩) rfl rfl (cat_nil_left _); have hb2 := below_of_grown hb1 (Nat.le_refl _) p0.lt hg2; clear p2' hg2 hb1 p0)
  go_upto_region 4 with (go_at_call 10; refine (pack_add_fits w.heap.size 3 0 ⟨#[97, 98]⟩ ⟨#[99]⟩ _ (by assumption) c_ne (by decide) (by decide)).mono ?_; rintro e w3 ⟨rfl, p3', hg3⟩; have p3 := p3'.eq (h' := ⟨#[97, 98, 99]⟩) rfl rfl abc_cat; have hb3 := below_of_grown hb2 (Nat.le_refl _) p2.lt hg3; clear p3' hg3 hb2 p2)
  go_wp2_with (go_at_call 10; refine (pack_add_full w.heap.size 3 0 ⟨#[97, 98, 99]⟩ ⟨#[100]⟩ _ (by assumption) d_ne (by decide) (by decide) (by decide) (by decide) (by decide) (by decide)).mono ?_; rintro e w4 ⟨rfl, p4, hg4⟩; have hb4 := below_of_grown hb3 (Nat.le_refl _) p3.lt hg4; clear hg4 hb3 p3)
  go_ret
  exact ⟨rfl, hb4⟩

theorem bempty {s : ByteArray} (h : s.toList.isEmpty = true) : s = ⟨#[]⟩ := by
  rw [ByteArray.toList_eq] at h
  exact ByteArray.ext (Array.ext' (by simpa using h))

end Go.Proofs.YtbkkdglmcoglfaaDoor
