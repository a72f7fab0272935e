/-
  The comparison of two blocks by their reads, as the sort asks for it; two places of a list of numbers exchanged.
-/
import Derived.Test.YtaganococolodaaWearWalks
import Derived.Test.YtaganococolodaaWearSort
import Derived.Test.YtaganococolodaaWearBlks
import Derived.Deep.QuietTactic
namespace Go.Proofs.Ytaganococolodaa
open Go.RowKit

theorem cmp_nan (x : Int) (w : World) : Calls Try.prog 25 #[.int .i64 x] w fun e w' => e = .returned (.bool false) ∧ w' = w := by
  go_enter Try.func25, Try.ntmps25
  go_wp2
  go_ret
  exact ⟨rfl, rfl⟩
def cmpN (x y : Int) : Int := if x < y then -1 else if y < x then 1 else 0
theorem cmp_int (x y : Int) (w : World) : Calls Try.prog 19 #[.int .i64 x, .int .i64 y] w fun e w' => e = .returned (.int .i64 (cmpN x y)) ∧ w' = w := by
  go_enter Try.func19, Try.ntmps19
  unfold cmpN
  by_cases h1 : x < y
  · go_wp2_with (go_at_call 25; refine (cmp_nan _ _).mono ?_; rintro e w' ⟨rfl, rfl⟩)
    go_ret
    exact ⟨by simp, rfl⟩
  · by_cases h2 : y < x
    · go_wp2_with (go_at_call 25; refine (cmp_nan _ _).mono ?_; rintro e w' ⟨rfl, rfl⟩)
      go_ret
      exact ⟨by simp, rfl⟩
    · go_wp2_with (go_at_call 25; refine (cmp_nan _ _).mono ?_; rintro e w' ⟨rfl, rfl⟩)
      go_ret
      exact ⟨by simp, rfl⟩
/-- A box that holds a slice of blocks. -/
structure Boxed (w : World) (bx : Nat) (A : Option Addr) (nb cb : Nat) (f : Nat → Blk) : Prop where
  cell : w.cell? ⟨bx, 0, none⟩ = some (.slice A nb cb)
  blks : BRd w A nb f
  lt : bx < w.heap.size
  cap : nb ≤ cb
theorem scrub_cmp (bx : Nat) (A : Option Addr) (nb cb : Nat) (f : Nat → Blk) (x y : Nat) (w : World) (hB : Boxed w bx A nb cb f) (hx : x < nb) (hy : y < nb) :
    Calls Try.prog 18 #[.int .i64 (x : Nat), .int .i64 (y : Nat), .pointer (some ⟨bx, 0, none⟩)] w fun e w' => e = .returned (.int .i64 (cmpN (f y).rd (f x).rd)) ∧ ∃ m, w' = w.drewN m := by
  obtain ⟨hc, hb, _, hcap⟩ := hB
  obtain ⟨g, off, e1, _, _, r1, _, _⟩ := hb x hx
  obtain ⟨g2, off2, e2, _, _, r2, _, _⟩ := hb y hy
  rw [e1] at e2
  injection e2 with e2
  injection e2 with e2 e3
  subst e2; subst e3; subst e1
  have h1 : (x : Int) < (nb : Int) := by omega
  have h2 : (y : Int) < (nb : Int) := by omega
  have h3 : (0 : Int) ≤ (x : Int) := by omega
  have h4 : (0 : Int) ≤ (y : Int) := by omega
  obtain ⟨rx, hrx⟩ : ∃ r, r = (f x).rd := ⟨_, rfl⟩
  obtain ⟨ry, hry⟩ : ∃ r, r = (f y).rd := ⟨_, rfl⟩
  rw [← hrx] at r1 ⊢
  rw [← hry] at r2 ⊢
  clear hrx hry hb
  go_enter Try.func18, Try.ntmps18
  go_wp2
  go_quiet ((go_at_call 19; exact Calls.quiet_of_same (cmp_int _ _ _)))
  go_wp2
  go_ret
  exact ⟨rfl, _, rfl⟩

/-- The numbers of a list, by their places. -/
def natsV (F : Nat → Nat) (n : Nat) : List Value := (List.range n).map fun i => .int .i64 ((F i : Nat) : Int)
theorem natsV_len (F : Nat → Nat) (n : Nat) : (natsV F n).length = n := by simp [natsV]
theorem natsV_at (F : Nat → Nat) {n i : Nat} (h : i < n) : (natsV F n).getD i undef = .int .i64 ((F i : Nat) : Int) := by simp [natsV, h]
theorem natsV_set (F : Nat → Nat) (n : Nat) {i : Nat} {v : Nat} : (natsV F n).set i (.int .i64 (v : Int)) = natsV (fun p => if p = i then v else F p) n := by
  apply List.ext_getElem?
  intro j
  simp only [natsV, List.getElem?_set, List.length_map, List.length_range, List.getElem?_map]
  by_cases hj : j < n
  · by_cases e : i = j
    · subst e; simp [hj]
    · rw [if_neg e, List.getElem?_range hj]
      simp [Ne.symm e]
  · by_cases e : i = j
    · subst e; simp [hj]
    · rw [if_neg e, List.getElem?_eq_none (by simpa using hj)]
      rfl
/-- A list under sort: its row; else all is as it was. -/
structure SrtW (w : World) (g off n c nb : Nat) (F : Nat → Nat) (W : World) : Prop where
  row : Row W 0 3 1 (.slice (some ⟨g, off, none⟩) n c) n (natsV F n)
  grown : w.grownBy W (some g)
  lim : ∀ i, i < n → F i < nb
section
variable {w W : World} {g off n c nb : Nat} {F : Nat → Nat}
theorem SrtW.at_ (h : SrtW w g off n c nb F W) {i : Nat} (hi : i < n) : W.cell? ⟨g, off + i, none⟩ = some (.int .i64 ((F i : Nat) : Int)) ∧ W.frozen? ⟨g, off + i, none⟩ = false := by
  have := h.row.at_ rfl i hi
  rw [natsV_at F hi] at this
  exact this
theorem SrtW.set (h : SrtW w g off n c nb F W) {i : Nat} (hi : i < n) (v : Nat) (hv : v < nb) : SrtW w g off n c nb (fun p => if p = i then v else F p) (W.setCell ⟨g, off + i, none⟩ (.int .i64 (v : Int))) := by
  have hs := h.row.store rfl i (by omega) (.int .i64 (v : Int))
  rw [natsV_set] at hs
  exact ⟨hs.1, World.grownBy.trans h.grown hs.2, fun p hp => by split; exact hv; exact h.lim p hp⟩
theorem SrtW.drewN (h : SrtW w g off n c nb F W) (m : Nat) : SrtW w g off n c nb F (W.drewN m) := ⟨h.row.drewN m, World.grownBy.trans h.grown ⟨rfl, rfl, rfl, Nat.le_refl _, fun _ _ _ => rfl⟩, h.lim⟩
theorem SrtW.drew (h : SrtW w g off n c nb F W) : SrtW w g off n c nb F W.drew := ⟨h.row.drew, World.grownBy.trans h.grown ⟨rfl, rfl, rfl, Nat.le_refl _, fun _ _ _ => rfl⟩, h.lim⟩
theorem SrtW.swap (h : SrtW w g off n c nb F W) {i j : Nat} (hi : i < n) (hj : j < n) (hne : i ≠ j) :
    SrtW w g off n c nb (swp F i j) (((W.setCell ⟨g, off + i, none⟩ (.int .i64 ((F j : Nat) : Int))).setCell ⟨g, off + j, none⟩ (.int .i64 ((F i : Nat) : Int)))) := by
  have h2 := (h.set hi (F j) (h.lim j hj)).set hj (F i) (h.lim i hi)
  have e : (fun p => if p = j then F i else if p = i then F j else F p) = swp F i j := by
    funext p; unfold swp
    by_cases h1 : p = i
    · rw [if_pos h1, if_pos h1, if_neg (by omega)]
    · rw [if_neg h1, if_neg h1]
  rw [e] at h2
  exact h2
theorem Boxed.kept {bx : Nat} {A : Option Addr} {cb : Nat} {f : Nat → Blk} (h : Boxed w bx A nb cb f) (hg : w.grownBy W (some g)) (hb : bx ≠ g) (hA : ∀ a, A = some a → a.block ≠ g) : Boxed W bx A nb cb f := by
  have hc : ∀ b o, b < w.heap.size → b ≠ g → W.cell? ⟨b, o, none⟩ = w.cell? ⟨b, o, none⟩ := fun b o hlt hne => by
    unfold World.cell?
    rw [hg.block b hlt (fun e => hne (by injection e))]
  refine ⟨(hc bx 0 h.lt hb).trans h.cell, fun k hk => ?_, Nat.lt_of_lt_of_le h.lt hg.size, h.cap⟩
  obtain ⟨g2, off, e, hlt, c0, c1, c2, c3⟩ := h.blks k hk
  have hne := hA _ e
  exact ⟨g2, off, e, Nat.lt_of_lt_of_le hlt hg.size, (hc g2 _ hlt hne).trans c0, (hc g2 _ hlt hne).trans c1, (hc g2 _ hlt hne).trans c2, (hc g2 _ hlt hne).trans c3⟩
/-- The box and the blocks lie elsewhere. -/
structure Ctx (w : World) (g bx : Nat) (A : Option Addr) (nb cb : Nat) (f : Nat → Blk) : Prop where
  box : Boxed w bx A nb cb f
  off : bx ≠ g
  far : ∀ a, A = some a → a.block ≠ g
theorem SrtW.cmp {bx cb : Nat} {A : Option Addr} {f : Nat → Blk} (h : SrtW w g off n c nb F W) (C : Ctx w g bx A nb cb f) {i j : Nat} (hi : i < n) (hj : j < n) (m : Nat) :
    Calls Try.prog 18 #[.int .i64 ((F i : Nat) : Int), .int .i64 ((F j : Nat) : Int), .pointer (some ⟨bx, 0, none⟩)] (W.drewN m) fun e w' => e = .returned (.int .i64 (cmpN (f (F j)).rd (f (F i)).rd)) ∧ ∃ m', w' = W.drewN m' := by
  refine (scrub_cmp bx A nb cb f (F i) (F j) (W.drewN m) (C.box.kept (h.drewN m).grown C.off C.far) (h.lim i hi) (h.lim j hj)).mono ?_
  rintro e w' ⟨he, m', rfl⟩
  exact ⟨he, m + m', World.drewN_drewN ..⟩
theorem cmpN_neg {x y : Int} : cmpN x y < 0 ↔ x < y := by unfold cmpN; split; simp_all; split <;> simp_all
end
end Go.Proofs.Ytaganococolodaa
