/-
  The nodes of every page, and their places, or what is wrong.
-/
import Derived.Test.YtbkkdglmcoglfaaDoorPackUnp
import Derived.Test.YtbkkdglmcoglfaaDoorPackFull
namespace Go.Proofs.YtbkkdglmcoglfaaDoor
open Go.RowKit

theorem below_more {B : Nat} {w W W' : World} (h : Below B w W) (hB : B ≤ W.heap.size) (hb : Below W.heap.size W W') : Below B w W' := h.trans (hb.mono hB)
/-- The i-th node of a list of them, cell by cell. -/
theorem nodes_at {w : World} {base : Nat} {T : TypeId} {v : Value} {l : List (NodeT × Int)} (h : Row w base T 5 v l.length (nodesV l)) (i : Nat) (hi : i < l.length) :
    ∃ g off c, v = .slice (some ⟨g, off, none⟩) l.length c ∧ g < w.heap.size ∧ w.cell? ⟨g, off + i * 5, none⟩ = some (.int .i64 l[i].1.q) ∧ w.cell? ⟨g, off + i * 5 + 1, none⟩ = some (.bool l[i].1.g) ∧ w.cell? ⟨g, off + i * 5 + 2, none⟩ = some (.bool l[i].1.l) ∧
      w.cell? ⟨g, off + i * 5 + 3, none⟩ = some (.string l[i].1.k) ∧ w.cell? ⟨g, off + i * 5 + 4, none⟩ = some (.string l[i].1.v) := by
  obtain ⟨g, off, c, hv, hb, hg, hc, _⟩ := h.form (by omega)
  have key : ∀ k (hk : k < 5) u, l[i].1.cells[k]? = some u → w.cell? ⟨g, off + i * 5 + k, none⟩ = some u := fun k hk u hu => by
    have := h.cells hv (i * 5 + k) u (by rw [nodesV_get l i k hk hi]; exact hu)
    rwa [add_plain, ← Nat.add_assoc] at this
  exact ⟨g, off, c, hv, hg, key 0 (by omega) _ rfl, key 1 (by omega) _ rfl, key 2 (by omega) _ rfl, key 3 (by omega) _ rfl, key 4 (by omega) _ rfl⟩
theorem places_at {w : World} {base : Nat} {v : Value} {l : List (NodeT × Int)} (h : Row w base 3 1 v l.length (intsV (placesV l))) (i : Nat) (hi : i < l.length) :
    ∃ g off c, v = .slice (some ⟨g, off, none⟩) l.length c ∧ g < w.heap.size ∧ w.cell? ⟨g, off + i, none⟩ = some (.int .i64 l[i].2) := by
  obtain ⟨g, off, c, hv, hb, hg, hc, _⟩ := h.form (by omega)
  have := h.cells hv i (.int .i64 l[i].2) (by simp [intsV, placesV, hi])
  rw [add_plain] at this
  exact ⟨g, off, c, hv, hg, this⟩

set_option maxHeartbeats 8000000 in
theorem packUnpacks_walk (s : ByteArray) (w : World) (_hs : s.size ≤ 140737488351232) (hn : Nib w) (hb : s.size + 1 ≤ 1048576) :
    Calls Tryd.prog 3 #[.string s] w fun e w' => e = .returned (.bool true) ∧ Below w.heap.size w w' := by
  have hp := fun W (h : Nib W) => pack_unpack s W (by omega) h
  have hr := fun W => ref_unpack13 s W (by omega)
  generalize unpackR s = R at *
  obtain ⟨L, er⟩ := R
  have HP := Aside.mk hp
  have HR := Aside.mk hr
  have HN := Aside.mk hn
  clear hp hr hn hb
  go_enter Tryd.func3, Tryd.ntmps3
  go_upto_region 4 with (first | (go_at_call 5; refine (pack_speaks _).mono ?_; rintro e w1 ⟨rfl, hb1⟩) | (go_at_call 6; refine (HP.out _ (HN.out.below hb1)).mono ?_; rintro e w2 ⟨v1, v2, rfl, hr1, hr2, hb2⟩))
  have HA : Aside (Row w2 w.heap.size 33 5 v1 L.length (nodesV L) ∧ Row w2 w.heap.size 3 1 v2 L.length (intsV (placesV L)) ∧ Below w.heap.size w w2) := ⟨hr1.mono hb1.size, hr2.mono hb1.size, below_more hb1 hb1.size hb2⟩
  clear hr1 hr2 hb1 hb2
  go_upto_region 5 with (go_at_call 7; refine (HR.out _).mono ?_; rintro e w3 ⟨v3, v4, rfl, hr3, hr4, hb3⟩)
  have HB : Aside (Row w3 w.heap.size 33 5 v1 L.length (nodesV L) ∧ Row w3 w.heap.size 3 1 v2 L.length (intsV (placesV L)) ∧ Row w3 w.heap.size 32 5 v3 L.length (nodesV L) ∧ Row w3 w.heap.size 3 1 v4 L.length (intsV (placesV L)) ∧ Below w.heap.size w w3) :=
    ⟨HA.out.1.below hb3, HA.out.2.1.below hb3, hr3.mono HA.out.2.2.size, hr4.mono HA.out.2.2.size, below_more HA.out.2.2 HA.out.2.2.size hb3⟩
  clear HA hr3 hr4 hb3
  obtain ⟨A1, c1, rfl, hc1⟩ := HB.out.1.slice
  obtain ⟨A2, c2, rfl, hc2⟩ := HB.out.2.1.slice
  obtain ⟨A3, c3, rfl, hc3⟩ := HB.out.2.2.1.slice
  obtain ⟨A4, c4, rfl, hc4⟩ := HB.out.2.2.2.1.slice
  have hm := HB.out.1.max
  unfold maxLen at hm
  generalize hlen : L.length = n at *
  have HL := Aside.mk hlen
  clear hlen
  go_wp2
  go_loopw [9] (fun s9 wr => ∃ i : Nat, i ≤ n ∧ s9 = .int .i64 i ∧ ∃ d, wr = w3.drewN d) (fun s9 _ => n - (intOf s9).toNat)
  case atStart => exact ⟨0, Nat.zero_le _, rfl, 0, rfl⟩
  case round =>
    obtain ⟨i, hi, rfl, d, rfl⟩ := hrel
    by_cases hlt : i < n
    · have hiL : i < L.length := by rw [HL.out]; exact hlt
      have hB := HB.out
      rw [← HL.out] at hB
      obtain ⟨g1, o1, k1, e1, hg1, x0, x1, x2, x3, x4⟩ := nodes_at hB.1 i hiL
      obtain ⟨g3, o3, k3, e3, hg3, y0, y1, y2, y3, y4⟩ := nodes_at hB.2.2.1 i hiL
      obtain ⟨g2, o2, k2, e2, hg2, z0⟩ := places_at hB.2.1 i hiL
      obtain ⟨g4, o4, k4, e4, hg4, z1⟩ := places_at hB.2.2.2.1 i hiL
      injection e1 with e1 _ _
      injection e2 with e2 _ _
      injection e3 with e3 _ _
      injection e4 with e4 _ _
      subst e1; subst e2; subst e3; subst e4
      clear hB
      generalize L[i] = x at *
      clear hiL
      obtain ⟨x, p⟩ := x
      simp only at x0 x1 x2 x3 x4 y0 y1 y2 y3 y4 z0 z1
      go_upto_region 10 with fail
      go_quiet (fail)
      go_wp2
      go_roundw
      case rel => exact ⟨i + 1, by omega, by go_num, _, rfl⟩
      case measure => simp [intOf]; omega
    · obtain rfl : i = n := by omega
      go_wp2
      go_ret
      exact ⟨rfl, HB.out.2.2.2.2.trans ⟨rfl, rfl, rfl, Nat.le_refl _, fun _ _ => rfl⟩⟩
end Go.Proofs.YtbkkdglmcoglfaaDoor
