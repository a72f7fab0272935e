/-
  The blocks that came in, as what their cells hold.
-/
import Derived.Test.YtaganococolodaaWearPicks
import Derived.Deep.Slices
import Derived.ProofKit
import Derived.OpenShut
import Derived.SizedLaws
namespace Go.Proofs.Ytaganococolodaa
open Go.ChangeShapes Go.WideShapes Go.ChangeAt Go.RowKit Go.Deep

theorem known_elem {H : Type} {enc : TypeId × Value → H} {W : World} {base : Nat} {spare : Nat → Bool} {held : Bool} {n : Nat} {cs : List Value} {x : DataW H × List MemPlace}
    (h : DataW.trod enc Try.prog W base spare held n 38 cs = some x) : ∃ b : Blk, cs = b.cells.toList ∧ -9223372036854775808 ≤ b.er ∧ b.er ≤ 9223372036854775807 := by
  obtain ⟨xs, m, _, _, hl, hn, hf⟩ := DataW.trod_struct Try.underlying38 h
  have hc4 : Try.prog.cellsOf 38 = 4 := by kernel_rfl
  have hci : Try.prog.cellsOf 3 = 1 := by kernel_rfl
  have hcb : Try.prog.cellsOf 4 = 1 := by kernel_rfl
  rw [hc4] at hl
  match xs, hn, cs, hl with
  | [y0, y1, y2, y3], _, [v0, v1, v2, v3], _ =>
    have g0 := hf 0 _ rfl
    have g1 := hf 1 _ rfl
    have g2 := hf 2 _ rfl
    have g3 := hf 3 _ rfl
    simp [hci, hcb] at g0 g1 g2 g3
    obtain ⟨i0, e0, _, w0⟩ := DataW.trod_int Try.underlying3 g0
    obtain ⟨i1, e1, _, _⟩ := DataW.trod_int Try.underlying3 g1
    obtain ⟨b2, e2, _⟩ := DataW.trod_bool Try.underlying4 g2
    obtain ⟨b3, e3, _⟩ := DataW.trod_bool Try.underlying4 g3
    have hw : -9223372036854775808 ≤ i0 ∧ i0 ≤ 9223372036854775807 := by simpa [Lit.wf, IntKind.min, IntKind.max, IntKind.signed, IntKind.bits] using w0
    injection e0 with e0; injection e1 with e1; injection e2 with e2; injection e3 with e3
    exact ⟨⟨i0, i1, b2, b3⟩, by rw [e0, e1, e2, e3]; rfl, hw.1, hw.2⟩
instance : Inhabited Blk := ⟨⟨0, 0, false, false⟩⟩
theorem args_known {H : Type} {enc : TypeId × Value → H} {W : World} {base : Nat} {spare : Nat → Bool} {held : Bool} {a : Option Addr} {len cap : Nat} {d : DataW H} {ps : List MemPlace} {ts : List TypeId} {ds : List (DataW H)} {j : Nat}
    (hsz : (DataW.weightsEach Try.prog ts ds).all (· ≤ reachBytes) = true) (ht : ts[j]? = some 29) (hd : ds[j]? = some d)
    (h : DataW.Trod enc Try.prog W base spare held 29 (.slice a len cap) d ps) : ∃ f : Nat → Blk, KIn W a len cap f := by
  have hu : Try.prog.underlying 29 = some (.slice 38) := Try.underlying29
  have hB : Try.prog.bytesOf 38 = 24 := by kernel_rfl
  have hc4 : Try.prog.cellsOf 38 = 4 := by kernel_rfl
  obtain ⟨fuel, hf⟩ := h
  rcases open_slice hu hf with ⟨hcs, hx⟩ | ⟨a', len', cap', m, n, D, Pl, hcs, _, hl, hm, hmm, hx, hi⟩
  · simp [Value.cells] at hcs
    obtain ⟨rfl, rfl, rfl⟩ := hcs
    exact ⟨fun _ => ⟨0, 0, false, false⟩, by omega, Nat.le_refl _, Nat.zero_le _, fun k hk => by omega, fun k hk => by omega⟩
  · simp [Value.cells] at hcs
    obtain ⟨rfl, rfl, rfl⟩ := hcs
    obtain ⟨hx, _⟩ := Prod.mk.inj hx
    subst hx
    have z := sized_slice hsz ht hd hu
    rw [hB] at z
    have hlen : len ≤ 5864062014805 := by
      have h1 : ((List.range len).map D).length = len := by simp
      rw [h1] at z
      have h2 : len * 24 ≤ reachBytes := Nat.le_trans (Nat.mul_le_mul_right 24 (Nat.le_add_right _ _)) z
      have h3 : reachBytes = 140737488351232 := rfl
      omega
    have hlm : len ≤ m := by rw [hmm]; split <;> omega
    obtain ⟨f, hff⟩ := choose_lt (n := len) (α := Blk) (p := fun i (b : Blk) => W.cells? base (a'.add (i * 4)) 4 = some b.cells.toList ∧ -9223372036854775808 ≤ b.er ∧ b.er ≤ 9223372036854775807) (fun i hil => by
      obtain ⟨cs', h1, h2⟩ := hi i (by omega)
      rw [hc4] at h1
      obtain ⟨b, e, hw⟩ := known_elem h2
      exact ⟨b, by rw [← e]; exact h1, hw⟩)
    refine ⟨f, hlen, hl, hm, fun k hk => ?_, fun k hk => (hff k hk).2⟩
    obtain ⟨_, _, hcell⟩ := World.cells?_some (hff k hk).1
    have e0 := hcell 0 (by omega)
    have e1 := hcell 1 (by omega)
    have e2 := hcell 2 (by omega)
    have e3 := hcell 3 (by omega)
    obtain ⟨_, _, hcell0⟩ := World.cells?_some (hff 0 (by omega)).1
    have z0 : W.cell? ((a'.add (0 * 4)).add 0) = some (.int .i64 (f 0).er) := hcell0 0 (by omega)
    obtain ⟨b, off, spot⟩ := a'
    have hspot : spot = none := by simpa [Addr.add] using World.cell?_spot z0
    subst hspot
    rw [add_add, Go.WideShapes.add_plain] at e0 e1 e2 e3
    have hlt : b < W.heap.size := World.block_lt_of_cell? W _ e0
    exact ⟨b, off, rfl, hlt, e0, e1, e2, e3⟩
end Go.Proofs.Ytaganococolodaa
