/-
  The arguments of a law: slices of numbers and of texts that came in, as what their cells hold.
-/
import Derived.Test.YtnjmhfgplchogaaMem
import Derived.ProofKit
import Derived.OpenShut
import Derived.SizedLaws
import Derived.SliceStrings
namespace Go.Proofs.Ytnjmhfgplchogaa
open Go.ChangeShapes Go.WideShapes Go.ChangeAt Go.RowKit

theorem args_ints {H : Type} {enc : TypeId × Value → H} {P : Program} {W : World} {base : Nat} {spare : Nat → Bool} {held : Bool} {t e : TypeId} {k : IntKind} {a : Option Addr} {len cap : Nat} {d : DataW H} {ps : List MemPlace} {ts : List TypeId} {ds : List (DataW H)} {j : Nat}
    (hsz : (DataW.weightsEach P ts ds).all (· ≤ reachBytes) = true) (ht : ts[j]? = some t) (hd : ds[j]? = some d) (hu : P.underlying t = some (.slice e)) (he : P.underlying e = some (.int k)) (hc : P.cellsOf e = 1) {B : Nat} (hB : P.bytesOf e = B)
    (h : DataW.Trod enc P W base spare held t (.slice a len cap) d ps) :
    ∃ z : List Int, z.length = len ∧ len ≤ cap ∧ cap ≤ maxLen ∧ len * B ≤ 140737488351232 ∧ (∀ x ∈ z, (Lit.int k x).wf = true) ∧ Rd W a len (fun i => .int k (z.getD i 0)) ∧ (d = .nil ∧ z = [] ∨ ∃ sp, d = .slice (lits k z) sp) := by
  obtain ⟨fuel, hf⟩ := h
  rcases open_ints hu he hc hf with ⟨hcs, hx⟩ | ⟨x, l, c, zs, hcs, _, hl, hm, hz, hx, hcell, hwz⟩
  · simp [Value.cells] at hcs
    obtain ⟨rfl, rfl, rfl⟩ := hcs
    exact ⟨[], rfl, Nat.le_refl _, Nat.zero_le _, by simp, by simp, fun i hi => by omega, .inl ⟨by simpa using (Prod.mk.inj hx).1, rfl⟩⟩
  · simp [Value.cells] at hcs
    obtain ⟨rfl, rfl, rfl⟩ := hcs
    obtain ⟨hx, _⟩ := Prod.mk.inj hx
    subst hx
    have z := sized_slice hsz ht hd hu
    rw [hB] at z
    have hlen : len ≤ zs.length := by rw [hz]; split <;> omega
    have hll : (zs.take len).length = len := by rw [List.length_take]; omega
    refine ⟨zs.take len, hll, hl, hm, ?_, fun x hx => hwz x (List.mem_of_mem_take hx), fun i hi => ?_, .inr ⟨_, rfl⟩⟩
    · have : len * B ≤ reachBytes := Nat.le_trans (Nat.mul_le_mul_right B (by simp [lits]; omega)) z
      simpa [reachBytes] using this
    · obtain ⟨b, off, rfl, hcc⟩ := ints_at hcell (by omega)
      refine ⟨b, off, rfl, World.block_lt_of_cell? W _ (hcc i (by omega)), ?_⟩
      rw [hcc i (by omega)]
      simp [List.getD_eq_getElem?_getD, hi]

theorem strs_at {w : World} {a : Addr} {ss : List ByteArray} (h : ∀ i, i < ss.length → w.cell? (a.add i) = some (.string (ss.getD i ByteArray.empty))) (hp : 0 < ss.length) :
    ∃ b off, a = ⟨b, off, none⟩ ∧ ∀ j, j < ss.length → w.cell? ⟨b, off + j, none⟩ = some (.string (ss.getD j ByteArray.empty)) := by
  obtain ⟨b, off, spot⟩ := a
  have hspot : spot = none := by simpa [Addr.add] using World.cell?_spot (h 0 hp)
  subst hspot
  exact ⟨b, off, rfl, fun j hj => by rw [← Go.WideShapes.add_plain]; exact h j hj⟩

theorem weights_strs {H : Type} {P : Program} {e : TypeId} : ∀ (l : List ByteArray) (s : ByteArray), s ∈ l → s.size ∈ DataW.weightsAll (H := H) P e (strs l)
  | x :: l, s, h => by
    simp only [strs, List.map_cons, DataW.weightsAll, DataW.weights, List.mem_append]
    rcases List.mem_cons.1 h with rfl | h
    · left; simp
    · right; exact weights_strs l s h

theorem args_strs {H : Type} {enc : TypeId × Value → H} {P : Program} {W : World} {base : Nat} {spare : Nat → Bool} {held : Bool} {t e : TypeId} {a : Option Addr} {len cap : Nat} {d : DataW H} {ps : List MemPlace} {ts : List TypeId} {ds : List (DataW H)} {j : Nat}
    (hsz : (DataW.weightsEach P ts ds).all (· ≤ reachBytes) = true) (ht : ts[j]? = some t) (hd : ds[j]? = some d) (hu : P.underlying t = some (.slice e)) (he : P.underlying e = some .string) (hc : P.cellsOf e = 1) (hB : P.bytesOf e = 16)
    (h : DataW.Trod enc P W base spare held t (.slice a len cap) d ps) :
    ∃ z : List ByteArray, z.length = len ∧ len ≤ cap ∧ cap ≤ maxLen ∧ len * 16 ≤ 140737488351232 ∧ (∀ x ∈ z, x.size ≤ 140737488351232) ∧ Rd W a len (fun i => .string (z.getD i ByteArray.empty)) ∧ (d = .nil ∧ z = [] ∨ ∃ sp, d = .slice (strs z) sp) := by
  obtain ⟨fuel, hf⟩ := h
  rcases open_strings hu he hc hf with ⟨hcs, hx⟩ | ⟨x, l, c, zs, hcs, _, hl, hm, hz, hx, hcell, hwz⟩
  · simp [Value.cells] at hcs
    obtain ⟨rfl, rfl, rfl⟩ := hcs
    exact ⟨[], rfl, Nat.le_refl _, Nat.zero_le _, by simp, by simp, fun i hi => by omega, .inl ⟨by simpa using (Prod.mk.inj hx).1, rfl⟩⟩
  · simp [Value.cells] at hcs
    obtain ⟨rfl, rfl, rfl⟩ := hcs
    obtain ⟨hx, _⟩ := Prod.mk.inj hx
    subst hx
    have z := sized_slice hsz ht hd hu
    rw [hB] at z
    have hlen : len ≤ zs.length := by rw [hz]; split <;> omega
    have hll : (zs.take len).length = len := by rw [List.length_take]; omega
    refine ⟨zs.take len, hll, hl, hm, ?_, fun s hs => ?_, fun i hi => ?_, .inr ⟨_, rfl⟩⟩
    · have : len * 16 ≤ reachBytes := Nat.le_trans (Nat.mul_le_mul_right 16 (by simp [strs]; omega)) z
      simpa [reachBytes] using this
    · have := List.all_eq_true.1 hsz _ (DataW.weights_mem_each ht hd s.size (by simp only [DataW.weights, hu]; exact List.mem_cons_of_mem _ (List.mem_append_left _ (weights_strs _ s hs))))
      have h2 : s.size ≤ reachBytes := of_decide_eq_true this
      simpa [reachBytes] using h2
    · obtain ⟨b, off, rfl, hcc⟩ := strs_at hcell (by omega)
      refine ⟨b, off, rfl, World.block_lt_of_cell? W _ (hcc i (by omega)), ?_⟩
      rw [hcc i (by omega)]
      simp [List.getD_eq_getElem?_getD, hi]
end Go.Proofs.Ytnjmhfgplchogaa
