/-
  The arguments of a law: slices of numbers and of texts that came in, as what their cells hold.
-/
import Derived.Test.YtaganococolodaaMem
import Derived.ProofKit
import Derived.OpenShut
import Derived.SizedLaws
import Derived.SliceStrings
namespace Go.Proofs.Ytaganococolodaa
open Go.ChangeShapes Go.WideShapes Go.ChangeAt Go.RowKit

theorem args_ints {H : Type} {enc : TypeId × Value → H} {P : Program} {W : World} {base : Nat} {spare : Nat → Bool} {held : Bool} {t e : TypeId} {k : IntKind} {a : Option Addr} {len cap : Nat} {d : DataW H} {ps : List MemPlace} {ts : List TypeId} {ds : List (DataW H)} {j : Nat}
    (hsz : (DataW.weightsEach P ts ds).all (· ≤ reachBytes) = true) (ht : ts[j]? = some t) (hd : ds[j]? = some d) (hu : P.underlying t = some (.slice e)) (he : P.underlying e = some (.int k)) (hc : P.cellsOf e = 1) {B : Nat} (hB : P.bytesOf e = B)
    (h : DataW.Trod enc P W base spare held t (.slice a len cap) d ps) :
    ∃ z : List Int, z.length = len ∧ len ≤ cap ∧ cap ≤ maxLen ∧ len * B ≤ 140737488351232 ∧ (∀ x ∈ z, (Lit.int k x).wf = true) ∧ Rd W a len (fun i => .int k (z.getD i 0)) ∧ (d = .nil ∧ z = [] ∨ ∃ sp, d = .slice (lits k z) sp) := by
  obtain ⟨fuel, hf⟩ := h
  rcases open_ints hu he hc hf with ⟨hcs, hx⟩ | ⟨x, l, c, zs, hcs, _, hl, hm, hz, hx, hcell, hwz⟩
  · simp [Value.cells] at hcs
    obtain ⟨rfl, rfl, rfl⟩ := hcs
    exact ⟨[], rfl, Nat.le_refl _, Nat.zero_le _, by simp, by simp, fun i hi => by omega, .inl ⟨by simpa using (Prod.mk.inj hx).1, rfl⟩⟩
  · simp [Value.cells] at hcs
    obtain ⟨rfl, rfl, rfl⟩ := hcs
    obtain ⟨hx, _⟩ := Prod.mk.inj hx
    subst hx
    have z := sized_slice hsz ht hd hu
    rw [hB] at z
    have hlen : len ≤ zs.length := by rw [hz]; split <;> omega
    have hll : (zs.take len).length = len := by rw [List.length_take]; omega
    refine ⟨zs.take len, hll, hl, hm, ?_, fun x hx => hwz x (List.mem_of_mem_take hx), fun i hi => ?_, .inr ⟨_, rfl⟩⟩
    · have : len * B ≤ reachBytes := Nat.le_trans (Nat.mul_le_mul_right B (by simp [lits]; omega)) z
      simpa [reachBytes] using this
    · obtain ⟨b, off, rfl, hcc⟩ := ints_at hcell (by omega)
      refine ⟨b, off, rfl, World.block_lt_of_cell? W _ (hcc i (by omega)), ?_⟩
      rw [hcc i (by omega)]
      simp [List.getD_eq_getElem?_getD, hi]

theorem strs_at {w : World} {a : Addr} {ss : List ByteArray} (h : ∀ i, i < ss.length → w.cell? (a.add i) = some (.string (ss.getD i ByteArray.empty))) (hp : 0 < ss.length) :
    ∃ b off, a = ⟨b, off, none⟩ ∧ ∀ j, j < ss.length → w.cell? ⟨b, off + j, none⟩ = some (.string (ss.getD j ByteArray.empty)) := by
  obtain ⟨b, off, spot⟩ := a
  have hspot : spot = none := by simpa [Addr.add] using World.cell?_spot (h 0 hp)
  subst hspot
  exact ⟨b, off, rfl, fun j hj => by rw [← Go.WideShapes.add_plain]; exact h j hj⟩

theorem weights_strs {H : Type} {P : Program} {e : TypeId} : ∀ (l : List ByteArray) (s : ByteArray), s ∈ l → s.size ∈ DataW.weightsAll (H := H) P e (strs l)
  | x :: l, s, h => by
    simp only [strs, List.map_cons, DataW.weightsAll, DataW.weights, List.mem_append]
    rcases List.mem_cons.1 h with rfl | h
    · left; simp
    · right; exact weights_strs l s h

theorem args_strs {H : Type} {enc : TypeId × Value → H} {P : Program} {W : World} {base : Nat} {spare : Nat → Bool} {held : Bool} {t e : TypeId} {a : Option Addr} {len cap : Nat} {d : DataW H} {ps : List MemPlace} {ts : List TypeId} {ds : List (DataW H)} {j : Nat}
    (hsz : (DataW.weightsEach P ts ds).all (· ≤ reachBytes) = true) (ht : ts[j]? = some t) (hd : ds[j]? = some d) (hu : P.underlying t = some (.slice e)) (he : P.underlying e = some .string) (hc : P.cellsOf e = 1) (hB : P.bytesOf e = 16)
    (h : DataW.Trod enc P W base spare held t (.slice a len cap) d ps) :
    ∃ z : List ByteArray, z.length = len ∧ len ≤ cap ∧ cap ≤ maxLen ∧ len * 16 ≤ 140737488351232 ∧ (∀ x ∈ z, x.size ≤ 140737488351232) ∧ Rd W a len (fun i => .string (z.getD i ByteArray.empty)) ∧ (d = .nil ∧ z = [] ∨ ∃ sp, d = .slice (strs z) sp) := by
  obtain ⟨fuel, hf⟩ := h
  rcases open_strings hu he hc hf with ⟨hcs, hx⟩ | ⟨x, l, c, zs, hcs, _, hl, hm, hz, hx, hcell, hwz⟩
  · simp [Value.cells] at hcs
    obtain ⟨rfl, rfl, rfl⟩ := hcs
    exact ⟨[], rfl, Nat.le_refl _, Nat.zero_le _, by simp, by simp, fun i hi => by omega, .inl ⟨by simpa using (Prod.mk.inj hx).1, rfl⟩⟩
  · simp [Value.cells] at hcs
    obtain ⟨rfl, rfl, rfl⟩ := hcs
    obtain ⟨hx, _⟩ := Prod.mk.inj hx
    subst hx
    have z := sized_slice hsz ht hd hu
    rw [hB] at z
    have hlen : len ≤ zs.length := by rw [hz]; split <;> omega
    have hll : (zs.take len).length = len := by rw [List.length_take]; omega
    refine ⟨zs.take len, hll, hl, hm, ?_, fun s hs => ?_, fun i hi => ?_, .inr ⟨_, rfl⟩⟩
    · have : len * 16 ≤ reachBytes := Nat.le_trans (Nat.mul_le_mul_right 16 (by simp [strs]; omega)) z
      simpa [reachBytes] using this
    · have := List.all_eq_true.1 hsz _ (DataW.weights_mem_each ht hd s.size (by simp only [DataW.weights, hu]; exact List.mem_cons_of_mem _ (List.mem_append_left _ (weights_strs _ s hs))))
      have h2 : s.size ≤ reachBytes := of_decide_eq_true this
      simpa [reachBytes] using h2
    · obtain ⟨b, off, rfl, hcc⟩ := strs_at hcell (by omega)
      refine ⟨b, off, rfl, World.block_lt_of_cell? W _ (hcc i (by omega)), ?_⟩
      rw [hcc i (by omega)]
      simp [List.getD_eq_getElem?_getD, hi]

/-! Arrays of numbers, texts, truths -/
section
variable {H : Type} {enc : TypeId × Value → H} {P : Program} {W : World} {base : Nat} {spare : Nat → Bool} {held : Bool} {t e : TypeId} {k : IntKind} {v : Value} {d : DataW H} {ps : List MemPlace} {n : Nat}
theorem arr_parts (hu : P.underlying t = some (.array n e)) (hc : P.cellsOf e = 1) (hct : P.cellsOf t = n) {r : Reach} {b0 : Nat} (hval : Value.okWide P W r b0 t v) (h : DataW.Trod enc P W base spare held t v d ps) :
    ∃ (cs : List Value) (xs : List (DataW H × List MemPlace)) (m : Nat), v = .agg cs.toArray ∧ cs.length = n ∧ d = .agg (xs.map (·.1)) ∧ xs.length = n ∧ ∀ i, (h : i < cs.length) → DataW.trod enc P W base spare held m e [cs[i]] = xs[i]? := by
  simp only [Value.okWide, hu] at hval
  obtain ⟨cs, rfl, hcs, _⟩ := hval
  obtain ⟨fuel, hf⟩ := h
  obtain ⟨xs, m, _, hx, hl, hn, hi⟩ := DataW.trod_array hu hf
  refine ⟨cs.toList, xs, m, by simp, by simpa [Value.cells, hct] using hl, (Prod.mk.inj hx).1, hn, fun i hlt => ?_⟩
  have h1 := hi i (by simp only [Array.length_toList] at hlt; omega)
  rw [hc, Nat.mul_one] at h1
  rw [← h1]
  congr 1
  show [cs.toList[i]] = _
  simp only [Value.cells]
  rw [List.drop_eq_getElem_cons hlt]
  rfl
theorem cells_pick {α : Type} (R : α → Value → Prop) (f : α → Value) (hf : ∀ x c, R x c → c = f x) : ∀ (cs : List Value), (∀ c ∈ cs, ∃ x, R x c) → ∃ z : List α, cs = z.map f ∧ ∀ x ∈ z, R x (f x)
  | [], _ => ⟨[], rfl, by simp⟩
  | c :: cs, h => by
    obtain ⟨x, hx⟩ := h c (by simp)
    obtain ⟨z, rfl, hz⟩ := cells_pick R f hf cs fun c hc => h c (by simp [hc])
    obtain rfl := hf x c hx
    exact ⟨x :: z, rfl, fun y hy => by
      rcases List.mem_cons.1 hy with rfl | hy
      · exact hx
      · exact hz y hy⟩
theorem args_arr_ints (hu : P.underlying t = some (.array n e)) (he : P.underlying e = some (.int k)) (hc : P.cellsOf e = 1) (hct : P.cellsOf t = n) {r : Reach} {b0 : Nat} (hval : Value.okWide P W r b0 t v) (h : DataW.Trod enc P W base spare held t v d ps) :
    ∃ z : List Int, z.length = n ∧ v = .agg (z.map (Value.int k)).toArray ∧ ∀ x ∈ z, (Lit.int k x).wf = true := by
  obtain ⟨cs, xs, m, rfl, hl, _, hn, hi⟩ := arr_parts hu hc hct hval h
  obtain ⟨z, rfl, hz⟩ := cells_pick (fun x c => c = Value.int k x ∧ (Lit.int k x).wf = true) (Value.int k) (fun x c h => h.1) cs (fun c hcm => by
    obtain ⟨i, hlt, rfl⟩ := List.mem_iff_getElem.1 hcm
    have h1 := hi i hlt
    rw [List.getElem?_eq_getElem (by omega)] at h1
    obtain ⟨a, ea, _, wa⟩ := DataW.trod_int he h1
    exact ⟨a, by simpa using ea, wa⟩)
  exact ⟨z, by simpa using hl, rfl, fun x hx => (hz x hx).2⟩
theorem args_arr_bools (hu : P.underlying t = some (.array n e)) (he : P.underlying e = some .bool) (hc : P.cellsOf e = 1) (hct : P.cellsOf t = n) {r : Reach} {b0 : Nat} (hval : Value.okWide P W r b0 t v) (h : DataW.Trod enc P W base spare held t v d ps) :
    ∃ z : List Bool, z.length = n ∧ v = .agg (z.map Value.bool).toArray := by
  obtain ⟨cs, xs, m, rfl, hl, _, hn, hi⟩ := arr_parts hu hc hct hval h
  obtain ⟨z, rfl, hz⟩ := cells_pick (fun x c => c = Value.bool x) Value.bool (fun x c h => h) cs (fun c hcm => by
    obtain ⟨i, hlt, rfl⟩ := List.mem_iff_getElem.1 hcm
    have h1 := hi i hlt
    rw [List.getElem?_eq_getElem (by omega)] at h1
    cases m with
    | zero => simp [DataW.trod] at h1
    | succ m =>
      unfold DataW.trod at h1
      rw [he] at h1
      cases hv : cs[i] <;> rw [hv] at h1 <;> simp at h1
      exact ⟨_, rfl⟩)
  exact ⟨z, by simpa using hl, rfl⟩
theorem args_arr_strs {ts : List TypeId} {ds : List (DataW H)} {j : Nat} (hsz : (DataW.weightsEach P ts ds).all (· ≤ reachBytes) = true) (ht : ts[j]? = some t) (hd : ds[j]? = some d)
    (hu : P.underlying t = some (.array n e)) (he : P.underlying e = some .string) (hc : P.cellsOf e = 1) (hct : P.cellsOf t = n) {r : Reach} {b0 : Nat} (hval : Value.okWide P W r b0 t v) (h : DataW.Trod enc P W base spare held t v d ps) :
    ∃ z : List ByteArray, z.length = n ∧ v = .agg (z.map Value.string).toArray ∧ ∀ x ∈ z, x.size ≤ 140737488351232 := by
  obtain ⟨cs, xs, m, rfl, hl, hdx, hn, hi⟩ := arr_parts hu hc hct hval h
  obtain ⟨z, rfl, hz⟩ := cells_pick (fun (x : ByteArray) c => c = Value.string x ∧ x.size ≤ 140737488351232) Value.string (fun x c h => h.1) cs (fun c hcm => by
    obtain ⟨i, hlt, rfl⟩ := List.mem_iff_getElem.1 hcm
    have h1 := hi i hlt
    rw [List.getElem?_eq_getElem (by omega)] at h1
    cases m with
    | zero => simp [DataW.trod] at h1
    | succ m =>
      unfold DataW.trod at h1
      rw [he] at h1
      cases hv : cs[i] <;> rw [hv] at h1 <;> simp at h1
      rename_i s
      refine ⟨s, rfl, ?_⟩
      have hmem : ∀ q : Nat, q ∈ (xs[i].1).weights P e → q ∈ DataW.weightsAll P e (xs.map (·.1)) := by
        have hall : ∀ (l : List (DataW H)) (x : DataW H), x ∈ l → ∀ q : Nat, q ∈ x.weights P e → q ∈ DataW.weightsAll P e l := by
          intro l
          induction l with
          | nil => simp
          | cons y l ih =>
            intro x hx q hq
            simp only [DataW.weightsAll, List.mem_append]
            rcases List.mem_cons.1 hx with rfl | hx
            · exact .inl hq
            · exact .inr (ih x hx q hq)
        exact fun q hq => hall _ _ (List.mem_map.2 ⟨xs[i], List.getElem_mem _, rfl⟩) q hq
      have := List.all_eq_true.1 hsz _ (DataW.weights_mem_each ht hd s.data.toList.length (by rw [hdx]; simp only [DataW.weights, hu]; exact hmem _ (by rw [← h1.2]; simp [DataW.weights])))
      have h2 : s.data.toList.length ≤ reachBytes := of_decide_eq_true this
      rw [data_len] at h2
      simpa [reachBytes] using h2)
  exact ⟨z, by simpa using hl, rfl, fun x hx => (hz x hx).2⟩
end
end Go.Proofs.Ytaganococolodaa
