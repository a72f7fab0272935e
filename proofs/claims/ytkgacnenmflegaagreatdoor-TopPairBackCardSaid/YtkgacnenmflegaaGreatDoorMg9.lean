/-
  The arguments of a law: slices of numbers and of texts that came in, as what their cells hold.
  The statements of the polynomials: sums, products, remainders.
  The generator: the product of the least polynomials of the first odd powers.
  A code in memory: its block of thirteen cells, the field among them.
  A row of bytes shifted by one bit.
  The division by the generator, and that it adds up as the bits do.
-/
import Derived.Test.YtkgacnenmflegaaGreatDoorMg1
import Derived.ProofKit
import Derived.OpenShut
import Derived.SizedLaws
import Derived.SliceStrings
import Derived.Test.YtkgacnenmflegaaGreatDoorMg8
import Derived.Test.YtkgacnenmflegaaGreatDoorMg7
namespace Go.Proofs.YtkgacnenmflegaaGreatDoor
open Go.ChangeShapes Go.WideShapes Go.ChangeAt Go.RowKit

theorem args_ints {H : Type} {enc : TypeId × Value → H} {P : Program} {W : World} {base : Nat} {spare : Nat → Bool} {held : Bool} {t e : TypeId} {k : IntKind} {a : Option Addr} {len cap : Nat} {d : DataW H} {ps : List MemPlace} {ts : List TypeId} {ds : List (DataW H)} {j : Nat}
    (hsz : (DataW.weightsEach P ts ds).all (· ≤ reachBytes) = true) (ht : ts[j]? = some t) (hd : ds[j]? = some d) (hu : P.underlying t = some (.slice e)) (he : P.underlying e = some (.int k)) (hc : P.cellsOf e = 1) {B : Nat} (hB : P.bytesOf e = B)
    (h : DataW.Trod enc P W base spare held t (.slice a len cap) d ps) :
    ∃ z : List Int, z.length = len ∧ len ≤ cap ∧ cap ≤ maxLen ∧ len * B ≤ 140737488351232 ∧ (∀ x ∈ z, (Lit.int k x).wf = true) ∧ Rd W a len (fun i => .int k (z.getD i 0)) ∧ (d = .nil ∧ z = [] ∨ ∃ sp, d = .slice (lits k z) sp) := by
  obtain ⟨fuel, hf⟩ := h
  rcases open_ints hu he hc hf with ⟨hcs, hx⟩ | ⟨x, l, c, zs, hcs, _, hl, hm, hz, hx, hcell, hwz⟩
  · simp [Value.cells] at hcs
    obtain ⟨rfl, rfl, rfl⟩ := hcs
    exact ⟨[], rfl, Nat.le_refl _, Nat.zero_le _, by simp, by simp, fun i hi => by omega, .inl ⟨by simpa using (Prod.mk.inj hx).1, rfl⟩⟩
  · simp [Value.cells] at hcs
    obtain ⟨rfl, rfl, rfl⟩ := hcs
    obtain ⟨hx, _⟩ := Prod.mk.inj hx
    subst hx
    have z := sized_slice hsz ht hd hu
    rw [hB] at z
    have hlen : len ≤ zs.length := by rw [hz]; split <;> omega
    have hll : (zs.take len).length = len := by rw [List.length_take]; omega
    refine ⟨zs.take len, hll, hl, hm, ?_, fun x hx => hwz x (List.mem_of_mem_take hx), fun i hi => ?_, .inr ⟨_, rfl⟩⟩
    · have : len * B ≤ reachBytes := Nat.le_trans (Nat.mul_le_mul_right B (by simp [lits]; omega)) z
      simpa [reachBytes] using this
    · obtain ⟨b, off, rfl, hcc⟩ := ints_at hcell (by omega)
      refine ⟨b, off, rfl, World.block_lt_of_cell? W _ (hcc i (by omega)), ?_⟩
      rw [hcc i (by omega)]
      simp [List.getD_eq_getElem?_getD, hi]

theorem strs_at {w : World} {a : Addr} {ss : List ByteArray} (h : ∀ i, i < ss.length → w.cell? (a.add i) = some (.string (ss.getD i ByteArray.empty))) (hp : 0 < ss.length) :
    ∃ b off, a = ⟨b, off, none⟩ ∧ ∀ j, j < ss.length → w.cell? ⟨b, off + j, none⟩ = some (.string (ss.getD j ByteArray.empty)) := by
  obtain ⟨b, off, spot⟩ := a
  have hspot : spot = none := by simpa [Addr.add] using World.cell?_spot (h 0 hp)
  subst hspot
  exact ⟨b, off, rfl, fun j hj => by rw [← Go.WideShapes.add_plain]; exact h j hj⟩

theorem weights_strs {H : Type} {P : Program} {e : TypeId} : ∀ (l : List ByteArray) (s : ByteArray), s ∈ l → s.size ∈ DataW.weightsAll (H := H) P e (strs l)
  | x :: l, s, h => by
    simp only [strs, List.map_cons, DataW.weightsAll, DataW.weights, List.mem_append]
    rcases List.mem_cons.1 h with rfl | h
    · left; simp
    · right; exact weights_strs l s h

theorem args_strs {H : Type} {enc : TypeId × Value → H} {P : Program} {W : World} {base : Nat} {spare : Nat → Bool} {held : Bool} {t e : TypeId} {a : Option Addr} {len cap : Nat} {d : DataW H} {ps : List MemPlace} {ts : List TypeId} {ds : List (DataW H)} {j : Nat}
    (hsz : (DataW.weightsEach P ts ds).all (· ≤ reachBytes) = true) (ht : ts[j]? = some t) (hd : ds[j]? = some d) (hu : P.underlying t = some (.slice e)) (he : P.underlying e = some .string) (hc : P.cellsOf e = 1) (hB : P.bytesOf e = 16)
    (h : DataW.Trod enc P W base spare held t (.slice a len cap) d ps) :
    ∃ z : List ByteArray, z.length = len ∧ len ≤ cap ∧ cap ≤ maxLen ∧ len * 16 ≤ 140737488351232 ∧ (∀ x ∈ z, x.size ≤ 140737488351232) ∧ Rd W a len (fun i => .string (z.getD i ByteArray.empty)) ∧ (d = .nil ∧ z = [] ∨ ∃ sp, d = .slice (strs z) sp) := by
  obtain ⟨fuel, hf⟩ := h
  rcases open_strings hu he hc hf with ⟨hcs, hx⟩ | ⟨x, l, c, zs, hcs, _, hl, hm, hz, hx, hcell, hwz⟩
  · simp [Value.cells] at hcs
    obtain ⟨rfl, rfl, rfl⟩ := hcs
    exact ⟨[], rfl, Nat.le_refl _, Nat.zero_le _, by simp, by simp, fun i hi => by omega, .inl ⟨by simpa using (Prod.mk.inj hx).1, rfl⟩⟩
  · simp [Value.cells] at hcs
    obtain ⟨rfl, rfl, rfl⟩ := hcs
    obtain ⟨hx, _⟩ := Prod.mk.inj hx
    subst hx
    have z := sized_slice hsz ht hd hu
    rw [hB] at z
    have hlen : len ≤ zs.length := by rw [hz]; split <;> omega
    have hll : (zs.take len).length = len := by rw [List.length_take]; omega
    refine ⟨zs.take len, hll, hl, hm, ?_, fun s hs => ?_, fun i hi => ?_, .inr ⟨_, rfl⟩⟩
    · have : len * 16 ≤ reachBytes := Nat.le_trans (Nat.mul_le_mul_right 16 (by simp [strs]; omega)) z
      simpa [reachBytes] using this
    · have := List.all_eq_true.1 hsz _ (DataW.weights_mem_each ht hd s.size (by simp only [DataW.weights, hu]; exact List.mem_cons_of_mem _ (List.mem_append_left _ (weights_strs _ s hs))))
      have h2 : s.size ≤ reachBytes := of_decide_eq_true this
      simpa [reachBytes] using h2
    · obtain ⟨b, off, rfl, hcc⟩ := strs_at hcell (by omega)
      refine ⟨b, off, rfl, World.block_lt_of_cell? W _ (hcc i (by omega)), ?_⟩
      rw [hcc i (by omega)]
      simp [List.getD_eq_getElem?_getD, hi]

/-! Arrays of numbers, texts, truths -/
section
variable {H : Type} {enc : TypeId × Value → H} {P : Program} {W : World} {base : Nat} {spare : Nat → Bool} {held : Bool} {t e : TypeId} {k : IntKind} {v : Value} {d : DataW H} {ps : List MemPlace} {n : Nat}
theorem arr_parts (hu : P.underlying t = some (.array n e)) (hc : P.cellsOf e = 1) (hct : P.cellsOf t = n) {r : Reach} {b0 : Nat} (hval : Value.okWide P W r b0 t v) (h : DataW.Trod enc P W base spare held t v d ps) :
    ∃ (cs : List Value) (xs : List (DataW H × List MemPlace)) (m : Nat), v = .agg cs.toArray ∧ cs.length = n ∧ d = .agg (xs.map (·.1)) ∧ xs.length = n ∧ ∀ i, (h : i < cs.length) → DataW.trod enc P W base spare held m e [cs[i]] = xs[i]? := by
  simp only [Value.okWide, hu] at hval
  obtain ⟨cs, rfl, hcs, _⟩ := hval
  obtain ⟨fuel, hf⟩ := h
  obtain ⟨xs, m, _, hx, hl, hn, hi⟩ := DataW.trod_array hu hf
  refine ⟨cs.toList, xs, m, by simp, by simpa [Value.cells, hct] using hl, (Prod.mk.inj hx).1, hn, fun i hlt => ?_⟩
  have h1 := hi i (by simp only [Array.length_toList] at hlt; omega)
  rw [hc, Nat.mul_one] at h1
  rw [← h1]
  congr 1
  show [cs.toList[i]] = _
  simp only [Value.cells]
  rw [List.drop_eq_getElem_cons hlt]
  rfl
theorem cells_pick {α : Type} (R : α → Value → Prop) (f : α → Value) (hf : ∀ x c, R x c → c = f x) : ∀ (cs : List Value), (∀ c ∈ cs, ∃ x, R x c) → ∃ z : List α, cs = z.map f ∧ ∀ x ∈ z, R x (f x)
  | [], _ => ⟨[], rfl, by simp⟩
  | c :: cs, h => by
    obtain ⟨x, hx⟩ := h c (by simp)
    obtain ⟨z, rfl, hz⟩ := cells_pick R f hf cs fun c hc => h c (by simp [hc])
    obtain rfl := hf x c hx
    exact ⟨x :: z, rfl, fun y hy => by
      rcases List.mem_cons.1 hy with rfl | hy
      · exact hx
      · exact hz y hy⟩
theorem args_arr_ints (hu : P.underlying t = some (.array n e)) (he : P.underlying e = some (.int k)) (hc : P.cellsOf e = 1) (hct : P.cellsOf t = n) {r : Reach} {b0 : Nat} (hval : Value.okWide P W r b0 t v) (h : DataW.Trod enc P W base spare held t v d ps) :
    ∃ z : List Int, z.length = n ∧ v = .agg (z.map (Value.int k)).toArray ∧ ∀ x ∈ z, (Lit.int k x).wf = true := by
  obtain ⟨cs, xs, m, rfl, hl, _, hn, hi⟩ := arr_parts hu hc hct hval h
  obtain ⟨z, rfl, hz⟩ := cells_pick (fun x c => c = Value.int k x ∧ (Lit.int k x).wf = true) (Value.int k) (fun x c h => h.1) cs (fun c hcm => by
    obtain ⟨i, hlt, rfl⟩ := List.mem_iff_getElem.1 hcm
    have h1 := hi i hlt
    rw [List.getElem?_eq_getElem (by omega)] at h1
    obtain ⟨a, ea, _, wa⟩ := DataW.trod_int he h1
    exact ⟨a, by simpa using ea, wa⟩)
  exact ⟨z, by simpa using hl, rfl, fun x hx => (hz x hx).2⟩
theorem args_arr_bools (hu : P.underlying t = some (.array n e)) (he : P.underlying e = some .bool) (hc : P.cellsOf e = 1) (hct : P.cellsOf t = n) {r : Reach} {b0 : Nat} (hval : Value.okWide P W r b0 t v) (h : DataW.Trod enc P W base spare held t v d ps) :
    ∃ z : List Bool, z.length = n ∧ v = .agg (z.map Value.bool).toArray := by
  obtain ⟨cs, xs, m, rfl, hl, _, hn, hi⟩ := arr_parts hu hc hct hval h
  obtain ⟨z, rfl, hz⟩ := cells_pick (fun x c => c = Value.bool x) Value.bool (fun x c h => h) cs (fun c hcm => by
    obtain ⟨i, hlt, rfl⟩ := List.mem_iff_getElem.1 hcm
    have h1 := hi i hlt
    rw [List.getElem?_eq_getElem (by omega)] at h1
    cases m with
    | zero => simp [DataW.trod] at h1
    | succ m =>
      unfold DataW.trod at h1
      rw [he] at h1
      cases hv : cs[i] <;> rw [hv] at h1 <;> simp at h1
      exact ⟨_, rfl⟩)
  exact ⟨z, by simpa using hl, rfl⟩
theorem args_arr_strs {ts : List TypeId} {ds : List (DataW H)} {j : Nat} (hsz : (DataW.weightsEach P ts ds).all (· ≤ reachBytes) = true) (ht : ts[j]? = some t) (hd : ds[j]? = some d)
    (hu : P.underlying t = some (.array n e)) (he : P.underlying e = some .string) (hc : P.cellsOf e = 1) (hct : P.cellsOf t = n) {r : Reach} {b0 : Nat} (hval : Value.okWide P W r b0 t v) (h : DataW.Trod enc P W base spare held t v d ps) :
    ∃ z : List ByteArray, z.length = n ∧ v = .agg (z.map Value.string).toArray ∧ ∀ x ∈ z, x.size ≤ 140737488351232 := by
  obtain ⟨cs, xs, m, rfl, hl, hdx, hn, hi⟩ := arr_parts hu hc hct hval h
  obtain ⟨z, rfl, hz⟩ := cells_pick (fun (x : ByteArray) c => c = Value.string x ∧ x.size ≤ 140737488351232) Value.string (fun x c h => h.1) cs (fun c hcm => by
    obtain ⟨i, hlt, rfl⟩ := List.mem_iff_getElem.1 hcm
    have h1 := hi i hlt
    rw [List.getElem?_eq_getElem (by omega)] at h1
    cases m with
    | zero => simp [DataW.trod] at h1
    | succ m =>
      unfold DataW.trod at h1
      rw [he] at h1
      cases hv : cs[i] <;> rw [hv] at h1 <;> simp at h1
      rename_i s
      refine ⟨s, rfl, ?_⟩
      have hmem : ∀ q : Nat, q ∈ (xs[i].1).weights P e → q ∈ DataW.weightsAll P e (xs.map (·.1)) := by
        have hall : ∀ (l : List (DataW H)) (x : DataW H), x ∈ l → ∀ q : Nat, q ∈ x.weights P e → q ∈ DataW.weightsAll P e l := by
          intro l
          induction l with
          | nil => simp
          | cons y l ih =>
            intro x hx q hq
            simp only [DataW.weightsAll, List.mem_append]
            rcases List.mem_cons.1 hx with rfl | hx
            · exact .inl hq
            · exact .inr (ih x hx q hq)
        exact fun q hq => hall _ _ (List.mem_map.2 ⟨xs[i], List.getElem_mem _, rfl⟩) q hq
      have := List.all_eq_true.1 hsz _ (DataW.weights_mem_each ht hd s.data.toList.length (by rw [hdx]; simp only [DataW.weights, hu]; exact hmem _ (by rw [← h1.2]; simp [DataW.weights])))
      have h2 : s.data.toList.length ≤ reachBytes := of_decide_eq_true this
      rw [data_len] at h2
      simpa [reachBytes] using h2)
  exact ⟨z, by simpa using hl, rfl, fun x hx => (hz x hx).2⟩
end
end Go.Proofs.YtkgacnenmflegaaGreatDoor
namespace Go.Proofs.YtkgacnenmflegaaGreatDoor
open Go.RowKit

/-- A list of numbers that is read. -/
def LRd (w : World) (v : Value) (l : List Int) : Prop := ∃ A n c, v = .slice A n c ∧ n = l.length ∧ n ≤ 17592186043904 ∧ Rd w A n (fun i => .int .i64 (l.getD i 0))
theorem LRd.below {w w' : World} {v : Value} {l : List Int} (h : LRd w v l) (hb : Below w.heap.size w w') : LRd w' v l := by
  obtain ⟨A, n, c, h1, h2, h3, h4⟩ := h
  exact ⟨A, n, c, h1, h2, h3, h4.below (Nat.le_refl _) hb⟩
theorem Row.lrd {w : World} {base : Nat} {v : Value} {n : Nat} {l : List Int} (h : Row w base 3 1 v n (intsV l)) (hn : n ≤ 17592186043904) : LRd w v l := by
  obtain ⟨A, c, rfl, h1, _, _, h2⟩ := h.readInts
  exact ⟨A, n, c, rfl, h1, hn, h2⟩
theorem listP_short (P : Nat) : (listP P).length ≤ 17592186043904 := by have := listP_le P; omega
theorem optL_short (r : Option Nat) : (optL r).length ≤ 17592186043904 := by
  cases r with
  | none => exact Nat.zero_le _
  | some P => exact listP_short P
def CopyPost (w : World) (l : List Int) (e : Ending) (w' : World) : Prop := ∃ v, e = .returned v ∧ Row w' w.heap.size 3 1 v l.length (intsV l) ∧ Below w.heap.size w w'
theorem lmul (v u : Value) (l k : List Int) (w : World) (h : LRd w v l) (h2 : LRd w u k) : Calls Tryz.prog 177 #[v, u] w (PairOf w (mulR (Poly.bitsOf l) (Poly.bitsOf k))) := by
  obtain ⟨A, n, c, rfl, hl, hn, hR⟩ := h
  obtain ⟨B, m, d, rfl, hk, hm, hS⟩ := h2
  exact poly_mul A B n c m d l k w hl (by omega) hR hk (by omega) hS
theorem lit_lrd (w : World) (a b : Int) : LRd (w.alloc (.cells #[.int .i64 a, .int .i64 b] 3)) (.slice (some ⟨w.heap.size, 0, none⟩) 2 2) [a, b] :=
  (Row.lrd (Row.lit w 0 3 1 #[.int .i64 a, .int .i64 b] 2 (Nat.zero_le _) (by decide) rfl) (by omega))
theorem speaks_bits : Poly.bitsOf [1, 0] = 3 := by decide
theorem speaks_list : Poly.bitsOf (Poly.ints (listP 3)) = 3 := by
  have h1 := Poly.lim_eq
  have := Poly.bitsOf_fall (P := 3) (n := Poly.lim) (Nat.le_refl _)
  rw [show Poly.ints (listP 3) = Poly.ints (Poly.fall Poly.lim 3) from rfl, this]
  exact Nat.mod_eq_of_lt (Nat.lt_of_lt_of_le (by decide : 3 < 2 ^ 2) (Nat.pow_le_pow_right (by omega) (by omega)))
theorem speaks_mul : mulR 3 3 = some 5 := by decide +kernel
theorem speaks_five : Poly.ints (listP 5) = [2, 0] := by
  have h1 := Poly.lim_eq
  have : listP 5 = Poly.fall 3 5 := Poly.fall_more (by omega) (by decide)
  rw [this]
  decide

end Go.Proofs.YtkgacnenmflegaaGreatDoor
namespace Go.Proofs.YtkgacnenmflegaaGreatDoor
open Go.RowKit

set_option maxRecDepth 100000 in
set_option maxHeartbeats 3200000 in
theorem sl_equal (A B : Option Addr) (n c m d : Nat) (l k : List Int) (w : World) (hl : n = l.length) (hn : n ≤ 9223372036854775807) (hR : Rd w A n (fun i => .int .i64 (l.getD i 0)))
    (hk : m = k.length) (hm : m ≤ 9223372036854775807) (hS : Rd w B m (fun i => .int .i64 (k.getD i 0))) :
    Calls Tryz.prog 176 #[.slice A n c, .slice B m d] w fun e w' => e = .returned (.bool (decide (l = k))) ∧ DrewOf w w' := by
  by_cases hnm : n = m
  · subst hnm
    have HR := Aside.mk (And.intro hl (And.intro hk (And.intro hR hS)))
    clear hl hk hR hS
    obtain ⟨R, hRr⟩ : ∃ R, R = decide (l = k) := ⟨_, rfl⟩
    rw [← hRr]
    have HX := Aside.mk hRr
    clear hRr
    go_enter Tryz.func176, Tryz.ntmps176
    go_wp2
    go_loopw [13] (fun s5 wr => ∃ i : Nat, i ≤ n ∧ s5 = .int .i64 (i : Int) ∧ DrewOf w wr ∧ Aside (l.take i = k.take i)) (fun s5 _ => n - (intOf s5).toNat)
    case atStart => exact ⟨0, by omega, rfl, DrewOf.refl _, ⟨rfl⟩⟩
    case round =>
      obtain ⟨i, hi, rfl, hD, HT⟩ := hrel
      have HD := Aside.mk hD
      clear hD
      by_cases hlt : i < n
      · have hi1 : IntKind.i64.wrap ((i : Int) + 1) = (i : Int) + 1 := by rw [IntKind.wrap_i64]; omega
        obtain ⟨b, off, rfl, hb, hc⟩ := HR.out.2.2.1 i hlt
        obtain ⟨b1, off1, rfl, hbb1, hcc1⟩ := HR.out.2.2.2 i hlt
        have hcell : ∀ (q : Addr), wr.cell? q = w.cell? q := fun q => by obtain ⟨m, hm⟩ := HD.out; rw [hm]; rfl
        have y1 : wr.cell? ⟨b, off + i, none⟩ = some (.int .i64 (l.getD i 0)) := by rw [hcell]; exact hc
        have y2 : wr.cell? ⟨b1, off1 + i, none⟩ = some (.int .i64 (k.getD i 0)) := by rw [hcell]; exact hcc1
        have hk2 : (0 : Int) ≤ (i : Int) := by omega
        have hk3 : (i : Int) < (n : Int) := by omega
        have hal := alike_take (i := i) (by have := HR.out.1; omega) (by have := HR.out.1; have := HR.out.2.1; omega) HT.out
        have HA := Aside.mk hal
        generalize l.getD i 0 = x at *
        generalize k.getD i 0 = y at *
        clear hcell hc hcc1 hal
        go_upto_region 6 with fail
        by_cases hxy : x = y
        · subst hxy
          go_quiet (fail)
          go_wp2
          go_roundw
          case rel => exact ⟨i + 1, by omega, by go_num, HD.out.more _, ⟨HA.out.2 rfl⟩⟩
          case measure => simp [intOf]; omega
        · have hne : R = false := by
            rw [HX.out, decide_eq_false]
            intro e
            exact hxy (HA.out.1 (by rw [e]))
          have hb1 : (x != y) = true := by simp [hxy]
          have HN := Aside.mk hne
          clear hxy hne
          go_quiet (fail)
          go_wp2
          go_ret
          exact ⟨by rw [HN.out]; rfl, HD.out.more _⟩
      · have hyes : R = true := by
          rw [HX.out, decide_eq_true]
          have h1 := HT.out
          rwa [List.take_of_length_le (by have := HR.out.1; omega), List.take_of_length_le (by have := HR.out.2.1; omega)] at h1
        have HN := Aside.mk hyes
        clear hyes
        go_wp2
        go_ret
        exact ⟨by rw [HN.out]; rfl, HD.out⟩
  · have hne : decide (l = k) = false := by
      rw [decide_eq_false]
      intro e
      rw [e] at hl
      omega
    rw [hne]
    have hnm2 : ((n : Int) != (m : Int)) = true := by simp; omega
    have hnm3 : (n != m) = true := by simp [hnm]
    clear hne hl hk hR hS
    go_enter Tryz.func176, Tryz.ntmps176
    go_wp2
    go_ret
    exact ⟨rfl, DrewOf.refl _⟩

theorem Rd.drewOf {w wr : World} {A : Option Addr} {n : Nat} {f : Nat → Value} (h : Rd w A n f) (hd : DrewOf w wr) : Rd wr A n f := by obtain ⟨m, rfl⟩ := hd; exact h.drewN m
theorem DrewOf.trans {a b c : World} (h : DrewOf a b) (h2 : DrewOf b c) : DrewOf a c := by
  obtain ⟨m, rfl⟩ := h2; exact h.more m
theorem gen_closure (A B : Option Addr) (n c m d hm : Nat) (l k : List Int) (w : World) (hl : n = l.length) (hn : n ≤ 1000) (hR : Rd w A n (fun i => .int .i64 (l.getD i 0)))
    (hk : m = k.length) (hm2 : m ≤ 1000) (hS : Rd w B m (fun i => .int .i64 (k.getD i 0))) (hc : w.cell? ⟨hm, 0, none⟩ = some (.slice B m d)) :
    Calls Tryz.prog 175 #[.slice A n c, .pointer (some ⟨hm, 0, none⟩)] w fun e w' => e = .returned (.bool (decide (l = k))) ∧ DrewOf w w' := by
  have HE := Aside.mk (sl_equal A B n c m d l k w hl (by omega) hR hk (by omega) hS)
  clear hl hR hk hS hn hm2
  go_enter Tryz.func175, Tryz.ntmps175
  go_wp2_with (go_at_call 176; refine HE.out.mono ?_; rintro e w1 ⟨rfl, hd⟩)
  go_ret
  exact ⟨rfl, hd⟩
/-- The polynomials of a list, none of which is k. -/
def NoneIs (w : World) (n : Nat) (vs : Nat → Value) (k : List Int) : Prop :=
  ∀ j, j < n → ∃ A m c l, vs j = .slice A m c ∧ m = l.length ∧ m ≤ 1000 ∧ Rd w A m (fun i => .int .i64 (l.getD i 0)) ∧ l ≠ k
set_option maxHeartbeats 400000 in
theorem sl_indexFunc (A B : Option Addr) (n c m d hm : Nat) (vs : Nat → Value) (k : List Int) (w : World) (hn : n ≤ 1000) (hR : Rd w A n vs) (hV : NoneIs w n vs k)
    (hk : m = k.length) (hm2 : m ≤ 1000) (hS : Rd w B m (fun i => .int .i64 (k.getD i 0))) (hc : w.cell? ⟨hm, 0, none⟩ = some (.slice B m d)) :
    Calls Tryz.prog 205 #[.slice A n c, .func (.func 175) #[] #[.pointer (some ⟨hm, 0, none⟩)]] w fun e w' => e = .returned (.int .i64 (-1)) ∧ DrewOf w w' := by
  have HA := Aside.mk (And.intro hR (And.intro hV (And.intro hk (And.intro hm2 (And.intro hS hc)))))
  clear hR hV hk hm2 hS hc
  go_enter Tryz.func205, Tryz.ntmps205
  go_wp2
  go_loopw [8] (fun s8 wr => ∃ i : Nat, i ≤ n ∧ s8 = .int .i64 (i : Int) ∧ DrewOf w wr) (fun s8 _ => n - (intOf s8).toNat)
  case atStart => exact ⟨0, by omega, rfl, DrewOf.refl _⟩
  case round =>
    obtain ⟨i, hi, rfl, hD⟩ := hrel
    have HD := Aside.mk hD
    clear hD
    have hi1 : IntKind.i64.wrap ((i : Int) + 1) = ((i + 1 : Nat) : Int) := by rw [IntKind.wrap_i64]; omega
    by_cases hlt : i < n
    · obtain ⟨b, off, rfl, hb, hcell⟩ := HA.out.1 i hlt
      obtain ⟨A1, m1, c1, l1, hv, h1⟩ := HA.out.2.1 i hlt
      have y1 : wr.cell? ⟨b, off + i, none⟩ = some (.slice A1 m1 c1) := by
        obtain ⟨q, hq⟩ := HD.out
        rw [hq, ← hv]; exact hcell
      have hi2 : (0 : Int) ≤ (i : Int) := by omega
      have hi3 : (i : Int) < (n : Int) := by omega
      have hcd : wr.cell? ⟨hm, 0, none⟩ = some (.slice B m d) := by
        obtain ⟨q, hq⟩ := HD.out
        rw [hq]; exact HA.out.2.2.2.2.2
      have HC := Aside.mk (gen_closure A1 B m1 c1 m d hm l1 k wr h1.1 h1.2.1 (h1.2.2.1.drewOf HD.out) HA.out.2.2.1 HA.out.2.2.2.1 (HA.out.2.2.2.2.1.drewOf HD.out) hcd)
      have HN := Aside.mk (decide_eq_false h1.2.2.2)
      clear hcell hv h1 hcd
      go_wp2_with (go_at_call 175; refine HC.out.mono ?_; rw [HN.out]; rintro e w1 ⟨rfl, hd⟩; have HD2 := Aside.mk hd; clear hd)
      go_roundw
      case rel => exact ⟨i + 1, by omega, rfl, HD.out.trans HD2.out⟩
      case measure => simp [intOf]; omega
    · go_wp2
      go_ret
      exact ⟨rfl, HD.out⟩
theorem sl_containsFunc (A B : Option Addr) (n c m d hm : Nat) (vs : Nat → Value) (k : List Int) (w : World) (hn : n ≤ 1000) (hR : Rd w A n vs) (hV : NoneIs w n vs k)
    (hk : m = k.length) (hm2 : m ≤ 1000) (hS : Rd w B m (fun i => .int .i64 (k.getD i 0))) (hc : w.cell? ⟨hm, 0, none⟩ = some (.slice B m d)) :
    Calls Tryz.prog 174 #[.slice A n c, .func (.func 175) #[] #[.pointer (some ⟨hm, 0, none⟩)]] w fun e w' => e = .returned (.bool false) ∧ DrewOf w w' := by
  have HI := Aside.mk (sl_indexFunc A B n c m d hm vs k w hn hR hV hk hm2 hS hc)
  clear hR hV hk hm2 hS hc hn
  go_enter Tryz.func174, Tryz.ntmps174
  go_wp2_with (go_at_call 205; refine HI.out.mono ?_; rintro e w1 ⟨rfl, hd⟩)
  go_ret
  exact ⟨rfl, hd⟩

/-! the generator -/
def mkN (j : Nat) : Nat := Gf.minN (Gf.pw (2 * j + 1))
def mkL (j : Nat) : List Nat := Poly.fall 14 (mkN j)
def genN : Nat → Nat
  | 0 => 1
  | t + 1 => Poly.clmul (genN t) (mkN t)
theorem mk_inj : ∀ i, i < 8 → ∀ j, j < 8 → mkN i = mkN j → i = j := by decide +kernel
theorem mk_lt : ∀ i, i < 8 → mkN i < 16384 ∧ mkN i ≠ 0 := by decide +kernel
theorem gen_lt : ∀ i, i ≤ 8 → genN i < 2 ^ 105 ∧ genN i ≠ 0 := by decide +kernel
theorem gen_deg : ∀ i, i < 8 → (genN i).log2 + (mkN i).log2 ≤ 16384 := by decide +kernel
theorem gen_mul {i : Nat} (h : i < 8) : mulR (genN i) (mkN i) = some (genN (i + 1)) := by
  unfold mulR
  rw [if_neg (by have := gen_deg i h; omega)]
  rfl
theorem gen_lim {i : Nat} (h : i ≤ 8) : genN i < 2 ^ Poly.lim := Nat.lt_of_lt_of_le (gen_lt i h).1 (Nat.pow_le_pow_right (by omega) (by rw [Poly.lim_eq]; omega))
theorem bits_mk {i : Nat} (h : i < 8) : Poly.bitsOf (Poly.ints (mkL i)) = mkN i := by
  unfold mkL
  rw [Poly.bitsOf_fall (by rw [Poly.lim_eq]; omega)]
  exact Nat.mod_eq_of_lt (mk_lt i h).1
theorem bits_gen {i : Nat} (h : i ≤ 8) : Poly.bitsOf (Poly.ints (listP (genN i))) = genN i := by
  unfold listP
  rw [Poly.bitsOf_fall (Nat.le_refl _)]
  exact Nat.mod_eq_of_lt (gen_lim h)
theorem mkL_inj {i j : Nat} (hi : i < 8) (hj : j < 8) (h : Poly.ints (mkL i) = Poly.ints (mkL j)) : i = j :=
  mk_inj i hi j hj (by rw [← bits_mk hi, ← bits_mk hj, h])
theorem gen_zero : listP (genN 0) = [0] := by
  show Poly.fall Poly.lim 1 = [0]
  rw [Poly.fall_more (m := 1) (by rw [Poly.lim_eq]; omega) (by omega)]
  rfl
theorem mkL_len (i : Nat) : (mkL i).length ≤ 14 := Poly.fall_len _ _
theorem infoPoly : (Tryz.prog.info? 270).map (fun i => (i.zero, i.size, i.bytes)) = some (some (.slice none 0 0), 1, 24) := by kernel_rfl
def GenPost [Host] (w : World) (f p P : Nat) (e : Ending) (w' : World) : Prop :=
  ∃ v q, e = .returned (.tuple #[v, .bool true]) ∧ Fld w' f q ∧ p ≤ q ∧ q ≤ p + 1600 ∧ w.grownBy w' (some f) ∧ Row w' w.heap.size 3 1 v (listP P).length (intsV (Poly.ints (listP P)))
/-- The polynomials seen so far. -/
def SeenAt (w : World) (b : Nat) (v : Value) (i : Nat) : Prop :=
  ∃ vs : Nat → Value, Row w b 270 1 v i ((List.range i).map vs) ∧ ∀ j, j < i → Row w b 3 1 (vs j) (mkL j).length (intsV (Poly.ints (mkL j)))
theorem Row.far {w w' : World} {b : Nat} {e : TypeId} {v : Value} {n : Nat} {xs : List Value} (h : Row w b e 1 v n xs) {row : Option Nat} (hg : w.grownBy w' row) (hr : ∀ r, row = some r → r < b) : Row w' b e 1 v n xs := by
  refine h.kept hg ?_
  cases hv : v.ownBlock with
  | none => exact .inl rfl
  | some k => exact .inr fun e => by have := hr k e.symm; have := (h.blk k hv).1; omega
theorem SeenAt.far {w w' : World} {b i : Nat} {v : Value} (h : SeenAt w b v i) {row : Option Nat} (hg : w.grownBy w' row) (hr : ∀ r, row = some r → r < b) : SeenAt w' b v i := by
  obtain ⟨vs, h1, h2⟩ := h
  exact ⟨vs, h1.far hg hr, fun j hj => (h2 j hj).far hg hr⟩
theorem SeenAt.below {w w' : World} {b i : Nat} {v : Value} (h : SeenAt w b v i) (hb : Below w.heap.size w w') : SeenAt w' b v i := by
  obtain ⟨vs, h1, h2⟩ := h
  exact ⟨vs, h1.below hb, fun j hj => (h2 j hj).below hb⟩
/-- Two rows of other types lie in other blocks. -/
theorem Row.other {w : World} {b b' : Nat} {e e' : TypeId} {v v' : Value} {n n' s s' : Nat} {xs xs' : List Value} (h : Row w b e s v n xs) (h' : Row w b' e' s' v' n' xs') (hne : e ≠ e') : v.ownBlock = none ∨ v.ownBlock ≠ v'.ownBlock := by
  cases hv : v.ownBlock with
  | none => exact .inl rfl
  | some k =>
    refine .inr fun e => ?_
    obtain ⟨_, _, cur, fr, h1⟩ := h.blk k hv
    obtain ⟨_, _, cur', fr', h2⟩ := h'.blk k e.symm
    rw [h1] at h2
    simp only [Option.some.injEq, Obj.cells.injEq] at h2
    exact hne h2.2.1
theorem Fld.seen [Host] {w w' : World} {b f q n : Nat} {v : Value} {xs : List Value} (h : Fld w f q) (hs : Row w b 270 1 v n xs) (hg : w.grownBy w' v.ownBlock) : Fld w' f q := by
  have hf : some f ≠ v.ownBlock := by
    intro e
    obtain ⟨_, _, cur, fr, h1⟩ := hs.blk f e.symm
    have h2 : ∃ c fr', w.heap[f]? = some (.cells c 231 fr') := by
      rcases h with h | ⟨ge, gl, h⟩
      · exact ⟨_, _, h⟩
      · exact ⟨_, _, h.fb⟩
    obtain ⟨c, fr', h2⟩ := h2
    rw [h1] at h2
    simp only [Option.some.injEq, Obj.cells.injEq] at h2
    exact absurd h2.2.1 (by decide)
  rcases h with h | ⟨ge, gl, h⟩
  · exact .inl (FB.kept h hg hf)
  · refine .inr ⟨ge, gl, h.kept hg hf ?_ ?_⟩
    · have := Row.other h.ex hs (by decide)
      simpa [Value.ownBlock] using this
    · have := Row.other h.lg hs (by decide)
      simpa [Value.ownBlock] using this
theorem arN_odd {i : Nat} (h : i < 8) : arN ((2 * i + 1 : Nat) : Int) = 2 * i + 1 := by rw [arN_nat]; omega
set_option maxRecDepth 100000 in
set_option maxHeartbeats 2000000 in
theorem poly_generator [Host] (f p t : Nat) (w : World) (hp : p ≤ 100000) (hF : Fld w f p) (ht : t ≤ 8) (h0 : 0 < t) :
    Calls Tryz.prog 145 #[.pointer (some ⟨f, 5, none⟩), .int .i64 (t : Int)] w (GenPost w f p (genN t)) := by
  have hmf : ∀ (fn : Fn) (first cap : Array Value) (w : World), (Instr.makeFunc fn first cap).run Tryz.prog w = .ok (.func fn first cap) w := fun _ _ _ _ => rfl
  have hfl := hF.lt
  have ht1 : ¬ (t : Int) < 1 := by omega
  have ht8 : ¬ (8 : Int) < (t : Int) := by omega
  have HH := Aside.mk (And.intro hp (And.intro hF hfl))
  clear hp hF hfl
  obtain ⟨t2, ht2⟩ : ∃ t2, t2 = 2 * t := ⟨_, rfl⟩
  have w2 : IntKind.i64.wrap (2 * (t : Int)) = (t2 : Int) := by rw [IntKind.wrap_i64]; omega
  have HT := Aside.mk (And.intro ht2 (And.intro ht h0))
  clear ht2 ht h0
  go_enter Tryz.func145, Tryz.ntmps145
  go_wp2_with fail
  go_loopw [6, 7, 8] (fun s6 s7 s8 wr => ∃ i q k : Nat, s8 = .int .i64 (k : Int) ∧ i ≤ t ∧ Aside (k = 2 * i + 1) ∧ SeenAt wr w.heap.size s6 i ∧ Row wr w.heap.size 3 1 s7 (listP (genN i)).length (intsV (Poly.ints (listP (genN i)))) ∧ Fld wr f q ∧ p ≤ q ∧ q ≤ p + 200 * i ∧ w.grownBy wr (some f)) (fun _ _ s8 _ => t2 - (intOf s8).toNat)
  case atStart =>
    refine ⟨0, p, 1, rfl, by omega, ⟨rfl⟩, ⟨fun _ => undef, Row.nil _ _ _ _, fun j hj => by omega⟩, ?_, HH.out.2.1.below ((Below.refl _ _).alloc (Nat.le_refl _) _), Nat.le_refl _, by omega, World.grownBy_alloc _ _ _⟩
    rw [gen_zero]
    exact Row.lit w w.heap.size 3 1 #[.int .i64 0] 1 (Nat.le_refl _) (by decide) rfl
  case round =>
    obtain ⟨i, q, k, rfl, hit, HK, hsn, hout, hF, hq1, hq2, hg⟩ := hrel
    obtain ⟨A6, c6, rfl⟩ : ∃ A6 c6, u6 = .slice A6 i c6 := by obtain ⟨vs, h1, _⟩ := hsn; obtain ⟨A, c, e, _⟩ := h1.slice; exact ⟨A, c, e⟩
    obtain ⟨A7, c7, rfl⟩ : ∃ A7 c7, u7 = .slice A7 (listP (genN i)).length c7 := by obtain ⟨A, c, e, _⟩ := hout.slice; exact ⟨A, c, e⟩
    have HR := Aside.mk (And.intro hsn (And.intro hout (And.intro hF (And.intro hq1 (And.intro hq2 hg)))))
    clear hsn hout hF hq1 hq2 hg
    by_cases hlt : i < t
    · have hk2 : (k : Int) < (t2 : Int) := by have := HK.out; have := HT.out; omega
      have hwk : IntKind.i64.wrap ((k : Int) + 2) = ((k + 2 : Nat) : Int) := by have := HK.out; have := HT.out; rw [IntKind.wrap_i64]; omega
      have hi8 : i < 8 := by have := HT.out; omega
      have HE : Aside (Calls Tryz.prog 152 #[.pointer (some ⟨f, 5, none⟩), .int .i64 (k : Int)] wr (ExpPost wr f q (fun _ _ => True) (Gf.pw (2 * i + 1)))) := ⟨by
        refine (gf_exp f q k wr HR.out.2.2.1 (by omega) (by have := HK.out; omega)).mono ?_
        rintro e w1 ⟨rfl, ⟨ge, gl, hM⟩, hg⟩
        rw [HK.out, arN_odd hi8]
        exact ⟨rfl, ge, gl, trivial, hM, hg⟩⟩
      have HMN := Aside.mk (poly_minimal f q k (Gf.pw (2 * i + 1)) wr (fun _ _ => True) (by have := HR.out.2.2.2.2.1; have := HH.out.1; omega) HR.out.2.2.1.lt (Gf.pw_pos _) (Gf.pw_lt _) HE.out)
      have HI8 := Aside.mk (And.intro hi8 hlt)
      clear HE hi8 hlt
      have HM2 : Aside (∀ e w', MinPost wr f q (fun _ _ => True) (Gf.minN (Gf.pw (2 * i + 1))) e w' → ∃ A1 c1, e = .returned (.slice A1 (mkL i).length c1) ∧ Aside (Row w' wr.heap.size 3 1 (.slice A1 (mkL i).length c1) (mkL i).length (intsV (Poly.ints (mkL i))) ∧ SeenAt w' w.heap.size (.slice A6 i c6) i ∧ Row w' w.heap.size 3 1 (.slice A7 (listP (genN i)).length c7) (listP (genN i)).length (intsV (Poly.ints (listP (genN i)))) ∧ (∃ q1, Fld w' f q1 ∧ p ≤ q1 ∧ q1 ≤ p + 200 * (i + 1)) ∧ w.grownBy w' (some f) ∧ wr.heap.size ≤ w'.heap.size)) := ⟨by
        rintro e w' ⟨v, ge, gl, q1, rfl, _, hM, hq1, hq2, hg, hr⟩
        obtain ⟨A1, c1, rfl, _⟩ := hr.slice
        have hfw := HH.out.2.2
        exact ⟨A1, c1, rfl, hr, HR.out.1.far hg (by intro r hr; injection hr with hr; omega), HR.out.2.1.far hg (by intro r hr; injection hr with hr; omega), ⟨q1, .inr ⟨ge, gl, hM⟩, by have := HR.out; omega, by have := HR.out.2.2.2.2.1; omega⟩, World.grownBy.trans HR.out.2.2.2.2.2 hg, hg.size⟩⟩
      go_upto_region 9 with (go_at_call 173; refine HMN.out.mono ?_; intro e w1 h1; obtain ⟨A1, c1, rfl, HM1⟩ := HM2.out e w1 h1; clear h1)
      obtain ⟨hr1, hs1, ho1, ⟨q1, hF1, hq11, hq12⟩, hg1, hsz1⟩ := HM1.out
      have bA := (Below.refl w1.heap.size w1).alloc (Nat.le_refl _) (.cells #[.slice A1 (mkL i).length c1] 270)
      have hcm : (w1.alloc (.cells #[.slice A1 (mkL i).length c1] 270)).cell? ⟨w1.heap.size, 0, none⟩ = some (.slice A1 (mkL i).length c1) := cell_of_row _ _ 0 _ _ _ (heap_alloc_new w1 _)
      have hsA : w1.heap.size < (w1.alloc (.cells #[.slice A1 (mkL i).length c1] 270)).heap.size := by simp
      have HW2 := Aside.mk (And.intro (hr1.below bA) (And.intro (hs1.below bA) (And.intro (ho1.below bA) (And.intro (hF1.below bA) (And.intro (World.grownBy.trans hg1 (World.grownBy_alloc w1 (.cells #[.slice A1 (mkL i).length c1] 270) (some f))) (And.intro hcm (And.intro hsA (And.intro hq11 hq12))))))))
      have hlt6 : ∀ b, (Value.slice A6 i c6).ownBlock = some b → b < w1.heap.size := fun b hb => by obtain ⟨vs, h1, _⟩ := hs1; exact (h1.blk b hb).2.1
      have HL6 := Aside.mk hlt6
      have HWS := Aside.mk (Nat.le_trans hg1.size (Nat.le_of_lt hsA))
      clear hr1 hs1 ho1 hF1 hg1 hq11 hq12 bA hsA hlt6 hsz1 HM1
      generalize w1.alloc (.cells #[.slice A1 (mkL i).length c1] 270) = W2 at *
      generalize w1.heap.size = hb at *
      have HCF : Aside (Calls Tryz.prog 174 #[.slice A6 i c6, .func (.func 175) #[] #[.pointer (some ⟨hb, 0, none⟩)]] W2 fun e w' => e = .returned (.bool false) ∧ DrewOf W2 w') := ⟨by
        obtain ⟨vs, h1, h2⟩ := HW2.out.2.1
        have hi8 := HI8.out.1
        obtain ⟨A1', c1', e1, h3, _, _, h4⟩ := HW2.out.1.readInts
        injection e1 with e1 _ e2
        subst e1; subst e2
        refine sl_containsFunc A6 A1 i c6 (mkL i).length c1 hb vs (Poly.ints (mkL i)) W2 (by omega) ((Rd.of_row h1).congr fun j hj => ?_) (fun j hj => ?_) h3 (by have := mkL_len i; omega) h4 HW2.out.2.2.2.2.2.1
        · simp [List.getD_eq_getElem?_getD, hj]
        · obtain ⟨A, c, e, hl, _, _, hr⟩ := (h2 j hj).readInts
          exact ⟨A, _, c, Poly.ints (mkL j), e, hl, by have := mkL_len j; omega, hr, fun e => by have := mkL_inj (by omega) hi8 e; omega⟩⟩
      obtain ⟨vs, hv1, hv2⟩ := HW2.out.2.1
      have HV := Aside.mk (And.intro hv1 hv2)
      clear hv1 hv2
      have HAP : Aside (∀ W3, DrewOf W2 W3 → ∀ v4 w4, Row w4 w.heap.size 270 1 v4 (i + 1) ((List.range i).map vs ++ [.slice A1 (mkL i).length c1]) → W3.grownBy w4 (Value.slice A6 i c6).ownBlock →
          w4.cell? ⟨hb, 0, none⟩ = some (.slice A1 (mkL i).length c1) ∧ Aside (SeenAt w4 w.heap.size v4 (i + 1) ∧ Fld w4 f q1 ∧ w.grownBy w4 (some f) ∧ Row w4 w.heap.size 3 1 (.slice A1 (mkL i).length c1) (mkL i).length (intsV (Poly.ints (mkL i))) ∧ Row w4 w.heap.size 3 1 (.slice A7 (listP (genN i)).length c7) (listP (genN i)).length (intsV (Poly.ints (listP (genN i)))))) := ⟨by
        intro W3 hd v4 w4 hr4 hg4
        obtain ⟨m, rfl⟩ := hd
        have hs3 : Row (W2.drewN m) w.heap.size 270 1 (.slice A6 i c6) i ((List.range i).map vs) := HV.out.1.drewN m
        have hk : ∀ {b n : Nat} {v : Value} {xs : List Value}, Row W2 b 3 1 v n xs → Row w4 b 3 1 v n xs := fun h => (h.drewN m).kept hg4 (Row.other (h.drewN m) hs3 (by decide))
        have hrm : Row W2 w.heap.size 3 1 (.slice A1 (mkL i).length c1) (mkL i).length (intsV (Poly.ints (mkL i))) := HW2.out.1.mono HR.out.2.2.2.2.2.size
        refine ⟨?_, ⟨fun j => if j = i then .slice A1 (mkL i).length c1 else vs j, ?_, fun j hj => ?_⟩, ?_, ?_, hk hrm, hk HW2.out.2.2.1⟩
        · have hne : some hb ≠ (Value.slice A6 i c6).ownBlock := fun e => by have := HL6.out hb e.symm; omega
          have := hg4.block hb HW2.out.2.2.2.2.2.2.1 hne
          simp only [World.cell?, this]
          exact HW2.out.2.2.2.2.2.1
        · have e : (List.range (i + 1)).map (fun j => if j = i then Value.slice A1 (mkL i).length c1 else vs j) = (List.range i).map vs ++ [.slice A1 (mkL i).length c1] := by
            rw [List.range_succ, List.map_append]
            congr 1
            · apply List.map_congr_left
              intro j hj
              rw [if_neg (by have := List.mem_range.1 hj; omega)]
            · simp
          rw [e]
          exact hr4
        · by_cases hji : j = i
          · subst hji
            simp only [if_true]
            exact hk hrm
          · simp only [if_neg hji]
            exact hk (HV.out.2 j (by omega))
        · have hF3 : Fld (W2.drewN m) f q1 := HW2.out.2.2.2.1.below ⟨rfl, rfl, rfl, Nat.le_refl _, fun _ _ => rfl⟩
          exact hF3.seen hs3 hg4
        · refine ⟨hg4.os.trans HW2.out.2.2.2.2.1.os, hg4.tape.trans HW2.out.2.2.2.2.1.tape, hg4.output.trans HW2.out.2.2.2.2.1.output, Nat.le_trans HW2.out.2.2.2.2.1.size hg4.size, fun k hk hne => ?_⟩
          have h1 := HW2.out.2.2.2.2.1.block k hk hne
          rw [← h1]
          refine hg4.block k (Nat.lt_of_lt_of_le hk HW2.out.2.2.2.2.1.size) fun e => ?_
          have := (HV.out.1.blk k e.symm).1
          omega⟩
      have HML : Aside (∀ w4, Row w4 w.heap.size 3 1 (.slice A1 (mkL i).length c1) (mkL i).length (intsV (Poly.ints (mkL i))) → Row w4 w.heap.size 3 1 (.slice A7 (listP (genN i)).length c7) (listP (genN i)).length (intsV (Poly.ints (listP (genN i)))) →
          Calls Tryz.prog 177 #[.slice A7 (listP (genN i)).length c7, .slice A1 (mkL i).length c1] w4 (PairOf w4 (some (genN (i + 1))))) := ⟨fun w4 h1 h2 => by
        have := lmul (.slice A7 (listP (genN i)).length c7) (.slice A1 (mkL i).length c1) (Poly.ints (listP (genN i))) (Poly.ints (mkL i)) w4 (Row.lrd h2 (listP_short _)) (Row.lrd h1 (by have := mkL_len i; omega))
        rw [bits_gen (by have := HI8.out.1; omega), bits_mk HI8.out.1, gen_mul HI8.out.1] at this
        exact this⟩
      go_wp2_with (first | (go_at_call 174; refine HCF.out.mono ?_; rintro e w3 ⟨rfl, hd⟩; have hcm3 : w3.cell? ⟨hb, 0, none⟩ = some (.slice A1 (mkL i).length c1) := (by obtain ⟨m, rfl⟩ := hd; exact hcm); have HD := Aside.mk hd; clear hd hcm) | (at_builtin; refine wpList_append_one (w0 := w3) w.heap.size rfl _ _ 298 270 1 24 (.slice none 0 0) rfl Tryz.underlying298 infoPoly rfl (by decide) (.slice A6 i c6) i ((List.range i).map vs) #[.slice A1 (mkL i).length c1] rfl rfl rfl (by obtain ⟨m, hm⟩ := HD.out; rw [hm]; exact HV.out.1.drewN m) (by simp [Value.oneCell']) (Below.refl _ _) (by obtain ⟨m, hm⟩ := HD.out; rw [hm]; exact HWS.out) (by have := HI8.out; omega) (by have := HI8.out; simp only [maxLen]; omega) ?_; intro v4 w4 hr4 hb4 hg4 hat4; obtain ⟨hc4, HS4⟩ := HAP.out w3 HD.out v4 w4 hr4 hg4; clear hr4 hb4 hg4 hat4 hcm3) | (go_at_call 177; refine (HML.out _ HS4.out.2.2.2.1 HS4.out.2.2.2.2).mono ?_; rintro e w5 ⟨v5, rfl, hr5, hb5⟩; have H5 := Aside.mk (And.intro hr5 hb5); clear hr5 hb5))
      go_roundw
      case rel =>
        obtain ⟨hs4, hF4, hg4, hm4, ho4⟩ := HS4.out
        obtain ⟨hr5, hb5⟩ := H5.out
        refine ⟨i + 1, q1, k + 2, rfl, HI8.out.2, ⟨by have := HK.out; omega⟩, hs4.below hb5, hr5.mono hg4.size, hF4.below hb5, ?_, ?_, World.grownBy.trans hg4 (grownBy_of_below hb5 _)⟩
        · exact HW2.out.2.2.2.2.2.2.2.1
        · exact HW2.out.2.2.2.2.2.2.2.2
      case measure => have := HK.out; have := HT.out; simp [intOf]; omega
    · have hk2 : ¬ (k : Int) < (t2 : Int) := by have := HK.out; have := HT.out; omega
      have hit2 : i = t := by omega
      have HI := Aside.mk hit2
      clear hit2 hlt hit
      go_wp2
      go_ret2
      obtain ⟨hs, ho, hF, h1, h2, hg⟩ := HR.out
      rw [HI.out] at ho
      exact ⟨_, q, rfl, hF, h1, by have := HI.out; have := HT.out; omega, hg, by rw [← HI.out]; exact HR.out.2.1⟩
end Go.Proofs.YtkgacnenmflegaaGreatDoor
namespace Go.Proofs.YtkgacnenmflegaaGreatDoor
open Go.RowKit

/-- What stands around the field of a code. -/
@[reducible] def hst (t n : Nat) (d s m dg lo : Value) : Host := ⟨.int .i64 (t : Int), .int .i64 (n : Int), d, s, m, dg, lo⟩
/-- A code's block, and its field, fresh or with its tables. -/
def CF (w : World) (c t n : Nat) (d s m dg lo : Value) (q : Nat) : Prop := @Fld (hst t n d s m dg lo) w c q
section
variable {w w' : World} {c t n q : Nat} {d s m dg lo : Value}
theorem CF.lt (h : CF w c t n d s m dg lo q) : c < w.heap.size := @Fld.lt (hst t n d s m dg lo) _ _ _ h
theorem CF.blk (h : CF w c t n d s m dg lo q) : ∃ fd fs fm ev lv p, w.heap[c]? = some (.cells #[.int .i64 (t : Int), .int .i64 (n : Int), d, s, m, fd, fs, fm, ev, lv, p, dg, lo] 231 (0, 0)) := by
  rcases h with h | ⟨ge, gl, ⟨hfb, _, _, _⟩⟩
  · exact ⟨_, _, _, _, _, _, h⟩
  · exact ⟨_, _, _, _, _, _, hfb⟩
theorem CF.c0 (h : CF w c t n d s m dg lo q) : w.cell? ⟨c, 0, none⟩ = some (.int .i64 (t : Int)) := by obtain ⟨_, _, _, _, _, _, h⟩ := h.blk; exact cell_of_row w c 0 _ _ _ h
theorem CF.c1 (h : CF w c t n d s m dg lo q) : w.cell? ⟨c, 1, none⟩ = some (.int .i64 (n : Int)) := by obtain ⟨_, _, _, _, _, _, h⟩ := h.blk; exact cell_of_row w c 1 _ _ _ h
theorem CF.c2 (h : CF w c t n d s m dg lo q) : w.cell? ⟨c, 2, none⟩ = some d := by obtain ⟨_, _, _, _, _, _, h⟩ := h.blk; exact cell_of_row w c 2 _ _ _ h
theorem CF.c3 (h : CF w c t n d s m dg lo q) : w.cell? ⟨c, 3, none⟩ = some s := by obtain ⟨_, _, _, _, _, _, h⟩ := h.blk; exact cell_of_row w c 3 _ _ _ h
theorem CF.c11 (h : CF w c t n d s m dg lo q) : w.cell? ⟨c, 11, none⟩ = some dg := by obtain ⟨_, _, _, _, _, _, h⟩ := h.blk; exact cell_of_row w c 11 _ _ _ h
theorem CF.c12 (h : CF w c t n d s m dg lo q) : w.cell? ⟨c, 12, none⟩ = some lo := by obtain ⟨_, _, _, _, _, _, h⟩ := h.blk; exact cell_of_row w c 12 _ _ _ h
theorem CF.free (h : CF w c t n d s m dg lo q) (i : Nat) : w.frozen? ⟨c, i, none⟩ = false := by
  obtain ⟨_, _, _, _, _, _, h⟩ := h.blk
  simp only [World.frozen?, h]
  simp
/-- What stands around the field is written. -/
theorem Fld.host {H H' : Host} (h : @Fld H w c q) (hg : w.grownBy w' (some c)) (hb : ∀ d s m ev lv p, @FB H w c d s m ev lv p → @FB H' w' c d s m ev lv p) : @Fld H' w' c q := by
  rcases h with h | ⟨ge, gl, ⟨hfb, hex, hlg, hne⟩⟩
  · exact .inl (hb _ _ _ _ _ _ h)
  · exact .inr ⟨ge, gl, hb _ _ _ _ _ _ hfb, hex.kept hg (.inr (by have := hne.1; simpa [Value.ownBlock] using this)), hlg.kept hg (.inr (by have := hne.2; simpa [Value.ownBlock] using this)), hne⟩
theorem CF.set2 (h : CF w c t n d s m dg lo q) (v : Value) : CF (w.setCell ⟨c, 2, none⟩ v) c t n v s m dg lo q :=
  Fld.host h (grownBy_setCell w c 2 v) fun _ _ _ _ _ _ hb => by letI := hst t n d s m dg lo; exact FB.set hb 2 v
theorem CF.set3 (h : CF w c t n d s m dg lo q) (v : Value) : CF (w.setCell ⟨c, 3, none⟩ v) c t n d v m dg lo q :=
  Fld.host h (grownBy_setCell w c 3 v) fun _ _ _ _ _ _ hb => by letI := hst t n d s m dg lo; exact FB.set hb 3 v
theorem CF.set11 (h : CF w c t n d s m dg lo q) (v : Value) : CF (w.setCell ⟨c, 11, none⟩ v) c t n d s m v lo q :=
  Fld.host h (grownBy_setCell w c 11 v) fun _ _ _ _ _ _ hb => by letI := hst t n d s m dg lo; exact FB.set hb 11 v
theorem CF.set12 (h : CF w c t n d s m dg lo q) (v : Value) : CF (w.setCell ⟨c, 12, none⟩ v) c t n d s m dg v q :=
  Fld.host h (grownBy_setCell w c 12 v) fun _ _ _ _ _ _ hb => by letI := hst t n d s m dg lo; exact FB.set hb 12 v
theorem CF.below (h : CF w c t n d s m dg lo q) (hb : Below w.heap.size w w') : CF w' c t n d s m dg lo q := @Fld.below (hst t n d s m dg lo) _ _ _ _ h hb
theorem CF.drewN (h : CF w c t n d s m dg lo q) (k : Nat) : CF (w.drewN k) c t n d s m dg lo q := h.below ⟨rfl, rfl, rfl, Nat.le_refl _, fun _ _ => rfl⟩
theorem CF.drew (h : CF w c t n d s m dg lo q) : CF w.drew c t n d s m dg lo q := h.below ⟨rfl, rfl, rfl, Nat.le_refl _, fun _ _ => rfl⟩
theorem CF.off {b k : Nat} {e : TypeId} {v : Value} {xs : List Value} (h : CF w c t n d s m dg lo q) (hs : Row w b e 1 v k xs) (he : e ≠ 231) : v.ownBlock ≠ some c := by
  intro e1
  obtain ⟨_, _, cur, fr, h1⟩ := hs.blk c e1
  obtain ⟨_, _, _, _, _, _, h2⟩ := h.blk
  rw [h1] at h2
  simp only [Option.some.injEq, Obj.cells.injEq] at h2
  exact he h2.2.1
/-- A row of bytes is written. -/
theorem CF.bytes {b k : Nat} {v : Value} {xs : List Value} (h : CF w c t n d s m dg lo q) (hs : Row w b 5 1 v k xs) (hg : w.grownBy w' v.ownBlock) : CF w' c t n d s m dg lo q := by
  have hf : some c ≠ v.ownBlock := by
    intro e
    obtain ⟨_, _, cur, fr, h1⟩ := hs.blk c e.symm
    obtain ⟨_, _, _, _, _, _, h2⟩ := h.blk
    rw [h1] at h2
    simp only [Option.some.injEq, Obj.cells.injEq] at h2
    exact absurd h2.2.1 (by decide)
  letI := hst t n d s m dg lo
  rcases h with h | ⟨ge, gl, h⟩
  · exact .inl (FB.kept h hg hf)
  · refine .inr ⟨ge, gl, h.kept hg hf ?_ ?_⟩
    · have := Row.other h.ex hs (by decide)
      simpa [Value.ownBlock] using this
    · have := Row.other h.lg hs (by decide)
      simpa [Value.ownBlock] using this
end
/-- A new code. -/
theorem CF.new (w : World) (t n : Nat) : CF (w.alloc (.cells #[.int .i64 (t : Int), .int .i64 (n : Int), .int .u32 0, .int .i32 0, .int .u32 0, .int .u32 0, .int .i32 0, .int .u32 0, .slice none 0 0, .slice none 0 0, .int .i64 0, .int .i64 0, .slice none 0 0] 231)) w.heap.size t n (.int .u32 0) (.int .i32 0) (.int .u32 0) (.int .i64 0) (.slice none 0 0) 0 := .inl (heap_alloc_new w _)
/-! ### Bytes -/
theorem u8_toNat {a : Nat} (ha : a < 256) : (BitVec.ofInt 64 (a : Int)).toNat = a := i64_toNat (by omega)
theorem u8_or {a b : Nat} (ha : a < 256) (hb : b < 256) : bits .or .u8 (a : Int) (b : Int) = ((a ||| b : Nat) : Int) := by
  have hx : a ||| b < 2 ^ 8 := Nat.or_lt_two_pow (by omega) (by omega)
  show IntKind.u8.wrap ((BitVec.ofInt 8 (a : Int) ||| BitVec.ofInt 8 (b : Int)).toNat : Int) = _
  rw [BitVec.toNat_or, BitVec.toNat_ofInt, BitVec.toNat_ofInt]
  have e1 : ((a : Int) % ((2 ^ 8 : Nat) : Int)).toNat = a := by omega
  have e2 : ((b : Int) % ((2 ^ 8 : Nat) : Int)).toNat = b := by omega
  rw [e1, e2, IntKind.wrap_u8]
  omega
end Go.Proofs.YtkgacnenmflegaaGreatDoor
namespace Go.Proofs.YtkgacnenmflegaaGreatDoor
open Go.RowKit

/-- Shifted to the left by one bit; the bit that falls out. -/
def leftL : List UInt8 → List UInt8 × UInt8
  | [] => ([], 0)
  | x :: r => (((x <<< 1) ||| (leftL r).2) :: (leftL r).1, x >>> 7)
theorem leftL_len (l : List UInt8) : (leftL l).1.length = l.length := by
  induction l with
  | nil => rfl
  | cons x r ih => simp [leftL, ih]
theorem shl_all : ∀ n : Nat, n < 256 → (UInt8.ofNat n <<< 1).toNat = n * 2 % 256 := by decide +kernel
theorem shr_all : ∀ n : Nat, n < 256 → (UInt8.ofNat n >>> 7).toNat = n / 128 := by decide +kernel
theorem shl_one (x : UInt8) : (x <<< 1).toNat = x.toNat * 2 % 256 := by
  have := shl_all x.toNat x.toNat_lt
  rwa [UInt8.ofNat_toNat] at this
theorem shr_seven (x : UInt8) : (x >>> 7).toNat = x.toNat / 128 := by
  have := shr_all x.toNat x.toNat_lt
  rwa [UInt8.ofNat_toNat] at this
theorem or8U (x o : UInt8) : bits .or .u8 (x.toNat : Int) (o.toNat : Int) = ((x ||| o).toNat : Int) := by
  rw [u8_or x.toNat_lt o.toNat_lt, UInt8.toNat_or]
theorem shl_or (x o : UInt8) : bits .or .u8 ((x.toNat : Int) * 2 % 256) (o.toNat : Int) = ((x <<< 1 ||| o).toNat : Int) := by
  have e : ((x.toNat * 2 % 256 : Nat) : Int) = (x.toNat : Int) * 2 % 256 := by omega
  rw [← or8U, shl_one, e]
theorem bytesV_at {l : List UInt8} {i : Nat} (h : i < l.length) : (bytesV l).getD i undef = .int .u8 ((l.getD i 0).toNat : Int) := by
  unfold bytesV
  rw [List.getD_eq_getElem?_getD, List.getElem?_map, List.getElem?_eq_getElem h, List.getD_eq_getElem?_getD, List.getElem?_eq_getElem h]
  rfl
theorem take_at {l r : List UInt8} {i : Nat} (h : i < l.length) : (l.take (i + 1) ++ r).getD i 0 = l.getD i 0 := by
  have h2 : i < (l.take (i + 1)).length := by rw [List.length_take]; omega
  simp only [List.getD_eq_getElem?_getD]
  rw [List.getElem?_append_left h2, List.getElem?_take_of_lt (by omega)]
theorem take_set_app {l r : List UInt8} {i : Nat} (b : UInt8) (h : i < l.length) : (l.take (i + 1) ++ r).set i b = l.take i ++ b :: r := by
  have h2 : (l.take i).length = i := by rw [List.length_take]; omega
  rw [List.take_add_one, List.getElem?_eq_getElem h, Option.toList_some, List.append_assoc]
  rw [List.set_append_right _ _ (by omega), h2, Nat.sub_self]
  rfl
def LeftPost (w : World) (B g n c : Nat) (l : List UInt8) (e : Ending) (w' : World) : Prop :=
  e = .returned (.int .u8 ((leftL l).2.toNat : Int)) ∧ Row w' B 5 1 (.slice (some ⟨g, 0, none⟩) n c) n (bytesV (leftL l).1) ∧ w.grownBy w' (some g)
set_option maxRecDepth 100000 in
set_option maxHeartbeats 2000000 in
theorem bch_left (B g n c : Nat) (l : List UInt8) (w : World) (hn : n ≤ 1000000) (hl : l.length = n) (hr : Row w B 5 1 (.slice (some ⟨g, 0, none⟩) n c) n (bytesV l)) :
    Calls Tryz.prog 150 #[.slice (some ⟨g, 0, none⟩) n c] w (LeftPost w B g n c l) := by
  have HL := Aside.mk (And.intro hn (And.intro hl hr))
  have w1 : IntKind.i64.wrap ((n : Int) - 1) = (n : Int) - 1 := by rw [IntKind.wrap_i64]; omega
  clear hn hl hr
  go_enter Tryz.func150, Tryz.ntmps150
  go_wp2
  go_loopw [3, 4] (fun s3 s4 wr => ∃ j : Nat, s4 = .int .i64 ((j : Int) - 1) ∧ j ≤ n ∧ s3 = .int .u8 ((leftL (l.drop j)).2.toNat : Int) ∧ Aside (Row wr B 5 1 (.slice (some ⟨g, 0, none⟩) n c) n (bytesV (l.take j ++ (leftL (l.drop j)).1)) ∧ w.grownBy wr (some g))) (fun _ s4 _ => (intOf s4 + 1).toNat)
  case atStart => exact ⟨n, rfl, Nat.le_refl _, by rw [List.drop_of_length_le (by have := HL.out; omega)]; rfl, ⟨by rw [List.drop_of_length_le (by have := HL.out; omega), List.take_of_length_le (by have := HL.out; omega)]; simpa [leftL] using HL.out.2.2, World.grownBy.refl _ _⟩⟩
  case round =>
    obtain ⟨j, rfl, hj, rfl, HI⟩ := hrel
    by_cases h0 : j = 0
    · subst h0
      have h1 : ¬ (0 : Int) ≤ ((0 : Nat) : Int) - 1 := by omega
      clear w1
      go_wp2
      go_ret
      exact ⟨rfl, HI.out.1, HI.out.2⟩
    · obtain ⟨i, rfl⟩ : ∃ i, j = i + 1 := ⟨j - 1, by omega⟩
      have e1 : (((i + 1 : Nat) : Int) - 1) = (i : Int) := by omega
      rw [e1]
      have h1 : (0 : Int) ≤ (i : Int) := by omega
      have h2 : (i : Int) < (n : Int) := by omega
      have hi1 : IntKind.i64.wrap ((i : Int) - 1) = (i : Int) - 1 := by have := HL.out; rw [IntKind.wrap_i64]; omega
      have hd : l.drop i = l.getD i 0 :: l.drop (i + 1) := by
        have hil : i < l.length := by have := HL.out; omega
        rw [List.drop_eq_getElem_cons hil]
        simp [List.getD_eq_getElem?_getD, hil]
      obtain ⟨y0, z0⟩ := HI.out.1.at_ rfl i (by omega)
      have hil : i < l.length := by have := HL.out; omega
      have ht := take_at (r := (leftL (l.drop (i + 1))).1) hil
      obtain ⟨x, hx⟩ : ∃ x, x = l.getD i 0 := ⟨_, rfl⟩
      obtain ⟨o, ho⟩ : ∃ o, o = (leftL (l.drop (i + 1))).2 := ⟨_, rfl⟩
      replace y0 : wr.cell? ⟨g, i, none⟩ = some (.int .u8 (x.toNat : Int)) := by
        rw [Nat.zero_add] at y0
        rw [y0, hx, ← ht]
        exact congrArg some (bytesV_at (by rw [List.length_append, List.length_take, leftL_len, List.length_drop]; have := HL.out; omega))
      rw [Nat.zero_add] at z0
      rw [← ho]
      have HX := Aside.mk (And.intro hx (And.intro ho (And.intro hd (And.intro hj hil))))
      clear hx ho hd ht hj e1 h0 w1 hil
      go_upto_region 5 with fail
      go_region
      all_goals
        go_wp2
        go_roundw
        case rel =>
          obtain ⟨hx, ho, hd, hj, hil⟩ := HX.out
          have hs := HI.out.1.store rfl i (by omega) (.int .u8 ((x <<< 1 ||| o).toNat : Int))
          rw [Nat.zero_add] at hs
          have e2 : leftL (l.drop i) = ((x <<< 1 ||| o) :: (leftL (l.drop (i + 1))).1, x >>> 7) := by rw [hd, hx, ho]; rfl
          refine ⟨i, rfl, by omega, ?_, ⟨?_, ?_⟩⟩
          · have e4 : (((x >>> 7).toNat : Nat) : Int) = (x.toNat : Int) / 128 := by rw [shr_seven]; omega
            rw [e2, e4]
          · rw [shl_or, e2]
            have e3 : (bytesV (l.take (i + 1) ++ (leftL (l.drop (i + 1))).1)).set i (.int .u8 ((x <<< 1 ||| o).toNat : Int)) = bytesV (l.take i ++ (x <<< 1 ||| o) :: (leftL (l.drop (i + 1))).1) := by
              rw [← take_set_app _ hil]
              simp only [bytesV, List.map_set]
            rw [← e3]
            exact hs.1.drew
          · rw [shl_or]
            exact grownBy_drew (World.grownBy.trans HI.out.2 hs.2)
        case measure => simp [intOf]
end Go.Proofs.YtkgacnenmflegaaGreatDoor
namespace Go.Proofs.YtkgacnenmflegaaGreatDoor
open Go.RowKit

def xorL (a b : List UInt8) : List UInt8 := List.zipWith (· ^^^ ·) a b
def stepB (low r : List UInt8) (b : UInt8) : List UInt8 := if (leftL r).2 = b then (leftL r).1 else xorL (leftL r).1 low
def bitAt (x : UInt8) (k : Nat) : UInt8 := (x >>> UInt8.ofNat k) &&& 1
def bitsD (low : List UInt8) (x : UInt8) (r : List UInt8) : Nat → List UInt8
  | 0 => r
  | k + 1 => bitsD low x (stepB low r (bitAt x k)) k
@[irreducible] def byteD (low : List UInt8) (x : UInt8) (r : List UInt8) : List UInt8 := bitsD low x r 8
def divD (low : List UInt8) (r : List UInt8) : List UInt8 → List UInt8
  | [] => r
  | x :: t => divD low (byteD low x r) t
theorem xorL_len {a b : List UInt8} (h : a.length = b.length) : (xorL a b).length = a.length := by simp [xorL, h]
theorem stepB_len {low r : List UInt8} (h : low.length = r.length) (b : UInt8) : (stepB low r b).length = r.length := by
  unfold stepB
  split
  · exact leftL_len r
  · rw [xorL_len (by rw [leftL_len, h]), leftL_len]
theorem leftL_bit (l : List UInt8) : (leftL l).2 = 0 ∨ (leftL l).2 = 1 := by
  cases l with
  | nil => exact .inl rfl
  | cons x r =>
    have h : (x >>> 7).toNat = x.toNat / 128 := shr_seven x
    have := x.toNat_lt
    have h2 : (x >>> 7).toNat = 0 ∨ (x >>> 7).toNat = 1 := by omega
    rcases h2 with h2 | h2
    · exact .inl (UInt8.toNat_inj.1 h2)
    · exact .inr (UInt8.toNat_inj.1 h2)
theorem or_one_all : ∀ n : Nat, n < 256 → (UInt8.ofNat n <<< 1) ||| (1 : UInt8) = (UInt8.ofNat n <<< 1) ^^^ (1 : UInt8) := by decide +kernel
theorem or_bit1 (x o : UInt8) (h : o = 0 ∨ o = 1) : (x <<< 1) ||| o = (x <<< 1) ^^^ o := by
  rcases h with rfl | rfl
  · simp
  · have := or_one_all x.toNat x.toNat_lt
    rwa [UInt8.ofNat_toNat] at this
theorem leftL_xor : ∀ {a b : List UInt8}, a.length = b.length → leftL (xorL a b) = (xorL (leftL a).1 (leftL b).1, (leftL a).2 ^^^ (leftL b).2)
  | [], [], _ => rfl
  | x :: a, y :: b, h => by
    have ih := leftL_xor (a := a) (b := b) (by simpa using h)
    have e1 : xorL (x :: a) (y :: b) = (x ^^^ y) :: xorL a b := rfl
    rw [e1]
    simp only [leftL]
    rw [ih]
    have ha := leftL_bit a
    have hb := leftL_bit b
    have hab : (leftL a).2 ^^^ (leftL b).2 = 0 ∨ (leftL a).2 ^^^ (leftL b).2 = 1 := by
      rcases ha with ha | ha <;> rcases hb with hb | hb <;> rw [ha, hb] <;> decide
    rw [or_bit1 _ _ hab, or_bit1 _ _ ha, or_bit1 _ _ hb, UInt8.shiftLeft_xor, UInt8.shiftRight_xor]
    have e2 : x <<< 1 ^^^ y <<< 1 ^^^ ((leftL a).2 ^^^ (leftL b).2) = (x <<< 1 ^^^ (leftL a).2) ^^^ (y <<< 1 ^^^ (leftL b).2) := by
      rw [UInt8.xor_assoc, UInt8.xor_assoc]
      congr 1
      rw [← UInt8.xor_assoc, ← UInt8.xor_assoc, UInt8.xor_comm (y <<< 1)]
    rw [e2]
    rfl
theorem xorL_self_cancel : ∀ {a b c : List UInt8}, a.length = b.length → b.length = c.length → xorL (xorL a c) (xorL b c) = xorL a b
  | [], [], [], _, _ => rfl
  | x :: a, y :: b, z :: c, h1, h2 => by
    have ih := xorL_self_cancel (a := a) (b := b) (c := c) (by simpa using h1) (by simpa using h2)
    have e : (x ^^^ z) ^^^ (y ^^^ z) = x ^^^ y := by
      rw [UInt8.xor_assoc, ← UInt8.xor_assoc z, UInt8.xor_comm z y, UInt8.xor_assoc y, UInt8.xor_self, UInt8.xor_zero]
    have e1 : xorL (xorL (x :: a) (z :: c)) (xorL (y :: b) (z :: c)) = ((x ^^^ z) ^^^ (y ^^^ z)) :: xorL (xorL a c) (xorL b c) := rfl
    rw [e1, e, ih]
    rfl
theorem xorL_left : ∀ {a b c : List UInt8}, a.length = b.length → b.length = c.length → xorL (xorL a c) b = xorL (xorL a b) c
  | [], [], [], _, _ => rfl
  | x :: a, y :: b, z :: c, h1, h2 => by
    have ih := xorL_left (a := a) (b := b) (c := c) (by simpa using h1) (by simpa using h2)
    have e : (x ^^^ z) ^^^ y = (x ^^^ y) ^^^ z := by rw [UInt8.xor_assoc, UInt8.xor_comm z y, ← UInt8.xor_assoc]
    have e1 : xorL (xorL (x :: a) (z :: c)) (y :: b) = ((x ^^^ z) ^^^ y) :: xorL (xorL a c) b := rfl
    rw [e1, e, ih]
    rfl
theorem xorL_right {a b c : List UInt8} (h1 : a.length = b.length) (h2 : b.length = c.length) : xorL a (xorL b c) = xorL (xorL a b) c := by
  induction a generalizing b c with
  | nil => rfl
  | cons x a ih =>
    cases b with
    | nil => cases h1
    | cons y b =>
      cases c with
      | nil => cases h2
      | cons z c =>
        have e1 : xorL (x :: a) (xorL (y :: b) (z :: c)) = (x ^^^ (y ^^^ z)) :: xorL a (xorL b c) := rfl
        rw [e1, ← UInt8.xor_assoc, ih (by simpa using h1) (by simpa using h2)]
        rfl
theorem bitAt_bit (x : UInt8) (k : Nat) : bitAt x k = 0 ∨ bitAt x k = 1 := by
  have h : (bitAt x k).toNat = (x >>> UInt8.ofNat k).toNat % 2 := by
    unfold bitAt
    rw [UInt8.toNat_and]
    exact Nat.and_one_is_mod _
  have h2 : (bitAt x k).toNat = 0 ∨ (bitAt x k).toNat = 1 := by omega
  rcases h2 with h2 | h2
  · exact .inl (UInt8.toNat_inj.1 h2)
  · exact .inr (UInt8.toNat_inj.1 h2)
theorem bitAt_xor (x y : UInt8) (k : Nat) : bitAt (x ^^^ y) k = bitAt x k ^^^ bitAt y k := by
  unfold bitAt
  rw [UInt8.shiftRight_xor]
  generalize x >>> UInt8.ofNat k = p
  generalize y >>> UInt8.ofNat k = q
  apply UInt8.toNat_inj.1
  rw [UInt8.toNat_and, UInt8.toNat_xor, UInt8.toNat_xor, UInt8.toNat_and, UInt8.toNat_and]
  show (p.toNat ^^^ q.toNat) &&& 1 = (p.toNat &&& 1) ^^^ (q.toNat &&& 1)
  rw [Nat.and_one_is_mod, Nat.and_one_is_mod, Nat.and_one_is_mod]
  exact xor_mod p.toNat q.toNat 1
theorem stepB_xor {low r s : List UInt8} (h : low.length = r.length) (hs : r.length = s.length) {b d : UInt8} (hb : b = 0 ∨ b = 1) (hd : d = 0 ∨ d = 1) :
    stepB low (xorL r s) (b ^^^ d) = xorL (stepB low r b) (stepB low s d) := by
  have l1 : (leftL r).1.length = (leftL s).1.length := by rw [leftL_len, leftL_len, hs]
  have l2 : (leftL s).1.length = low.length := by rw [leftL_len, h, hs]
  unfold stepB
  rw [leftL_xor hs]
  rcases leftL_bit r with e1 | e1 <;> rcases leftL_bit s with e2 | e2 <;> rcases hb with rfl | rfl <;> rcases hd with rfl | rfl <;> simp only [e1, e2] <;>
    first
    | rfl
    | exact (xorL_self_cancel l1 l2).symm
    | exact (xorL_left l1 l2).symm
    | exact (xorL_right l1 l2).symm
theorem bitsD_len {low : List UInt8} (x : UInt8) : ∀ {r : List UInt8} (k : Nat), low.length = r.length → (bitsD low x r k).length = r.length
  | _, 0, _ => rfl
  | r, k + 1, h => by
    have h1 := stepB_len h (bitAt x k)
    rw [bitsD, bitsD_len x k (by rw [h1, h]), h1]
theorem bitsD_xor {low : List UInt8} (x y : UInt8) : ∀ {r s : List UInt8} (k : Nat), low.length = r.length → r.length = s.length → bitsD low (x ^^^ y) (xorL r s) k = xorL (bitsD low x r k) (bitsD low y s k)
  | _, _, 0, _, _ => rfl
  | r, s, k + 1, h, hs => by
    have h1 := stepB_len h (bitAt x k)
    have h2 := stepB_len (h.trans hs) (bitAt y k)
    rw [bitsD, bitsD, bitsD, bitAt_xor, stepB_xor h hs (bitAt_bit x k) (bitAt_bit y k), bitsD_xor x y k (by rw [h1, h]) (by rw [h1, h2, hs])]
theorem divD_cons (low r : List UInt8) (x : UInt8) (t : List UInt8) : divD low r (x :: t) = divD low (byteD low x r) t := rfl
theorem byteD_len {low : List UInt8} (x : UInt8) {r : List UInt8} (h : low.length = r.length) : (byteD low x r).length = r.length := by
  unfold byteD
  exact bitsD_len x 8 h
theorem byteD_xor {low : List UInt8} (x y : UInt8) {r s : List UInt8} (h : low.length = r.length) (hs : r.length = s.length) : byteD low (x ^^^ y) (xorL r s) = xorL (byteD low x r) (byteD low y s) := by
  unfold byteD
  exact bitsD_xor x y 8 h hs
theorem divD_len {low : List UInt8} (t : List UInt8) : ∀ {r : List UInt8}, low.length = r.length → (divD low r t).length = r.length := by
  induction t with
  | nil => intro r _; rfl
  | cons x t ih =>
    intro r h
    have h1 := byteD_len x h
    rw [divD_cons]
    generalize byteD low x r = r2 at *
    rw [ih (by rw [h1, h]), h1]
/-- What is added up bit by bit leaves remainders that are added up likewise. -/
theorem divD_xor {low : List UInt8} (a : List UInt8) : ∀ {r s : List UInt8} (b : List UInt8), low.length = r.length → r.length = s.length → a.length = b.length → divD low (xorL r s) (xorL a b) = xorL (divD low r a) (divD low s b) := by
  induction a with
  | nil =>
    intro r s b _ _ hab
    cases b with
    | nil => rfl
    | cons y b => cases hab
  | cons x a ih =>
    intro r s b h hs hab
    cases b with
    | nil => cases hab
    | cons y b =>
      have h1 := byteD_len x h
      have h2 := byteD_len y (h.trans hs)
      have h3 := byteD_xor x y h hs
      have e : xorL (x :: a) (y :: b) = (x ^^^ y) :: xorL a b := rfl
      rw [e, divD_cons, divD_cons, divD_cons, h3]
      generalize byteD low x r = r2 at *
      generalize byteD low y s = s2 at *
      exact ih b (by rw [h1, h]) (by rw [h1, h2, hs]) (by simpa using hab)
theorem xorL_zero (n : Nat) : xorL (List.replicate n 0) (List.replicate n 0) = List.replicate n 0 := by
  induction n with
  | zero => rfl
  | succ n ih =>
    have e : xorL (List.replicate (n + 1) 0) (List.replicate (n + 1) 0) = (0 ^^^ 0) :: xorL (List.replicate n 0) (List.replicate n 0) := rfl
    rw [e, ih]
    rfl
end Go.Proofs.YtkgacnenmflegaaGreatDoor
