/-
  A region that draws its order, with guards that are decided: each operation shown alone, in whatever order; or one last store behind them all.
-/
import Derived.Test.YtaganococolodaaRelTail
namespace Go.Proofs.Ytaganococolodaa
open Go.RowKit

/-- An operation without its guard. -/
abbrev bare (o : Oper) : Oper := { o with guard := none }
theorem wanted_of {l : List Oper} {o : Oper} {n : Nat} {f : Nat → Value} {g t : Nat} {b : Bool} (hg : o.guard = some (g, b)) (ho : (l.toArray[g]?).bind (·.dst) = some t) (ht : t < n) (hf : f t = .bool b) :
    Region.wanted o (yielded l.toArray ((List.range n).map f).toArray) = true := by
  unfold Region.wanted yielded
  rw [hg]
  simp only [ho, Option.bind_some]
  have : (((List.range n).map f).toArray)[t]? = some (.bool b) := by simp [ht, hf]
  rw [this]
  simp
theorem unwanted_of {l : List Oper} {o : Oper} {n : Nat} {f : Nat → Value} {g t : Nat} {b c : Bool} (hg : o.guard = some (g, b)) (ho : (l.toArray[g]?).bind (·.dst) = some t) (ht : t < n) (hf : f t = .bool c) (hc : c ≠ b) :
    Region.wanted o (yielded l.toArray ((List.range n).map f).toArray) = false := by
  unfold Region.wanted yielded
  rw [hg]
  simp only [ho, Option.bind_some]
  have : (((List.range n).map f).toArray)[t]? = some (.bool c) := by simp [ht, hf]
  rw [this]
  simpa using hc
theorem wanted_free {o : Oper} (hg : o.guard = none) (y : Nat → Option Bool) : Region.wanted o y = true := by simp [Region.wanted, hg]

/-- Every operation has a slot of its own, and waits for those whose slots it looks at. -/
def relBG (l : List Oper) : Bool :=
  (List.range l.length).all fun i => match l[i]? with
    | none => false
    | some o => o.dst.isSome && (o.after.toList.all fun e => !Region.binds .any e || decide (e.on < i)) &&
        ((List.range l.length).all fun j => match l[j]? with
          | none => false
          | some o' => (j == i || o'.dst != o.dst) && (match o'.dst with
            | none => false
            | some t => !((o.looksAt l.toArray).contains t) || o.after.toList.any fun e => Region.binds .any e && e.on == j))
/-- What is asked of one operation. -/
def relStepG (P : Program) (l : List Oper) (V : Nat → Value → World → Prop) (Q : Exit → Act → World → Prop) (w : World) (a0 : Act) (o : Oper) : Prop :=
  ∀ (f : Nat → Value) (W : World), Below w.heap.size w W → (∀ t, relWrites l t = false → f t = a0.tmps.getD t undef) → (∀ t, relWrites l t = true → (o.looksAt l.toArray).contains t = true → V t (f t) W) →
    ∀ K : Act → World → Prop, (∀ v W', Below W.heap.size W W' → V (o.dst.getD 0) v W' → K (({ tmps := ((List.range a0.tmps.size).map f).toArray, defers := a0.defers } : Act).put o.dst v) W') →
      (Region.wanted o (yielded l.toArray ((List.range a0.tmps.size).map f).toArray) = true ∧ wpList P #[bare o] (relQ K Q) [bare o] { tmps := ((List.range a0.tmps.size).map f).toArray, defers := a0.defers } W) ∨
      (Region.wanted o (yielded l.toArray ((List.range a0.tmps.size).map f).toArray) = false ∧ V (o.dst.getD 0) undef W)
def relAllG (P : Program) (l : List Oper) (V : Nat → Value → World → Prop) (Q : Exit → Act → World → Prop) (w : World) (a0 : Act) : List Oper → Prop
  | [] => True
  | o :: r => relStepG P l V Q w a0 o ∧ relAllG P l V Q w a0 r
theorem relAllG_mem {P : Program} {l : List Oper} {V : Nat → Value → World → Prop} {Q : Exit → Act → World → Prop} {w : World} {a0 : Act} {r : List Oper} (h : relAllG P l V Q w a0 r) (o : Oper) (ho : o ∈ r) : relStepG P l V Q w a0 o := by
  induction r with
  | nil => cases ho
  | cons x r ih =>
    unfold relAllG at h
    rcases List.mem_cons.1 ho with rfl | ho
    · exact h.1
    · exact ih h.2 ho

theorem relBG_spec {l : List Oper} (h : relBG l = true) {i : Nat} {o : Oper} (ho : l[i]? = some o) : (∃ t, o.dst = some t) ∧ (∀ e ∈ o.after, Region.binds .any e = true → e.on < i) ∧ ∀ (j : Nat) (o' : Oper) (t : Nat), l[j]? = some o' → o'.dst = some t → (j ≠ i → o.dst ≠ some t) ∧ ((o.looksAt l.toArray).contains t = true → ∃ e ∈ o.after, Region.binds .any e = true ∧ e.on = j) := by
  have hi : i < l.length := (List.getElem?_eq_some_iff.1 ho).1
  unfold relBG at h
  have h1 := List.all_eq_true.1 h i (List.mem_range.2 hi)
  simp only [ho, Bool.and_eq_true] at h1
  obtain ⟨⟨hd, hlt⟩, hall⟩ := h1
  refine ⟨Option.isSome_iff_exists.1 hd, fun e he hb => by simpa [hb] using List.all_eq_true.1 hlt e (Array.mem_toList_iff.2 he), fun j o' t hj ht => ?_⟩
  have hjl : j < l.length := (List.getElem?_eq_some_iff.1 hj).1
  have h2 := List.all_eq_true.1 hall j (List.mem_range.2 hjl)
  simp only [hj, ht, Bool.and_eq_true, Bool.or_eq_true, beq_iff_eq, bne_iff_ne, ne_eq, Bool.not_eq_true', List.any_eq_true] at h2
  refine ⟨fun hne he => ?_, fun hc => ?_⟩
  · rcases h2.1 with h3 | h3
    · exact hne h3
    · exact h3 he.symm
  · rcases h2.2 with h3 | h3
    · rw [hc] at h3; cases h3
    · obtain ⟨e, he, hb, hon⟩ := h3
      exact ⟨e, Array.mem_toList_iff.1 he, hb, hon⟩

theorem stepG_end {P : Program} {o : Oper} {y : Nat → Option Bool} {K : Act → World → Prop} {Q : Exit → Act → World → Prop} {a : Act} {W : World} {C : Prop}
    (h : (Region.wanted o y = true ∧ wpList P #[bare o] (relQ K Q) [bare o] a W) ∨ (Region.wanted o y = false ∧ C)) (hC : C → K (a.put o.dst undef) W) :
    if Region.wanted o y = true then o.wp P a W K Q ∨ (o.asks P a W ∧ LetsOut Q) else K (a.put o.dst undef) W := by
  rcases h with ⟨h1, h2⟩ | ⟨h1, h2⟩
  · rw [if_pos h1]
    unfold wpList at h2
    rw [if_pos (wanted_free rfl _)] at h2
    rcases h2 with hs | ⟨hs1, hs2⟩
    · left
      change (bare o).wp P a W K Q
      unfold Oper.wp at *
      generalize (execOp a.eval (bare o)).run P W = r at *
      cases r with
      | ok n w' =>
        cases n <;> simp only [Oper.upon] at hs ⊢ <;> first | exact hs | exact Calls.mono hs (fun e w'' he => by cases e <;> exact he) | exact Rows.mono hs (fun _ _ he => he)
      | halt x w' => cases x <;> simp only [Oper.upon] at hs ⊢ <;> exact hs
    · exact .inr ⟨hs1, hs2⟩
  · rw [h1]
    exact hC h2
theorem all_listedG {l : List Oper} (hB : relBG l = true) {listed : Array Bool} (hr : Region.ready .any l.toArray listed = []) : ∀ (j : Nat), j < l.length → listed.getD j true = true
  | j, hj => by
    have ho : l[j]? = some l[j] := List.getElem?_eq_getElem hj
    obtain ⟨_, hlt, _⟩ := relBG_spec hB ho
    cases hq : listed.getD j true with
    | true => rfl
    | false =>
      have hm : j ∈ Region.ready .any l.toArray listed := by
        rw [mem_ready]
        refine ⟨hq, l[j], by simp, fun e he hbd => ?_⟩
        have hlte := hlt e he hbd
        have ih := all_listedG hB hr e.on (by omega)
        have hsz : j < listed.size := by
          rcases Nat.lt_or_ge j listed.size with h | h
          · exact h
          · simp [Array.getD_eq_getD_getElem?, Array.getElem?_eq_none h] at hq
        have hes : e.on < listed.size := by omega
        simpa [Array.getD_eq_getD_getElem?, hes] using ih
      rw [hr] at hm
      cases hm
termination_by j => j

theorem relG_any {P : Program} {l : List Oper} {V : Nat → Value → World → Prop} {Q : Exit → Act → World → Prop} {w : World} {a0 : Act} (hB : relBG l = true)
    (hN : ∀ t, relWrites l t = true → t < a0.tmps.size)
    (hV : ∀ t v W W', V t v W → Below W.heap.size W W' → V t v W') (hop : relAllG P l V Q w a0 l)
    (hend : ∀ (f : Nat → Value) (W : World), Below w.heap.size w W → (∀ t, relWrites l t = false → f t = a0.tmps.getD t undef) → (∀ t, relWrites l t = true → V t (f t) W) →
      Q .normal { tmps := ((List.range a0.tmps.size).map f).toArray, defers := a0.defers } W) : ∀ (fuel : Nat) (listed : Array Bool) (a : Act) (W : World),
    listed.size = l.length → listed.toList.countP (fun b => !b) ≤ fuel → RelInv l V w a0 listed a W → wpAny P .any l.toArray Q fuel listed a W := by
  have fin : ∀ (listed : Array Bool) (a : Act) (W : World), listed.size = l.length → RelInv l V w a0 listed a W → Region.ready .any l.toArray listed = [] → Q .normal a W := by
    intro listed a W hsz hI hr
    rw [rel_frame a a0 hI.dfr hI.size]
    refine hend _ W hI.bel hI.old fun t ht => ?_
    obtain ⟨j, o, hj, hd⟩ := writes_mem ht
    refine hI.new j o t hj hd ?_
    have hjl := (List.getElem?_eq_some_iff.1 hj).1
    have := all_listedG hB hr j hjl
    have hjs : j < listed.size := by omega
    simpa [Array.getD_eq_getD_getElem?, hjs] using this
  intro fuel
  induction fuel with
  | zero =>
    intro listed a W hsz hc hI
    have hr : Region.ready .any l.toArray listed = [] := by
      rw [List.eq_nil_iff_forall_not_mem]
      intro i hi
      obtain ⟨h0, o, ho, _⟩ := mem_ready.1 hi
      have hil : i < l.length := (List.getElem?_eq_some_iff.1 (by simpa using ho)).1
      have his : i < listed.size := by omega
      have h0' : listed[i] = false := by simpa [Array.getD_eq_getD_getElem?, his] using h0
      have := List.countP_eq_zero.1 (Nat.le_zero.1 hc) listed[i] (by simp)
      rw [h0'] at this
      exact this rfl
    exact ⟨hr, fin listed a W hsz hI hr⟩
  | succ fuel ih =>
    intro listed a W hsz hc hI
    refine ⟨fin listed a W hsz hI, fun i hi => ?_⟩
    obtain ⟨h0, o, ho, hdep⟩ := mem_ready.1 hi
    have hol : l[i]? = some o := by simpa using ho
    have hil := (List.getElem?_eq_some_iff.1 hol).1
    have his : i < listed.size := by omega
    have h0' : listed[i] = false := by simpa [Array.getD_eq_getD_getElem?, his] using h0
    obtain ⟨⟨d, hd⟩, _, hdst⟩ := relBG_spec hB hol
    have hK0 : ∀ v W', Below W.heap.size W W' → V (o.dst.getD 0) v W' → wpAny P .any l.toArray Q fuel (listed.setIfInBounds i true) (a.put o.dst v) W' := by
      intro v W' hb hv
      rw [hd] at hv ⊢
      have hda : d < a.tmps.size := by rw [hI.size]; exact hN d (mem_writes hol hd)
      refine ih _ _ _ (by simpa using hsz) ?_ ⟨hI.bel.trans (hb.mono hI.bel.size), hI.dfr, by simpa [Act.put] using hI.size, fun t ht => ?_, fun j o' t hj hd' hl => ?_⟩
      · rw [Array.toList_setIfInBounds, List.countP_set (by simpa using his)]
        simp only [Array.getElem_toList, h0', Bool.not_false, Bool.not_true, if_true, Bool.false_eq_true, if_false]
        have := List.countP_pos_iff (p := fun b => !b) (l := listed.toList) |>.2 ⟨listed[i], by simp, by rw [h0']; rfl⟩
        omega
      · have htd : t ≠ d := by rintro rfl; rw [mem_writes hol hd] at ht; cases ht
        rw [getD_put a d v t htd]
        exact hI.old t ht
      · by_cases hji : j = i
        · subst hji
          obtain rfl : o' = o := by rw [hol] at hj; exact (Option.some.inj hj).symm
          obtain rfl : t = d := by rw [hd] at hd'; exact (Option.some.inj hd').symm
          rw [getD_put_self a t v hda]
          exact hv
        · have htd : t ≠ d := by
            rintro rfl
            exact (hdst j o' t hj hd').1 hji hd
          rw [getD_put a d v t htd]
          rw [getD_set_ne false (Ne.symm hji)] at hl
          exact hV t _ W W' (hI.new j o' t hj hd' hl) hb
    have hstep := relAllG_mem hop o (List.mem_of_getElem? hol) (fun t => a.tmps.getD t undef) W hI.bel hI.old (fun t ht hl => by
      obtain ⟨j, o', hj, hd'⟩ := writes_mem ht
      obtain ⟨e, he, hb, hon⟩ := (hdst j o' t hj hd').2 hl
      refine hI.new j o' t hj hd' ?_
      rw [← hon]
      exact hdep e he hb) (wpAny P .any l.toArray Q fuel (listed.setIfInBounds i true)) (by
      intro v W' hb hv
      rw [← rel_frame a a0 hI.dfr hI.size]
      exact hK0 v W' hb hv)
    rw [← rel_frame a a0 hI.dfr hI.size] at hstep
    have htm : ((List.range a0.tmps.size).map fun t => a.tmps.getD t undef).toArray = a.tmps := by
      have := rel_frame a a0 hI.dfr hI.size
      rw [this]
      simp
      intro t ht
      simp [ht]
    unfold wpOp
    simp only [ho]
    exact stepG_end (by rw [htm] at hstep; exact hstep) (fun hv => hK0 undef W (Below.refl _ _) hv)


/-- THE LAW, with guards. -/
theorem wp_region_relG {P : Program} {id : Nat} {Q : Exit → Act → World → Prop} {a : Act} {w : World} {l : List Oper} (hm : P.follows .mixedOrders = true) (hB : relBG l = true)
    (hN : ∀ t, relWrites l t = true → t < a.tmps.size) (V : Nat → Value → World → Prop)
    (hV : ∀ t v W W', V t v W → Below W.heap.size W W' → V t v W') (hop : relAllG P l V Q w a l)
    (hend : ∀ (f : Nat → Value) (W : World), Below w.heap.size w W → (∀ t, relWrites l t = false → f t = a.tmps.getD t undef) → (∀ t, relWrites l t = true → V t (f t) W) →
      ∀ a', a' = ({ tmps := ((List.range a.tmps.size).map f).toArray, defers := a.defers } : Act) → Q .normal a' W) : (Code.region id l.toArray true).wp P Q a w := by
  refine wp_region_any hm ?_
  refine relG_any (w := w) (a0 := a) hB hN hV hop (fun f W h1 h2 h3 => hend f W h1 h2 h3 _ rfl) _ _ a _ (by simp) ?_ ⟨(Below.refl _ w).drew, rfl, rfl, fun _ _ => rfl, fun j o t hj hd hl => ?_⟩
  · rw [show l.toArray.size = l.length by simp]
    exact Nat.le_trans (List.countP_le_length) (by simp)
  · simp [Array.getD_eq_getD_getElem?, Array.getElem?_replicate] at hl
    split at hl <;> simp at hl
end Go.Proofs.Ytaganococolodaa
