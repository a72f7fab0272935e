/-
  A region that draws its order: each operation shown alone, from what the operations that it looks at have left; every order at once.
-/
import Derived.Test.YtaganococolodaaMem
import Derived.WalkKit
import Derived.Still
namespace Go.Proofs.Ytaganococolodaa
open Go.RowKit

/-- Slot t is written by one of these operations. -/
def relWrites (l : List Oper) (t : Nat) : Bool := l.any fun o => o.dst == some t
/-- Every operation has a slot of its own and no guard, and waits for those whose slots it looks at. -/
def relB (l : List Oper) : Bool :=
  (List.range l.length).all fun i => match l[i]? with
    | none => false
    | some o => o.guard.isNone && o.dst.isSome && (o.after.toList.all fun e => e.on < i) &&
        ((List.range l.length).all fun j => match l[j]? with
          | none => false
          | some o' => (j == i || o'.dst != o.dst) && (match o'.dst with
            | none => false
            | some t => !((o.looksAt l.toArray).contains t) || o.after.toList.any fun e => Region.binds .any e && e.on == j))
/-- The way on. -/
def relQ (K : Act → World → Prop) (Q : Exit → Act → World → Prop) : Exit → Act → World → Prop
  | .normal => K
  | x => Q x
theorem relQ_lets {K : Act → World → Prop} {Q : Exit → Act → World → Prop} (h : LetsOut (relQ K Q)) : LetsOut Q := h

/-- What is asked of one operation. -/
def relStep (P : Program) (l : List Oper) (V : Nat → Value → World → Prop) (Q : Exit → Act → World → Prop) (w : World) (a0 : Act) (o : Oper) : Prop :=
  ∀ (f : Nat → Value) (W : World), Below w.heap.size w W → (∀ t, relWrites l t = false → f t = a0.tmps.getD t undef) → (∀ t, relWrites l t = true → (o.looksAt l.toArray).contains t = true → V t (f t) W) →
    ∀ K : Act → World → Prop, (∀ v W', Below W.heap.size W W' → V (o.dst.getD 0) v W' → K (({ tmps := ((List.range a0.tmps.size).map f).toArray, defers := a0.defers } : Act).put o.dst v) W') →
      wpList P #[o] (relQ K Q) [o] { tmps := ((List.range a0.tmps.size).map f).toArray, defers := a0.defers } W
def relAll (P : Program) (l : List Oper) (V : Nat → Value → World → Prop) (Q : Exit → Act → World → Prop) (w : World) (a0 : Act) : List Oper → Prop
  | [] => True
  | o :: r => relStep P l V Q w a0 o ∧ relAll P l V Q w a0 r
theorem relAll_mem {P : Program} {l : List Oper} {V : Nat → Value → World → Prop} {Q : Exit → Act → World → Prop} {w : World} {a0 : Act} {r : List Oper} (h : relAll P l V Q w a0 r) (o : Oper) (ho : o ∈ r) : relStep P l V Q w a0 o := by
  induction r with
  | nil => cases ho
  | cons x r ih =>
    unfold relAll at h
    rcases List.mem_cons.1 ho with rfl | ho
    · exact h.1
    · exact ih h.2 ho

/-- How it stands between two operations. -/
structure RelInv (l : List Oper) (V : Nat → Value → World → Prop) (w : World) (a0 : Act) (listed : Array Bool) (a : Act) (W : World) : Prop where
  bel : Below w.heap.size w W
  dfr : a.defers = a0.defers
  size : a.tmps.size = a0.tmps.size
  old : ∀ t, relWrites l t = false → a.tmps.getD t undef = a0.tmps.getD t undef
  new : ∀ (j : Nat) (o : Oper) (t : Nat), l[j]? = some o → o.dst = some t → listed.getD j false = true → V t (a.tmps.getD t undef) W

theorem rel_frame (a a0 : Act) (hd : a.defers = a0.defers) (hs : a.tmps.size = a0.tmps.size) : a = { tmps := ((List.range a0.tmps.size).map fun t => a.tmps.getD t undef).toArray, defers := a0.defers } := by
  obtain ⟨tmps, defers⟩ := a
  simp only at hd hs
  subst hd
  congr 1
  apply Array.ext'
  apply List.ext_getElem
  · simp [hs]
  · intro n h1 h2
    simp only [Array.length_toList] at h1
    simp [h1]

theorem relB_spec {l : List Oper} (h : relB l = true) {i : Nat} {o : Oper} (ho : l[i]? = some o) : o.guard = none ∧ (∃ t, o.dst = some t) ∧ (∀ e ∈ o.after, e.on < i) ∧ ∀ (j : Nat) (o' : Oper) (t : Nat), l[j]? = some o' → o'.dst = some t → (j ≠ i → o.dst ≠ some t) ∧ ((o.looksAt l.toArray).contains t = true → ∃ e ∈ o.after, Region.binds .any e = true ∧ e.on = j) := by
  have hi : i < l.length := (List.getElem?_eq_some_iff.1 ho).1
  unfold relB at h
  have h1 := List.all_eq_true.1 h i (List.mem_range.2 hi)
  simp only [ho, Bool.and_eq_true, Option.isNone_iff_eq_none] at h1
  obtain ⟨⟨⟨hg, hd⟩, hlt⟩, hall⟩ := h1
  refine ⟨hg, Option.isSome_iff_exists.1 hd, fun e he => by simpa using List.all_eq_true.1 hlt e (Array.mem_toList_iff.2 he), fun j o' t hj ht => ?_⟩
  have hjl : j < l.length := (List.getElem?_eq_some_iff.1 hj).1
  have h2 := List.all_eq_true.1 hall j (List.mem_range.2 hjl)
  simp only [hj, ht, Bool.and_eq_true, Bool.or_eq_true, beq_iff_eq, bne_iff_ne, ne_eq, Bool.not_eq_true', List.any_eq_true] at h2
  refine ⟨fun hne he => ?_, fun hc => ?_⟩
  · rcases h2.1 with h3 | h3
    · exact hne h3
    · exact h3 he.symm
  · rcases h2.2 with h3 | h3
    · rw [hc] at h3; cases h3
    · obtain ⟨e, he, hb, hon⟩ := h3
      exact ⟨e, Array.mem_toList_iff.1 he, hb, hon⟩

theorem getD_put (a : Act) (d : Nat) (v : Value) (t : Nat) (h : t ≠ d) : (a.put (some d) v).tmps.getD t undef = a.tmps.getD t undef := by
  simp only [Act.put, Array.getD_eq_getD_getElem?, Array.getElem?_setIfInBounds_ne (Ne.symm h)]
theorem getD_put_self (a : Act) (d : Nat) (v : Value) (h : d < a.tmps.size) : (a.put (some d) v).tmps.getD d undef = v := by
  simp [Act.put, h]

theorem writes_mem {l : List Oper} {t : Nat} (h : relWrites l t = true) : ∃ (j : Nat) (o : Oper), l[j]? = some o ∧ o.dst = some t := by
  obtain ⟨o, ho, hd⟩ := List.any_eq_true.1 h
  obtain ⟨j, hj⟩ := List.getElem?_of_mem ho
  exact ⟨j, o, hj, by simpa using hd⟩
theorem mem_writes {l : List Oper} {t j : Nat} {o : Oper} (hj : l[j]? = some o) (hd : o.dst = some t) : relWrites l t = true :=
  List.any_eq_true.2 ⟨o, List.mem_of_getElem? hj, by simp [hd]⟩

theorem all_listed {l : List Oper} (hB : relB l = true) {listed : Array Bool} (hr : Region.ready .any l.toArray listed = []) : ∀ (j : Nat), j < l.length → listed.getD j true = true
  | j, hj => by
    have ho : l[j]? = some l[j] := List.getElem?_eq_getElem hj
    obtain ⟨_, _, hlt, _⟩ := relB_spec hB ho
    cases hq : listed.getD j true with
    | true => rfl
    | false =>
      have hm : j ∈ Region.ready .any l.toArray listed := by
        rw [mem_ready]
        refine ⟨hq, l[j], by simp, fun e he _ => ?_⟩
        have hlte := hlt e he
        have ih := all_listed hB hr e.on (by omega)
        have hsz : j < listed.size := by
          rcases Nat.lt_or_ge j listed.size with h | h
          · exact h
          · simp [Array.getD_eq_getD_getElem?, Array.getElem?_eq_none h] at hq
        have hes : e.on < listed.size := by omega
        simpa [Array.getD_eq_getD_getElem?, hes] using ih
      rw [hr] at hm
      cases hm
termination_by j => j

theorem rel_any {P : Program} {l : List Oper} {V : Nat → Value → World → Prop} {Q : Exit → Act → World → Prop} {w : World} {a0 : Act} (hB : relB l = true)
    (hN : ∀ t, relWrites l t = true → t < a0.tmps.size)
    (hV : ∀ t v W W', V t v W → Below W.heap.size W W' → V t v W') (hop : relAll P l V Q w a0 l)
    (hend : ∀ (f : Nat → Value) (W : World), Below w.heap.size w W → (∀ t, relWrites l t = false → f t = a0.tmps.getD t undef) → (∀ t, relWrites l t = true → V t (f t) W) →
      Q .normal { tmps := ((List.range a0.tmps.size).map f).toArray, defers := a0.defers } W) : ∀ (fuel : Nat) (listed : Array Bool) (a : Act) (W : World),
    listed.size = l.length → listed.toList.countP (fun b => !b) ≤ fuel → RelInv l V w a0 listed a W → wpAny P .any l.toArray Q fuel listed a W := by
  have fin : ∀ (listed : Array Bool) (a : Act) (W : World), listed.size = l.length → RelInv l V w a0 listed a W → Region.ready .any l.toArray listed = [] → Q .normal a W := by
    intro listed a W hsz hI hr
    rw [rel_frame a a0 hI.dfr hI.size]
    refine hend _ W hI.bel hI.old fun t ht => ?_
    obtain ⟨j, o, hj, hd⟩ := writes_mem ht
    refine hI.new j o t hj hd ?_
    have hjl := (List.getElem?_eq_some_iff.1 hj).1
    have := all_listed hB hr j hjl
    have hjs : j < listed.size := by omega
    simpa [Array.getD_eq_getD_getElem?, hjs] using this
  intro fuel
  induction fuel with
  | zero =>
    intro listed a W hsz hc hI
    have hr : Region.ready .any l.toArray listed = [] := by
      rw [List.eq_nil_iff_forall_not_mem]
      intro i hi
      obtain ⟨h0, o, ho, _⟩ := mem_ready.1 hi
      have hil : i < l.length := (List.getElem?_eq_some_iff.1 (by simpa using ho)).1
      have his : i < listed.size := by omega
      have h0' : listed[i] = false := by simpa [Array.getD_eq_getD_getElem?, his] using h0
      have := List.countP_eq_zero.1 (Nat.le_zero.1 hc) listed[i] (by simp)
      rw [h0'] at this
      exact this rfl
    exact ⟨hr, fin listed a W hsz hI hr⟩
  | succ fuel ih =>
    intro listed a W hsz hc hI
    refine ⟨fin listed a W hsz hI, fun i hi => ?_⟩
    obtain ⟨h0, o, ho, hdep⟩ := mem_ready.1 hi
    have hol : l[i]? = some o := by simpa using ho
    have hil := (List.getElem?_eq_some_iff.1 hol).1
    have his : i < listed.size := by omega
    have h0' : listed[i] = false := by simpa [Array.getD_eq_getD_getElem?, his] using h0
    obtain ⟨hg, ⟨d, hd⟩, _, hdst⟩ := relB_spec hB hol
    have hstep := relAll_mem hop o (List.mem_of_getElem? hol) (fun t => a.tmps.getD t undef) W hI.bel hI.old (fun t ht hl => by
      obtain ⟨j, o', hj, hd'⟩ := writes_mem ht
      obtain ⟨e, he, hb, hon⟩ := (hdst j o' t hj hd').2 hl
      refine hI.new j o' t hj hd' ?_
      rw [← hon]
      exact hdep e he hb) (wpAny P .any l.toArray Q fuel (listed.setIfInBounds i true)) (by
      intro v W' hb hv
      rw [← rel_frame a a0 hI.dfr hI.size, hd]
      rw [hd] at hv
      have hda : d < a.tmps.size := by rw [hI.size]; exact hN d (mem_writes hol hd)
      refine ih _ _ _ (by simpa using hsz) ?_ ⟨hI.bel.trans (hb.mono hI.bel.size), hI.dfr, by simpa [Act.put] using hI.size, fun t ht => ?_, fun j o' t hj hd' hl => ?_⟩
      · rw [Array.toList_setIfInBounds, List.countP_set (by simpa using his)]
        simp only [Array.getElem_toList, h0', Bool.not_false, Bool.not_true, if_true, Bool.false_eq_true, if_false]
        have := List.countP_pos_iff (p := fun b => !b) (l := listed.toList) |>.2 ⟨listed[i], by simp, by rw [h0']; rfl⟩
        omega
      · have htd : t ≠ d := by rintro rfl; rw [mem_writes hol hd] at ht; cases ht
        rw [getD_put a d v t htd]
        exact hI.old t ht
      · by_cases hji : j = i
        · subst hji
          obtain rfl : o' = o := by rw [hol] at hj; exact (Option.some.inj hj).symm
          obtain rfl : t = d := by rw [hd] at hd'; exact (Option.some.inj hd').symm
          rw [getD_put_self a t v hda]
          exact hv
        · have htd : t ≠ d := by
            rintro rfl
            exact (hdst j o' t hj hd').1 hji hd
          rw [getD_put a d v t htd]
          rw [getD_set_ne false (Ne.symm hji)] at hl
          exact hV t _ W W' (hI.new j o' t hj hd' hl) hb)
    rw [← rel_frame a a0 hI.dfr hI.size] at hstep
    unfold wpOp
    simp only [ho]
    have hw : ∀ (y : Nat → Option Bool), Region.wanted o y = true := fun y => by simp [Region.wanted, hg]
    unfold wpList at hstep
    rw [if_pos (hw _)] at hstep
    rw [if_pos (hw _)]
    rcases hstep with hs | ⟨hs1, hs2⟩
    · left
      unfold Oper.wp at *
      generalize (execOp a.eval o).run P W = r at *
      cases r with
      | ok n w' =>
        cases n <;> simp only [Oper.upon] at hs ⊢ <;> first | exact hs | exact Calls.mono hs (fun e w'' he => by cases e <;> exact he) | exact Rows.mono hs (fun _ _ he => he)
      | halt x w' => cases x <;> simp only [Oper.upon] at hs ⊢ <;> exact hs
    · exact .inr ⟨hs1, hs2⟩

/-- THE LAW. -/
theorem wp_region_rel {P : Program} {id : Nat} {Q : Exit → Act → World → Prop} {a : Act} {w : World} {l : List Oper} (hm : P.follows .mixedOrders = true) (hB : relB l = true)
    (hN : ∀ t, relWrites l t = true → t < a.tmps.size) (V : Nat → Value → World → Prop)
    (hV : ∀ t v W W', V t v W → Below W.heap.size W W' → V t v W') (hop : relAll P l V Q w a l)
    (hend : ∀ (f : Nat → Value) (W : World), Below w.heap.size w W → (∀ t, relWrites l t = false → f t = a.tmps.getD t undef) → (∀ t, relWrites l t = true → V t (f t) W) →
      ∀ a', a' = ({ tmps := ((List.range a.tmps.size).map f).toArray, defers := a.defers } : Act) → Q .normal a' W) : (Code.region id l.toArray true).wp P Q a w := by
  refine wp_region_any hm ?_
  refine rel_any (w := w) (a0 := a) hB hN hV hop (fun f W h1 h2 h3 => hend f W h1 h2 h3 _ rfl) _ _ a _ (by simp) ?_ ⟨(Below.refl _ w).drew, rfl, rfl, fun _ _ => rfl, fun j o t hj hd hl => ?_⟩
  · rw [show l.toArray.size = l.length by simp]
    exact Nat.le_trans (List.countP_le_length) (by simp)
  · simp [Array.getD_eq_getD_getElem?, Array.getElem?_replicate] at hl
    split at hl <;> simp at hl

theorem rel_small {l : List Oper} {n : Nat} (h : (l.all fun o => (o.dst.map fun d => decide (d < n)).getD true) = true) : ∀ t, relWrites l t = true → t < n := by
  intro t ht
  obtain ⟨j, o, hj, hd⟩ := writes_mem ht
  have := List.all_eq_true.1 h o (List.mem_of_getElem? hj)
  simpa [hd] using this

/-- What a slot holds once its operation is done: a value, or a slice of a block of its own. -/
inductive RV where
  | val (x : Value)
  | row (cs : Array Value) (e : TypeId) (n : Nat)
def RV.holds : RV → Value → World → Prop
  | .val x => fun v _ => v = x
  | .row cs e n => fun v W => ∃ b, v = .slice (some ⟨b, 0, none⟩) n n ∧ W.heap[b]? = some (.cells cs e (0, 0))
def relV (tab : List (Nat × RV)) (t : Nat) (v : Value) (W : World) : Prop :=
  match tab.lookup t with
  | some r => r.holds v W
  | none => True
theorem relV_stable (tab : List (Nat × RV)) (t : Nat) (v : Value) (W W' : World) (h : relV tab t v W) (hb : Below W.heap.size W W') : relV tab t v W' := by
  unfold relV at *
  cases hl : tab.lookup t with
  | none => trivial
  | some r =>
    rw [hl] at h
    cases r with
    | val x => exact h
    | row cs e n =>
      obtain ⟨b, h1, h2⟩ := h
      refine ⟨b, h1, (hb.block b ?_).trans h2⟩
      rcases Nat.lt_or_ge b W.heap.size with h3 | h3
      · exact h3
      · rw [Array.getElem?_eq_none h3] at h2; cases h2
end Go.Proofs.Ytaganococolodaa
