/-
  A region that draws its order, with guards that are decided: each operation shown alone, in whatever order; or one last store behind them all.
  The frame behind a drawn region: the frame ahead of it, with what was written laid into it.
  The same for any relation between worlds that the first operations keep: what they may change is told by it.
  What a region may change: the blocks of a set, by steps that keep a state; all others stay.
  Slices of numbers and of texts as lists: what they hold, how they are copied and made.
-/
import Derived.Test.YtkgacnenmflegaaGreatDoorMg1
import Derived.Test.YtkgacnenmflegaaGreatDoorProg
import Derived.WalkKit
import Derived.WalkSpells
import Derived.WalkLawsBesides
import Derived.RegionTactic
import Derived.BigRegion
import Derived.OwnWalk
import Derived.Deep.DeepCutAuto
import Derived.Deep.RegionWith
import Derived.Deep.RegionLaw
namespace Go.Proofs.YtkgacnenmflegaaGreatDoor
open Go.RowKit

/-- An operation without its guard. -/
abbrev bare (o : Oper) : Oper := { o with guard := none }
theorem wanted_of {l : List Oper} {o : Oper} {n : Nat} {f : Nat → Value} {g t : Nat} {b : Bool} (hg : o.guard = some (g, b)) (ho : (l.toArray[g]?).bind (·.dst) = some t) (ht : t < n) (hf : f t = .bool b) :
    Region.wanted o (yielded l.toArray ((List.range n).map f).toArray) = true := by
  unfold Region.wanted yielded
  rw [hg]
  simp only [ho, Option.bind_some]
  have : (((List.range n).map f).toArray)[t]? = some (.bool b) := by simp [ht, hf]
  rw [this]
  simp
theorem unwanted_of {l : List Oper} {o : Oper} {n : Nat} {f : Nat → Value} {g t : Nat} {b c : Bool} (hg : o.guard = some (g, b)) (ho : (l.toArray[g]?).bind (·.dst) = some t) (ht : t < n) (hf : f t = .bool c) (hc : c ≠ b) :
    Region.wanted o (yielded l.toArray ((List.range n).map f).toArray) = false := by
  unfold Region.wanted yielded
  rw [hg]
  simp only [ho, Option.bind_some]
  have : (((List.range n).map f).toArray)[t]? = some (.bool c) := by simp [ht, hf]
  rw [this]
  simpa using hc
theorem wanted_free {o : Oper} (hg : o.guard = none) (y : Nat → Option Bool) : Region.wanted o y = true := by simp [Region.wanted, hg]

/-- Every operation has a slot of its own, and waits for those whose slots it looks at. -/
def relBG (l : List Oper) : Bool :=
  (List.range l.length).all fun i => match l[i]? with
    | none => false
    | some o => o.dst.isSome && (o.after.toList.all fun e => !Region.binds .any e || decide (e.on < i)) &&
        ((List.range l.length).all fun j => match l[j]? with
          | none => false
          | some o' => (j == i || o'.dst != o.dst) && (match o'.dst with
            | none => false
            | some t => !((o.looksAt l.toArray).contains t) || o.after.toList.any fun e => Region.binds .any e && e.on == j))
/-- What is asked of one operation. -/
def relStepG (P : Program) (l : List Oper) (V : Nat → Value → World → Prop) (Q : Exit → Act → World → Prop) (w : World) (a0 : Act) (o : Oper) : Prop :=
  ∀ (f : Nat → Value) (W : World), Below w.heap.size w W → (∀ t, relWrites l t = false → f t = a0.tmps.getD t undef) → (∀ t, relWrites l t = true → (o.looksAt l.toArray).contains t = true → V t (f t) W) →
    ∀ K : Act → World → Prop, (∀ v W', Below W.heap.size W W' → V (o.dst.getD 0) v W' → K (({ tmps := ((List.range a0.tmps.size).map f).toArray, defers := a0.defers } : Act).put o.dst v) W') →
      (Region.wanted o (yielded l.toArray ((List.range a0.tmps.size).map f).toArray) = true ∧ wpList P #[bare o] (relQ K Q) [bare o] { tmps := ((List.range a0.tmps.size).map f).toArray, defers := a0.defers } W) ∨
      (Region.wanted o (yielded l.toArray ((List.range a0.tmps.size).map f).toArray) = false ∧ V (o.dst.getD 0) undef W)
def relAllG (P : Program) (l : List Oper) (V : Nat → Value → World → Prop) (Q : Exit → Act → World → Prop) (w : World) (a0 : Act) : List Oper → Prop
  | [] => True
  | o :: r => relStepG P l V Q w a0 o ∧ relAllG P l V Q w a0 r
theorem relAllG_mem {P : Program} {l : List Oper} {V : Nat → Value → World → Prop} {Q : Exit → Act → World → Prop} {w : World} {a0 : Act} {r : List Oper} (h : relAllG P l V Q w a0 r) (o : Oper) (ho : o ∈ r) : relStepG P l V Q w a0 o := by
  induction r with
  | nil => cases ho
  | cons x r ih =>
    unfold relAllG at h
    rcases List.mem_cons.1 ho with rfl | ho
    · exact h.1
    · exact ih h.2 ho

theorem relBG_spec {l : List Oper} (h : relBG l = true) {i : Nat} {o : Oper} (ho : l[i]? = some o) : (∃ t, o.dst = some t) ∧ (∀ e ∈ o.after, Region.binds .any e = true → e.on < i) ∧ ∀ (j : Nat) (o' : Oper) (t : Nat), l[j]? = some o' → o'.dst = some t → (j ≠ i → o.dst ≠ some t) ∧ ((o.looksAt l.toArray).contains t = true → ∃ e ∈ o.after, Region.binds .any e = true ∧ e.on = j) := by
  have hi : i < l.length := (List.getElem?_eq_some_iff.1 ho).1
  unfold relBG at h
  have h1 := List.all_eq_true.1 h i (List.mem_range.2 hi)
  simp only [ho, Bool.and_eq_true] at h1
  obtain ⟨⟨hd, hlt⟩, hall⟩ := h1
  refine ⟨Option.isSome_iff_exists.1 hd, fun e he hb => by simpa [hb] using List.all_eq_true.1 hlt e (Array.mem_toList_iff.2 he), fun j o' t hj ht => ?_⟩
  have hjl : j < l.length := (List.getElem?_eq_some_iff.1 hj).1
  have h2 := List.all_eq_true.1 hall j (List.mem_range.2 hjl)
  simp only [hj, ht, Bool.and_eq_true, Bool.or_eq_true, beq_iff_eq, bne_iff_ne, ne_eq, Bool.not_eq_true', List.any_eq_true] at h2
  refine ⟨fun hne he => ?_, fun hc => ?_⟩
  · rcases h2.1 with h3 | h3
    · exact hne h3
    · exact h3 he.symm
  · rcases h2.2 with h3 | h3
    · rw [hc] at h3; cases h3
    · obtain ⟨e, he, hb, hon⟩ := h3
      exact ⟨e, Array.mem_toList_iff.1 he, hb, hon⟩

theorem stepG_end {P : Program} {o : Oper} {y : Nat → Option Bool} {K : Act → World → Prop} {Q : Exit → Act → World → Prop} {a : Act} {W : World} {C : Prop}
    (h : (Region.wanted o y = true ∧ wpList P #[bare o] (relQ K Q) [bare o] a W) ∨ (Region.wanted o y = false ∧ C)) (hC : C → K (a.put o.dst undef) W) :
    if Region.wanted o y = true then o.wp P a W K Q ∨ (o.asks P a W ∧ LetsOut Q) else K (a.put o.dst undef) W := by
  rcases h with ⟨h1, h2⟩ | ⟨h1, h2⟩
  · rw [if_pos h1]
    unfold wpList at h2
    rw [if_pos (wanted_free rfl _)] at h2
    rcases h2 with hs | ⟨hs1, hs2⟩
    · left
      change (bare o).wp P a W K Q
      unfold Oper.wp at *
      generalize (execOp a.eval (bare o)).run P W = r at *
      cases r with
      | ok n w' =>
        cases n <;> simp only [Oper.upon] at hs ⊢ <;> first | exact hs | exact Calls.mono hs (fun e w'' he => by cases e <;> exact he) | exact Rows.mono hs (fun _ _ he => he)
      | halt x w' => cases x <;> simp only [Oper.upon] at hs ⊢ <;> exact hs
    · exact .inr ⟨hs1, hs2⟩
  · rw [h1]
    exact hC h2
theorem all_listedG {l : List Oper} (hB : relBG l = true) {listed : Array Bool} (hr : Region.ready .any l.toArray listed = []) : ∀ (j : Nat), j < l.length → listed.getD j true = true
  | j, hj => by
    have ho : l[j]? = some l[j] := List.getElem?_eq_getElem hj
    obtain ⟨_, hlt, _⟩ := relBG_spec hB ho
    cases hq : listed.getD j true with
    | true => rfl
    | false =>
      have hm : j ∈ Region.ready .any l.toArray listed := by
        rw [mem_ready]
        refine ⟨hq, l[j], by simp, fun e he hbd => ?_⟩
        have hlte := hlt e he hbd
        have ih := all_listedG hB hr e.on (by omega)
        have hsz : j < listed.size := by
          rcases Nat.lt_or_ge j listed.size with h | h
          · exact h
          · simp [Array.getD_eq_getD_getElem?, Array.getElem?_eq_none h] at hq
        have hes : e.on < listed.size := by omega
        simpa [Array.getD_eq_getD_getElem?, hes] using ih
      rw [hr] at hm
      cases hm
termination_by j => j

theorem relG_any {P : Program} {l : List Oper} {V : Nat → Value → World → Prop} {Q : Exit → Act → World → Prop} {w : World} {a0 : Act} (hB : relBG l = true)
    (hN : ∀ t, relWrites l t = true → t < a0.tmps.size)
    (hV : ∀ t v W W', V t v W → Below W.heap.size W W' → V t v W') (hop : relAllG P l V Q w a0 l)
    (hend : ∀ (f : Nat → Value) (W : World), Below w.heap.size w W → (∀ t, relWrites l t = false → f t = a0.tmps.getD t undef) → (∀ t, relWrites l t = true → V t (f t) W) →
      Q .normal { tmps := ((List.range a0.tmps.size).map f).toArray, defers := a0.defers } W) : ∀ (fuel : Nat) (listed : Array Bool) (a : Act) (W : World),
    listed.size = l.length → listed.toList.countP (fun b => !b) ≤ fuel → RelInv l V w a0 listed a W → wpAny P .any l.toArray Q fuel listed a W := by
  have fin : ∀ (listed : Array Bool) (a : Act) (W : World), listed.size = l.length → RelInv l V w a0 listed a W → Region.ready .any l.toArray listed = [] → Q .normal a W := by
    intro listed a W hsz hI hr
    rw [rel_frame a a0 hI.dfr hI.size]
    refine hend _ W hI.bel hI.old fun t ht => ?_
    obtain ⟨j, o, hj, hd⟩ := writes_mem ht
    refine hI.new j o t hj hd ?_
    have hjl := (List.getElem?_eq_some_iff.1 hj).1
    have := all_listedG hB hr j hjl
    have hjs : j < listed.size := by omega
    simpa [Array.getD_eq_getD_getElem?, hjs] using this
  intro fuel
  induction fuel with
  | zero =>
    intro listed a W hsz hc hI
    have hr : Region.ready .any l.toArray listed = [] := by
      rw [List.eq_nil_iff_forall_not_mem]
      intro i hi
      obtain ⟨h0, o, ho, _⟩ := mem_ready.1 hi
      have hil : i < l.length := (List.getElem?_eq_some_iff.1 (by simpa using ho)).1
      have his : i < listed.size := by omega
      have h0' : listed[i] = false := by simpa [Array.getD_eq_getD_getElem?, his] using h0
      have := List.countP_eq_zero.1 (Nat.le_zero.1 hc) listed[i] (by simp)
      rw [h0'] at this
      exact this rfl
    exact ⟨hr, fin listed a W hsz hI hr⟩
  | succ fuel ih =>
    intro listed a W hsz hc hI
    refine ⟨fin listed a W hsz hI, fun i hi => ?_⟩
    obtain ⟨h0, o, ho, hdep⟩ := mem_ready.1 hi
    have hol : l[i]? = some o := by simpa using ho
    have hil := (List.getElem?_eq_some_iff.1 hol).1
    have his : i < listed.size := by omega
    have h0' : listed[i] = false := by simpa [Array.getD_eq_getD_getElem?, his] using h0
    obtain ⟨⟨d, hd⟩, _, hdst⟩ := relBG_spec hB hol
    have hK0 : ∀ v W', Below W.heap.size W W' → V (o.dst.getD 0) v W' → wpAny P .any l.toArray Q fuel (listed.setIfInBounds i true) (a.put o.dst v) W' := by
      intro v W' hb hv
      rw [hd] at hv ⊢
      have hda : d < a.tmps.size := by rw [hI.size]; exact hN d (mem_writes hol hd)
      refine ih _ _ _ (by simpa using hsz) ?_ ⟨hI.bel.trans (hb.mono hI.bel.size), hI.dfr, by simpa [Act.put] using hI.size, fun t ht => ?_, fun j o' t hj hd' hl => ?_⟩
      · rw [Array.toList_setIfInBounds, List.countP_set (by simpa using his)]
        simp only [Array.getElem_toList, h0', Bool.not_false, Bool.not_true, if_true, Bool.false_eq_true, if_false]
        have := List.countP_pos_iff (p := fun b => !b) (l := listed.toList) |>.2 ⟨listed[i], by simp, by rw [h0']; rfl⟩
        omega
      · have htd : t ≠ d := by rintro rfl; rw [mem_writes hol hd] at ht; cases ht
        rw [getD_put a d v t htd]
        exact hI.old t ht
      · by_cases hji : j = i
        · subst hji
          obtain rfl : o' = o := by rw [hol] at hj; exact (Option.some.inj hj).symm
          obtain rfl : t = d := by rw [hd] at hd'; exact (Option.some.inj hd').symm
          rw [getD_put_self a t v hda]
          exact hv
        · have htd : t ≠ d := by
            rintro rfl
            exact (hdst j o' t hj hd').1 hji hd
          rw [getD_put a d v t htd]
          rw [getD_set_ne false (Ne.symm hji)] at hl
          exact hV t _ W W' (hI.new j o' t hj hd' hl) hb
    have hstep := relAllG_mem hop o (List.mem_of_getElem? hol) (fun t => a.tmps.getD t undef) W hI.bel hI.old (fun t ht hl => by
      obtain ⟨j, o', hj, hd'⟩ := writes_mem ht
      obtain ⟨e, he, hb, hon⟩ := (hdst j o' t hj hd').2 hl
      refine hI.new j o' t hj hd' ?_
      rw [← hon]
      exact hdep e he hb) (wpAny P .any l.toArray Q fuel (listed.setIfInBounds i true)) (by
      intro v W' hb hv
      rw [← rel_frame a a0 hI.dfr hI.size]
      exact hK0 v W' hb hv)
    rw [← rel_frame a a0 hI.dfr hI.size] at hstep
    have htm : ((List.range a0.tmps.size).map fun t => a.tmps.getD t undef).toArray = a.tmps := by
      have := rel_frame a a0 hI.dfr hI.size
      rw [this]
      simp
      intro t ht
      simp [ht]
    unfold wpOp
    simp only [ho]
    exact stepG_end (by rw [htm] at hstep; exact hstep) (fun hv => hK0 undef W (Below.refl _ _) hv)


/-- THE LAW, with guards. -/
theorem wp_region_relG {P : Program} {id : Nat} {Q : Exit → Act → World → Prop} {a : Act} {w : World} {l : List Oper} (hm : P.follows .mixedOrders = true) (hB : relBG l = true)
    (hN : ∀ t, relWrites l t = true → t < a.tmps.size) (V : Nat → Value → World → Prop)
    (hV : ∀ t v W W', V t v W → Below W.heap.size W W' → V t v W') (hop : relAllG P l V Q w a l)
    (hend : ∀ (f : Nat → Value) (W : World), Below w.heap.size w W → (∀ t, relWrites l t = false → f t = a.tmps.getD t undef) → (∀ t, relWrites l t = true → V t (f t) W) →
      ∀ a', a' = ({ tmps := ((List.range a.tmps.size).map f).toArray, defers := a.defers } : Act) → Q .normal a' W) : (Code.region id l.toArray true).wp P Q a w := by
  refine wp_region_any hm ?_
  refine relG_any (w := w) (a0 := a) hB hN hV hop (fun f W h1 h2 h3 => hend f W h1 h2 h3 _ rfl) _ _ a _ (by simp) ?_ ⟨(Below.refl _ w).drew, rfl, rfl, fun _ _ => rfl, fun j o t hj hd hl => ?_⟩
  · rw [show l.toArray.size = l.length by simp]
    exact Nat.le_trans (List.countP_le_length) (by simp)
  · simp [Array.getD_eq_getD_getElem?, Array.getElem?_replicate] at hl
    split at hl <;> simp at hl
end Go.Proofs.YtkgacnenmflegaaGreatDoor
namespace Go.Proofs.YtkgacnenmflegaaGreatDoor
open Go.RowKit

def putAll (f : Nat → Value) (l : List Oper) (a : Act) : Act := l.foldl (fun a o => a.put o.dst (f (o.dst.getD 0))) a
theorem putAll_defers (f : Nat → Value) : ∀ (l : List Oper) (a : Act), (putAll f l a).defers = a.defers
  | [], _ => rfl
  | o :: r, a => by
    unfold putAll
    rw [List.foldl_cons]
    have := putAll_defers f r (a.put o.dst (f (o.dst.getD 0)))
    unfold putAll at this
    rw [this]
    cases o.dst <;> rfl
theorem putAll_size (f : Nat → Value) : ∀ (l : List Oper) (a : Act), (putAll f l a).tmps.size = a.tmps.size
  | [], _ => rfl
  | o :: r, a => by
    unfold putAll
    rw [List.foldl_cons]
    have := putAll_size f r (a.put o.dst (f (o.dst.getD 0)))
    unfold putAll at this
    rw [this]
    cases o.dst <;> simp [Act.put]
theorem putAll_get (f : Nat → Value) (t : Nat) : ∀ (l : List Oper) (a : Act), t < a.tmps.size → (putAll f l a).tmps.getD t undef = if relWrites l t then f t else a.tmps.getD t undef
  | [], a, _ => by simp [putAll, relWrites]
  | o :: r, a, h => by
    unfold putAll
    rw [List.foldl_cons]
    have hs : (a.put o.dst (f (o.dst.getD 0))).tmps.size = a.tmps.size := by cases o.dst <;> simp [Act.put]
    have := putAll_get f t r (a.put o.dst (f (o.dst.getD 0))) (by rw [hs]; exact h)
    unfold putAll at this
    rw [this]
    have hw : relWrites (o :: r) t = ((o.dst == some t) || relWrites r t) := rfl
    rw [hw]
    cases hr : relWrites r t
    · cases hd : o.dst with
      | none => simp [Act.put]
      | some d =>
        by_cases hdt : d = t
        · subst hdt
          simp only [Option.getD_some, beq_self_eq_true, Bool.or_false, if_true, Bool.false_eq_true, if_false]
          exact getD_put_self a d _ h
        · have h1 : (some d == some t) = false := by simp [hdt]
          rw [h1]
          simp only [Bool.or_false, Bool.false_eq_true, if_false]
          exact getD_put a d _ t (Ne.symm hdt)
    · simp
theorem rel_puts {l : List Oper} {a : Act} {f : Nat → Value} (hold : ∀ t, relWrites l t = false → f t = a.tmps.getD t undef) :
    ({ tmps := ((List.range a.tmps.size).map f).toArray, defers := a.defers } : Act) = putAll f l a := by
  have h1 := rel_frame (putAll f l a) a (putAll_defers f l a) (putAll_size f l a)
  rw [h1]
  congr 1
  apply Array.ext'
  simp only []
  apply List.ext_getElem
  · simp
  · intro n h2 h3
    simp only [List.length_map, List.length_range] at h2
    simp only [List.getElem_map, List.getElem_range]
    rw [putAll_get f n l a h2]
    cases hw : relWrites l n
    · simp only [Bool.false_eq_true, if_false]; exact hold n hw
    · simp
end Go.Proofs.YtkgacnenmflegaaGreatDoor
namespace Go.Proofs.YtkgacnenmflegaaGreatDoor
open Go.RowKit

/-- The first N operations have slots of their own, each waits for those whose slots it looks at; the N-th waits for all of them; each further one waits for the one ahead of it. -/
def rB (N : Nat) (l : List Oper) : Bool :=
  decide (N ≤ l.length) &&
  ((List.range N).all fun i => match l[i]? with
    | none => false
    | some o => o.dst.isSome && (o.after.toList.all fun e => !Region.binds .any e || decide (e.on < i)) &&
        ((List.range N).all fun j => match l[j]? with
          | none => false
          | some o' => (j == i || o'.dst != o.dst) && (match o'.dst with
            | none => false
            | some t => !((o.looksAt l.toArray).contains t) || o.after.toList.any fun e => Region.binds .any e && e.on == j))) &&
  ((List.range N).all fun j => decide (N = l.length) || (List.range (N + 1)).any fun k => decide (j < k) && match l[k]? with
    | none => false
    | some o => o.after.toList.any fun e => Region.binds .any e && e.on == j) &&
  ((List.range l.length).all fun i => decide (i < N) || match l[i]? with
    | none => false
    | some o => (o.after.toList.all fun e => !Region.binds .any e || decide (e.on < i)) && (decide (i = N) || o.after.toList.any fun e => Region.binds .any e && e.on == i - 1))

theorem rB_spec {N : Nat} {l : List Oper} (h : rB N l = true) : N ≤ l.length ∧
    (∀ (i : Nat) (o : Oper), i < N → l[i]? = some o → (∃ t, o.dst = some t) ∧ (∀ e ∈ o.after, Region.binds .any e = true → e.on < i) ∧
      ∀ (j : Nat) (o' : Oper) (t : Nat), j < N → l[j]? = some o' → o'.dst = some t → (j ≠ i → o.dst ≠ some t) ∧ ((o.looksAt l.toArray).contains t = true → ∃ e ∈ o.after, Region.binds .any e = true ∧ e.on = j)) ∧
    (∀ j, j < N → N < l.length → ∃ (k : Nat) (o : Oper), j < k ∧ k ≤ N ∧ l[k]? = some o ∧ ∃ e ∈ o.after, Region.binds .any e = true ∧ e.on = j) ∧
    (∀ (i : Nat) (o : Oper), N ≤ i → l[i]? = some o → (∀ e ∈ o.after, Region.binds .any e = true → e.on < i) ∧ (i ≠ N → ∃ e ∈ o.after, Region.binds .any e = true ∧ e.on = i - 1)) := by
  unfold rB at h
  simp only [Bool.and_eq_true] at h
  obtain ⟨⟨⟨h0, h1⟩, h2⟩, h3⟩ := h
  have h0' : N ≤ l.length := by simpa using h0
  refine ⟨h0', fun i o hi ho => ?_, fun j hj hNl => ?_, fun i o hi ho => ?_⟩
  · have hx := List.all_eq_true.1 h1 i (List.mem_range.2 hi)
    simp only [ho, Bool.and_eq_true] at hx
    obtain ⟨⟨hd, hlt⟩, hall⟩ := hx
    refine ⟨Option.isSome_iff_exists.1 hd, fun e he hb => by simpa [hb] using List.all_eq_true.1 hlt e (Array.mem_toList_iff.2 he), fun j o' t hjl hj ht => ?_⟩
    have hy := List.all_eq_true.1 hall j (List.mem_range.2 hjl)
    simp only [hj, ht, Bool.and_eq_true, Bool.or_eq_true, beq_iff_eq, bne_iff_ne, ne_eq, Bool.not_eq_true', List.any_eq_true] at hy
    refine ⟨fun hne he => ?_, fun hc => ?_⟩
    · rcases hy.1 with h4 | h4
      · exact hne h4
      · exact h4 he.symm
    · rcases hy.2 with h4 | h4
      · rw [hc] at h4; cases h4
      · obtain ⟨e, he, hb, hon⟩ := h4
        exact ⟨e, Array.mem_toList_iff.1 he, hb, hon⟩
  · have hx2 := List.all_eq_true.1 h2 j (List.mem_range.2 hj)
    rw [show decide (N = l.length) = false by simp; omega, Bool.false_or] at hx2
    obtain ⟨k, hkr, hk⟩ := List.any_eq_true.1 hx2
    simp only [Bool.and_eq_true, decide_eq_true_eq] at hk
    obtain ⟨hjk, hk⟩ := hk
    have hkN := List.mem_range.1 hkr
    cases ho : l[k]? with
    | none => rw [ho] at hk; cases hk
    | some o =>
      rw [ho] at hk
      obtain ⟨e, he, hb⟩ := List.any_eq_true.1 hk
      simp only [Bool.and_eq_true, beq_iff_eq] at hb
      exact ⟨k, o, hjk, by omega, ho, e, Array.mem_toList_iff.1 he, hb.1, hb.2⟩
  · have hil := (List.getElem?_eq_some_iff.1 ho).1
    have hx := List.all_eq_true.1 h3 i (List.mem_range.2 hil)
    have hn : decide (i < N) = false := by simp; omega
    rw [hn, ho, Bool.false_or] at hx
    simp only [Bool.and_eq_true, Bool.or_eq_true, decide_eq_true_eq] at hx
    refine ⟨fun e he hb => by simpa [hb] using List.all_eq_true.1 hx.1 e (Array.mem_toList_iff.2 he), fun hne => ?_⟩
    rcases hx.2 with h4 | h4
    · exact absurd h4 hne
    · obtain ⟨e, he, hb⟩ := List.any_eq_true.1 h4
      simp only [Bool.and_eq_true, beq_iff_eq] at hb
      exact ⟨e, Array.mem_toList_iff.1 he, hb.1, hb.2⟩

/-- What is asked of one of the first operations. -/
def rStep (P : Program) (l : List Oper) (N : Nat) (R : World → World → Prop) (V : Nat → Value → World → Prop) (Q : Exit → Act → World → Prop) (w : World) (a0 : Act) (o : Oper) : Prop :=
  ∀ (f : Nat → Value) (W : World), R w W → (∀ t, relWrites (l.take N) t = false → f t = a0.tmps.getD t undef) → (∀ t, relWrites (l.take N) t = true → (o.looksAt l.toArray).contains t = true → V t (f t) W) →
    ∀ K : Act → World → Prop, (∀ v W', R W W' → V (o.dst.getD 0) v W' → K (({ tmps := ((List.range a0.tmps.size).map f).toArray, defers := a0.defers } : Act).put o.dst v) W') →
      (Region.wanted o (yielded l.toArray ((List.range a0.tmps.size).map f).toArray) = true ∧ wpList P #[bare o] (relQ K Q) [bare o] { tmps := ((List.range a0.tmps.size).map f).toArray, defers := a0.defers } W) ∨
      (Region.wanted o (yielded l.toArray ((List.range a0.tmps.size).map f).toArray) = false ∧ V (o.dst.getD 0) undef W)
def rAll (P : Program) (l : List Oper) (N : Nat) (R : World → World → Prop) (V : Nat → Value → World → Prop) (Q : Exit → Act → World → Prop) (w : World) (a0 : Act) : List Oper → Prop
  | [] => True
  | o :: r => rStep P l N R V Q w a0 o ∧ rAll P l N R V Q w a0 r
theorem rAll_mem {P : Program} {l : List Oper} {N : Nat} {R : World → World → Prop} {V : Nat → Value → World → Prop} {Q : Exit → Act → World → Prop} {w : World} {a0 : Act} {r : List Oper} (h : rAll P l N R V Q w a0 r) (o : Oper) (ho : o ∈ r) : rStep P l N R V Q w a0 o := by
  induction r with
  | nil => cases ho
  | cons x r ih =>
    unfold rAll at h
    rcases List.mem_cons.1 ho with rfl | ho
    · exact h.1
    · exact ih h.2 ho

/-- Behind the first ones: one operation is ready, and then the next. -/
theorem r_rest {P : Program} {N : Nat} {l : List Oper} {Q : Exit → Act → World → Prop} (hT : ∀ (i : Nat) (o : Oper), N ≤ i → l[i]? = some o → (∀ e ∈ o.after, Region.binds .any e = true → e.on < i) ∧ (i ≠ N → ∃ e ∈ o.after, Region.binds .any e = true ∧ e.on = i - 1)) :
    ∀ (d k fuel : Nat) (listed : Array Bool) (a : Act) (W : World), l.length - k = d → N ≤ k → k ≤ l.length → d ≤ fuel → listed.size = l.length → (∀ j, j < l.length → listed.getD j false = decide (j < k)) → wpList P l.toArray Q (l.drop k) a W → wpAny P .any l.toArray Q fuel listed a W := by
  intro d
  induction d with
  | zero =>
    intro k fuel listed a W hd hNk hkl hf hsz hls hw
    obtain rfl : k = l.length := by omega
    rw [List.drop_length] at hw
    have hr : Region.ready .any l.toArray listed = [] := by
      rw [List.eq_nil_iff_forall_not_mem]
      intro i hi
      obtain ⟨h0, o, ho, _⟩ := mem_ready.1 hi
      have hil : i < l.length := (List.getElem?_eq_some_iff.1 (by simpa using ho)).1
      have := hls i hil
      rw [getD_ft (by omega), h0] at this
      simp [hil] at this
    cases fuel with
    | zero => exact ⟨hr, hw⟩
    | succ fuel => exact ⟨fun _ => hw, fun i hi => by rw [hr] at hi; cases hi⟩
  | succ d ih =>
    intro k fuel listed a W hd hNk hkl hf hsz hls hw
    have hk : k < l.length := by omega
    obtain ⟨fuel, rfl⟩ : ∃ n, fuel = n + 1 := ⟨fuel - 1, by omega⟩
    have ho : l[k]? = some l[k] := List.getElem?_eq_getElem hk
    have hfk : listed.getD k true = false := by
      have := hls k hk
      rw [getD_ft (by omega)] at this
      simpa using this
    refine ⟨fun hr => ?_, fun i hi => ?_⟩
    · exfalso
      have hm : k ∈ Region.ready .any l.toArray listed := by
        rw [mem_ready]
        refine ⟨hfk, l[k], by simp, fun e he hb => ?_⟩
        have hlt := (hT k _ hNk ho).1 e he hb
        rw [hls e.on (by omega)]
        simpa using hlt
      rw [hr] at hm
      cases hm
    · obtain ⟨h0, o, hoi, hdep⟩ := mem_ready.1 hi
      have hol : l[i]? = some o := by simpa using hoi
      have hil := (List.getElem?_eq_some_iff.1 hol).1
      have hki : ¬ i < k := fun h => by
        have := hls i hil
        rw [getD_ft (by omega), h0] at this
        simp [h] at this
      obtain rfl : i = k := by
        rcases Nat.lt_or_ge k i with h | h
        · exfalso
          obtain ⟨e, he, hb, hon⟩ := (hT i o (by omega) hol).2 (by omega)
          have h1 := hdep e he hb
          rw [hon, hls (i - 1) (by omega)] at h1
          have := of_decide_eq_true h1
          omega
        · omega
      rw [List.drop_eq_getElem_cons hk] at hw
      obtain rfl : o = l[i] := by rw [ho] at hol; exact (Option.some.inj hol).symm
      have hnext : ∀ (a' : Act) (W' : World), wpList P l.toArray Q (l.drop (i + 1)) a' W' → wpAny P .any l.toArray Q fuel (listed.setIfInBounds i true) a' W' := fun a' W' h => by
        refine ih (i + 1) fuel _ a' W' (by omega) (by omega) (by omega) (by omega) (by simpa using hsz) (fun j hj => ?_) h
        by_cases hji : j = i
        · subst hji
          simp [hsz, hj]
        · rw [getD_set_ne false (Ne.symm hji), hls j hj]
          congr 1
          exact propext ⟨fun h => by omega, fun h => by omega⟩
      unfold wpOp
      simp only [hoi]
      unfold wpList at hw
      split
      · rename_i hwt
        rw [if_pos hwt] at hw
        rcases hw with hs | hs
        · left
          unfold Oper.wp at *
          generalize (execOp a.eval l[i]).run P W = r at *
          cases r with
          | ok n w' =>
            cases n <;> simp only [Oper.upon] at hs ⊢ <;> first | exact hs | exact hnext _ _ hs | exact Calls.mono hs (fun e w'' he => by cases e <;> first | exact hnext _ _ he | exact he) | exact Rows.mono hs (fun _ _ he => hnext _ _ he)
          | halt x w' => cases x <;> simp only [Oper.upon] at hs ⊢ <;> exact hs
        · exact .inr hs
      · rename_i hwt
        rw [if_neg hwt] at hw
        exact hnext _ _ hw

/-- How it stands among the first ones. -/
structure RInv (l : List Oper) (N : Nat) (R : World → World → Prop) (V : Nat → Value → World → Prop) (w : World) (a0 : Act) (listed : Array Bool) (a : Act) (W : World) : Prop where
  bel : R w W
  dfr : a.defers = a0.defers
  size : a.tmps.size = a0.tmps.size
  old : ∀ t, relWrites (l.take N) t = false → a.tmps.getD t undef = a0.tmps.getD t undef
  new : ∀ (j : Nat) (o : Oper) (t : Nat), j < N → l[j]? = some o → o.dst = some t → listed.getD j false = true → V t (a.tmps.getD t undef) W
  rest : ∀ j, N ≤ j → j < l.length → listed.getD j false = false
  down : ∀ (j : Nat) (o : Oper), l[j]? = some o → listed.getD j false = true → ∀ e ∈ o.after, Region.binds .any e = true → listed.getD e.on false = true

theorem r_take_writes {l : List Oper} {N t : Nat} (h : relWrites (l.take N) t = true) : ∃ (j : Nat) (o : Oper), j < N ∧ l[j]? = some o ∧ o.dst = some t := by
  obtain ⟨j, o, hj, hd⟩ := writes_mem h
  have hjl := (List.getElem?_eq_some_iff.1 hj).1
  rw [List.length_take] at hjl
  rw [List.getElem?_take, if_pos (by omega)] at hj
  exact ⟨j, o, by omega, hj, hd⟩
theorem r_writes_take {l : List Oper} {N t j : Nat} {o : Oper} (hN : j < N) (hj : l[j]? = some o) (hd : o.dst = some t) : relWrites (l.take N) t = true :=
  mem_writes (j := j) (by rw [List.getElem?_take, if_pos hN]; exact hj) hd

theorem r_any {P : Program} {l : List Oper} {N : Nat} {R : World → World → Prop} {V : Nat → Value → World → Prop} {Q : Exit → Act → World → Prop} {w : World} {a0 : Act} (hB : rB N l = true)
    (hN : ∀ t, relWrites (l.take N) t = true → t < a0.tmps.size)
    (hRr : ∀ W, R W W) (hRt : ∀ W W' W'', R W W' → R W' W'' → R W W'') (hV : ∀ t v W W', V t v W → R W W' → V t v W') (hop : rAll P l N R V Q w a0 (l.take N))
    (hend : ∀ (f : Nat → Value) (W : World), R w W → (∀ t, relWrites (l.take N) t = false → f t = a0.tmps.getD t undef) → (∀ t, relWrites (l.take N) t = true → V t (f t) W) →
      wpList P l.toArray Q (l.drop N) { tmps := ((List.range a0.tmps.size).map f).toArray, defers := a0.defers } W) : ∀ (fuel : Nat) (listed : Array Bool) (a : Act) (W : World),
    listed.size = l.length → listed.toList.countP (fun b => !b) ≤ fuel → RInv l N R V w a0 listed a W → wpAny P .any l.toArray Q fuel listed a W := by
  obtain ⟨hlen, hS, hcov, hT⟩ := rB_spec hB
  intro fuel
  induction fuel with
  | zero =>
    intro listed a W hsz hc hI
    have hall : ∀ j, j < l.length → listed.getD j false = true := fun j hj => by
      have hls : j < listed.size := by omega
      have := List.countP_eq_zero.1 (Nat.le_zero.1 hc) listed[j] (by simp)
      rw [Array.getD_eq_getD_getElem?, Array.getElem?_eq_getElem hls]
      simpa using this
    obtain rfl : N = l.length := by
      rcases Nat.lt_or_ge N l.length with h | h
      · have h1 := hI.rest N (Nat.le_refl _) h
        rw [hall N h] at h1
        cases h1
      · omega
    have hfe := hend (fun t => a.tmps.getD t undef) W hI.bel hI.old (fun t ht => by
      obtain ⟨j, o, hjN, hj, hd⟩ := r_take_writes ht
      exact hI.new j o t hjN hj hd (hall j hjN))
    rw [← rel_frame a a0 hI.dfr hI.size] at hfe
    exact r_rest hT 0 l.length 0 listed a W (by omega) (Nat.le_refl _) (Nat.le_refl _) (Nat.le_refl _) hsz (fun j hj => by rw [hall j hj]; simp [hj]) hfe
  | succ fuel ih =>
    intro listed a W hsz hc hI
    by_cases hall : ∀ j, j < N → listed.getD j false = true
    · -- all of the first ones are done
      have hfe := hend (fun t => a.tmps.getD t undef) W hI.bel hI.old (fun t ht => by
        obtain ⟨j, o, hjN, hj, hd⟩ := r_take_writes ht
        exact hI.new j o t hjN hj hd (hall j hjN))
      rw [← rel_frame a a0 hI.dfr hI.size] at hfe
      have hls : ∀ j, j < l.length → listed.getD j false = decide (j < N) := fun j hj => by
        by_cases hjN : j < N
        · rw [hall j hjN]; simp [hjN]
        · rw [hI.rest j (by omega) hj]; simp [hjN]
      refine r_rest hT (l.length - N) N (fuel + 1) listed a W rfl (Nat.le_refl _) hlen ?_ hsz hls hfe
      refine Nat.le_trans ?_ hc
      have hcount : listed.toList.drop N = List.replicate (l.length - N) false := by
        apply List.ext_getElem
        · simp [hsz]
        · intro i h1 h2
          simp only [List.length_drop, Array.length_toList] at h1
          rw [List.getElem_drop, List.getElem_replicate]
          have := hI.rest (N + i) (by omega) (by omega)
          simpa [Array.getD_eq_getD_getElem?, show N + i < listed.size by omega] using this
      calc l.length - N = (listed.toList.drop N).countP (fun b => !b) := by rw [hcount]; simp [List.countP_replicate]
        _ ≤ listed.toList.countP (fun b => !b) := (List.drop_sublist N listed.toList).countP_le
    · refine ⟨fun hr => ?_, fun i hi => ?_⟩
      · exfalso
        refine hall ?_
        intro j
        induction j using Nat.strongRecOn with
        | _ j ihj =>
          intro hj
          have ho : l[j]? = some l[j] := List.getElem?_eq_getElem (by omega)
          cases hq : listed.getD j true with
          | true => rw [getD_ft (by omega)]; exact hq
          | false =>
            exfalso
            have hm : j ∈ Region.ready .any l.toArray listed := by
              rw [mem_ready]
              refine ⟨hq, l[j], by simp, fun e he hb => ?_⟩
              have hlte := (hS j _ hj ho).2.1 e he hb
              exact ihj e.on hlte (by omega)
            rw [hr] at hm
            cases hm
      · obtain ⟨h0, o, ho, hdep⟩ := mem_ready.1 hi
        have hol : l[i]? = some o := by simpa using ho
        have hil := (List.getElem?_eq_some_iff.1 hol).1
        have his : i < listed.size := by omega
        have h0' : listed[i] = false := by simpa [Array.getD_eq_getD_getElem?, his] using h0
        have hiN : i < N := by
          rcases Nat.lt_or_ge i N with h | h
          · exact h
          · exfalso
            by_cases hiN : i = N
            · subst hiN
              refine hall ?_
              have hcl : ∀ (n j : Nat), i - j ≤ n → j < i → listed.getD j false = true := by
                intro n
                induction n with
                | zero => intro j h1 h2; omega
                | succ n ihn =>
                  intro j h1 h2
                  obtain ⟨k, o', hjk, hkN, hk, e, he, hb, hon⟩ := hcov j h2 hil
                  rw [← hon]
                  by_cases hk1 : k < i
                  · exact hI.down k o' hk (ihn k (by omega) hk1) e he hb
                  · obtain rfl : k = i := by omega
                    obtain rfl : o = o' := by rw [hol] at hk; exact Option.some.inj hk
                    exact hdep e he hb
              exact fun j hj => hcl _ j (Nat.le_refl _) hj
            · obtain ⟨e, he, hb, hon⟩ := (hT i o h hol).2 hiN
              have h1 := hdep e he hb
              rw [hon, hI.rest (i - 1) (by omega) (by omega)] at h1
              cases h1
        obtain ⟨⟨d, hd⟩, _, hdst⟩ := hS i o hiN hol
        have hK0 : ∀ v W', R W W' → V (o.dst.getD 0) v W' → wpAny P .any l.toArray Q fuel (listed.setIfInBounds i true) (a.put o.dst v) W' := by
          intro v W' hb hv
          rw [hd] at hv ⊢
          have hda : d < a.tmps.size := by rw [hI.size]; exact hN d (r_writes_take hiN hol hd)
          refine ih _ _ _ (by simpa using hsz) ?_ ⟨hRt _ _ _ hI.bel hb, hI.dfr, by simpa [Act.put] using hI.size, fun t ht => ?_, fun j o' t hjN hj hd' hl => ?_, fun j h1 h2 => ?_, fun j o' hj hl e he hbi => ?_⟩
          · rw [Array.toList_setIfInBounds, List.countP_set (by simpa using his)]
            simp only [Array.getElem_toList, h0', Bool.not_false, Bool.not_true, if_true, Bool.false_eq_true, if_false]
            have := List.countP_pos_iff (p := fun b => !b) (l := listed.toList) |>.2 ⟨listed[i], by simp, by rw [h0']; rfl⟩
            omega
          · have htd : t ≠ d := by rintro rfl; rw [r_writes_take hiN hol hd] at ht; cases ht
            rw [getD_put a d v t htd]
            exact hI.old t ht
          · by_cases hji : j = i
            · subst hji
              obtain rfl : o' = o := by rw [hol] at hj; exact (Option.some.inj hj).symm
              obtain rfl : t = d := by rw [hd] at hd'; exact (Option.some.inj hd').symm
              rw [getD_put_self a t v hda]
              exact hv
            · have htd : t ≠ d := by
                rintro rfl
                exact (hdst j o' t hjN hj hd').1 hji hd
              rw [getD_put a d v t htd]
              rw [getD_set_ne false (Ne.symm hji)] at hl
              exact hV t _ W W' (hI.new j o' t hjN hj hd' hl) hb
          · rw [getD_set_ne false (show i ≠ j by omega)]
            exact hI.rest j h1 h2
          · by_cases hei : e.on = i
            · rw [hei]; simp [his]
            · rw [getD_set_ne false (Ne.symm hei)]
              by_cases hji : j = i
              · subst hji
                obtain rfl : o' = o := by rw [hol] at hj; exact (Option.some.inj hj).symm
                exact hdep e he hbi
              · rw [getD_set_ne false (Ne.symm hji)] at hl
                exact hI.down j o' hj hl e he hbi
        have hstep := rAll_mem hop o (List.mem_of_getElem? (by rw [List.getElem?_take, if_pos hiN]; exact hol)) (fun t => a.tmps.getD t undef) W hI.bel hI.old (fun t ht hl => by
          obtain ⟨j, o', hjN, hj, hd'⟩ := r_take_writes ht
          obtain ⟨e, he, hb, hon⟩ := (hdst j o' t hjN hj hd').2 hl
          refine hI.new j o' t hjN hj hd' ?_
          rw [← hon]
          exact hdep e he hb) (wpAny P .any l.toArray Q fuel (listed.setIfInBounds i true)) (by
          intro v W' hb hv
          rw [← rel_frame a a0 hI.dfr hI.size]
          exact hK0 v W' hb hv)
        rw [← rel_frame a a0 hI.dfr hI.size] at hstep
        have htm : ((List.range a0.tmps.size).map fun t => a.tmps.getD t undef).toArray = a.tmps := by
          have := rel_frame a a0 hI.dfr hI.size
          rw [this]
          simp
          intro t ht
          simp [ht]
        unfold wpOp
        simp only [ho]
        exact stepG_end (by rw [htm] at hstep; exact hstep) (fun hv => hK0 undef W (hRr W) hv)

/-- THE LAW: the first N in whatever order, then the others one by one. -/
theorem wp_region_r {P : Program} {id : Nat} {Q : Exit → Act → World → Prop} {a : Act} {w : World} {l : List Oper} (N : Nat) (hm : P.follows .mixedOrders = true) (hB : rB N l = true)
    (hN : ∀ t, relWrites (l.take N) t = true → t < a.tmps.size) (V : Nat → Value → World → Prop)
    (R : World → World → Prop) (hR0 : R w w.drew) (hRr : ∀ W, R W W) (hRt : ∀ W W' W'', R W W' → R W' W'' → R W W'') (hV : ∀ t v W W', V t v W → R W W' → V t v W') (hop : rAll P l N R V Q w a (l.take N))
    (hend : ∀ (f : Nat → Value) (W : World), R w W → (∀ t, relWrites (l.take N) t = false → f t = a.tmps.getD t undef) → (∀ t, relWrites (l.take N) t = true → V t (f t) W) →
      ∀ a', a' = ({ tmps := ((List.range a.tmps.size).map f).toArray, defers := a.defers } : Act) → wpList P l.toArray Q (l.drop N) a' W) : (Code.region id l.toArray true).wp P Q a w := by
  refine wp_region_any hm ?_
  refine r_any (w := w) (a0 := a) hB hN hRr hRt hV hop (fun f W h1 h2 h3 => hend f W h1 h2 h3 _ rfl) _ _ a _ (by simp) ?_ ⟨hR0, rfl, rfl, fun _ _ => rfl, fun j o t _ hj hd hl => ?_, fun j h1 h2 => ?_, fun j o hj hl => ?_⟩
  · rw [show l.toArray.size = l.length by simp]
    exact Nat.le_trans (List.countP_le_length) (by simp)
  · simp [Array.getD_eq_getD_getElem?, Array.getElem?_replicate] at hl
    split at hl <;> simp at hl
  · simp [Array.getD_eq_getD_getElem?, Array.getElem?_replicate]
    split <;> simp
  · simp [Array.getD_eq_getD_getElem?, Array.getElem?_replicate] at hl
    split at hl <;> simp at hl
end Go.Proofs.YtkgacnenmflegaaGreatDoor
namespace Go.Proofs.YtkgacnenmflegaaGreatDoor
open Go.RowKit

structure Chg (X : Nat → Prop) (I : World → Prop) (W W' : World) : Prop where
  os : W'.os = W.os
  tape : W'.tape = W.tape
  output : W'.output = W.output
  size : W.heap.size ≤ W'.heap.size
  block : ∀ b, b < W.heap.size → ¬ X b → W'.heap[b]? = W.heap[b]?
  inv : I W → I W'
section
variable {X : Nat → Prop} {I : World → Prop} {W W' W'' : World}
theorem Chg.refl (W : World) : Chg X I W W := ⟨rfl, rfl, rfl, Nat.le_refl _, fun _ _ _ => rfl, id⟩
theorem Chg.trans (h : Chg X I W W') (h' : Chg X I W' W'') : Chg X I W W'' :=
  ⟨h'.os.trans h.os, h'.tape.trans h.tape, h'.output.trans h.output, Nat.le_trans h.size h'.size, fun b hb hx => (h'.block b (Nat.lt_of_lt_of_le hb h.size) hx).trans (h.block b hb hx), fun hi => h'.inv (h.inv hi)⟩
theorem Chg.of_below (h : Below W.heap.size W W') (hi : I W → I W') : Chg X I W W' := ⟨h.os, h.tape, h.output, h.size, fun b hb _ => h.block b hb, hi⟩
theorem Chg.of_grown {k : Nat} (h : W.grownBy W' (some k)) (hk : X k) (hi : I W → I W') : Chg X I W W' := ⟨h.os, h.tape, h.output, h.size, fun b hb hx => h.block b hb (fun e => hx (by injection e with e; rw [e]; exact hk)), hi⟩
theorem Chg.cell (h : Chg X I W W') {b : Nat} (hb : b < W.heap.size) (hx : ¬ X b) (i : Nat) : W'.cell? ⟨b, i, none⟩ = W.cell? ⟨b, i, none⟩ := by
  unfold World.cell?
  rw [h.block b hb hx]
theorem Chg.blk (h : Chg X I W W') {b : Nat} {o : Obj} (ho : W.heap[b]? = some o) (hx : ¬ X b) : W'.heap[b]? = some o := (h.block b (Array.getElem?_eq_some_iff.1 ho).1 hx).trans ho
end
inductive CV where
  | val (x : Value)
  | row (cs : Array Value) (e : TypeId) (n : Nat)
  | own (cs : Array Value) (e : TypeId) (base : Nat)
  | that (p : Value → World → Prop)
def CV.holds (X : Nat → Prop) (I : World → Prop) : CV → Value → World → Prop
  | .val x => fun v _ => v = x
  | .row cs e n => fun v W => ∃ b, v = .slice (some ⟨b, 0, none⟩) n n ∧ ¬ X b ∧ W.heap[b]? = some (.cells cs e (0, 0))
  | .own cs e base => fun v W => ∃ b, v = .pointer (some ⟨b, 0, none⟩) ∧ base ≤ b ∧ ¬ X b ∧ W.heap[b]? = some (.cells cs e (0, 0))
  | .that p => fun v W => ∃ W0, p v W0 ∧ Chg X I W0 W
def chgV (X : Nat → Prop) (I : World → Prop) (tab : List (Nat × CV)) (t : Nat) (v : Value) (W : World) : Prop :=
  match tab.lookup t with
  | some r => r.holds X I v W
  | none => True
theorem chgV_stable (X : Nat → Prop) (I : World → Prop) (tab : List (Nat × CV)) (t : Nat) (v : Value) (W W' : World) (h : chgV X I tab t v W) (hb : Chg X I W W') : chgV X I tab t v W' := by
  unfold chgV at *
  cases hl : tab.lookup t with
  | none => trivial
  | some r =>
    rw [hl] at h
    cases r with
    | val x => exact h
    | row cs e n =>
      obtain ⟨b, h1, hx, h2⟩ := h
      exact ⟨b, h1, hx, hb.blk h2 hx⟩
    | own cs e base =>
      obtain ⟨b, h1, h0, hx, h2⟩ := h
      exact ⟨b, h1, h0, hx, hb.blk h2 hx⟩
    | that p =>
      obtain ⟨W0, h1, h2⟩ := h
      exact ⟨W0, h1, h2.trans hb⟩
theorem chg_drew (X : Nat → Prop) (I : World → Prop) (W : World) (hi : I W → I W.drew) : Chg X I W W.drew := ⟨rfl, rfl, rfl, Nat.le_refl _, fun _ _ _ => rfl, hi⟩
end Go.Proofs.YtkgacnenmflegaaGreatDoor
namespace Go.Proofs.YtkgacnenmflegaaGreatDoor
open Go.RowKit

def intsV (l : List Int) : List Value := l.map fun i => .int .i64 i
def strsV (l : List ByteArray) : List Value := l.map fun s => .string s
theorem intsV_append (l m : List Int) : intsV (l ++ m) = intsV l ++ intsV m := by simp [intsV]
theorem strsV_append (l m : List ByteArray) : strsV (l ++ m) = strsV l ++ strsV m := by simp [strsV]
theorem intsV_length (l : List Int) : (intsV l).length = l.length := by simp [intsV]
theorem strsV_length (l : List ByteArray) : (strsV l).length = l.length := by simp [strsV]
theorem intsV_one (l : List Int) : ∀ u ∈ intsV l, u.oneCell' = true := by
  intro u hu
  simp only [intsV, List.mem_map] at hu
  obtain ⟨b, _, rfl⟩ := hu
  rfl
theorem strsV_one (l : List ByteArray) : ∀ u ∈ strsV l, u.oneCell' = true := by
  intro u hu
  simp only [strsV, List.mem_map] at hu
  obtain ⟨b, _, rfl⟩ := hu
  rfl
theorem Rd.congr {w : World} {A : Option Addr} {len : Nat} {f g : Nat → Value} (h : Rd w A len f) (e : ∀ i, i < len → f i = g i) : Rd w A len g := by
  intro k hk
  obtain ⟨b, off, h1, h2, h3⟩ := h k hk
  exact ⟨b, off, h1, h2, by rw [h3, e k hk]⟩
/-- What is handed in may be appended. -/
theorem Src.of_rd {w : World} {A : Option Addr} {len cap : Nat} {f : Nat → Value} (h : Rd w A len f) : Src w 1 (.slice A len cap) len ((List.range len).map f) := by
  refine ⟨by simp, ?_⟩
  rcases A with _ | a
  · by_cases h0 : len = 0
    · exact .inl ⟨⟨cap, rfl⟩, h0⟩
    · obtain ⟨b, off, hA, _⟩ := h 0 (by omega)
      cases hA
  · refine .inr ⟨a, cap, rfl, fun j u hu => ?_⟩
    by_cases hj : j < len
    · obtain ⟨b, off, hA, _, hc⟩ := h j hj
      injection hA with hA
      subst hA
      rw [add_plain, hc]
      simpa [hj] using hu
    · rw [List.getElem?_eq_none (by simp; omega)] at hu
      cases hu
/-- A row is a slice that is read. -/
theorem Row.read {w : World} {base : Nat} {e : TypeId} {v : Value} {n : Nat} {xs : List Value} (h : Row w base e 1 v n xs) : ∃ A c, v = .slice A n c ∧ n ≤ c ∧ c ≤ maxLen ∧ Rd w A n (fun k => xs.getD k undef) := by
  have h2 : ∃ A c, v = .slice A n c ∧ n ≤ c ∧ c ≤ maxLen := by
    rcases h.2 with ⟨rfl, rfl⟩ | ⟨g, off, cap, cur, fr, rfl, hb, hg, hc, hm, _⟩
    · exact ⟨none, 0, rfl, Nat.le_refl _, Nat.zero_le _⟩
    · exact ⟨_, cap, rfl, hc, hm⟩
  obtain ⟨A, c, rfl, h3, h4⟩ := h2
  exact ⟨A, c, rfl, h3, h4, Rd.of_row h⟩
theorem Row.readInts {w : World} {base : Nat} {e : TypeId} {v : Value} {n : Nat} {l : List Int} (h : Row w base e 1 v n (intsV l)) : ∃ A c, v = .slice A n c ∧ n = l.length ∧ n ≤ c ∧ c ≤ 9223372036854775807 ∧ Rd w A n (fun k => .int .i64 (l.getD k 0)) := by
  have hl : l.length = n := by have := h.1; rw [intsV_length] at this; omega
  obtain ⟨A, c, rfl, h3, h4, h5⟩ := h.read
  refine ⟨A, c, rfl, hl.symm, h3, h4, h5.congr fun i hi => ?_⟩
  simp [intsV, List.getD_eq_getElem?_getD, List.getElem?_eq_getElem (show i < l.length by omega)]
theorem Row.readStrs {w : World} {base : Nat} {e : TypeId} {v : Value} {n : Nat} {l : List ByteArray} (h : Row w base e 1 v n (strsV l)) : ∃ A c, v = .slice A n c ∧ n = l.length ∧ n ≤ c ∧ c ≤ 9223372036854775807 ∧ Rd w A n (fun k => .string (l.getD k ByteArray.empty)) := by
  have hl : l.length = n := by have := h.1; rw [strsV_length] at this; omega
  obtain ⟨A, c, rfl, h3, h4, h5⟩ := h.read
  refine ⟨A, c, rfl, hl.symm, h3, h4, h5.congr fun i hi => ?_⟩
  simp [strsV, List.getD_eq_getElem?_getD, List.getElem?_eq_getElem (show i < l.length by omega)]
theorem range_getD_ints (l : List Int) : (List.range l.length).map (fun i => Value.int .i64 (l.getD i 0)) = intsV l := by
  apply List.ext_getElem
  · simp [intsV]
  · intro i h1 h2
    simp only [List.length_map, List.length_range] at h1
    simp [intsV, List.getD_eq_getElem?_getD, List.getElem?_eq_getElem h1]
theorem range_getD_strs (l : List ByteArray) : (List.range l.length).map (fun i => Value.string (l.getD i ByteArray.empty)) = strsV l := by
  apply List.ext_getElem
  · simp [strsV]
  · intro i h1 h2
    simp only [List.length_map, List.length_range] at h1
    simp [strsV, List.getD_eq_getElem?_getD, List.getElem?_eq_getElem h1]
/-- One cell that is read, in all later worlds. -/
theorem Rd.cells {w : World} {A : Option Addr} {n : Nat} {f : Nat → Value} (h : Rd w A n f) {k : Nat} (hk : k < n) : ∃ b off, A = some ⟨b, off, none⟩ ∧ ∀ B wz, w.heap.size ≤ B → Below B w wz → wz.cell? ⟨b, off + k, none⟩ = some (f k) := by
  obtain ⟨b, off, h1, h2, h3⟩ := h k hk
  exact ⟨b, off, h1, fun B wz hB hz => (hz.cell (p := ⟨b, off + k, none⟩) (Nat.lt_of_lt_of_le h2 hB)).trans h3⟩
theorem infoInt : (Tryz.prog.info? 3).map (fun i => (i.zero, i.size, i.bytes)) = some (some (.int .i64 0), 1, 8) := by kernel_rfl
theorem infoU8 : (Tryz.prog.info? 5).map (fun i => (i.zero, i.size, i.bytes)) = some (some (.int .u8 0), 1, 1) := by kernel_rfl
theorem infoStr : (Tryz.prog.info? 9).map (fun i => (i.zero, i.size, i.bytes)) = some (some (.string ByteArray.empty), 1, 16) := by kernel_rfl

section
variable {P : Program} {ops : Array Oper} {o : Oper} {a : Act} {K : Act → World → Prop} {Q : Exit → Act → World → Prop} {E : Prop}
/-- append(s, x...) as one step of a region that draws its order. -/
theorem step_append_row {W w0 : World} (base : Nat) (hgd : o.guard = none) (s x : Operand) (t e : TypeId) (size bytes : Nat) (z : Value)
    (ho : o.op = .call { callee := .builtin .append, args := #[s, x], argTypes := #[t, t] })
    (ht : P.underlying t = some (.slice e)) (hinfo : (P.info? e).map (fun i => (i.zero, i.size, i.bytes)) = some (some z, size, bytes)) (hzs : z.cells.size = size) (hsz : 0 < size)
    (v : Value) (n : Nat) (xs : List Value) (y : Value) (m : Nat) (ys : List Value) (hs : a.eval s = v) (hx : a.eval x = y)
    (HR : Row W base e size v n xs) (HS : Src W size y m ys) (h1 : ∀ u ∈ ys, u.oneCell' = true) (HB : Below base w0 W) (hbase : base ≤ W.heap.size) (hl : (n + m) * bytes ≤ 140737488355328) (hm : n + m ≤ maxLen)
    (h : ∀ v1 w1, Row w1 base e size v1 (n + m) (xs ++ ys) → Below base w0 w1 → W.grownBy w1 v.ownBlock → (v1.ownBlock = v.ownBlock ∨ v1.ownBlock = some W.heap.size) → K (a.put o.dst v1) w1) :
    if Region.wanted o (yielded ops a.tmps) = true then Oper.wp P o a W K Q else E := by
  obtain ⟨v1, w1, hr, h2, h3, h4⟩ := run_append_row (P := P) W base t o.type e size bytes z ht hinfo hzs hsz v n xs HR y m ys HS h1 hm hl hbase
  have hw : Region.wanted o (yielded ops a.tmps) = true := by simp [Region.wanted, hgd]
  rw [if_pos hw]
  unfold Oper.wp execOp
  simp only [ho, resolve, invoke, builtin, Sem.run_bind, Sem.run_pure, Result.andThen_ok, List.map_toArray, List.map_cons, List.map_nil, hs, hx, hr]
  exact h v1 w1 h2 (HB.grown h3 hbase (fun k hk => (HR.blk k hk).1)) h3 h4
end
/-- s[:j] and s[j:] of a slice that has a block. -/
theorem cut_to {P : Program} (t e : TypeId) (ht : P.underlying t = some (.slice e)) (hsz : (P.info? e).map (·.size) = some 1) (b off n c j : Nat) (hj : j ≤ c) (W : World) :
    (Instr.slice t (.slice (some ⟨b, off, none⟩) n c) none (some (.int .i64 (j : Int))) none).run P W = .ok (.slice (some ⟨b, off, none⟩) j c) W := by
  obtain ⟨i, hi, hsz⟩ := Option.map_eq_some_iff.1 hsz
  have he : P.elem t = e := by simp [Program.elem, ht]
  rw [run_slice_h W t (some ⟨b, off, none⟩) n c (by rw [he]; exact ht) .i64 j (by omega) (by omega)]
  simp [sizeOf, typeInfo, he, hi, sliced, Addr.add]
theorem cut_from {P : Program} (t e : TypeId) (ht : P.underlying t = some (.slice e)) (hsz : (P.info? e).map (·.size) = some 1) (b off n c j : Nat) (hj : j ≤ n) (W : World) :
    (Instr.slice t (.slice (some ⟨b, off, none⟩) n c) (some (.int .i64 (j : Int))) none none).run P W = .ok (.slice (if c = j then some ⟨b, off, none⟩ else some ⟨b, off + j, none⟩) (n - j) (c - j)) W := by
  obtain ⟨i, hi, hsz⟩ := Option.map_eq_some_iff.1 hsz
  have he : P.elem t = e := by simp [Program.elem, ht]
  rw [run_slice_l W t (some ⟨b, off, none⟩) n c (by rw [he]; exact ht) .i64 j (by omega) (by omega)]
  simp [sizeOf, typeInfo, he, hi, sliced, add_plain, hsz]
end Go.Proofs.YtkgacnenmflegaaGreatDoor
