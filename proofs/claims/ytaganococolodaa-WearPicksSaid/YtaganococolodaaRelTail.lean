/-
  A region that draws its order and ends in one operation that waits for all others: each operation shown alone, the last one behind them.
-/
import Derived.Test.YtaganococolodaaRel
namespace Go.Proofs.Ytaganococolodaa
open Go.RowKit

/-- As relB, for the operations ahead of the last; and the last waits for all, through others. -/
def tailB (l : List Oper) : Bool :=
  decide (1 ≤ l.length) &&
  ((List.range (l.length - 1)).all fun i => match l[i]? with
    | none => false
    | some o => o.guard.isNone && o.dst.isSome && (o.after.toList.all fun e => e.on < i) &&
        ((List.range (l.length - 1)).all fun j => match l[j]? with
          | none => false
          | some o' => (j == i || o'.dst != o.dst) && (match o'.dst with
            | none => false
            | some t => !((o.looksAt l.toArray).contains t) || o.after.toList.any fun e => Region.binds .any e && e.on == j))) &&
  ((List.range (l.length - 1)).all fun j => (List.range l.length).any fun k => decide (j < k) && match l[k]? with
    | none => false
    | some o => o.after.toList.any fun e => Region.binds .any e && e.on == j) &&
  (match l[l.length - 1]? with
    | none => false
    | some o => o.guard.isNone && o.dst.isNone && o.after.toList.all fun e => e.on < l.length - 1)

theorem tailB_spec {l : List Oper} (h : tailB l = true) : 1 ≤ l.length ∧
    (∀ (i : Nat) (o : Oper), i < l.length - 1 → l[i]? = some o → o.guard = none ∧ (∃ t, o.dst = some t) ∧ (∀ e ∈ o.after, e.on < i) ∧
      ∀ (j : Nat) (o' : Oper) (t : Nat), j < l.length - 1 → l[j]? = some o' → o'.dst = some t → (j ≠ i → o.dst ≠ some t) ∧ ((o.looksAt l.toArray).contains t = true → ∃ e ∈ o.after, Region.binds .any e = true ∧ e.on = j)) ∧
    (∀ j, j < l.length - 1 → ∃ (k : Nat) (o : Oper), j < k ∧ l[k]? = some o ∧ ∃ e ∈ o.after, Region.binds .any e = true ∧ e.on = j) ∧
    (∃ o, l[l.length - 1]? = some o ∧ o.guard = none ∧ o.dst = none ∧ ∀ e ∈ o.after, e.on < l.length - 1) := by
  unfold tailB at h
  simp only [Bool.and_eq_true] at h
  obtain ⟨⟨⟨h0, h1⟩, h2⟩, h3⟩ := h
  refine ⟨by simpa using h0, fun i o hi ho => ?_, fun j hj => ?_, ?_⟩
  · have hx := List.all_eq_true.1 h1 i (List.mem_range.2 hi)
    simp only [ho, Bool.and_eq_true, Option.isNone_iff_eq_none] at hx
    obtain ⟨⟨⟨hg, hd⟩, hlt⟩, hall⟩ := hx
    refine ⟨hg, Option.isSome_iff_exists.1 hd, fun e he => by simpa using List.all_eq_true.1 hlt e (Array.mem_toList_iff.2 he), fun j o' t hjl hj ht => ?_⟩
    have hy := List.all_eq_true.1 hall j (List.mem_range.2 hjl)
    simp only [hj, ht, Bool.and_eq_true, Bool.or_eq_true, beq_iff_eq, bne_iff_ne, ne_eq, Bool.not_eq_true', List.any_eq_true] at hy
    refine ⟨fun hne he => ?_, fun hc => ?_⟩
    · rcases hy.1 with h4 | h4
      · exact hne h4
      · exact h4 he.symm
    · rcases hy.2 with h4 | h4
      · rw [hc] at h4; cases h4
      · obtain ⟨e, he, hb, hon⟩ := h4
        exact ⟨e, Array.mem_toList_iff.1 he, hb, hon⟩
  · obtain ⟨k, _, hk⟩ := List.any_eq_true.1 (List.all_eq_true.1 h2 j (List.mem_range.2 hj))
    simp only [Bool.and_eq_true, decide_eq_true_eq] at hk
    obtain ⟨hjk, hk⟩ := hk
    cases ho : l[k]? with
    | none => rw [ho] at hk; cases hk
    | some o =>
      rw [ho] at hk
      obtain ⟨e, he, hb⟩ := List.any_eq_true.1 hk
      simp only [Bool.and_eq_true, beq_iff_eq] at hb
      exact ⟨k, o, hjk, ho, e, Array.mem_toList_iff.1 he, hb.1, hb.2⟩
  · cases ho : l[l.length - 1]? with
    | none => rw [ho] at h3; cases h3
    | some o =>
      rw [ho] at h3
      simp only [Bool.and_eq_true, Option.isNone_iff_eq_none] at h3
      exact ⟨o, rfl, h3.1.1, h3.1.2, fun e he => by simpa using List.all_eq_true.1 h3.2 e (Array.mem_toList_iff.2 he)⟩

/-- How it stands between two operations ahead of the last. -/
structure TailInv (l : List Oper) (V : Nat → Value → World → Prop) (w : World) (a0 : Act) (listed : Array Bool) (a : Act) (W : World) : Prop where
  inv : RelInv l V w a0 listed a W
  last : listed.getD (l.length - 1) true = false
  down : ∀ (j : Nat) (o : Oper), l[j]? = some o → listed.getD j false = true → ∀ e ∈ o.after, Region.binds .any e = true → listed.getD e.on false = true

theorem getD_ft {listed : Array Bool} {j : Nat} (h : j < listed.size) : listed.getD j false = listed.getD j true := by
  simp [Array.getD_eq_getD_getElem?, h]

theorem tail_any {P : Program} {l : List Oper} {V : Nat → Value → World → Prop} {Q : Exit → Act → World → Prop} {w : World} {a0 : Act} (hB : tailB l = true)
    (hN : ∀ t, relWrites l t = true → t < a0.tmps.size)
    (hV : ∀ t v W W', V t v W → Below W.heap.size W W' → V t v W') (hop : ∀ (i : Nat) (o : Oper), i < l.length - 1 → l[i]? = some o → relStep P l V Q w a0 o)
    (hlast : ∀ o, l[l.length - 1]? = some o → ∀ (f : Nat → Value) (W : World), Below w.heap.size w W → (∀ t, relWrites l t = false → f t = a0.tmps.getD t undef) → (∀ t, relWrites l t = true → V t (f t) W) →
      ∀ (K : Act → World → Prop), (∀ a' W', Q .normal a' W' → K a' W') → wpList P #[o] (relQ K Q) [o] { tmps := ((List.range a0.tmps.size).map f).toArray, defers := a0.defers } W) : ∀ (fuel : Nat) (listed : Array Bool) (a : Act) (W : World),
    listed.size = l.length → listed.toList.countP (fun b => !b) ≤ fuel → TailInv l V w a0 listed a W → wpAny P .any l.toArray Q fuel listed a W := by
  obtain ⟨hlen, hS, hcov, lo, hlo, hlg, hld, hla⟩ := tailB_spec hB
  intro fuel
  induction fuel with
  | zero =>
    intro listed a W hsz hc hI
    exfalso
    have hls : l.length - 1 < listed.size := by omega
    have h0 : listed[l.length - 1] = false := by simpa [Array.getD_eq_getD_getElem?, hls] using hI.last
    have := List.countP_eq_zero.1 (Nat.le_zero.1 hc) listed[l.length - 1] (by simp)
    rw [h0] at this
    exact this rfl
  | succ fuel ih =>
    intro listed a W hsz hc hI
    refine ⟨fun hr => ?_, fun i hi => ?_⟩
    · -- nothing is ready: impossible, as the last is not listed
      exfalso
      have hall : ∀ (j : Nat), j < l.length → listed.getD j true = true := by
        intro j
        induction j using Nat.strongRecOn with
        | _ j ihj =>
          intro hj
          have ho : l[j]? = some l[j] := List.getElem?_eq_getElem hj
          have hlt : ∀ e ∈ l[j].after, e.on < j := by
            by_cases hj1 : j < l.length - 1
            · exact (hS j _ hj1 ho).2.2.1
            · obtain rfl : j = l.length - 1 := by omega
              rw [hlo] at ho
              rw [← Option.some.inj ho]
              exact hla
          cases hq : listed.getD j true with
          | true => rfl
          | false =>
            have hm : j ∈ Region.ready .any l.toArray listed := by
              rw [mem_ready]
              refine ⟨hq, l[j], by simp, fun e he _ => ?_⟩
              have hlte := hlt e he
              have ih := ihj e.on hlte (by omega)
              have hes : e.on < listed.size := by omega
              simpa [Array.getD_eq_getD_getElem?, hes] using ih
            rw [hr] at hm
            cases hm
      have := hall (l.length - 1) (by omega)
      rw [hI.last] at this
      cases this
    · obtain ⟨h0, o, ho, hdep⟩ := mem_ready.1 hi
      have hol : l[i]? = some o := by simpa using ho
      have hil := (List.getElem?_eq_some_iff.1 hol).1
      have his : i < listed.size := by omega
      have h0' : listed[i] = false := by simpa [Array.getD_eq_getD_getElem?, his] using h0
      by_cases hil1 : i < l.length - 1
      · obtain ⟨hg, ⟨d, hd⟩, _, hdst⟩ := hS i o hil1 hol
        have hwr : ∀ (j : Nat) (o' : Oper) (t : Nat), l[j]? = some o' → o'.dst = some t → j < l.length - 1 := by
          intro j o' t hj ht
          have hjl := (List.getElem?_eq_some_iff.1 hj).1
          rcases Nat.lt_or_ge j (l.length - 1) with h | h
          · exact h
          · obtain rfl : j = l.length - 1 := by omega
            rw [hlo] at hj
            rw [← Option.some.inj hj, hld] at ht
            cases ht
        have hstep := hop i o hil1 hol (fun t => a.tmps.getD t undef) W hI.inv.bel hI.inv.old (fun t ht hl => by
          obtain ⟨j, o', hj, hd'⟩ := writes_mem ht
          obtain ⟨e, he, hb, hon⟩ := (hdst j o' t (hwr j o' t hj hd') hj hd').2 hl
          refine hI.inv.new j o' t hj hd' ?_
          rw [← hon]
          exact hdep e he hb) (wpAny P .any l.toArray Q fuel (listed.setIfInBounds i true)) (by
          intro v W' hb hv
          rw [← rel_frame a a0 hI.inv.dfr hI.inv.size, hd]
          rw [hd] at hv
          have hda : d < a.tmps.size := by rw [hI.inv.size]; exact hN d (mem_writes hol hd)
          refine ih _ _ _ (by simpa using hsz) ?_ ⟨⟨hI.inv.bel.trans (hb.mono hI.inv.bel.size), hI.inv.dfr, by simpa [Act.put] using hI.inv.size, fun t ht => ?_, fun j o' t hj hd' hl => ?_⟩, ?_, fun j o' hj hl e he hbi => ?_⟩
          · rw [Array.toList_setIfInBounds, List.countP_set (by simpa using his)]
            simp only [Array.getElem_toList, h0', Bool.not_false, Bool.not_true, if_true, Bool.false_eq_true, if_false]
            have := List.countP_pos_iff (p := fun b => !b) (l := listed.toList) |>.2 ⟨listed[i], by simp, by rw [h0']; rfl⟩
            omega
          · have htd : t ≠ d := by rintro rfl; rw [mem_writes hol hd] at ht; cases ht
            rw [getD_put a d v t htd]
            exact hI.inv.old t ht
          · by_cases hji : j = i
            · subst hji
              obtain rfl : o' = o := by rw [hol] at hj; exact (Option.some.inj hj).symm
              obtain rfl : t = d := by rw [hd] at hd'; exact (Option.some.inj hd').symm
              rw [getD_put_self a t v hda]
              exact hv
            · have htd : t ≠ d := by
                rintro rfl
                exact (hdst j o' t (hwr j o' t hj hd') hj hd').1 hji hd
              rw [getD_put a d v t htd]
              rw [getD_set_ne false (Ne.symm hji)] at hl
              exact hV t _ W W' (hI.inv.new j o' t hj hd' hl) hb
          · have hne : i ≠ l.length - 1 := by omega
            rw [getD_set_ne true hne]
            exact hI.last
          · by_cases hei : e.on = i
            · rw [hei]
              simp [his]
            · rw [getD_set_ne false (Ne.symm hei)]
              by_cases hji : j = i
              · subst hji
                obtain rfl : o' = o := by rw [hol] at hj; exact (Option.some.inj hj).symm
                exact hdep e he hbi
              · rw [getD_set_ne false (Ne.symm hji)] at hl
                exact hI.down j o' hj hl e he hbi)
        rw [← rel_frame a a0 hI.inv.dfr hI.inv.size] at hstep
        unfold wpOp
        simp only [ho]
        have hw : ∀ (y : Nat → Option Bool), Region.wanted o y = true := fun y => by simp [Region.wanted, hg]
        unfold wpList at hstep
        rw [if_pos (hw _)] at hstep
        rw [if_pos (hw _)]
        rcases hstep with hs | ⟨hs1, hs2⟩
        · left
          unfold Oper.wp at *
          generalize (execOp a.eval o).run P W = r at *
          cases r with
          | ok n w' =>
            cases n <;> simp only [Oper.upon] at hs ⊢ <;> first | exact hs | exact Calls.mono hs (fun e w'' he => by cases e <;> exact he) | exact Rows.mono hs (fun _ _ he => he)
          | halt x w' => cases x <;> simp only [Oper.upon] at hs ⊢ <;> exact hs
        · exact .inr ⟨hs1, hs2⟩
      · -- the last one
        obtain rfl : i = l.length - 1 := by omega
        obtain rfl : o = lo := by rw [hlo] at hol; exact (Option.some.inj hol).symm
        have hcl : ∀ (n j : Nat), l.length - 1 - j ≤ n → j < l.length - 1 → listed.getD j false = true := by
          intro n
          induction n with
          | zero => intro j h1 h2; omega
          | succ n ihn =>
            intro j h1 h2
            obtain ⟨k, o', hjk, hk, e, he, hb, hon⟩ := hcov j h2
            have hkl := (List.getElem?_eq_some_iff.1 hk).1
            rw [← hon]
            by_cases hk1 : k < l.length - 1
            · exact hI.down k o' hk (ihn k (by omega) hk1) e he hb
            · obtain rfl : k = l.length - 1 := by omega
              obtain rfl : o = o' := by rw [hlo] at hk; exact Option.some.inj hk
              exact hdep e he hb
        have hready : Region.ready .any l.toArray (listed.setIfInBounds (l.length - 1) true) = [] := by
          rw [List.eq_nil_iff_forall_not_mem]
          intro j hj
          obtain ⟨hj0, o', ho', _⟩ := mem_ready.1 hj
          have hjl : j < l.length := (List.getElem?_eq_some_iff.1 (by simpa using ho')).1
          by_cases hj1 : j = l.length - 1
          · rw [hj1] at hj0
            simp [his] at hj0
          · rw [getD_set_ne true (Ne.symm hj1)] at hj0
            have := hcl _ j (Nat.le_refl _) (by omega)
            rw [getD_ft (by omega), hj0] at this
            cases this
        have hstep := hlast o hlo (fun t => a.tmps.getD t undef) W hI.inv.bel hI.inv.old (fun t ht => by
          obtain ⟨j, o', hj, hd'⟩ := writes_mem ht
          refine hI.inv.new j o' t hj hd' (hcl _ j (Nat.le_refl _) ?_)
          have hjl := (List.getElem?_eq_some_iff.1 hj).1
          rcases Nat.lt_or_ge j (l.length - 1) with h | h
          · exact h
          · obtain rfl : j = l.length - 1 := by omega
            rw [hlo] at hj
            rw [← Option.some.inj hj, hld] at hd'
            cases hd') (wpAny P .any l.toArray Q fuel (listed.setIfInBounds (l.length - 1) true)) (by
          intro a' W' hq
          cases fuel with
          | zero => exact ⟨hready, hq⟩
          | succ fuel => exact ⟨fun _ => hq, fun i hi => by rw [hready] at hi; cases hi⟩)
        rw [← rel_frame a a0 hI.inv.dfr hI.inv.size] at hstep
        unfold wpOp
        simp only [ho]
        have hw : ∀ (y : Nat → Option Bool), Region.wanted o y = true := fun y => by simp [Region.wanted, hlg]
        unfold wpList at hstep
        rw [if_pos (hw _)] at hstep
        rw [if_pos (hw _)]
        rcases hstep with hs | ⟨hs1, hs2⟩
        · left
          unfold Oper.wp at *
          generalize (execOp a.eval o).run P W = r at *
          cases r with
          | ok n w' =>
            cases n <;> simp only [Oper.upon] at hs ⊢ <;> first | exact hs | exact Calls.mono hs (fun e w'' he => by cases e <;> exact he) | exact Rows.mono hs (fun _ _ he => he)
          | halt x w' => cases x <;> simp only [Oper.upon] at hs ⊢ <;> exact hs
        · exact .inr ⟨hs1, hs2⟩

def relInit (P : Program) (l : List Oper) (V : Nat → Value → World → Prop) (Q : Exit → Act → World → Prop) (w : World) (a0 : Act) : List Oper → Prop
  | [] => True
  | [o] => ∀ (f : Nat → Value) (W : World), Below w.heap.size w W → (∀ t, relWrites l t = false → f t = a0.tmps.getD t undef) → (∀ t, relWrites l t = true → V t (f t) W) →
      ∀ (K : Act → World → Prop), (∀ a' W', Q .normal a' W' → K a' W') → wpList P #[o] (relQ K Q) [o] { tmps := ((List.range a0.tmps.size).map f).toArray, defers := a0.defers } W
  | o :: p :: r => relStep P l V Q w a0 o ∧ relInit P l V Q w a0 (p :: r)
theorem relInit_step {P : Program} {l : List Oper} {V : Nat → Value → World → Prop} {Q : Exit → Act → World → Prop} {w : World} {a0 : Act} : ∀ {r : List Oper}, relInit P l V Q w a0 r → ∀ (i : Nat) (o : Oper), i < r.length - 1 → r[i]? = some o → relStep P l V Q w a0 o
  | [], _, i, o, h, _ => by simp at h
  | [_], _, i, o, h, _ => by simp at h
  | x :: y :: r, hr, 0, o, _, ho => by
    obtain rfl : x = o := by simpa using ho
    exact hr.1
  | x :: y :: r, hr, i + 1, o, h, ho => relInit_step (r := y :: r) hr.2 i o (by simp at h ⊢; omega) (by simpa using ho)
theorem relInit_last {P : Program} {l : List Oper} {V : Nat → Value → World → Prop} {Q : Exit → Act → World → Prop} {w : World} {a0 : Act} : ∀ {r : List Oper}, relInit P l V Q w a0 r → ∀ o, r[r.length - 1]? = some o → relInit P l V Q w a0 [o]
  | [], _, o, h => by simp at h
  | [x], hr, o, h => by
    obtain rfl : x = o := by simpa using h
    exact hr
  | x :: y :: r, hr, o, h => relInit_last (r := y :: r) hr.2 o (by simpa using h)

/-- THE LAW. -/
theorem wp_region_tail {P : Program} {id : Nat} {Q : Exit → Act → World → Prop} {a : Act} {w : World} {l : List Oper} (hm : P.follows .mixedOrders = true) (hB : tailB l = true)
    (hN : ∀ t, relWrites l t = true → t < a.tmps.size) (V : Nat → Value → World → Prop)
    (hV : ∀ t v W W', V t v W → Below W.heap.size W W' → V t v W') (hop : relInit P l V Q w a l) : (Code.region id l.toArray true).wp P Q a w := by
  have hlen := (tailB_spec hB).1
  refine wp_region_any hm ?_
  refine tail_any (w := w) (a0 := a) hB hN hV (relInit_step hop) (fun o ho => relInit_last hop o ho) _ _ a _ (by simp) ?_ ⟨⟨(Below.refl _ w).drew, rfl, rfl, fun _ _ => rfl, fun j o t hj hd hl => ?_⟩, ?_, fun j o hj hl => ?_⟩
  · rw [show l.toArray.size = l.length by simp]
    exact Nat.le_trans (List.countP_le_length) (by simp)
  · simp [Array.getD_eq_getD_getElem?, Array.getElem?_replicate] at hl
    split at hl <;> simp at hl
  · simp [Array.getD_eq_getD_getElem?, show l.length - 1 < l.length by omega]
  · simp [Array.getD_eq_getD_getElem?, Array.getElem?_replicate] at hl
    split at hl <;> simp at hl

/-- What a slot holds: a value; a slice of a block of its own; a block of its own, with these cells. -/
inductive TV where
  | val (x : Value)
  | row (cs : Array Value) (e : TypeId) (n : Nat)
  | own (cs : Array Value) (e : TypeId) (base : Nat)
  | that (p : Value → World → Prop)
def TV.holds : TV → Value → World → Prop
  | .val x => fun v _ => v = x
  | .row cs e n => fun v W => ∃ b, v = .slice (some ⟨b, 0, none⟩) n n ∧ W.heap[b]? = some (.cells cs e (0, 0))
  | .own cs e base => fun v W => ∃ b, v = .pointer (some ⟨b, 0, none⟩) ∧ base ≤ b ∧ W.heap[b]? = some (.cells cs e (0, 0))
  | .that p => fun v W => ∃ W0, p v W0 ∧ Below W0.heap.size W0 W
def tailV (tab : List (Nat × TV)) (t : Nat) (v : Value) (W : World) : Prop :=
  match tab.lookup t with
  | some r => r.holds v W
  | none => True
theorem below_blk {W W' : World} {b : Nat} {o : Obj} (h : W.heap[b]? = some o) (hb : Below W.heap.size W W') : W'.heap[b]? = some o := by
  refine (hb.block b ?_).trans h
  rcases Nat.lt_or_ge b W.heap.size with h3 | h3
  · exact h3
  · rw [Array.getElem?_eq_none h3] at h; cases h
theorem tailV_stable (tab : List (Nat × TV)) (t : Nat) (v : Value) (W W' : World) (h : tailV tab t v W) (hb : Below W.heap.size W W') : tailV tab t v W' := by
  unfold tailV at *
  cases hl : tab.lookup t with
  | none => trivial
  | some r =>
    rw [hl] at h
    cases r with
    | val x => exact h
    | row cs e n =>
      obtain ⟨b, h1, h2⟩ := h
      exact ⟨b, h1, below_blk h2 hb⟩
    | own cs e base =>
      obtain ⟨b, h1, h0, h2⟩ := h
      exact ⟨b, h1, h0, below_blk h2 hb⟩
    | that p =>
      obtain ⟨W0, h1, h2⟩ := h
      exact ⟨W0, h1, h2.trans (hb.mono h2.size)⟩
end Go.Proofs.Ytaganococolodaa
