/-
  A region that draws its order and ends in operations that stand in one forced order behind all others: each of the first ones shown alone, whatever order; then the last ones walked one by one.
-/
import Derived.Test.YtaganococolodaaRelG
import Derived.Test.YtaganococolodaaRelPuts
namespace Go.Proofs.Ytaganococolodaa
open Go.RowKit

/-- The first N operations have slots of their own, each waits for those whose slots it looks at; the N-th waits for all of them; each further one waits for the one ahead of it. -/
def seqB (N : Nat) (l : List Oper) : Bool :=
  decide (N < l.length) &&
  ((List.range N).all fun i => match l[i]? with
    | none => false
    | some o => o.dst.isSome && (o.after.toList.all fun e => !Region.binds .any e || decide (e.on < i)) &&
        ((List.range N).all fun j => match l[j]? with
          | none => false
          | some o' => (j == i || o'.dst != o.dst) && (match o'.dst with
            | none => false
            | some t => !((o.looksAt l.toArray).contains t) || o.after.toList.any fun e => Region.binds .any e && e.on == j))) &&
  ((List.range N).all fun j => (List.range (N + 1)).any fun k => decide (j < k) && match l[k]? with
    | none => false
    | some o => o.after.toList.any fun e => Region.binds .any e && e.on == j) &&
  ((List.range l.length).all fun i => decide (i < N) || match l[i]? with
    | none => false
    | some o => (o.after.toList.all fun e => !Region.binds .any e || decide (e.on < i)) && (decide (i = N) || o.after.toList.any fun e => Region.binds .any e && e.on == i - 1))

theorem seqB_spec {N : Nat} {l : List Oper} (h : seqB N l = true) : N < l.length ∧
    (∀ (i : Nat) (o : Oper), i < N → l[i]? = some o → (∃ t, o.dst = some t) ∧ (∀ e ∈ o.after, Region.binds .any e = true → e.on < i) ∧
      ∀ (j : Nat) (o' : Oper) (t : Nat), j < N → l[j]? = some o' → o'.dst = some t → (j ≠ i → o.dst ≠ some t) ∧ ((o.looksAt l.toArray).contains t = true → ∃ e ∈ o.after, Region.binds .any e = true ∧ e.on = j)) ∧
    (∀ j, j < N → ∃ (k : Nat) (o : Oper), j < k ∧ k ≤ N ∧ l[k]? = some o ∧ ∃ e ∈ o.after, Region.binds .any e = true ∧ e.on = j) ∧
    (∀ (i : Nat) (o : Oper), N ≤ i → l[i]? = some o → (∀ e ∈ o.after, Region.binds .any e = true → e.on < i) ∧ (i ≠ N → ∃ e ∈ o.after, Region.binds .any e = true ∧ e.on = i - 1)) := by
  unfold seqB at h
  simp only [Bool.and_eq_true] at h
  obtain ⟨⟨⟨h0, h1⟩, h2⟩, h3⟩ := h
  have h0' : N < l.length := by simpa using h0
  refine ⟨h0', fun i o hi ho => ?_, fun j hj => ?_, fun i o hi ho => ?_⟩
  · have hx := List.all_eq_true.1 h1 i (List.mem_range.2 hi)
    simp only [ho, Bool.and_eq_true] at hx
    obtain ⟨⟨hd, hlt⟩, hall⟩ := hx
    refine ⟨Option.isSome_iff_exists.1 hd, fun e he hb => by simpa [hb] using List.all_eq_true.1 hlt e (Array.mem_toList_iff.2 he), fun j o' t hjl hj ht => ?_⟩
    have hy := List.all_eq_true.1 hall j (List.mem_range.2 hjl)
    simp only [hj, ht, Bool.and_eq_true, Bool.or_eq_true, beq_iff_eq, bne_iff_ne, ne_eq, Bool.not_eq_true', List.any_eq_true] at hy
    refine ⟨fun hne he => ?_, fun hc => ?_⟩
    · rcases hy.1 with h4 | h4
      · exact hne h4
      · exact h4 he.symm
    · rcases hy.2 with h4 | h4
      · rw [hc] at h4; cases h4
      · obtain ⟨e, he, hb, hon⟩ := h4
        exact ⟨e, Array.mem_toList_iff.1 he, hb, hon⟩
  · obtain ⟨k, hkr, hk⟩ := List.any_eq_true.1 (List.all_eq_true.1 h2 j (List.mem_range.2 hj))
    simp only [Bool.and_eq_true, decide_eq_true_eq] at hk
    obtain ⟨hjk, hk⟩ := hk
    have hkN := List.mem_range.1 hkr
    cases ho : l[k]? with
    | none => rw [ho] at hk; cases hk
    | some o =>
      rw [ho] at hk
      obtain ⟨e, he, hb⟩ := List.any_eq_true.1 hk
      simp only [Bool.and_eq_true, beq_iff_eq] at hb
      exact ⟨k, o, hjk, by omega, ho, e, Array.mem_toList_iff.1 he, hb.1, hb.2⟩
  · have hil := (List.getElem?_eq_some_iff.1 ho).1
    have hx := List.all_eq_true.1 h3 i (List.mem_range.2 hil)
    have hn : decide (i < N) = false := by simp; omega
    rw [hn, ho, Bool.false_or] at hx
    simp only [Bool.and_eq_true, Bool.or_eq_true, decide_eq_true_eq] at hx
    refine ⟨fun e he hb => by simpa [hb] using List.all_eq_true.1 hx.1 e (Array.mem_toList_iff.2 he), fun hne => ?_⟩
    rcases hx.2 with h4 | h4
    · exact absurd h4 hne
    · obtain ⟨e, he, hb⟩ := List.any_eq_true.1 h4
      simp only [Bool.and_eq_true, beq_iff_eq] at hb
      exact ⟨e, Array.mem_toList_iff.1 he, hb.1, hb.2⟩

/-- What is asked of one of the first operations. -/
def seqStep (P : Program) (l : List Oper) (N : Nat) (V : Nat → Value → World → Prop) (Q : Exit → Act → World → Prop) (w : World) (a0 : Act) (o : Oper) : Prop :=
  ∀ (f : Nat → Value) (W : World), Below w.heap.size w W → (∀ t, relWrites (l.take N) t = false → f t = a0.tmps.getD t undef) → (∀ t, relWrites (l.take N) t = true → (o.looksAt l.toArray).contains t = true → V t (f t) W) →
    ∀ K : Act → World → Prop, (∀ v W', Below W.heap.size W W' → V (o.dst.getD 0) v W' → K (({ tmps := ((List.range a0.tmps.size).map f).toArray, defers := a0.defers } : Act).put o.dst v) W') →
      (Region.wanted o (yielded l.toArray ((List.range a0.tmps.size).map f).toArray) = true ∧ wpList P #[bare o] (relQ K Q) [bare o] { tmps := ((List.range a0.tmps.size).map f).toArray, defers := a0.defers } W) ∨
      (Region.wanted o (yielded l.toArray ((List.range a0.tmps.size).map f).toArray) = false ∧ V (o.dst.getD 0) undef W)
def seqAll (P : Program) (l : List Oper) (N : Nat) (V : Nat → Value → World → Prop) (Q : Exit → Act → World → Prop) (w : World) (a0 : Act) : List Oper → Prop
  | [] => True
  | o :: r => seqStep P l N V Q w a0 o ∧ seqAll P l N V Q w a0 r
theorem seqAll_mem {P : Program} {l : List Oper} {N : Nat} {V : Nat → Value → World → Prop} {Q : Exit → Act → World → Prop} {w : World} {a0 : Act} {r : List Oper} (h : seqAll P l N V Q w a0 r) (o : Oper) (ho : o ∈ r) : seqStep P l N V Q w a0 o := by
  induction r with
  | nil => cases ho
  | cons x r ih =>
    unfold seqAll at h
    rcases List.mem_cons.1 ho with rfl | ho
    · exact h.1
    · exact ih h.2 ho

/-- Behind the first ones: one operation is ready, and then the next. -/
theorem seq_rest {P : Program} {N : Nat} {l : List Oper} {Q : Exit → Act → World → Prop} (hT : ∀ (i : Nat) (o : Oper), N ≤ i → l[i]? = some o → (∀ e ∈ o.after, Region.binds .any e = true → e.on < i) ∧ (i ≠ N → ∃ e ∈ o.after, Region.binds .any e = true ∧ e.on = i - 1)) :
    ∀ (d k fuel : Nat) (listed : Array Bool) (a : Act) (W : World), l.length - k = d → N ≤ k → k ≤ l.length → d ≤ fuel → listed.size = l.length → (∀ j, j < l.length → listed.getD j false = decide (j < k)) → wpList P l.toArray Q (l.drop k) a W → wpAny P .any l.toArray Q fuel listed a W := by
  intro d
  induction d with
  | zero =>
    intro k fuel listed a W hd hNk hkl hf hsz hls hw
    obtain rfl : k = l.length := by omega
    rw [List.drop_length] at hw
    have hr : Region.ready .any l.toArray listed = [] := by
      rw [List.eq_nil_iff_forall_not_mem]
      intro i hi
      obtain ⟨h0, o, ho, _⟩ := mem_ready.1 hi
      have hil : i < l.length := (List.getElem?_eq_some_iff.1 (by simpa using ho)).1
      have := hls i hil
      rw [getD_ft (by omega), h0] at this
      simp [hil] at this
    cases fuel with
    | zero => exact ⟨hr, hw⟩
    | succ fuel => exact ⟨fun _ => hw, fun i hi => by rw [hr] at hi; cases hi⟩
  | succ d ih =>
    intro k fuel listed a W hd hNk hkl hf hsz hls hw
    have hk : k < l.length := by omega
    obtain ⟨fuel, rfl⟩ : ∃ n, fuel = n + 1 := ⟨fuel - 1, by omega⟩
    have ho : l[k]? = some l[k] := List.getElem?_eq_getElem hk
    have hfk : listed.getD k true = false := by
      have := hls k hk
      rw [getD_ft (by omega)] at this
      simpa using this
    refine ⟨fun hr => ?_, fun i hi => ?_⟩
    · exfalso
      have hm : k ∈ Region.ready .any l.toArray listed := by
        rw [mem_ready]
        refine ⟨hfk, l[k], by simp, fun e he hb => ?_⟩
        have hlt := (hT k _ hNk ho).1 e he hb
        rw [hls e.on (by omega)]
        simpa using hlt
      rw [hr] at hm
      cases hm
    · obtain ⟨h0, o, hoi, hdep⟩ := mem_ready.1 hi
      have hol : l[i]? = some o := by simpa using hoi
      have hil := (List.getElem?_eq_some_iff.1 hol).1
      have hki : ¬ i < k := fun h => by
        have := hls i hil
        rw [getD_ft (by omega), h0] at this
        simp [h] at this
      obtain rfl : i = k := by
        rcases Nat.lt_or_ge k i with h | h
        · exfalso
          obtain ⟨e, he, hb, hon⟩ := (hT i o (by omega) hol).2 (by omega)
          have h1 := hdep e he hb
          rw [hon, hls (i - 1) (by omega)] at h1
          have := of_decide_eq_true h1
          omega
        · omega
      rw [List.drop_eq_getElem_cons hk] at hw
      obtain rfl : o = l[i] := by rw [ho] at hol; exact (Option.some.inj hol).symm
      have hnext : ∀ (a' : Act) (W' : World), wpList P l.toArray Q (l.drop (i + 1)) a' W' → wpAny P .any l.toArray Q fuel (listed.setIfInBounds i true) a' W' := fun a' W' h => by
        refine ih (i + 1) fuel _ a' W' (by omega) (by omega) (by omega) (by omega) (by simpa using hsz) (fun j hj => ?_) h
        by_cases hji : j = i
        · subst hji
          simp [hsz, hj]
        · rw [getD_set_ne false (Ne.symm hji), hls j hj]
          congr 1
          exact propext ⟨fun h => by omega, fun h => by omega⟩
      unfold wpOp
      simp only [hoi]
      unfold wpList at hw
      split
      · rename_i hwt
        rw [if_pos hwt] at hw
        rcases hw with hs | hs
        · left
          unfold Oper.wp at *
          generalize (execOp a.eval l[i]).run P W = r at *
          cases r with
          | ok n w' =>
            cases n <;> simp only [Oper.upon] at hs ⊢ <;> first | exact hs | exact hnext _ _ hs | exact Calls.mono hs (fun e w'' he => by cases e <;> first | exact hnext _ _ he | exact he) | exact Rows.mono hs (fun _ _ he => hnext _ _ he)
          | halt x w' => cases x <;> simp only [Oper.upon] at hs ⊢ <;> exact hs
        · exact .inr hs
      · rename_i hwt
        rw [if_neg hwt] at hw
        exact hnext _ _ hw

/-- How it stands among the first ones. -/
structure SeqInv (l : List Oper) (N : Nat) (V : Nat → Value → World → Prop) (w : World) (a0 : Act) (listed : Array Bool) (a : Act) (W : World) : Prop where
  bel : Below w.heap.size w W
  dfr : a.defers = a0.defers
  size : a.tmps.size = a0.tmps.size
  old : ∀ t, relWrites (l.take N) t = false → a.tmps.getD t undef = a0.tmps.getD t undef
  new : ∀ (j : Nat) (o : Oper) (t : Nat), j < N → l[j]? = some o → o.dst = some t → listed.getD j false = true → V t (a.tmps.getD t undef) W
  rest : ∀ j, N ≤ j → j < l.length → listed.getD j false = false
  down : ∀ (j : Nat) (o : Oper), l[j]? = some o → listed.getD j false = true → ∀ e ∈ o.after, Region.binds .any e = true → listed.getD e.on false = true

theorem take_writes {l : List Oper} {N t : Nat} (h : relWrites (l.take N) t = true) : ∃ (j : Nat) (o : Oper), j < N ∧ l[j]? = some o ∧ o.dst = some t := by
  obtain ⟨j, o, hj, hd⟩ := writes_mem h
  have hjl := (List.getElem?_eq_some_iff.1 hj).1
  rw [List.length_take] at hjl
  rw [List.getElem?_take, if_pos (by omega)] at hj
  exact ⟨j, o, by omega, hj, hd⟩
theorem writes_take {l : List Oper} {N t j : Nat} {o : Oper} (hN : j < N) (hj : l[j]? = some o) (hd : o.dst = some t) : relWrites (l.take N) t = true :=
  mem_writes (j := j) (by rw [List.getElem?_take, if_pos hN]; exact hj) hd

theorem seq_any {P : Program} {l : List Oper} {N : Nat} {V : Nat → Value → World → Prop} {Q : Exit → Act → World → Prop} {w : World} {a0 : Act} (hB : seqB N l = true)
    (hN : ∀ t, relWrites (l.take N) t = true → t < a0.tmps.size)
    (hV : ∀ t v W W', V t v W → Below W.heap.size W W' → V t v W') (hop : seqAll P l N V Q w a0 (l.take N))
    (hend : ∀ (f : Nat → Value) (W : World), Below w.heap.size w W → (∀ t, relWrites (l.take N) t = false → f t = a0.tmps.getD t undef) → (∀ t, relWrites (l.take N) t = true → V t (f t) W) →
      wpList P l.toArray Q (l.drop N) { tmps := ((List.range a0.tmps.size).map f).toArray, defers := a0.defers } W) : ∀ (fuel : Nat) (listed : Array Bool) (a : Act) (W : World),
    listed.size = l.length → listed.toList.countP (fun b => !b) ≤ fuel → SeqInv l N V w a0 listed a W → wpAny P .any l.toArray Q fuel listed a W := by
  obtain ⟨hlen, hS, hcov, hT⟩ := seqB_spec hB
  intro fuel
  induction fuel with
  | zero =>
    intro listed a W hsz hc hI
    exfalso
    have hls : N < listed.size := by omega
    have h0 : listed[N] = false := by simpa [Array.getD_eq_getD_getElem?, hls] using hI.rest N (Nat.le_refl _) hlen
    have := List.countP_eq_zero.1 (Nat.le_zero.1 hc) listed[N] (by simp)
    rw [h0] at this
    exact this rfl
  | succ fuel ih =>
    intro listed a W hsz hc hI
    by_cases hall : ∀ j, j < N → listed.getD j false = true
    · -- all of the first ones are done
      have hfe := hend (fun t => a.tmps.getD t undef) W hI.bel hI.old (fun t ht => by
        obtain ⟨j, o, hjN, hj, hd⟩ := take_writes ht
        exact hI.new j o t hjN hj hd (hall j hjN))
      rw [← rel_frame a a0 hI.dfr hI.size] at hfe
      have hls : ∀ j, j < l.length → listed.getD j false = decide (j < N) := fun j hj => by
        by_cases hjN : j < N
        · rw [hall j hjN]; simp [hjN]
        · rw [hI.rest j (by omega) hj]; simp [hjN]
      refine seq_rest hT (l.length - N) N (fuel + 1) listed a W rfl (Nat.le_refl _) (Nat.le_of_lt hlen) ?_ hsz hls hfe
      refine Nat.le_trans ?_ hc
      have hcount : listed.toList.drop N = List.replicate (l.length - N) false := by
        apply List.ext_getElem
        · simp [hsz]
        · intro i h1 h2
          simp only [List.length_drop, Array.length_toList] at h1
          rw [List.getElem_drop, List.getElem_replicate]
          have := hI.rest (N + i) (by omega) (by omega)
          simpa [Array.getD_eq_getD_getElem?, show N + i < listed.size by omega] using this
      calc l.length - N = (listed.toList.drop N).countP (fun b => !b) := by rw [hcount]; simp [List.countP_replicate]
        _ ≤ listed.toList.countP (fun b => !b) := (List.drop_sublist N listed.toList).countP_le
    · refine ⟨fun hr => ?_, fun i hi => ?_⟩
      · exfalso
        refine hall ?_
        intro j
        induction j using Nat.strongRecOn with
        | _ j ihj =>
          intro hj
          have ho : l[j]? = some l[j] := List.getElem?_eq_getElem (by omega)
          cases hq : listed.getD j true with
          | true => rw [getD_ft (by omega)]; exact hq
          | false =>
            exfalso
            have hm : j ∈ Region.ready .any l.toArray listed := by
              rw [mem_ready]
              refine ⟨hq, l[j], by simp, fun e he hb => ?_⟩
              have hlte := (hS j _ hj ho).2.1 e he hb
              exact ihj e.on hlte (by omega)
            rw [hr] at hm
            cases hm
      · obtain ⟨h0, o, ho, hdep⟩ := mem_ready.1 hi
        have hol : l[i]? = some o := by simpa using ho
        have hil := (List.getElem?_eq_some_iff.1 hol).1
        have his : i < listed.size := by omega
        have h0' : listed[i] = false := by simpa [Array.getD_eq_getD_getElem?, his] using h0
        have hiN : i < N := by
          rcases Nat.lt_or_ge i N with h | h
          · exact h
          · exfalso
            by_cases hiN : i = N
            · subst hiN
              refine hall ?_
              have hcl : ∀ (n j : Nat), i - j ≤ n → j < i → listed.getD j false = true := by
                intro n
                induction n with
                | zero => intro j h1 h2; omega
                | succ n ihn =>
                  intro j h1 h2
                  obtain ⟨k, o', hjk, hkN, hk, e, he, hb, hon⟩ := hcov j h2
                  rw [← hon]
                  by_cases hk1 : k < i
                  · exact hI.down k o' hk (ihn k (by omega) hk1) e he hb
                  · obtain rfl : k = i := by omega
                    obtain rfl : o = o' := by rw [hol] at hk; exact Option.some.inj hk
                    exact hdep e he hb
              exact fun j hj => hcl _ j (Nat.le_refl _) hj
            · obtain ⟨e, he, hb, hon⟩ := (hT i o h hol).2 hiN
              have h1 := hdep e he hb
              rw [hon, hI.rest (i - 1) (by omega) (by omega)] at h1
              cases h1
        obtain ⟨⟨d, hd⟩, _, hdst⟩ := hS i o hiN hol
        have hK0 : ∀ v W', Below W.heap.size W W' → V (o.dst.getD 0) v W' → wpAny P .any l.toArray Q fuel (listed.setIfInBounds i true) (a.put o.dst v) W' := by
          intro v W' hb hv
          rw [hd] at hv ⊢
          have hda : d < a.tmps.size := by rw [hI.size]; exact hN d (writes_take hiN hol hd)
          refine ih _ _ _ (by simpa using hsz) ?_ ⟨hI.bel.trans (hb.mono hI.bel.size), hI.dfr, by simpa [Act.put] using hI.size, fun t ht => ?_, fun j o' t hjN hj hd' hl => ?_, fun j h1 h2 => ?_, fun j o' hj hl e he hbi => ?_⟩
          · rw [Array.toList_setIfInBounds, List.countP_set (by simpa using his)]
            simp only [Array.getElem_toList, h0', Bool.not_false, Bool.not_true, if_true, Bool.false_eq_true, if_false]
            have := List.countP_pos_iff (p := fun b => !b) (l := listed.toList) |>.2 ⟨listed[i], by simp, by rw [h0']; rfl⟩
            omega
          · have htd : t ≠ d := by rintro rfl; rw [writes_take hiN hol hd] at ht; cases ht
            rw [getD_put a d v t htd]
            exact hI.old t ht
          · by_cases hji : j = i
            · subst hji
              obtain rfl : o' = o := by rw [hol] at hj; exact (Option.some.inj hj).symm
              obtain rfl : t = d := by rw [hd] at hd'; exact (Option.some.inj hd').symm
              rw [getD_put_self a t v hda]
              exact hv
            · have htd : t ≠ d := by
                rintro rfl
                exact (hdst j o' t hjN hj hd').1 hji hd
              rw [getD_put a d v t htd]
              rw [getD_set_ne false (Ne.symm hji)] at hl
              exact hV t _ W W' (hI.new j o' t hjN hj hd' hl) hb
          · rw [getD_set_ne false (show i ≠ j by omega)]
            exact hI.rest j h1 h2
          · by_cases hei : e.on = i
            · rw [hei]; simp [his]
            · rw [getD_set_ne false (Ne.symm hei)]
              by_cases hji : j = i
              · subst hji
                obtain rfl : o' = o := by rw [hol] at hj; exact (Option.some.inj hj).symm
                exact hdep e he hbi
              · rw [getD_set_ne false (Ne.symm hji)] at hl
                exact hI.down j o' hj hl e he hbi
        have hstep := seqAll_mem hop o (List.mem_of_getElem? (by rw [List.getElem?_take, if_pos hiN]; exact hol)) (fun t => a.tmps.getD t undef) W hI.bel hI.old (fun t ht hl => by
          obtain ⟨j, o', hjN, hj, hd'⟩ := take_writes ht
          obtain ⟨e, he, hb, hon⟩ := (hdst j o' t hjN hj hd').2 hl
          refine hI.new j o' t hjN hj hd' ?_
          rw [← hon]
          exact hdep e he hb) (wpAny P .any l.toArray Q fuel (listed.setIfInBounds i true)) (by
          intro v W' hb hv
          rw [← rel_frame a a0 hI.dfr hI.size]
          exact hK0 v W' hb hv)
        rw [← rel_frame a a0 hI.dfr hI.size] at hstep
        have htm : ((List.range a0.tmps.size).map fun t => a.tmps.getD t undef).toArray = a.tmps := by
          have := rel_frame a a0 hI.dfr hI.size
          rw [this]
          simp
          intro t ht
          simp [ht]
        unfold wpOp
        simp only [ho]
        exact stepG_end (by rw [htm] at hstep; exact hstep) (fun hv => hK0 undef W (Below.refl _ _) hv)

/-- THE LAW: the first N in whatever order, then the others one by one. -/
theorem wp_region_seq {P : Program} {id : Nat} {Q : Exit → Act → World → Prop} {a : Act} {w : World} {l : List Oper} (N : Nat) (hm : P.follows .mixedOrders = true) (hB : seqB N l = true)
    (hN : ∀ t, relWrites (l.take N) t = true → t < a.tmps.size) (V : Nat → Value → World → Prop)
    (hV : ∀ t v W W', V t v W → Below W.heap.size W W' → V t v W') (hop : seqAll P l N V Q w a (l.take N))
    (hend : ∀ (f : Nat → Value) (W : World), Below w.heap.size w W → (∀ t, relWrites (l.take N) t = false → f t = a.tmps.getD t undef) → (∀ t, relWrites (l.take N) t = true → V t (f t) W) →
      ∀ a', a' = ({ tmps := ((List.range a.tmps.size).map f).toArray, defers := a.defers } : Act) → wpList P l.toArray Q (l.drop N) a' W) : (Code.region id l.toArray true).wp P Q a w := by
  refine wp_region_any hm ?_
  refine seq_any (w := w) (a0 := a) hB hN hV hop (fun f W h1 h2 h3 => hend f W h1 h2 h3 _ rfl) _ _ a _ (by simp) ?_ ⟨(Below.refl _ w).drew, rfl, rfl, fun _ _ => rfl, fun j o t _ hj hd hl => ?_, fun j h1 h2 => ?_, fun j o hj hl => ?_⟩
  · rw [show l.toArray.size = l.length by simp]
    exact Nat.le_trans (List.countP_le_length) (by simp)
  · simp [Array.getD_eq_getD_getElem?, Array.getElem?_replicate] at hl
    split at hl <;> simp at hl
  · simp [Array.getD_eq_getD_getElem?, Array.getElem?_replicate]
    split <;> simp
  · simp [Array.getD_eq_getD_getElem?, Array.getElem?_replicate] at hl
    split at hl <;> simp at hl
end Go.Proofs.Ytaganococolodaa
