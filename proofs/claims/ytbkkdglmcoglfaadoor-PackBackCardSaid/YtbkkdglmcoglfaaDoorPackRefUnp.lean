/-
  The document's Unpack.
-/
import Derived.Test.YtbkkdglmcoglfaaDoorPackRowLaw
namespace Go.Proofs.YtbkkdglmcoglfaaDoor
open Go.RowKit

/-- What Unpack answers. -/
def UnpPost (T : TypeId) (w : World) (R : List (NodeT × Int) × Int) (e : Ending) (w' : World) : Prop :=
  ∃ v1 v2, e = .returned (.tuple #[v1, v2, .int .i64 R.2]) ∧ Row w' w.heap.size T 5 v1 R.1.length (nodesV R.1) ∧ Row w' w.heap.size 3 1 v2 R.1.length (intsV (placesV R.1)) ∧ Below w.heap.size w w'
/-- How it stands at a place. -/
structure UnpSt (T : TypeId) (s : ByteArray) (w : World) (R : List (NodeT × Int) × Int) (s5 s6 : Value) (acc : List (NodeT × Int)) (at' : Int) (f : Nat) (wr : World) : Prop where
  r1 : Row wr w.heap.size T 5 s5 acc.length (nodesV acc)
  r2 : Row wr w.heap.size 3 1 s6 acc.length (intsV (placesV acc))
  ap : ∀ b, s5.ownBlock = some b → s6.ownBlock ≠ some b
  bel : Below w.heap.size w wr
  pos : 0 ≤ at' ∧ (acc.length : Int) * 17 ≤ at' ∧ at' ≤ s.size
  fu : s.size ≤ at'.toNat + f
  res : R = runU s (f + 1) at' acc
theorem UnpSt.start (T : TypeId) (s : ByteArray) (w wr : World) (hb : Below w.heap.size w wr) : UnpSt T s w (unpackR s) (.slice none 0 0) (.slice none 0 0) [] 0 s.size wr :=
  ⟨Row.nil _ _ _ _, Row.nil _ _ _ _, fun b h => by simp [Value.ownBlock] at h, hb, ⟨by omega, by simp, by omega⟩, by simp, rfl⟩
theorem UnpSt.stop {T : TypeId} {s : ByteArray} {w wr w' : World} {R : List (NodeT × Int) × Int} {s5 s6 : Value} {acc : List (NodeT × Int)} {at' : Int} {f : Nat} (h : UnpSt T s w R s5 s6 acc at' f wr) {x : NodeT} {m : Int}
    (hd : decV s at' = .tuple #[x.val, .int .i64 m, .int .i64 3]) (hb : Below wr.heap.size wr w') : UnpPost T w R (.returned (.tuple #[s5, s6, .int .i64 0])) w' := by
  have hr := runU_stop (f := f) (acc := acc) hd (by decide)
  rw [← h.res, if_pos rfl] at hr
  subst hr
  exact ⟨_, _, rfl, h.r1.below hb, h.r2.below hb, h.bel.trans (hb.mono h.bel.size)⟩
theorem UnpSt.bad {T : TypeId} {s : ByteArray} {w wr w' : World} {R : List (NodeT × Int) × Int} {s5 s6 : Value} {acc : List (NodeT × Int)} {at' : Int} {f : Nat} (h : UnpSt T s w R s5 s6 acc at' f wr) {x : NodeT} {m e : Int}
    (hd : decV s at' = .tuple #[x.val, .int .i64 m, .int .i64 e]) (h0 : e ≠ 0) (h3 : e ≠ 3) (hb : Below wr.heap.size wr w') : UnpPost T w R (.returned (.tuple #[.slice none 0 0, .slice none 0 0, .int .i64 e])) w' := by
  have hr := runU_stop (f := f) (acc := acc) hd h0
  rw [← h.res, if_neg h3] at hr
  subst hr
  exact ⟨_, _, rfl, Row.nil _ _ _ _, Row.nil _ _ _ _, h.bel.trans (hb.mono h.bel.size)⟩
theorem placesV_snoc (acc : List (NodeT × Int)) (x : NodeT) (p : Int) : intsV (placesV (acc ++ [(x, p)])) = intsV (placesV acc) ++ [.int .i64 p] := by simp [placesV, intsV]
theorem nodesV_snoc (acc : List (NodeT × Int)) (x : NodeT) (p : Int) : nodesV (acc ++ [(x, p)]) = nodesV acc ++ x.cells := by simp [nodesV]

theorem UnpSt.next {T : TypeId} {s : ByteArray} {w wr w' : World} {R : List (NodeT × Int) × Int} {s5 s6 v1 v2 : Value} {acc : List (NodeT × Int)} {p : Int} {f : Nat} (h : UnpSt T s w R s5 s6 acc p f wr) {x : NodeT} {m : Int}
    (hd : decV s p = .tuple #[x.val, .int .i64 m, .int .i64 0]) (r1 : Row w' w.heap.size T 5 v1 (acc.length + 1) (nodesV acc ++ x.cells)) (r2 : Row w' w.heap.size 3 1 v2 (acc.length + 1) (intsV (placesV acc) ++ [.int .i64 p]))
    (ap : ∀ b, v1.ownBlock = some b → v2.ownBlock ≠ some b) (bel : Below w.heap.size w w') : UnpSt T s w R v1 v2 (acc ++ [(x, p)]) m (f - 1) w' := by
  obtain ⟨h1, h2, h3⟩ := decV_next hd
  have hp := h.pos
  have hf := h.fu
  refine ⟨?_, ?_, ap, bel, ?_, by omega, ?_⟩
  · rw [nodesV_snoc, List.length_append]; exact r1
  · rw [placesV_snoc, List.length_append]; exact r2
  · rw [List.length_append]
    simp only [List.length_cons, List.length_nil]
    omega
  · rw [h.res, runU_go hd, show f - 1 + 1 = f by omega]
/-- Behind an append to the one list the other stays. -/
theorem apart_grown {s5 s6 v1 : Value} {W : World} (ap : ∀ b, s5.ownBlock = some b → s6.ownBlock ≠ some b) (h6 : ∀ b, s6.ownBlock = some b → b < W.heap.size) (hat : v1.ownBlock = s5.ownBlock ∨ ∃ b, v1.ownBlock = some b ∧ W.heap.size ≤ b) :
    ∀ b, v1.ownBlock = some b → s6.ownBlock ≠ some b := by
  intro b hb h
  rcases hat with h1 | ⟨c, h1, h2⟩
  · exact ap b (h1.symm.trans hb) h
  · have := h6 b h
    rw [h1] at hb
    cases hb
    omega
theorem ne_of_ap {a b : Value} (h : ∀ k, a.ownBlock = some k → b.ownBlock ≠ some k) : a.ownBlock = none ∨ a.ownBlock ≠ b.ownBlock := by
  cases hk : a.ownBlock with
  | none => exact .inl rfl
  | some k => exact .inr fun e => h k hk e.symm

theorem infoNode12 : (Tryd.prog.info? 32).map (fun i => (i.zero, i.size, i.bytes)) = some (some (nodeV 0 false false ⟨#[]⟩ ⟨#[]⟩), 5, 48) := by kernel_rfl
theorem infoNode : (Tryd.prog.info? 33).map (fun i => (i.zero, i.size, i.bytes)) = some (some (nodeV 0 false false ⟨#[]⟩ ⟨#[]⟩), 5, 48) := by kernel_rfl
section
variable {P : Program} {ops : Array Oper} {rest : List Oper} {o : Oper} {a : Act} {Q : Exit → Act → World → Prop}
/-- append of one element whose block's number is spelled otherwise. -/
theorem wpList_append_one_at {W w0 : World} (base : Nat) (hgd : o.guard = none) (s x : Operand) (t e : TypeId) (size bytes : Nat) (z : Value)
    (ho : o.op = .call { callee := .builtin .append, args := #[s, x], argTypes := #[t, t] })
    (ht : P.underlying t = some (.slice e)) (hinfo : (P.info? e).map (fun i => (i.zero, i.size, i.bytes)) = some (some z, size, bytes)) (hzs : z.cells.size = size) (hsz : 0 < size)
    (v : Value) (n : Nat) (xs : List Value) (ys : Array Value) (hys : ys.size = size) (hs : a.eval s = v) (g : Nat) (hx : a.eval x = .slice (some ⟨g, 0, none⟩) 1 1) (hg : g = W.heap.size)
    (HR : Row W base e size v n xs) (h1 : ∀ u ∈ ys.toList, u.oneCell' = true) (HB : Below base w0 W) (hbase : base ≤ W.heap.size) (hl : (n + 1) * bytes ≤ 140737488355328) (hm : n + 1 ≤ maxLen)
    (h : ∀ v1 w1, Row w1 base e size v1 (n + 1) (xs ++ ys.toList) → Below base w0 w1 → W.grownBy w1 v.ownBlock → (v1.ownBlock = v.ownBlock ∨ ∃ b, v1.ownBlock = some b ∧ W.heap.size ≤ b) → wpList P ops Q rest (a.put o.dst v1) w1) :
    wpList P ops Q (o :: rest) a (W.alloc (.cells ys e)) := by
  subst hg
  exact wpList_append_one (w0 := w0) base hgd s x t e size bytes z ho ht hinfo hzs hsz v n xs ys hys hs hx HR h1 HB hbase hl hm h
end
theorem unp_first {T : TypeId} {s : ByteArray} {w wr wd w1 : World} {R : List (NodeT × Int) × Int} {s5 s6 v1 : Value} {acc : List (NodeT × Int)} {p : Int} {f : Nat} {x : NodeT} (h : UnpSt T s w R s5 s6 acc p f wr) (hb2 : Below wr.heap.size wr wd) (X : Obj)
    (hr1 : Row w1 w.heap.size T 5 v1 (acc.length + 1) (nodesV acc ++ (nodeC x.q x.g x.l x.k x.v).toList)) (hb1 : Below w.heap.size w w1) (hg1 : (wd.alloc X).grownBy w1 s5.ownBlock) (hat : v1.ownBlock = s5.ownBlock ∨ ∃ b, v1.ownBlock = some b ∧ (wd.alloc X).heap.size ≤ b) :
    Row w1 w.heap.size T 5 v1 (acc.length + 1) (nodesV acc ++ x.cells) ∧ Below w.heap.size w w1 ∧ Row w1 w.heap.size 3 1 s6 acc.length (intsV (placesV acc)) ∧ (∀ b, v1.ownBlock = some b → s6.ownBlock ≠ some b) := by
  have hr6 := (h.r2.below hb2).alloc X
  refine ⟨hr1, hb1, hr6.kept hg1 ?_, apart_grown h.ap (fun b hb => (hr6.blk b hb).2.1) hat⟩
  cases hk : s6.ownBlock with
  | none => exact .inl rfl
  | some k => exact .inr fun e => h.ap k e.symm hk
theorem unp_second {T : TypeId} {s : ByteArray} {w wr w1 w2 : World} {R : List (NodeT × Int) × Int} {s5 s6 v1 v2 : Value} {acc : List (NodeT × Int)} {p m : Int} {f : Nat} {x : NodeT} (h : UnpSt T s w R s5 s6 acc p f wr) (hd : decV s p = .tuple #[x.val, .int .i64 m, .int .i64 0])
    (h1 : Row w1 w.heap.size T 5 v1 (acc.length + 1) (nodesV acc ++ x.cells) ∧ Below w.heap.size w w1 ∧ Row w1 w.heap.size 3 1 s6 acc.length (intsV (placesV acc)) ∧ (∀ b, v1.ownBlock = some b → s6.ownBlock ≠ some b))
    (hr2 : Row w2 w.heap.size 3 1 v2 (acc.length + 1) (intsV (placesV acc) ++ (#[.int .i64 p] : Array Value).toList)) (hb2 : Below w.heap.size w w2) (hg2 : w1.grownBy w2 s6.ownBlock) (hat : v2.ownBlock = s6.ownBlock ∨ ∃ b, v2.ownBlock = some b ∧ w1.heap.size ≤ b) :
    UnpSt T s w R v1 v2 (acc ++ [(x, p)]) m (f - 1) w2 := by
  refine h.next hd (h1.1.kept hg2 (ne_of_ap h1.2.2.2)) hr2 (fun b hb hb' => ?_) hb2
  rcases hat with e | ⟨c, e, hc⟩
  · exact h1.2.2.2 b hb (e.symm.trans hb')
  · have := (h1.1.blk b hb).2.1
    rw [e] at hb'
    cases hb'
    omega
set_option maxHeartbeats 4000000 in
theorem ref_unpack13 (s : ByteArray) (w : World) (hs : s.size ≤ 1048576) :
    Calls Tryd.prog 7 #[.string s] w (UnpPost 32 w (unpackR s)) := by
  obtain ⟨R, hR⟩ : ∃ R, R = unpackR s := ⟨_, rfl⟩
  have h0 := UnpSt.start 32 s w w (Below.refl _ _)
  rw [← hR] at h0 ⊢
  have HS := Aside.mk hs
  clear hR hs
  go_enter Tryd.func7, Tryd.ntmps7
  go_wp2
  go_loopw [5, 6, 7] (fun s5 s6 s7 wr => ∃ (f : Nat) (acc : List (NodeT × Int)) (p : Int), s7 = .int .i64 p ∧ UnpSt 32 s w R s5 s6 acc p f wr) (fun _ _ s7 _ => s.size - (intOf s7).toNat)
  case atStart => exact ⟨_, _, _, rfl, h0⟩
  case round =>
    obtain ⟨f, acc, p, rfl, hU⟩ := hrel
    clear h0
    obtain ⟨⟨x, m, er⟩, hd⟩ := decV_form2 s p
    simp only at hd
    have hdec : ∀ W, Calls Tryd.prog 13 #[.string s, .int .i64 p] W fun e w' => e = .returned (.tuple #[x.val, .int .i64 m, .int .i64 er]) ∧ Below W.heap.size W w' := fun W => by
      have := ref_decode12 s p W (by have := HS.out; omega)
      rwa [hd] at this
    have HDEC := Aside.mk hdec
    have HD := Aside.mk hd
    have HU := Aside.mk hU
    clear hd hdec hU
    by_cases h3 : er = 3
    · subst h3
      go_wp2_with (go_at_call 13; refine (HDEC.out _).mono ?_; rintro e w2 ⟨rfl, hb2⟩)
      go_ret3
      exact HU.out.stop HD.out (hb2.alloc hb2.size _)
    · by_cases h0 : er = 0
      · subst h0
        have hac : acc.length ≤ 61681 := by have := HU.out.pos; have := HS.out; omega
        have HT1 : Aside True := ⟨trivial⟩
        have hnx := decV_next HD.out
        have HX := Aside.mk hnx
        clear hnx
        go_wp2_with (first | (go_at_call 13; refine (HDEC.out _).mono ?_; rintro e w2 ⟨rfl, hb2⟩; have HB2 := Aside.mk hb2; clear hb2) | (obtain ⟨_⟩ := HT1; at_builtin; go_loud (refine wpList_append_one_at (w0 := w) w.heap.size rfl _ _ 28 32 5 48 _ rfl Tryd.underlying28 infoNode12 rfl (by decide) u5 acc.length (nodesV acc) (nodeC x.q x.g x.l x.k x.v) rfl rfl _ rfl (by simp) ((HU.out.r1.below HB2.out).alloc _) (by simp [Value.oneCell']) ((HU.out.bel.trans (HB2.out.mono HU.out.bel.size)).alloc (Nat.le_trans HU.out.bel.size HB2.out.size) _) (by have := HU.out.bel.size; have := HB2.out.size; simp; omega) (by omega) (by simp only [maxLen]; omega) ?_); intro v1 w1 hr1 hb1 hg1 hat1; have h1 : Aside (Row w1 w.heap.size 32 5 v1 (acc.length + 1) (nodesV acc ++ x.cells) ∧ Below w.heap.size w w1 ∧ Row w1 w.heap.size 3 1 u6 acc.length (intsV (placesV acc)) ∧ (∀ b, v1.ownBlock = some b → u6.ownBlock ≠ some b)) := ⟨unp_first HU.out HB2.out _ hr1 hb1 hg1 hat1⟩; clear hr1 hb1 hg1 hat1 HB2) | (at_builtin; refine wpList_append_one (w0 := w) w.heap.size rfl _ _ 24 3 1 8 (.int .i64 0) rfl Tryd.underlying24 infoInt rfl (by decide) u6 acc.length (intsV (placesV acc)) #[.int .i64 p] rfl rfl rfl h1.out.2.2.1 (by simp [Value.oneCell']) h1.out.2.1 h1.out.2.1.size (by omega) (by simp only [maxLen]; omega) ?_; intro v2 w2 hr2 hb2 hg2 hat2; have h2 : Aside (UnpSt 32 s w R v1 v2 (acc ++ [(x, p)]) m (f - 1) w2) := ⟨unp_second HU.out HD.out h1.out hr2 hb2 hg2 hat2⟩; clear hr2 hb2 hg2 hat2 h1))
        go_roundw
        case rel => exact ⟨_, _, _, rfl, h2.out⟩
        case measure =>
          have := HX.out
          simp [intOf]; omega
      · have h3' : (er == 3) = false := by simp [h3]
        have h0' : (er == 0) = false := by simp [h0]
        have H30 := Aside.mk (And.intro h0 h3)
        clear h3 h0
        go_wp2_with (go_at_call 13; refine (HDEC.out _).mono ?_; rintro e w2 ⟨rfl, hb2⟩)
        go_ret3
        exact HU.out.bad HD.out H30.out.1 H30.out.2 (hb2.alloc hb2.size _)
end Go.Proofs.YtbkkdglmcoglfaaDoor
