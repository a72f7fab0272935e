/-
  The program's Unpack: it jumps back for each node.
-/
import Derived.Test.YtbkkdglmcoglfaaDoorPackRefUnp
import Derived.Test.YtbkkdglmcoglfaaDoorScope
namespace Go.Proofs.YtbkkdglmcoglfaaDoor
open Go.RowKit

/-- A frame, slot by slot. -/
theorem range_35 (f : Nat → Value) : (List.range 35).map f = [f 0, f 1, f 2, f 3, f 4, f 5, f 6, f 7, f 8, f 9, f 10, f 11, f 12, f 13, f 14, f 15, f 16, f 17, f 18, f 19, f 20, f 21, f 22, f 23, f 24, f 25, f 26, f 27, f 28, f 29, f 30, f 31, f 32, f 33, f 34] := rfl
theorem frame_35 (t : Array Value) (h : t.size = 35) : t = #[t.getD 0 undef, t.getD 1 undef, t.getD 2 undef, t.getD 3 undef, t.getD 4 undef, t.getD 5 undef, t.getD 6 undef, t.getD 7 undef, t.getD 8 undef, t.getD 9 undef, t.getD 10 undef, t.getD 11 undef, t.getD 12 undef, t.getD 13 undef, t.getD 14 undef, t.getD 15 undef, t.getD 16 undef, t.getD 17 undef, t.getD 18 undef, t.getD 19 undef, t.getD 20 undef, t.getD 21 undef, t.getD 22 undef, t.getD 23 undef, t.getD 24 undef, t.getD 25 undef, t.getD 26 undef, t.getD 27 undef, t.getD 28 undef, t.getD 29 undef, t.getD 30 undef, t.getD 31 undef, t.getD 32 undef, t.getD 33 undef, t.getD 34 undef] := by
  have e : t = ((List.range 35).map fun i => t.getD i undef).toArray := by
    apply Array.ext
    · simp [h]
    · intro i h1 h2
      simp [Array.getD, h1]
  rw [range_35] at e
  exact e
/-- The frame at the label. -/
def AtNext (s : ByteArray) (s5 s6 : Value) (p : Int) (a : Act) : Prop := ∃ u : Nat → Value, a = { tmps := #[.string s, u 1, u 2, u 3, u 4, s5, s6, .int .i64 p, u 8, u 9, u 10, u 11, u 12, u 13, u 14, u 15, u 16, u 17, u 18, u 19, u 20, u 21, u 22, u 23, u 24, u 25, u 26, u 27, u 28, u 29, u 30, u 31, u 32, u 33, u 34], defers := [] }
theorem atNext_of {a : Act} {s : ByteArray} {s5 s6 : Value} {p : Int} (hd : a.defers = []) (hs : a.tmps.size = 35) (h0 : a.tmps.getD 0 undef = .string s) (h5 : a.tmps.getD 5 undef = s5) (h6 : a.tmps.getD 6 undef = s6) (h7 : a.tmps.getD 7 undef = .int .i64 p) : AtNext s s5 s6 p a := by
  obtain ⟨t, d⟩ := a
  simp only at hd hs h0 h5 h6 h7
  subst hd
  subst h5
  subst h6
  refine ⟨fun i => t.getD i undef, ?_⟩
  simp only [← h7, ← h0]
  exact congrArg (fun y => (⟨y, []⟩ : Act)) (frame_35 t hs)
def JUnp (s : ByteArray) (w : World) (R : List (NodeT × Int) × Int) : Nat → Act → World → Prop
  | 0, a, w' => ∃ (f : Nat) (acc : List (NodeT × Int)) (p : Int) (s5 s6 : Value), AtNext s s5 s6 p a ∧ UnpSt 33 s w R s5 s6 acc p f w'
  | _, _, _ => False
def MuUnp (s : ByteArray) : Nat → Act → World → Nat
  | 0, a, _ => 1 + s.size - (intOf (a.tmps.getD 7 undef)).toNat
  | _, _, _ => 0

set_option maxHeartbeats 8000000 in
theorem pack_unpack (s : ByteArray) (w : World) (hs : s.size ≤ 1048576) (hn : Nib w) :
    Calls Tryd.prog 6 #[.string s] w (UnpPost 33 w (unpackR s)) := by
  obtain ⟨R, hR⟩ : ∃ R, R = unpackR s := ⟨_, rfl⟩
  have h0 := UnpSt.start 33 s w w (Below.refl _ _)
  rw [← hR] at h0 ⊢
  have HS := Aside.mk hs
  have HN := Aside.mk hn
  have H0 := Aside.mk h0
  clear hR hs hn h0
  go_enter Tryd.func6, Tryd.ntmps6
  go_wp2
  refine wp_scope_many (JUnp s w R) (MuUnp s) ?_ ?_
  · intro back
    have BACK := Aside.mk back
    clear back
    go_wp2
    go_step3
    simp only [Exit.then]
    apply_assumption
    refine back_to BACK.out 0 rfl ?_
    exact ⟨_, _, _, _, _, atNext_of rfl rfl rfl rfl rfl rfl, H0.out⟩
  · intro l a w' hJ
    match l, hJ with
    | 0, hJ =>
      obtain ⟨f, acc, p, s5, s6, ⟨u, rfl⟩, hU⟩ := hJ
      refine ⟨_, rfl, ?_⟩
      clear H0
      obtain ⟨⟨x, m, er⟩, hd⟩ := decV_form2 s p
      simp only at hd
      have hdec : ∀ W, Nib W → Calls Tryd.prog 12 #[.string s, .int .i64 p] W fun e w' => e = .returned (.tuple #[x.val, .int .i64 m, .int .i64 er]) ∧ Below W.heap.size W w' := fun W h => by
        have := node_decode s p W (by have := HS.out; omega) h
        rwa [hd] at this
      have HDEC := Aside.mk hdec
      have HD := Aside.mk hd
      have HU := Aside.mk hU
      clear hd hdec hU
      by_cases h3 : er = 3
      · subst h3
        go_wp2_with (go_at_call 12; refine (HDEC.out _ (HN.out.below HU.out.bel)).mono ?_; rintro e w2 ⟨rfl, hb2⟩; have HB2 := Aside.mk hb2; clear hb2)
        simp only [jumps]
        go_ret3
        exact HU.out.stop HD.out (HB2.out.alloc HB2.out.size _)
      · by_cases h0 : er = 0
        · subst h0
          have hac : acc.length ≤ 61681 := by have := HU.out.pos; have := HS.out; omega
          have HT1 : Aside True := ⟨trivial⟩
          have hnx := decV_next HD.out
          have HX := Aside.mk hnx
          clear hnx h3
          go_wp2_with (first | (go_at_call 12; refine (HDEC.out _ (HN.out.below HU.out.bel)).mono ?_; rintro e w2 ⟨rfl, hb2⟩; have HB2 := Aside.mk hb2; clear hb2) | (obtain ⟨_⟩ := HT1; at_builtin; refine wpList_append_one_at (w0 := w) w.heap.size rfl _ _ 23 33 5 48 _ rfl Tryd.underlying23 infoNode rfl (by decide) s5 acc.length (nodesV acc) (nodeC x.q x.g x.l x.k x.v) rfl rfl _ rfl (by simp) ((HU.out.r1.below HB2.out).alloc _) (by simp [Value.oneCell']) ((HU.out.bel.trans (HB2.out.mono HU.out.bel.size)).alloc (Nat.le_trans HU.out.bel.size HB2.out.size) _) (by have := HU.out.bel.size; have := HB2.out.size; simp; omega) (by omega) (by simp only [maxLen]; omega) ?_; intro v1 w1 hr1 hb1 hg1 hat1; have h1 : Aside (Row w1 w.heap.size 33 5 v1 (acc.length + 1) (nodesV acc ++ x.cells) ∧ Below w.heap.size w w1 ∧ Row w1 w.heap.size 3 1 s6 acc.length (intsV (placesV acc)) ∧ (∀ b, v1.ownBlock = some b → s6.ownBlock ≠ some b)) := ⟨unp_first HU.out HB2.out _ hr1 hb1 hg1 hat1⟩; clear hr1 hb1 hg1 hat1 HB2) | (at_builtin; refine wpList_append_one (w0 := w) w.heap.size rfl _ _ 24 3 1 8 (.int .i64 0) rfl Tryd.underlying24 infoInt rfl (by decide) s6 acc.length (intsV (placesV acc)) #[.int .i64 p] rfl rfl rfl h1.out.2.2.1 (by simp [Value.oneCell']) h1.out.2.1 h1.out.2.1.size (by omega) (by simp only [maxLen]; omega) ?_; intro v2 w2 hr2 hb2 hg2 hat2; have h2 : Aside (UnpSt 33 s w R v1 v2 (acc ++ [(x, p)]) m (f - 1) w2) := ⟨unp_second HU.out HD.out h1.out hr2 hb2 hg2 hat2⟩; clear hr2 hb2 hg2 hat2 h1))
          go_step3
          simp only [Exit.inBlock, Exit.then]
          change JUnp s w R 0 _ _ ∧ MuUnp s 0 _ _ < MuUnp s 0 _ _
          refine ⟨⟨_, _, _, _, _, atNext_of rfl rfl rfl rfl rfl rfl, h2.out⟩, ?_⟩
          have := HX.out
          show 1 + s.size - (intOf (.int .i64 m)).toNat < 1 + s.size - (intOf (.int .i64 p)).toNat
          simp [intOf]; omega
        · have h3' : (er == 3) = false := by simp [h3]
          have h0' : (er == 0) = false := by simp [h0]
          have H30 := Aside.mk (And.intro h0 h3)
          clear h3 h0
          go_wp2_with (go_at_call 12; refine (HDEC.out _ (HN.out.below HU.out.bel)).mono ?_; rintro e w2 ⟨rfl, hb2⟩; have HB2 := Aside.mk hb2; clear hb2)
          simp only [jumps]
          go_ret3
          exact HU.out.bad HD.out H30.out.1 H30.out.2 (HB2.out.alloc HB2.out.size _)
end Go.Proofs.YtbkkdglmcoglfaaDoor
