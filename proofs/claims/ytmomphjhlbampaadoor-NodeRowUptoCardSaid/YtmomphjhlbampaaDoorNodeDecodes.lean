/-
  Any bytes at any place: the node, or what is wrong.
-/
import Derived.Test.YtmomphjhlbampaaDoorNodeLaw
namespace Go.Proofs.YtmomphjhlbampaaDoor
open Go.RowKit

theorem encB_good {q : Int} {g l : Bool} {k v : ByteArray} (h : goodN q g k v = true) : encB q g l k v = sealed (headB q g l k v ++ k ++ v) := by unfold encB; rw [h]; rfl
theorem encB_size {q : Int} {g l : Bool} {k v : ByteArray} (h : goodN q g k v = true) : (encB q g l k v).size = 17 + k.size + v.size := by
  rw [encB_good h, sealed_size, ByteArray.size_append, ByteArray.size_append, headB_size]; omega
theorem empty_app (s : ByteArray) : (⟨#[]⟩ : ByteArray) ++ s = s := bytes_ext (by rw [cat_list]; rfl)
theorem app_empty (s : ByteArray) : s ++ (⟨#[]⟩ : ByteArray) = s := bytes_ext (by rw [cat_list]; exact List.append_nil _)

set_option maxHeartbeats 1000000 in
theorem node_speaks (w : World) (hn : Nib w) :
    Calls Tryd.prog 9 #[] w fun e w' => e = .returned (.bool true) ∧ Below w.heap.size w w' := by
  have hg : goodN 1 false ⟨#[97]⟩ ⟨#[98]⟩ = true := by decide
  have hz := encB_size (l := true) hg
  have hd := decV_enc ⟨#[]⟩ ⟨#[]⟩ 1 false true ⟨#[97]⟩ ⟨#[98]⟩ hg
  rw [empty_app, app_empty, hz] at hd
  have hz' : (encB 1 false true ⟨#[97]⟩ ⟨#[98]⟩).size = 19 := hz
  have hE : ∀ W, Nib W → Calls Tryd.prog 10 #[nodeV 1 false true ⟨#[97]⟩ ⟨#[98]⟩] W fun e w' => e = .returned (.tuple #[.string (encB 1 false true ⟨#[97]⟩ ⟨#[98]⟩), .bool true]) ∧ Below W.heap.size W w' := fun W h => by
    have := node_encode 1 false true ⟨#[97]⟩ ⟨#[98]⟩ W h
    rwa [hg] at this
  have hD : ∀ W, Nib W → Calls Tryd.prog 13 #[.string (encB 1 false true ⟨#[97]⟩ ⟨#[98]⟩), .int .i64 0] W fun e w' => e = .returned (.tuple #[nodeV 1 false true ⟨#[97]⟩ ⟨#[98]⟩, .int .i64 19, .int .i64 0]) ∧ Below W.heap.size W w' := fun W h => by
    have := node_decode (encB 1 false true ⟨#[97]⟩ ⟨#[98]⟩) 0 W (by rw [hz']; decide) h
    rwa [show (0 : Int) = ((⟨#[]⟩ : ByteArray).size : Nat) from rfl, hd] at this
  have HE := Aside.mk hE
  have HD := Aside.mk hD
  clear hg hd hz hE hD
  generalize encB 1 false true ⟨#[97]⟩ ⟨#[98]⟩ = E at *
  go_enter Tryd.func9, Tryd.ntmps9
  go_wp2_with (first | (go_at_call 10; refine (HE.out _ hn).mono ?_; rintro e w1 ⟨rfl, hb1⟩) | (go_at_call 13; refine (HD.out _ (hn.below hb1)).mono ?_; rintro e w2 ⟨rfl, hb2⟩))
  go_ret
  exact ⟨rfl, (hb1.trans (hb2.mono hb1.size)).alloc (Nat.le_trans hb1.size hb2.size) _⟩

set_option maxHeartbeats 4000000 in
theorem nodeDecodes_walk (s : ByteArray) (n : Int) (w : World) (hs : s.size ≤ 140737488351232) (_hn : (Lit.int .i64 n).wf = true) (hnib : Nib w) :
    Calls Tryd.prog 4 #[.string s, .int .i64 n] w fun e w' => e = .returned (.bool true) ∧ Below w.heap.size w w' := by
  obtain ⟨q, g, l, k, v, m, er, hd⟩ := decV_form s n
  have hN : ∀ W, Nib W → Calls Tryd.prog 13 #[.string s, .int .i64 n] W fun e w' => e = .returned (.tuple #[nodeV q g l k v, .int .i64 m, .int .i64 er]) ∧ Below W.heap.size W w' := fun W h => by
    rw [← hd]; exact node_decode s n W hs h
  have hR : ∀ W, Calls Tryd.prog 14 #[.string s, .int .i64 n] W fun e w' => e = .returned (.tuple #[nodeV q g l k v, .int .i64 m, .int .i64 er]) ∧ Below W.heap.size W w' := fun W => by
    rw [← hd]; exact ref_decode12 s n W hs
  have HN := Aside.mk hN
  have HR := Aside.mk hR
  clear hd hN hR
  go_enter Tryd.func4, Tryd.ntmps4
  go_upto_region 4 with (first | (go_at_call 9; refine (node_speaks _ hnib).mono ?_; rintro e w1 ⟨rfl, hb1⟩) | (go_at_call 13; refine (HN.out _ (hnib.below hb1)).mono ?_; rintro e w2 ⟨rfl, hb2⟩))
  have a0 : (w2.alloc (.cells (nodeC q g l k v) 26)).heap[w2.heap.size]? = some (.cells (nodeC q g l k v) 26 (0, 0)) := heap_alloc_new _ _
  have a1 : w2.heap.size < (w2.alloc (.cells (nodeC q g l k v) 26)).heap.size := by simp
  have a2 : Below w.heap.size w (w2.alloc (.cells (nodeC q g l k v) 26)) := (hb1.trans (hb2.mono hb1.size)).alloc (Nat.le_trans hb1.size hb2.size) _
  generalize w2.alloc (.cells (nodeC q g l k v) 26) = w3 at *
  generalize w2.heap.size = p at *
  have HA := Aside.mk (And.intro a0 (And.intro a1 a2))
  clear a0 a1 a2 hb1 hb2
  go_upto_region 5 with (go_at_call 14; refine (HR.out _).mono ?_; rintro e w4 ⟨rfl, hb4⟩)
  have b0 : (w4.alloc (.cells (nodeC q g l k v) 27)).heap[w4.heap.size]? = some (.cells (nodeC q g l k v) 27 (0, 0)) := heap_alloc_new _ _
  have b1 : (w4.alloc (.cells (nodeC q g l k v) 27)).heap[p]? = some (.cells (nodeC q g l k v) 26 (0, 0)) := row_alloc ((hb4.block _ HA.out.2.1).trans HA.out.1) _
  have b2 : Below w.heap.size w (w4.alloc (.cells (nodeC q g l k v) 27)) := (HA.out.2.2.trans (hb4.mono HA.out.2.2.size)).alloc (Nat.le_trans HA.out.2.2.size hb4.size) _
  generalize w4.alloc (.cells (nodeC q g l k v) 27) = w5 at *
  generalize w4.heap.size = r at *
  have HB := Aside.mk b2
  clear b2 hb4
  obtain ⟨x0, _⟩ := row_cell (b1) 0 (v := .int .i64 q) rfl
  obtain ⟨x1, _⟩ := row_cell (b1) 1 (v := .bool g) rfl
  obtain ⟨x2, _⟩ := row_cell (b1) 2 (v := .bool l) rfl
  obtain ⟨x3, _⟩ := row_cell (b1) 3 (v := .string k) rfl
  obtain ⟨x4, _⟩ := row_cell (b1) 4 (v := .string v) rfl
  obtain ⟨y0, _⟩ := row_cell (b0) 0 (v := .int .i64 q) rfl
  obtain ⟨y1, _⟩ := row_cell (b0) 1 (v := .bool g) rfl
  obtain ⟨y2, _⟩ := row_cell (b0) 2 (v := .bool l) rfl
  obtain ⟨y3, _⟩ := row_cell (b0) 3 (v := .string k) rfl
  obtain ⟨y4, _⟩ := row_cell (b0) 4 (v := .string v) rfl
  clear b0 b1
  go_wp2
  all_goals
    go_ret
    exact ⟨by first | rfl | simp, HB.out⟩
end Go.Proofs.YtmomphjhlbampaaDoor
