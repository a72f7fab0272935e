/-
  The bytes of every node.
-/
import Derived.Test.YtmomphjhlbampaaDoorNodeDecodes
namespace Go.Proofs.YtmomphjhlbampaaDoor
open Go.RowKit

/-- A node's block, and its cells. -/
theorem node_cells {W : World} {b : Nat} {q : Int} {g l : Bool} {k v : ByteArray} {t : TypeId} (h : W.heap[b]? = some (.cells (nodeC q g l k v) t (0, 0))) :
    W.cell? ⟨b, 0, none⟩ = some (.int .i64 q) ∧ W.cell? ⟨b, 1, none⟩ = some (.bool g) ∧ W.cell? ⟨b, 2, none⟩ = some (.bool l) ∧ W.cell? ⟨b, 3, none⟩ = some (.string k) ∧ W.cell? ⟨b, 4, none⟩ = some (.string v) :=
  ⟨(row_cell h 0 rfl).1, (row_cell h 1 rfl).1, (row_cell h 2 rfl).1, (row_cell h 3 rfl).1, (row_cell h 4 rfl).1⟩
theorem heap_lt {W : World} {b : Nat} {o : Obj} (h : W.heap[b]? = some o) : b < W.heap.size := by
  rcases Nat.lt_or_ge b W.heap.size with h1 | h1
  · exact h1
  · rw [Array.getElem?_eq_none h1] at h; cases h
theorem below_trans {B : Nat} {w W W' : World} (h : Below B w W) (hB : B ≤ W.heap.size) (hb : Below W.heap.size W W') : Below B w W' := h.trans (hb.mono hB)

set_option maxHeartbeats 8000000 in
theorem nodeEncodes_walk (q : Int) (g l : Bool) (k v : ByteArray) (w : World) (_wq : (Lit.int .i64 q).wf = true) (_ws : k.size ≤ 140737488351232 ∧ v.size ≤ 140737488351232) (hnib : Nib w) :
    Calls Tryd.prog 3 #[.int .i64 q, .agg #[.bool g, .bool l], .agg #[.string k, .string v]] w fun e w' => e = .returned (.bool true) ∧ Below w.heap.size w w' := by
  have HE := Aside.mk (fun W => node_encode q g l k v W)
  have HRE := Aside.mk (fun W => ref_encode12 q g l k v W)
  have HGD := Aside.mk (fun W => ref_good12 q g l k v W)
  clear _wq _ws
  go_enter Tryd.func3, Tryd.ntmps3
  go_upto_region 1 with fail
  have a0 : ((w.alloc (.cells #[.bool g, .bool l] 22)).alloc (.cells #[.string k, .string v] 23)).heap[w.heap.size]? = some (.cells #[.bool g, .bool l] 22 (0, 0)) := row_alloc (heap_alloc_new _ _) _
  have a1 : ((w.alloc (.cells #[.bool g, .bool l] 22)).alloc (.cells #[.string k, .string v] 23)).heap[w.heap.size + 1]? = some (.cells #[.string k, .string v] 23 (0, 0)) := new_two _ _ _
  have a2 : Below w.heap.size w ((w.alloc (.cells #[.bool g, .bool l] 22)).alloc (.cells #[.string k, .string v] 23)) := ((Below.refl _ _).alloc (Nat.le_refl _) _).alloc (by simp) _
  have a3 := (hnib.alloc (.cells #[.bool g, .bool l] 22)).alloc (.cells #[.string k, .string v] 23)
  generalize (w.alloc (.cells #[.bool g, .bool l] 22)).alloc (.cells #[.string k, .string v] 23) = w0 at *
  generalize w.heap.size + 1 = p1 at *
  have HA := Aside.mk (And.intro a0 (And.intro a1 (And.intro a2 a3)))
  clear a0 a1 a2 a3
  go_upto_region 3 with (go_at_call 9; refine (node_speaks _ HA.out.2.2.2).mono ?_; rintro e w1 ⟨rfl, hb1⟩)
  have HB : Aside (w1.heap[w.heap.size]? = some (.cells #[.bool g, .bool l] 22 (0, 0)) ∧ w1.heap[p1]? = some (.cells #[.string k, .string v] 23 (0, 0)) ∧ Below w.heap.size w w1 ∧ Nib w1) :=
    ⟨below_blk HA.out.1 hb1, below_blk HA.out.2.1 hb1, below_trans HA.out.2.2.1 HA.out.2.2.1.size hb1, HA.out.2.2.2.below hb1⟩
  clear HA hb1
  have c0 := (row_cell HB.out.1 0 (v := .bool g) rfl).1
  have c1 := (row_cell HB.out.1 1 (v := .bool l) rfl).1
  have c2 := (row_cell HB.out.2.1 0 (v := .string k) rfl).1
  have c3 := (row_cell HB.out.2.1 1 (v := .string v) rfl).1
  go_upto_region 4 with fail
  clear c0 c1 c2 c3
  have HC : Aside ((w1.alloc (.cells (nodeC q g l k v) 26)).heap[w.heap.size]? = some (.cells #[.bool g, .bool l] 22 (0, 0)) ∧ (w1.alloc (.cells (nodeC q g l k v) 26)).heap[p1]? = some (.cells #[.string k, .string v] 23 (0, 0)) ∧ Below w.heap.size w (w1.alloc (.cells (nodeC q g l k v) 26)) ∧ Nib (w1.alloc (.cells (nodeC q g l k v) 26)) ∧ (w1.alloc (.cells (nodeC q g l k v) 26)).heap[w1.heap.size]? = some (.cells (nodeC q g l k v) 26 (0, 0))) :=
    ⟨row_alloc HB.out.1 _, row_alloc HB.out.2.1 _, HB.out.2.2.1.alloc HB.out.2.2.1.size _, HB.out.2.2.2.alloc _, heap_alloc_new _ _⟩
  clear HB
  generalize w1.alloc (.cells (nodeC q g l k v) 26) = w2 at *
  generalize w1.heap.size = p2 at *
  have c0 := (row_cell HC.out.1 0 (v := .bool g) rfl).1
  have c1 := (row_cell HC.out.1 1 (v := .bool l) rfl).1
  have c2 := (row_cell HC.out.2.1 0 (v := .string k) rfl).1
  have c3 := (row_cell HC.out.2.1 1 (v := .string v) rfl).1
  go_upto_region 5 with fail
  clear c0 c1 c2 c3
  have HD : Aside ((w2.alloc (.cells (nodeC q g l k v) 27)).heap[p2]? = some (.cells (nodeC q g l k v) 26 (0, 0)) ∧ (w2.alloc (.cells (nodeC q g l k v) 27)).heap[w2.heap.size]? = some (.cells (nodeC q g l k v) 27 (0, 0)) ∧ Below w.heap.size w (w2.alloc (.cells (nodeC q g l k v) 27)) ∧ Nib (w2.alloc (.cells (nodeC q g l k v) 27))) :=
    ⟨row_alloc HC.out.2.2.2.2 _, heap_alloc_new _ _, HC.out.2.2.1.alloc HC.out.2.2.1.size _, HC.out.2.2.2.1.alloc _⟩
  clear HC
  generalize w2.alloc (.cells (nodeC q g l k v) 27) = w3 at *
  generalize w2.heap.size = p3 at *
  obtain ⟨c0, c1, c2, c3, c4⟩ := node_cells HD.out.1
  go_upto_region 6 with (go_at_call 10; refine (HE.out _ HD.out.2.2.2).mono ?_; rintro e w4 ⟨rfl, hb4⟩)
  have HF : Aside (w4.heap[p2]? = some (.cells (nodeC q g l k v) 26 (0, 0)) ∧ w4.heap[p3]? = some (.cells (nodeC q g l k v) 27 (0, 0)) ∧ Below w.heap.size w w4 ∧ Nib w4) :=
    ⟨below_blk HD.out.1 hb4, below_blk HD.out.2.1 hb4, below_trans HD.out.2.2.1 HD.out.2.2.1.size hb4, HD.out.2.2.2.below hb4⟩
  clear HD hb4 c0 c1 c2 c3 c4
  obtain ⟨d0, d1, d2, d3, d4⟩ := node_cells HF.out.2.1
  cases hgd : goodN q g k v
  · have HG := Aside.mk hgd
    have hE : encB q g l k v = ⟨#[]⟩ := by unfold encB; rw [hgd]; rfl
    rw [hgd] at HGD
    clear hgd
    generalize encB q g l k v = E at *
    go_wp2_with (first | (go_at_call 11; refine (HRE.out _).mono ?_; rintro e w5 ⟨rfl, hb5⟩; have HH := HF; clear HF; have HF : Aside (w5.heap[p2]? = some (.cells (nodeC q g l k v) 26 (0, 0)) ∧ w5.heap[p3]? = some (.cells (nodeC q g l k v) 27 (0, 0)) ∧ Below w.heap.size w w5 ∧ Nib w5) := ⟨below_blk HH.out.1 hb5, below_blk HH.out.2.1 hb5, below_trans HH.out.2.2.1 HH.out.2.2.1.size hb5, HH.out.2.2.2.below hb5⟩; clear HH hb5 d0 d1 d2 d3 d4; obtain ⟨d0, d1, d2, d3, d4⟩ := node_cells HF.out.2.1) | (go_at_call 12; refine (HGD.out _).mono ?_; rintro e w6 ⟨rfl, hb6⟩))
    all_goals
      go_ret
      exact ⟨rfl, below_trans HF.out.2.2.1 HF.out.2.2.1.size hb6⟩
  · have hd := decV_enc ⟨#[120]⟩ ⟨#[121]⟩ q g l k v hgd
    have hz := encB_size (l := l) hgd
    obtain ⟨_, _, _, hk2, hv2, _⟩ := goodN_iff.1 hgd
    rw [hgd] at HGD
    clear hgd
    generalize encB q g l k v = E at *
    have hEz : E.size ≤ 281 := by omega
    have hD : ∀ W, Nib W → Calls Tryd.prog 13 #[.string ((⟨#[120]⟩ : ByteArray) ++ E ++ ⟨#[121]⟩), .int .i64 1] W fun e w' => e = .returned (.tuple #[nodeV q g l k v, .int .i64 ((1 + E.size : Nat) : Int), .int .i64 0]) ∧ Below W.heap.size W w' := fun W h => by
      have := node_decode ((⟨#[120]⟩ : ByteArray) ++ E ++ ⟨#[121]⟩) 1 W (by rw [ByteArray.size_append, ByteArray.size_append]; change 1 + E.size + 1 ≤ _; omega) h
      rwa [show (1 : Int) = (((⟨#[120]⟩ : ByteArray).size : Nat) : Int) from rfl, hd] at this
    have HDE := Aside.mk hD
    have hz1 : (⟨#[120]⟩ : ByteArray).size = 1 := rfl
    have hz2 : (⟨#[121]⟩ : ByteArray).size = 1 := rfl
    have hw : IntKind.i64.wrap ((E.size : Int) + 1) = ((1 + E.size : Nat) : Int) := by rw [IntKind.wrap_i64]; omega
    clear hD hd hz hk2 hv2
    generalize ((1 + E.size : Nat) : Int) = m at *
    go_upto_region 11 with (first | (go_at_call 11; refine (HRE.out _).mono ?_; rintro e w5 ⟨rfl, hb5⟩; have HH := HF; clear HF; have HF : Aside (w5.heap[p2]? = some (.cells (nodeC q g l k v) 26 (0, 0)) ∧ w5.heap[p3]? = some (.cells (nodeC q g l k v) 27 (0, 0)) ∧ Below w.heap.size w w5 ∧ Nib w5) := ⟨below_blk HH.out.1 hb5, below_blk HH.out.2.1 hb5, below_trans HH.out.2.2.1 HH.out.2.2.1.size hb5, HH.out.2.2.2.below hb5⟩; clear HH hb5 d0 d1 d2 d3 d4; obtain ⟨d0, d1, d2, d3, d4⟩ := node_cells HF.out.2.1) | (go_at_call 12; refine (HGD.out _).mono ?_; rintro e w6 ⟨rfl, hb6⟩; have HG : Aside (w6.heap[p2]? = some (.cells (nodeC q g l k v) 26 (0, 0)) ∧ Below w.heap.size w w6 ∧ Nib w6) := ⟨below_blk HF.out.1 hb6, below_trans HF.out.2.2.1 HF.out.2.2.1.size hb6, HF.out.2.2.2.below hb6⟩; clear HF hb6 d0 d1 d2 d3 d4) | (go_at_call 13; refine (HDE.out _ HG.out.2.2).mono ?_; rintro e w7 ⟨rfl, hb7⟩; have HK : Aside (w7.heap[p2]? = some (.cells (nodeC q g l k v) 26 (0, 0)) ∧ Below w.heap.size w w7) := ⟨below_blk HG.out.1 hb7, below_trans HG.out.2.1 HG.out.2.1.size hb7⟩; clear HG hb7))
    have HL : Aside ((w7.alloc (.cells (nodeC q g l k v) 26)).heap[p2]? = some (.cells (nodeC q g l k v) 26 (0, 0)) ∧ (w7.alloc (.cells (nodeC q g l k v) 26)).heap[w7.heap.size]? = some (.cells (nodeC q g l k v) 26 (0, 0)) ∧ Below w.heap.size w (w7.alloc (.cells (nodeC q g l k v) 26))) :=
      ⟨row_alloc HK.out.1 _, heap_alloc_new _ _, HK.out.2.alloc HK.out.2.size _⟩
    generalize w7.alloc (.cells (nodeC q g l k v) 26) = w8 at *
    generalize w7.heap.size = p8 at *
    clear HK
    obtain ⟨c0, c1, c2, c3, c4⟩ := node_cells HL.out.1
    obtain ⟨d0, d1, d2, d3, d4⟩ := node_cells HL.out.2.1
    go_wp2
    all_goals
      go_ret
      exact ⟨by first | rfl | simp, HL.out.2.2⟩
end Go.Proofs.YtmomphjhlbampaaDoor
