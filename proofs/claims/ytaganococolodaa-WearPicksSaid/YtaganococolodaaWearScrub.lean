/-
  The used blocks that were read too often, those that were read most first.
-/
import Derived.Test.YtaganococolodaaWearRefPick
namespace Go.Proofs.Ytaganococolodaa
open Go.RowKit Go.Sort

def scrubL (f : Nat → Blk) (most : Int) (k : Nat) : List Nat := (List.range k).filter fun i => (f i).us && decide (most < (f i).rd)
theorem scrubL_succ (f : Nat → Blk) (most : Int) (k : Nat) : scrubL f most (k + 1) = scrubL f most k ++ if ((f k).us && decide (most < (f k).rd)) = true then [k] else [] := by
  unfold scrubL
  rw [List.range_succ, List.filter_append, List.filter_cons, List.filter_nil]
theorem scrubL_le (f : Nat → Blk) (most : Int) (k : Nat) : (scrubL f most k).length ≤ k := by
  have := List.length_filter_le (fun i => (f i).us && decide (most < (f i).rd)) (List.range k)
  simpa [scrubL] using this
theorem scrubL_rise (f : Nat → Blk) (most : Int) (k : Nat) : (scrubL f most k).Pairwise (· < ·) := (List.pairwise_lt_range (n := k)).filter _
theorem scrubL_lt {f : Nat → Blk} {most : Int} {k x : Nat} (h : x ∈ scrubL f most k) : x < k := List.mem_range.1 (List.mem_filter.1 h).1
def natsL (l : List Nat) : List Value := l.map fun x => .int .i64 ((x : Nat) : Int)
theorem natsL_len (l : List Nat) : (natsL l).length = l.length := by simp [natsL]
theorem natsL_V (l : List Nat) : natsL l = natsV (fun i => l.getD i 0) l.length := by
  apply List.ext_getElem?
  intro i
  simp only [natsL, natsV, List.getElem?_map]
  by_cases h : i < l.length
  · rw [List.getElem?_range h, List.getElem?_eq_getElem h]; simp [h]
  · rw [List.getElem?_eq_none (by omega), List.getElem?_eq_none (by simpa using h)]; rfl
theorem natsV_L (G : Nat → Nat) (n : Nat) : natsV G n = natsL ((List.range n).map G) := by simp [natsV, natsL]
/-- What a sorted list has. -/
def ScrubPost (f : Nat → Blk) (most : Int) (n : Nat) (w : World) (e : Ending) (w' : World) : Prop :=
  ∃ v l, e = .returned v ∧ Row w' w.heap.size 3 1 v l.length (natsL l) ∧ Below w.heap.size w w' ∧ l.Pairwise (Ahead fun x => (f x).rd) ∧ ∀ x, x ∈ l ↔ x ∈ scrubL f most n
set_option maxRecDepth 20000 in
set_option maxHeartbeats 2000000 in
theorem wear_scrub (A : Option Addr) (n c : Nat) (f : Nat → Blk) (most : Int) (w : World) (hn : n ≤ 10000000000000) (hc : n ≤ c) (hcm : c ≤ 9223372036854775807) (hR : BRd w A n f) :
    Calls Try.prog 9 #[.slice A n c, .int .i64 most] w (ScrubPost f most n w) := by
  have HR := Aside.mk hR
  clear hR
  have hbx : (w.alloc (.cells #[.slice A n c] 23)).cell? ⟨w.heap.size, 0, none⟩ = some (.slice A n c) := by simp
  have hb0 := (Below.refl w.heap.size w).alloc (Nat.le_refl _) (.cells #[.slice A n c] 23)
  have hs0 : (w.alloc (.cells #[.slice A n c] 23)).heap.size = w.heap.size + 1 := by simp
  go_enter Try.func9, Try.ntmps9
  go_wp2
  generalize w.alloc (.cells #[.slice A n c] 23) = W0 at *
  have H0 := Aside.mk (And.intro hbx (And.intro hb0 hs0))
  clear hb0 hs0 hbx
  go_loopw [5, 10] (fun s5 s10 wr => ∃ k : Nat, k ≤ n ∧ s10 = .int .i64 k ∧ Aside (Below W0.heap.size W0 wr ∧ Row wr W0.heap.size 3 1 s5 (scrubL f most k).length (natsL (scrubL f most k)) ∧ ((scrubL f most k).length = 0 → s5 = .slice none 0 0))) (fun _ s10 _ => n - (intOf s10).toNat)
  case atStart => exact ⟨0, Nat.zero_le _, rfl, ⟨Below.refl _ _, Row.nil W0 W0.heap.size 3 1, fun _ => rfl⟩⟩
  case round =>
    obtain ⟨k, hk, rfl, HB⟩ := hrel
    by_cases hlt : k < n
    · obtain ⟨g, off, rfl, hcell⟩ := HR.out.cells hlt
      have hbw : Below w.heap.size w wr := H0.out.2.1.trans (HB.out.1.mono H0.out.2.1.size)
      obtain ⟨c0, c1, c2, c3⟩ := hcell w.heap.size wr (Nat.le_refl _) hbw
      have hk1 : IntKind.i64.wrap ((k : Int) + 1) = (k : Int) + 1 := by rw [IntKind.wrap_i64]; omega
      obtain ⟨x, hx⟩ : ∃ x, x = f k := ⟨_, rfl⟩
      rw [← hx] at c0 c1 c2 c3
      have hsc := scrubL_succ f most k
      rw [← hx] at hsc
      have HSC := Aside.mk hsc
      have HLE := Aside.mk (scrubL_le f most k)
      generalize scrubL f most k = l at *
      clear hcell hx hsc
      have hnew : (wr.alloc (.cells #[.int .i64 x.er, .int .i64 x.rd, .bool x.us, .bool x.wo] 27)).heap[wr.heap.size]? = some (.cells #[.int .i64 x.er, .int .i64 x.rd, .bool x.us, .bool x.wo] 27) := heap_alloc_new wr _
      have HBA : Aside (Below W0.heap.size W0 (wr.alloc (.cells #[.int .i64 x.er, .int .i64 x.rd, .bool x.us, .bool x.wo] 27)) ∧ Row (wr.alloc (.cells #[.int .i64 x.er, .int .i64 x.rd, .bool x.us, .bool x.wo] 27)) W0.heap.size 3 1 u5 l.length (natsL l) ∧ (l.length = 0 → u5 = .slice none 0 0)) := ⟨HB.out.1.alloc HB.out.1.size _, HB.out.2.1.alloc _, HB.out.2.2⟩
      clear hbw
      go_upto_region 5 with fail
      generalize wr.alloc (.cells #[.int .i64 x.er, .int .i64 x.rd, .bool x.us, .bool x.wo] 27) = W at *
      generalize wr.heap.size = h at *
      have e1 : W.cell? ⟨h, 1, none⟩ = some (.int .i64 x.rd) := cell_of_row W h 1 _ _ _ hnew
      have e2 : W.cell? ⟨h, 2, none⟩ = some (.bool x.us) := cell_of_row W h 2 _ _ _ hnew
      clear hnew c0 c1 c2 c3 HB
      obtain ⟨xe, xr, xu, xw⟩ := x
      simp only at e1 e2 HSC
      by_cases hin : xu = true ∧ most < xr
      · obtain ⟨rfl, hm⟩ := hin
        have HS : Aside (scrubL f most (k + 1) = l ++ [k]) := ⟨by rw [HSC.out, if_pos (by simp [hm])]⟩
        go_wp2_with (at_builtin; refine wpList_append_one (w0 := W0) W0.heap.size rfl _ _ 24 3 1 8 (.int .i64 0) rfl Try.underlying24 infoInt rfl (by decide) u5 l.length (natsL l) #[.int .i64 (k : Int)] rfl rfl rfl HBA.out.2.1 (by simp [Value.oneCell']) HBA.out.1 HBA.out.1.size (by have := HLE.out; omega) (by have := HLE.out; simp only [maxLen]; omega) ?_; intro v1 w1 hr1 hb1 hg1 hat1; have HN : Aside (Below W0.heap.size W0 w1 ∧ Row w1 W0.heap.size 3 1 v1 (scrubL f most (k + 1)).length (natsL (scrubL f most (k + 1))) ∧ ((scrubL f most (k + 1)).length = 0 → v1 = .slice none 0 0)) := ⟨hb1, by rw [HS.out]; simpa [natsL] using hr1, fun h => by rw [HS.out] at h; simp at h⟩; clear hr1 hb1 hg1 hat1)
        go_roundw
        case rel => exact ⟨k + 1, by omega, by go_num, HN⟩
        case measure => simp [intOf]; omega
      · have HS : Aside (scrubL f most (k + 1) = l) := ⟨by rw [HSC.out, if_neg (by simpa using hin), List.append_nil]⟩
        have HN : Aside (Below W0.heap.size W0 W ∧ Row W W0.heap.size 3 1 u5 (scrubL f most (k + 1)).length (natsL (scrubL f most (k + 1))) ∧ ((scrubL f most (k + 1)).length = 0 → u5 = .slice none 0 0)) := ⟨by rw [HS.out]; exact HBA.out⟩
        cases xu with
        | false =>
          clear hin
          go_wp2
          go_roundw
          case rel => exact ⟨k + 1, by omega, by go_num, HN⟩
          case measure => simp [intOf]; omega
        | true =>
          have hm : ¬ most < xr := fun h => hin ⟨rfl, h⟩
          clear hin
          go_wp2
          go_roundw
          case rel => exact ⟨k + 1, by omega, by go_num, HN⟩
          case measure => simp [intOf]; omega
    · obtain rfl : n = k := by omega
      have hrise := scrubL_rise f most n
      have hlt2 : ∀ x ∈ scrubL f most n, x < n := fun x hx => scrubL_lt hx
      have hle := scrubL_le f most n
      obtain ⟨l, hl⟩ : ∃ l, l = scrubL f most n := ⟨_, rfl⟩
      rw [← hl] at hrise hlt2 hle HB
      have HSL := Aside.mk hl
      clear hl hlt
      have hmf : ∀ (fn : Fn) (first cap : Array Value) (w : World), (Instr.makeFunc fn first cap).run Try.prog w = .ok (.func fn first cap) w := fun _ _ _ _ => rfl
      have hbw : Below w.heap.size w wr := H0.out.2.1.trans (HB.out.1.mono H0.out.2.1.size)
      have HBW := Aside.mk hbw
      by_cases h0 : l.length = 0
      · obtain rfl : u5 = .slice none 0 0 := HB.out.2.2 h0
        obtain rfl : l = [] := List.eq_nil_of_length_eq_zero h0
        clear h0 hle hlt2 hrise HB hbw
        go_wp2_with (go_at_call 17; refine (stable_sort_none _ _).mono ?_; rintro e w' ⟨rfl, rfl⟩)
        go_ret
        exact ⟨_, [], rfl, Row.nil _ _ _ _, HBW.out, List.Pairwise.nil, fun _ => by rw [← HSL.out]⟩
      · have hrow := HB.out.2.1
        obtain ⟨g, off, cap, rfl, hg1, hg2, hcap, hcm2⟩ := hrow.form (by omega)
        have hn0 : 0 < n := by omega
        obtain ⟨gA, oA, rfl, hAlt, _⟩ := HR.out 0 hn0
        have hctx : Ctx wr g w.heap.size (some ⟨gA, oA, none⟩) n c f := ⟨⟨(HB.out.1.cell (p := ⟨w.heap.size, 0, none⟩) (by rw [H0.out.2.2]; exact Nat.lt_succ_self _)).trans H0.out.1, fun k hk => by
            obtain ⟨g2, o2, e2, hc2⟩ := HR.out.cells hk
            injection e2 with e2
            injection e2 with e2 e3
            subst e2; subst e3
            exact ⟨_, _, rfl, Nat.lt_of_lt_of_le hAlt hbw.size, hc2 _ wr (Nat.le_refl _) hbw⟩, by have := HB.out.1.size; rw [H0.out.2.2] at this; omega, hc⟩, by have := H0.out.2.2; omega, fun a ha => by injection ha with ha; rw [← ha]; have := H0.out.2.2; simp only; omega⟩
        have hsrt : SrtW wr g off l.length cap n (fun i => l.getD i 0) wr := ⟨by rw [← natsL_V]; exact hrow.mono (Nat.zero_le _), World.grownBy.refl _ _, fun i hi => hlt2 _ (by simp [hi])⟩
        have hF : ∀ i j, i < j → j < l.length → l.getD i 0 < l.getD j 0 := fun i j h1 h2 => by
          have := List.pairwise_iff_getElem.1 hrise i j (by omega) h2 h1
          simpa [show i < l.length by omega, h2] using this
        have HSS := Aside.mk (stable_sort wr wr g off l.length cap n (fun i => l.getD i 0) w.heap.size c (some ⟨gA, oA, none⟩) f hctx hsrt hF (by omega) hcap)
        have HGG := Aside.mk (And.intro hg1 hg2)
        have hll : l.length ≤ 9223372036854775807 := by omega
        clear hctx hsrt hF hrow HB hbw hrise hlt2 hle hn0 hAlt h0
        go_wp2_with (go_at_call 17; refine HSS.out.mono ?_; rintro e w' ⟨rfl, G, hG, hsG, hsame⟩)
        go_ret
        refine ⟨_, (List.range l.length).map G, rfl, ?_, ?_, ?_, fun x => ?_⟩
        · have hr := hG.row
          rw [natsV_L] at hr
          rw [List.length_map, List.length_range]
          refine ⟨hr.1, ?_⟩
          rcases hr.2 with h | ⟨g2, o2, c2, cur, fr, e2, _, rest⟩
          · exact .inl h
          · refine .inr ⟨g2, o2, c2, cur, fr, e2, ?_, rest⟩
            injection e2 with e2
            injection e2 with e2
            injection e2 with e2
            have := HGG.out.1; have := H0.out.2.2; omega
        · exact HBW.out.grown hG.grown HBW.out.size (fun k hk => by injection hk with hk; have := HGG.out.1; have := H0.out.2.2; omega)
        · rw [List.pairwise_iff_getElem]
          intro i j hi hj hij
          simp only [List.length_map, List.length_range] at hi hj
          simpa using hsG i j (Nat.zero_le _) hij hj
        · rw [← HSL.out]
          constructor
          · intro hx
            obtain ⟨i, hi, rfl⟩ := List.mem_map.1 hx
            obtain ⟨j, _, hj, e⟩ := hsame.1 i (Nat.zero_le _) (List.mem_range.1 hi)
            rw [e]
            simp [hj]
          · intro hx
            obtain ⟨i, hi, rfl⟩ := List.getElem_of_mem hx
            obtain ⟨j, _, hj, e⟩ := hsame.2 i (Nat.zero_le _) hi
            refine List.mem_map.2 ⟨j, List.mem_range.2 hj, ?_⟩
            rw [← e]
            simp [hi]
end Go.Proofs.Ytaganococolodaa
