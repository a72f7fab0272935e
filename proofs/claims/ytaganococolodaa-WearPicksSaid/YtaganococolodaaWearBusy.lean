/-
  The used block that was erased least.
-/
import Derived.Test.YtaganococolodaaWearStable
namespace Go.Proofs.Ytaganococolodaa
open Go.RowKit Go.Sort

/-- As if it were free where it is used. -/
def Blk.flip (b : Blk) : Blk := { b with us := !b.us }
def Blk.busy (b : Blk) : Bool := b.flip.free
def flp (f : Nat → Blk) : Nat → Blk := fun i => (f i).flip
set_option maxHeartbeats 400000 in
theorem level_one (b : Blk) (w : World) :
    Calls Try.prog 20 #[b.v] w fun e w' => e = .returned (.bool b.busy) ∧ Below w.heap.size w w' := by
  obtain ⟨er, rd, us, wo⟩ := b
  have hb := (Below.refl w.heap.size w).alloc (Nat.le_refl _) (.cells #[.int .i64 er, .int .i64 rd, .bool us, .bool wo] 27)
  go_enter Try.func20, Try.ntmps20
  simp only [Blk.v, Blk.busy, Blk.flip, Blk.free]
  cases us <;> cases wo
  all_goals
    go_wp2
    go_ret
    exact ⟨rfl, hb⟩

set_option maxHeartbeats 1600000 in
theorem wear_leastU (A : Option Addr) (n c : Nat) (f : Nat → Blk) (w : World) (hn : n ≤ 10000000000000) (hc : n ≤ c) (hcm : c ≤ 9223372036854775807) (hR : BRd w A n f) :
    Calls Try.prog 15 #[.slice A n c, .func (Fn.func 20) #[] #[]] w fun e w' => e = .returned (.int .i64 (least (flp f) n)) ∧ Below w.heap.size w w' := by
  have HR := Aside.mk hR
  clear hR
  go_enter Try.func15, Try.ntmps15
  go_wp2
  go_loopw [5, 10] (fun s5 s10 wr => ∃ k : Nat, k ≤ n ∧ s10 = .int .i64 k ∧ s5 = .int .i64 (least (flp f) k) ∧ Below w.heap.size w wr) (fun _ s10 _ => n - (intOf s10).toNat)
  case atStart => exact ⟨0, by omega, rfl, rfl, Below.refl _ _⟩
  case round =>
    obtain ⟨k, hk, rfl, rfl, hb⟩ := hrel
    by_cases hlt : k < n
    · obtain ⟨g, off, rfl, hcell⟩ := HR.out.cells hlt
      have hk1 : IntKind.i64.wrap ((k : Int) + 1) = (k : Int) + 1 := by rw [IntKind.wrap_i64]; omega
      obtain ⟨c0, c1, c2, c3⟩ := hcell w.heap.size wr (Nat.le_refl _) hb
      obtain ⟨x, hx⟩ : ∃ x, x = f k := ⟨_, rfl⟩
      rw [← hx] at c0 c1 c2 c3
      have HX := Aside.mk hx
      clear hx hcell
      go_upto_region 5 with fail
      have hll := least_lt (flp f) k
      obtain ⟨B, hB⟩ : ∃ B, B = least (flp f) k := ⟨_, rfl⟩
      rw [← hB] at hll ⊢
      have HB := Aside.mk hB
      clear hB
      have hq : ∀ q : Nat, B = (q : Int) → ∀ wz, Below w.heap.size w wz → wz.cell? ⟨g, off + q * 4, none⟩ = some (.int .i64 (f q).er) := fun q hq wz hz => by
        obtain ⟨g2, off2, h1, h2⟩ := HR.out.cells (show q < n by omega)
        injection h1 with h1
        injection h1 with h1 h3
        subst h1; subst h3
        exact (h2 _ wz (Nat.le_refl _) hz).1
      have HQ := Aside.mk hq
      clear hq
      have hsz := hb.size
      have hbW := hb.alloc hsz (.cells #[.int .i64 x.er, .int .i64 x.rd, .bool x.us, .bool x.wo] 27)
      have hnew : (wr.alloc (.cells #[.int .i64 x.er, .int .i64 x.rd, .bool x.us, .bool x.wo] 27)).heap[wr.heap.size]? = some (.cells #[.int .i64 x.er, .int .i64 x.rd, .bool x.us, .bool x.wo] 27) := heap_alloc_new wr _
      have hsW : wr.heap.size < (wr.alloc (.cells #[.int .i64 x.er, .int .i64 x.rd, .bool x.us, .bool x.wo] 27)).heap.size := by simp
      generalize wr.alloc (.cells #[.int .i64 x.er, .int .i64 x.rd, .bool x.us, .bool x.wo] 27) = W at *
      generalize wr.heap.size = h at *
      have e0 : W.cell? ⟨h, 0, none⟩ = some (.int .i64 x.er) := cell_of_row W h 0 _ _ _ hnew
      have e1 : W.cell? ⟨h, 1, none⟩ = some (.int .i64 x.rd) := cell_of_row W h 1 _ _ _ hnew
      have e2 : W.cell? ⟨h, 2, none⟩ = some (.bool x.us) := cell_of_row W h 2 _ _ _ hnew
      have e3 : W.cell? ⟨h, 3, none⟩ = some (.bool x.wo) := cell_of_row W h 3 _ _ _ hnew
      have HH := Aside.mk (And.intro hnew (And.intro hsW (And.intro hbW hsz)))
      clear hnew hsW hbW hsz c0 c1 c2 c3 hb
      go_cut [31] (fun s31 wx => s31 = .bool (x.busy && (decide (B < 0) || decide (x.er < (f B.toNat).er))) ∧ Below w.heap.size w wx)
      case first =>
        have hhW := HH.out.2.1
        have E0 : ∀ d os, (grow (redrawn W d) os).cell? ⟨h, 0, none⟩ = some (.int .i64 x.er) := fun d os => rg_cell_eq e0 d os
        have E1 : ∀ d os, (grow (redrawn W d) os).cell? ⟨h, 1, none⟩ = some (.int .i64 x.rd) := fun d os => rg_cell_eq e1 d os
        have E2 : ∀ d os, (grow (redrawn W d) os).cell? ⟨h, 2, none⟩ = some (.bool x.us) := fun d os => rg_cell_eq e2 d os
        have E3 : ∀ d os, (grow (redrawn W d) os).cell? ⟨h, 3, none⟩ = some (.bool x.wo) := fun d os => rg_cell_eq e3 d os
        clear e0 e1 e2 e3
        cases hF : x.busy
        · refine wp_region_quiet_below (by kernel_rfl) (by kernel_rfl) ?_
          repeat (go_big_quiet_step ((go_at_call 20; exact rg_call ((level_one x _).mono fun e w' ⟨h1, h2⟩ => ⟨h1.trans (by rw [hF]), h2⟩))))
          refine wpQuiet_nil ?_
          intro w5 hw5
          have hb5 := rg_end hw5
          clear hw5
          go_wp2
          go_meet
          exact ⟨by simp [hF], HH.out.2.2.1.trans (hb5.mono (Nat.le_trans HH.out.2.2.2 (Nat.le_of_lt hhW)))⟩
        · by_cases hB0 : B < 0
          · have hB1 : decide (B < 0) = true := by simp [hB0]
            refine wp_region_quiet_below (by kernel_rfl) (by kernel_rfl) ?_
            repeat (go_big_quiet_step ((go_at_call 20; exact rg_call ((level_one x _).mono fun e w' ⟨h1, h2⟩ => ⟨h1.trans (by rw [hF]), h2⟩))))
            refine wpQuiet_nil ?_
            intro w5 hw5
            have hb5 := rg_end hw5
            clear hw5
            go_wp2
            go_meet
            exact ⟨by simp [hF, hB0], HH.out.2.2.1.trans (hb5.mono (Nat.le_trans HH.out.2.2.2 (Nat.le_of_lt hhW)))⟩
          · obtain ⟨q, rfl⟩ := Int.eq_ofNat_of_zero_le (show 0 ≤ B by omega)
            have hqn : q < n := by omega
            have hq0 : (0 : Int) ≤ (q : Int) := by omega
            have hqn' : (q : Int) < (n : Int) := by omega
            have hB1 : decide ((q : Int) < 0) = false := by simp
            have g0 := HQ.out q rfl _ HH.out.2.2.1
            have G0 : ∀ d os, (grow (redrawn W d) os).cell? ⟨g, off + q * 4, none⟩ = some (.int .i64 (f q).er) := fun d os => rg_cell_eq g0 d os
            clear g0
            refine wp_region_quiet_below (by kernel_rfl) (by kernel_rfl) ?_
            repeat (go_big_quiet_step ((go_at_call 20; exact rg_call ((level_one x _).mono fun e w' ⟨h1, h2⟩ => ⟨h1.trans (by rw [hF]), h2⟩))))
            refine wpQuiet_nil ?_
            intro w5 hw5
            have hb5 := rg_end hw5
            clear hw5
            go_wp2
            go_meet
            exact ⟨by rw [hF, hB1]; simp, HH.out.2.2.1.trans (hb5.mono (Nat.le_trans HH.out.2.2.2 (Nat.le_of_lt hhW)))⟩
      case rest =>
        obtain ⟨rfl, hb⟩ := hcut
        clear HH e0 e1 e2 e3
        cases hS : (x.busy && (decide (B < 0) || decide (x.er < (f B.toNat).er)))
        · have hls : least (flp f) (k + 1) = B := by rw [HB.out]; exact least_skip (by rw [HX.out, HB.out] at hS; exact hS)
          have HL := Aside.mk hls
          clear hS hls
          go_wp2
          go_roundw
          case rel => exact ⟨k + 1, by omega, by go_num, by rw [HL.out], hb⟩
          case measure => simp [intOf]; omega
        · have hls : least (flp f) (k + 1) = k := least_take (by rw [HX.out, HB.out] at hS; exact hS)
          have HL := Aside.mk hls
          clear hS hls
          go_wp2
          go_roundw
          case rel => exact ⟨k + 1, by omega, by go_num, by rw [HL.out], hb⟩
          case measure => simp [intOf]; omega
    · obtain rfl : n = k := by omega
      go_wp2
      go_ret
      exact ⟨rfl, hb⟩
end Go.Proofs.Ytaganococolodaa
