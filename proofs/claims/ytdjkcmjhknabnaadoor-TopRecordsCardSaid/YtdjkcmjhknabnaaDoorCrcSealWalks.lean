/-
  What sealing and opening compute.
-/
import Derived.Test.YtdjkcmjhknabnaaDoorCrcWalks
import Derived.Test.YtdjkcmjhknabnaaDoorMem
import Derived.Deep.RegionWith
import Derived.Deep.QuietTactic
import Derived.BigQuiet
import Derived.Deep.RegionHeld3
import Derived.BigRegion
import Derived.Deep.DeepCutAuto
namespace Go.Proofs.YtdjkcmjhknabnaaDoor
open Go.RowKit

/-- The four bytes of a sum, the lowest first. -/
def le4 (c : Nat) : List UInt8 := [UInt8.ofNat c, UInt8.ofNat (c / 256), UInt8.ofNat (c / 65536), UInt8.ofNat (c / 16777216)]
theorem le4_length (c : Nat) : (le4 c).length = 4 := rfl
theorem le4_cells {c : Nat} (hc : c < 4294967296) : bytesV (le4 c) = [.int .u8 ((c : Int) % 256), .int .u8 ((c : Int) / 256 % 256), .int .u8 ((c : Int) / 65536 % 256), .int .u8 ((c : Int) / 16777216)] := by
  have h : c / 16777216 < 256 := by omega
  have e : (c / 16777216) % 256 = c / 16777216 := Nat.mod_eq_of_lt h
  simp [bytesV, le4, UInt8.toNat_ofNat', e]
/-- A sealed text. -/
def sealed (s : ByteArray) : ByteArray := s ++ ⟨(le4 (Crc.sum s.data.toList)).toArray⟩
theorem sealed_size (s : ByteArray) : (sealed s).size = s.size + 4 := by
  unfold sealed; rw [ByteArray.size_append]; rfl
theorem sealed_list (s : ByteArray) : (sealed s).data.toList = s.data.toList ++ le4 (Crc.sum s.data.toList) := by
  unfold sealed; rw [concat_list]

set_option maxHeartbeats 400000 in
theorem crc_four (c : Nat) (w : World) (hc : c < 4294967296) :
    Calls Tryd.prog 25 #[.int .u32 c] w fun e w' => e = .returned (.agg #[.int .u8 ((c : Int) % 256), .int .u8 ((c : Int) / 256 % 256), .int .u8 ((c : Int) / 65536 % 256), .int .u8 ((c : Int) / 16777216)]) ∧ w.alloc (.cells #[.int .u8 ((c : Int) % 256), .int .u8 ((c : Int) / 256 % 256), .int .u8 ((c : Int) / 65536 % 256), .int .u8 ((c : Int) / 16777216)] 66) = w' := by
  go_enter Tryd.func25, Tryd.ntmps25
  go_wp2
  exact bodyPost_ret (v := .agg #[.int .u8 ((c : Int) % 256), .int .u8 ((c : Int) / 256 % 256), .int .u8 ((c : Int) / 65536 % 256), .int .u8 ((c : Int) / 16777216)]) (by simp [results, Tryd.results25, go_sem]) rfl ⟨rfl, rfl⟩

/-- The sum's bytes, laid as an array, as a text. -/
theorem four_text {c : Nat} (hc : c < 4294967296) (W : World) (t : TypeId) :
    (convert 42 9 (.slice (some ⟨W.heap.size, 0, none⟩) 4 4)).run Tryd.prog (W.alloc (.cells #[.int .u8 ((c : Int) % 256), .int .u8 ((c : Int) / 256 % 256), .int .u8 ((c : Int) / 65536 % 256), .int .u8 ((c : Int) / 16777216)] t)) =
      .ok (.string ⟨(le4 c).toArray⟩) (W.alloc (.cells #[.int .u8 ((c : Int) % 256), .int .u8 ((c : Int) / 256 % 256), .int .u8 ((c : Int) / 65536 % 256), .int .u8 ((c : Int) / 16777216)] t)) := by
  have h := Row.lit W 0 t 1 #[.int .u8 ((c : Int) % 256), .int .u8 ((c : Int) / 256 % 256), .int .u8 ((c : Int) / 65536 % 256), .int .u8 ((c : Int) / 16777216)] 4 (Nat.zero_le _) (by decide) rfl
  rw [show (#[Value.int .u8 ((c : Int) % 256), .int .u8 ((c : Int) / 256 % 256), .int .u8 ((c : Int) / 65536 % 256), .int .u8 ((c : Int) / 16777216)]).toList = bytesV (le4 c) from (le4_cells hc).symm] at h
  exact h.toString Tryd.underlying42 Tryd.underlying5 Tryd.underlying9

set_option maxHeartbeats 400000 in
theorem crc_seal (s : ByteArray) (w : World) (hs : s.size ≤ 281474976710656) (hn : Nib w) :
    Calls Tryd.prog 16 #[.string s] w fun e w' => e = .returned (.string (sealed s)) ∧ Below w.heap.size w w' := by
  have hl := Crc.sum_lt s.data.toList
  have kc := four_text hl (w.alloc (.cells #[.int .u8 ((Crc.sum s.data.toList : Int) % 256), .int .u8 ((Crc.sum s.data.toList : Int) / 256 % 256), .int .u8 ((Crc.sum s.data.toList : Int) / 65536 % 256), .int .u8 ((Crc.sum s.data.toList : Int) / 16777216)] 66)) 66
  simp only [World.size_alloc] at kc
  have h4 : (⟨(le4 (Crc.sum s.data.toList)).toArray⟩ : ByteArray).size ≤ 4 := Nat.le_refl 4
  go_enter Tryd.func16, Tryd.ntmps16
  go_wp2_with (first | (go_at_call 26; refine (crc_sum _ _ (by omega) hn).mono ?_; rintro e w' ⟨rfl, rfl⟩) | (go_at_call 25; refine (crc_four _ _ hl).mono ?_; rintro e w1 ⟨rfl, rfl⟩))
  go_ret
  exact ⟨rfl, ((Below.refl _ _).alloc (Nat.le_refl _) _).alloc (by simp) _⟩

theorem slice_head (s : ByteArray) (k : Nat) (h : k ≤ s.size) (W : World) :
    (Instr.slice 9 (.string s) none (some (.int .i64 ((s.size : Int) - k))) none).run Tryd.prog W = .ok (.string (s.extract 0 (s.size - k))) W := by
  have := run_slice_string_h (P := Tryd.prog) (w := W) 9 s Tryd.underlying9 .i64 ((s.size : Int) - k) (by omega) (by omega)
  rw [this]
  congr 3
  omega
theorem slice_tail (s : ByteArray) (k : Nat) (h : k ≤ s.size) (W : World) :
    (Instr.slice 9 (.string s) (some (.int .i64 ((s.size : Int) - k))) none none).run Tryd.prog W = .ok (.string (s.extract (s.size - k) s.size)) W := by
  have := run_slice_string_l (P := Tryd.prog) (w := W) 9 s Tryd.underlying9 .i64 ((s.size : Int) - k) (by omega) (by omega)
  rw [this]
  congr 3
  omega

theorem heap_new2 (w : World) (A B : Obj) : ((w.alloc A).alloc B).heap[w.heap.size + 1]? = some B := by
  have := heap_alloc_new (w.alloc A) B
  rwa [World.size_alloc] at this
theorem heap_old2 (w : World) (A B : Obj) : ((w.alloc A).alloc B).heap[w.heap.size]? = some A :=
  (Below.heap_alloc (w.alloc A) B _ (by simp)).trans (heap_alloc_new w A)

theorem infoByte : (Tryd.prog.info? 5).map (·.size) = some 1 := by kernel_rfl
set_option maxHeartbeats 1000000 in
theorem eq4 (x0 x1 x2 x3 y0 y1 y2 y3 : Int) (W : World) : (Op.equalIn 10000 66 (.agg #[.int .u8 x0, .int .u8 x1, .int .u8 x2, .int .u8 x3]) (.agg #[.int .u8 y0, .int .u8 y1, .int .u8 y2, .int .u8 y3])).run Tryd.prog W = .ok (x0 == y0 && (x1 == y1 && (x2 == y2 && x3 == y3))) W := by
  obtain ⟨i, hi, hs⟩ := Option.map_eq_some_iff.1 infoByte
  have kp : ∀ (xs : Array Value) (j : Nat) (x : Int) (W : World), xs[j]? = some (.int .u8 x) → (part 5 xs j).run Tryd.prog W = .ok (.int .u8 x) W := by
    intro xs j x W h
    simp [part, sizeOf, typeInfo, hi, hs, h]
  have q : ∀ a b : Int, ∀ W, (Op.equalIn 9999 5 (.int .u8 a) (.int .u8 b)).run Tryd.prog W = .ok (a == b) W := fun a b W => run_equalIn_int W 9998 5 .u8 .u8 a b Tryd.underlying5
  have p0 := fun x0 x1 x2 x3 W => kp #[.int .u8 x0, .int .u8 x1, .int .u8 x2, .int .u8 x3] 0 x0 W rfl
  have p1 := fun x0 x1 x2 x3 W => kp #[.int .u8 x0, .int .u8 x1, .int .u8 x2, .int .u8 x3] 1 x1 W rfl
  have p2 := fun x0 x1 x2 x3 W => kp #[.int .u8 x0, .int .u8 x1, .int .u8 x2, .int .u8 x3] 2 x2 W rfl
  have p3 := fun x0 x1 x2 x3 W => kp #[.int .u8 x0, .int .u8 x1, .int .u8 x2, .int .u8 x3] 3 x3 W rfl
  rw [show (10000 : Nat) = 9999 + 1 from rfl, Op.equalIn]
  simp only [run_underlying Tryd.underlying66, Sem.run_bind, Result.andThen_ok]
  by_cases h0 : x0 = y0
  · by_cases h1 : x1 = y1
    · by_cases h2 : x2 = y2
      · by_cases h3 : x3 = y3 <;> simp [List.range', sizeOf, typeInfo, hi, hs, p0, p1, p2, p3, q, h0, h1, h2, h3]
      · simp [List.range', sizeOf, typeInfo, hi, hs, p0, p1, p2, q, h0, h1, h2]
    · simp [List.range', sizeOf, typeInfo, hi, hs, p0, p1, q, h0, h1]
  · simp [List.range', sizeOf, typeInfo, hi, hs, p0, q, h0]

/-- The four bytes of a sum as cells. -/
def fourC (c : Nat) : Array Value := #[.int .u8 ((c : Int) % 256), .int .u8 ((c : Int) / 256 % 256), .int .u8 ((c : Int) / 65536 % 256), .int .u8 ((c : Int) / 16777216)]

/-- What opening a text of four bytes and more answers. -/
def opens (s : ByteArray) : Bool := decide (4 ≤ s.size ∧ s.data.toList.drop (s.size - 4) = le4 (Crc.sum (s.data.toList.take (s.size - 4))))

def openText (s : ByteArray) : ByteArray := if opens s then s.extract 0 (s.size - 4) else ByteArray.empty
theorem ret_open {s x : ByteArray} {b : Bool} (h : x = openText s) (hb : b = opens s) : Ending.returned (.tuple #[.string x, .bool b]) = .returned (.tuple #[.string (openText s), .bool (opens s)]) := by rw [h, hb]

theorem le4_eq (t0 t1 t2 t3 : UInt8) (c : Nat) (hc : c < 4294967296) :
    ((t0.toNat : Int) == (c : Int) % 256 && ((t1.toNat : Int) == (c : Int) / 256 % 256 && ((t2.toNat : Int) == (c : Int) / 65536 % 256 && (t3.toNat : Int) == (c : Int) / 16777216))) = decide ([t0, t1, t2, t3] = le4 c) := by
  have h := le4_cells hc
  simp only [bytesV, le4, List.map_cons, List.map_nil, List.cons.injEq, Value.int.injEq, true_and, and_true] at h
  obtain ⟨h0, h1, h2, h3⟩ := h
  rw [← h0, ← h1, ← h2, ← h3]
  simp only [le4, List.cons.injEq, and_true, ← UInt8.toNat_inj]
  rw [Bool.eq_iff_iff]
  simp only [Bool.and_eq_true, beq_iff_eq, decide_eq_true_eq, Int.natCast_inj]

set_option maxHeartbeats 400000 in
theorem crc_open_long (s : ByteArray) (w : World) (h4 : 4 ≤ s.size) (hs : s.size ≤ 281474976710656) (hn : Nib w) :
    Calls Tryd.prog 21 #[.string s] w fun e w' => e = .returned (.tuple #[.string (openText s), .bool (opens s)]) ∧ Below w.heap.size w w' := by
  have hsz : (s.extract 0 (s.size - 4)).size = s.size - 4 := by simp
  have hsl : (s.extract 0 (s.size - 4)).size ≤ 281474976710656 := by omega
  clear hsz
  have hs1 : ∀ W, (Instr.slice 9 (.string s) none (some (.int .i64 ((s.size : Int) - 4))) none).run Tryd.prog W = .ok (.string (s.extract 0 (s.size - 4))) W := slice_head s 4 h4
  have hs2 : ∀ W, (Instr.slice 9 (.string s) (some (.int .i64 ((s.size : Int) - 4))) none none).run Tryd.prog W = .ok (.string (s.extract (s.size - 4) s.size)) W := slice_tail s 4 h4
  have hw4 : IntKind.i64.wrap ((s.size : Int) - 4) = (s.size : Int) - 4 := by rw [IntKind.wrap_i64]; omega
  go_enter Tryd.func21, Tryd.ntmps21
  go_upto_region 3 with fail
  go_cut [4, 5] (fun s4 s5 wx => ∃ g : Nat, s4 = .string (s.extract 0 (s.size - 4)) ∧ s5 = .pointer (some ⟨g, 0, none⟩) ∧ Below w.heap.size w wx ∧ w.heap.size ≤ g ∧ wx.heap[g]? = some (.cells (fourC (Crc.sum (s.data.toList.take (s.size - 4)))) 66 (0, 0)))
  case first =>
    go_region_held3 (fun w' => Nib w') (first | with_reducible exact hn.drew | (with_reducible refine Nib.alloc ?_ _; with_reducible assumption) | (with_reducible refine Nib.drew (Nib.alloc ?_ _); with_reducible assumption) | with_reducible exact (hn.alloc _).drew | with_reducible exact ((hn.alloc _).alloc _).drew | with_reducible assumption | go_keep) ((first | (go_at_call 26; refine (crc_sum _ _ (by omega) (by first | with_reducible exact hn.drew | with_reducible exact (hn.alloc _).drew)).mono ?_; rintro e w' ⟨rfl, rfl⟩) | (go_at_call 25; refine (crc_four _ _ (Crc.sum_lt _)).mono ?_; rintro e w1 ⟨rfl, rfl⟩)))
    all_goals (go_wp2_with fail; go_meet; refine ⟨_, rfl, rfl, ?_, by omega, ?_⟩)
    all_goals first | (apply Below.drew; (repeat (first | exact Below.refl _ _ | (refine Below.alloc ?_ (by simp) _))); done) | skip
    all_goals first | exact heap_new2 w _ _ | exact heap_old2 w _ _
  case rest =>
    obtain ⟨g, rfl, rfl, hb, hg, hbl⟩ := hcut
    have c0 := (cell_of_row wc g 0 _ _ _ hbl)
    have c1 := (cell_of_row wc g 1 _ _ _ hbl)
    have c2 := (cell_of_row wc g 2 _ _ _ hbl)
    have c3 := (cell_of_row wc g 3 _ _ _ hbl)
    simp [fourC] at c0 c1 c2 c3
    have kb := fun W => Lib.run_convert_string_bytes (P := Tryd.prog) W 9 42 5 (s.extract (s.size - 4) s.size) Tryd.underlying9 Tryd.underlying42 Tryd.underlying5
    have hz4 : (s.extract (s.size - 4) s.size).size = 4 := by simp; omega
    have k0 := fun W => Lib.bytesWorld_cell W 5 (s.extract (s.size - 4) s.size) 0 (by omega)
    have k1 := fun W => Lib.bytesWorld_cell W 5 (s.extract (s.size - 4) s.size) 1 (by omega)
    have k2 := fun W => Lib.bytesWorld_cell W 5 (s.extract (s.size - 4) s.size) 2 (by omega)
    have k3 := fun W => Lib.bytesWorld_cell W 5 (s.extract (s.size - 4) s.size) 3 (by omega)
    rw [hz4] at kb
    have hgl : g < wc.heap.size := World.block_lt_of_cell? wc ⟨g, 0, none⟩ c0
    have d0 : ∀ j, ∀ W : World, W.heap.size = wc.heap.size → (Lib.bytesWorld W 5 (s.extract (s.size - 4) s.size)).cell? ⟨g, j, none⟩ = W.cell? ⟨g, j, none⟩ := fun j W hW => Lib.bytesWorld_old W _ _ ⟨g, j, none⟩ (by rw [hW]; exact hgl)
    have ka : ∀ (a : Addr) (c : Nat) (W : World), (Instr.arrayAt 66 (.slice (some a) 4 c)).run Tryd.prog W = .ok (.pointer (some a)) W := fun a c W => by simp [Instr.arrayAt, run_underlying Tryd.underlying66]
    have kw : ∀ j, (Lib.bytesWorld wc.drew 5 (s.extract (s.size - 4) s.size)).cell? ⟨wc.heap.size, j, none⟩ = (Lib.bytesWorld wc.drew 5 (s.extract (s.size - 4) s.size)).cell? ⟨wc.drew.heap.size, j, none⟩ := fun _ => rfl
    obtain ⟨t0, t1, t2, t3, ht⟩ : ∃ t0 t1 t2 t3, (s.extract (s.size - 4) s.size).data.toList = [t0, t1, t2, t3] := by
      have hl : (s.extract (s.size - 4) s.size).data.toList.length = 4 := by rw [data_len]; exact hz4
      match hq : (s.extract (s.size - 4) s.size).data.toList, hl with
      | [t0, t1, t2, t3], _ => exact ⟨t0, t1, t2, t3, rfl⟩
    have e0 := (kw 0).trans (k0 wc.drew)
    have e1 := (kw 1).trans (k1 wc.drew)
    have e2 := (kw 2).trans (k2 wc.drew)
    have e3 := (kw 3).trans (k3 wc.drew)
    rw [ht] at e0 e1 e2 e3
    have hbool := le4_eq t0 t1 t2 t3 (Crc.sum (s.data.toList.take (s.size - 4))) (Crc.sum_lt _)
    have hop : decide ([t0, t1, t2, t3] = le4 (Crc.sum (s.data.toList.take (s.size - 4)))) = opens s := by
      unfold opens
      rw [← ht]
      have hd : (s.extract (s.size - 4) s.size).data.toList = s.data.toList.drop (s.size - 4) := by
        rw [ByteArray.data_extract, Array.toList_extract, List.extract_eq_take_drop]
        exact List.take_of_length_le (by rw [List.length_drop, data_len]; omega)
      rw [hd]
      simp [h4]
    rw [hop] at hbool
    simp only [List.getD_cons_zero, List.getD_cons_succ] at e0 e1 e2 e3
    clear hop ht
    have kq := eq4
    have HB := Aside.mk hb
    clear hb
    have hfin : ∀ wx : World, Below wc.heap.size wc wx → Below w.heap.size w wx := fun wx h => HB.out.trans (h.mono HB.out.size)
    have HF := Aside.mk hfin
    clear hfin
    clear kw k0 k1 k2 k3
    clear hbl
    go_wp2_with fail
    have e5 := (d0 0 wc.drew rfl).trans c0
    have e6 := (d0 1 wc.drew rfl).trans c1
    have e7 := (d0 2 wc.drew rfl).trans c2
    have e8 := (d0 3 wc.drew rfl).trans c3
    clear d0
    go_region
    clear hbool
    have ht1 : opens s = true → s.extract 0 (s.size - 4) = openText s := fun h => by unfold openText; rw [if_pos h]
    have ht0 : opens s = false → ByteArray.empty = openText s := fun h => by unfold openText; rw [h]; rfl
    have H1 := Aside.mk ht1
    have H0 := Aside.mk ht0
    clear ht1 ht0
    cases hO : opens s
    · have HO := Aside.mk hO
      go_wp2
      go_ret2
      exact ⟨ret_open (H0.out HO.out) HO.out.symm, HF.out _ (below_ofString (Below.refl _ _).drew (Nat.le_refl _) _ _)⟩
    · have HO := Aside.mk hO
      go_wp2
      go_ret2
      exact ⟨ret_open (H1.out HO.out) HO.out.symm, HF.out _ (below_ofString (Below.refl _ _).drew (Nat.le_refl _) _ _)⟩

theorem opens_short {s : ByteArray} (h : ¬ 4 ≤ s.size) : opens s = false := by unfold opens; simp [h]
theorem openText_not {s : ByteArray} (h : opens s = false) : openText s = ByteArray.empty := by unfold openText; rw [h]; rfl

set_option maxHeartbeats 400000 in
theorem crc_open_short (s : ByteArray) (w : World) (h4 : s.size < 4) :
    Calls Tryd.prog 21 #[.string s] w fun e w' => e = .returned (.tuple #[.string ByteArray.empty, .bool false]) ∧ Below w.heap.size w w' := by
  go_enter Tryd.func21, Tryd.ntmps21
  go_wp2
  go_ret2
  exact ⟨rfl, Below.refl _ _⟩

theorem crc_open (s : ByteArray) (w : World) (hs : s.size ≤ 281474976710656) (hn : Nib w) :
    Calls Tryd.prog 21 #[.string s] w fun e w' => e = .returned (.tuple #[.string (openText s), .bool (opens s)]) ∧ Below w.heap.size w w' := by
  by_cases h4 : 4 ≤ s.size
  · exact crc_open_long s w h4 hs hn
  · have h := opens_short h4
    rw [openText_not h, h]
    exact crc_open_short s w (by omega)

theorem le4_one (q : Nat) : bytesV [UInt8.ofNat q] = [.int .u8 ((q : Int) % 256)] := by simp [bytesV, UInt8.toNat_ofNat']
theorem le4_shift {L : List UInt8} {k q : Nat} (h : L.drop k = (le4 q).take (4 - k)) (hk : k < 4) : L.take (k + 1) = L.take k ++ [UInt8.ofNat q] ∧ L.drop (k + 1) = (le4 (q / 256)).take (3 - k) := by
  have hd : (le4 q).take (4 - k) = UInt8.ofNat q :: (le4 (q / 256)).take (3 - k) := by
    have e1 : q / 256 / 256 = q / 65536 := by omega
    have e2 : q / 256 / 65536 = q / 16777216 := by omega
    have h4 : 4 - k = (3 - k) + 1 := by omega
    rw [h4]
    simp only [le4, List.take_succ_cons, e1, e2]
    congr 1
    rcases (by omega : k = 0 ∨ k = 1 ∨ k = 2 ∨ k = 3) with rfl | rfl | rfl | rfl <;> rfl
  rw [hd] at h
  have hl : k < L.length := by
    have := congrArg List.length h
    simp only [List.length_drop, List.length_cons] at this
    omega
  have hk2 := List.drop_eq_getElem_cons hl
  rw [h] at hk2
  injection hk2 with ha hb
  exact ⟨by rw [List.take_succ_eq_append_getElem hl, ← ha], hb.symm⟩
theorem infoByte3 : (Tryd.prog.info? 5).map (fun i => (i.zero, i.size, i.bytes)) = some (some (.int .u8 0), 1, 1) := by kernel_rfl

end Go.Proofs.YtdjkcmjhknabnaaDoor
