/-
  The document's keys.
-/
import Derived.Test.YtkmdoaenlpfdaaaKeyNames
namespace Go.Proofs.Ytkmdoaenlpfdaaa
open Go.RowKit

set_option maxHeartbeats 1000000 in
theorem ref_good (n k : Int) (s : ByteArray) (p : Int) (w : World) :
    Calls Try.prog 15 #[keyV n k s p] w fun e w' => e = .returned (.bool (goodB n k s p)) ∧ w.alloc (.cells #[.int .i64 n, .int .i64 k, .string s, .int .i64 p] 30) = w' := by
  have he := toList_empty s
  rcases (by omega : n < 0 ∨ (0 ≤ n ∧ 1099511627776 < n) ∨ (0 ≤ n ∧ n ≤ 1099511627776)) with h | h | h
  all_goals
    go_enter Try.func15, Try.ntmps15
    go_wp2
    all_goals
      go_ret
      refine ⟨ret_bool ?_, by first | rfl | (subst_vars; rfl)⟩
      unfold goodB
      rw [Bool.eq_iff_iff]
      simp only [beq_iff_eq, beq_eq_false_iff_ne, ne_eq] at *
      clear he
      simp
      simp only [← ByteArray.size_eq_zero_iff] at *
      first | omega | trace_state

theorem be_zero (n : Nat) : be 0 n = ⟨#[]⟩ := rfl
theorem be_succ (s n : Nat) : be (s + 1) n = be s (n / 256) ++ ⟨#[UInt8.ofNat (n % 256)]⟩ := by
  have e : UInt8.ofNat (n % 256) = UInt8.ofNat n := by
    rw [← UInt8.toNat_inj, UInt8.toNat_ofNat', UInt8.toNat_ofNat']; omega
  rw [e]
  exact ByteArray.ext (Array.ext' (by rw [cat_list]; rfl))

set_option maxHeartbeats 2000000 in
theorem ref_bytes : ∀ (s n : Nat) (w : World), n ≤ 9223372036854775807 → s ≤ 8 →
    Calls Try.prog 13 #[.int .i64 n, .int .i64 s] w fun e w' => e = .returned (.string (be s n)) ∧ Below w.heap.size w w'
  | 0, n, w, hn, hs => by
    go_enter Try.func13, Try.ntmps13
    go_wp2
    go_ret
    exact ⟨rfl, Below.refl _ _⟩
  | s + 1, n, w, hn, hs => by
    have ih : ∀ (n' s' : Int) (w : World), n' = ((n / 256 : Nat) : Int) → s' = s → Calls Try.prog 13 #[.int .i64 n', .int .i64 s'] w fun e w' => e = .returned (.string (be s (n / 256))) ∧ Below w.heap.size w w' :=
      fun n' s' w h1 h2 => by subst h1; subst h2; exact ref_bytes s (n / 256) w (by omega) (by omega)
    have IH := Aside.mk ih
    clear ih
    have hs0 : (((s + 1 : Nat) : Int) == 0) = false := by simp; omega
    have hs1 : IntKind.i64.wrap (((s + 1 : Nat) : Int) - 1) = s := by rw [IntKind.wrap_i64]; omega
    generalize ((s + 1 : Nat) : Int) = s1 at hs0 hs1
    have hres := be_succ s n
    have hd1 : IntKind.i64.wrap ((n : Int) / 256) = ((n / 256 : Nat) : Int) := by rw [IntKind.wrap_i64]; omega
    have hr1 : (n : Int).tmod 256 = ((n % 256 : Nat) : Int) := rfl
    have hk : n % 256 < 256 := Nat.mod_lt _ (by omega)
    generalize n / 256 = d at *
    generalize n % 256 = r at *
    have hr2 : IntKind.u8.wrap (r : Int) = (r : Int) := by
      have : ((r : Nat) : Int) % 256 = r := by omega
      simpa [IntKind.wrap, IntKind.bits, IntKind.signed] using this
    have hz := be_size s d
    have hcv1 : ∀ W : World, ByteTx r W.heap.size (W.alloc (.cells #[.int .u8 (r : Int)] 5)) := fun W => byte_text hk (heap_alloc_new W _)
    have hcv2 : ∀ W : World, ByteTx r W.heap.size (W.alloc (.cells #[.int .u8 (r : Int)] 5)).drew := fun W => byte_text hk (heap_alloc_new W _)
    have hcv3 : ∀ W : World, ByteTx r W.heap.size (W.drew.alloc (.cells #[.int .u8 (r : Int)] 5)) := fun W => byte_text hk (heap_alloc_new W.drew _)
    have hcv4 : ∀ W : World, ByteTx r W.heap.size (W.drew.alloc (.cells #[.int .u8 (r : Int)] 5)).drew := fun W => byte_text hk (heap_alloc_new W.drew _)
    have hold : ∀ W W1 : World, Below W.heap.size W W1 → W.heap[w.heap.size]? = some (.cells #[.int .u8 (r : Int)] 5 (0, 0)) → w.heap.size < W.heap.size → ByteTx r w.heap.size W1 ∧ ByteTx r w.heap.size W1.drew := fun W W1 hb h h0 =>
      ⟨byte_text hk ((hb.block _ h0).trans h), byte_text hk ((hb.block _ h0).trans h)⟩
    unfold ByteTx at hcv1 hcv2 hcv3 hcv4 hold
    have HO := Aside.mk hold
    have HX := Aside.mk hres
    clear hold hres
    go_enter Try.func13, Try.ntmps13
    go_upto_region 3 with fail
    go_region_with ((go_at_call 13; refine (IH.out _ _ _ (by omega) (by omega)).mono ?_; rintro e w1 ⟨rfl, hb1⟩; first | (have hcc := HO.out _ _ hb1 (heap_alloc_new w _) (by simp); have hc1 := hcc.1; have hc2 := hcc.2; clear hcc) | skip))
    all_goals
      clear hcv1 hcv2 hcv3 hcv4 hz
      go_wp2
      go_ret
      refine ⟨by rw [HX.out]; rfl, ?_⟩
      have hbx : Below w.heap.size w w1 := by first | exact bel_undrew hb1 | exact ((Below.refl w.heap.size w).alloc (Nat.le_refl _) _).drew.trans (hb1.mono (by simp))
      repeat (first | with_reducible exact hbx | with_reducible refine Below.drew ?_ | with_reducible refine Below.alloc ?_ (show w.heap.size ≤ _ from hbx.size) _)

theorem ref_bytes_at (n s : Nat) (n' s' : Int) (w : World) (hn' : n' = n) (hs' : s' = s) (hn : n ≤ 9223372036854775807) (hs : s ≤ 8) :
    Calls Try.prog 13 #[.int .i64 n', .int .i64 s'] w fun e w' => e = .returned (.string (be s n)) ∧ Below w.heap.size w w' := by
  subst hn'; subst hs'; exact ref_bytes s n w hn hs
theorem hd_be (n k : Nat) : be 8 n ++ be 1 k = hd n k := rfl

def lessB (n k : Int) (s : ByteArray) (p : Int) (n' k' : Int) (s' : ByteArray) (p' : Int) : Bool :=
  if n = n' then (if k = k' then (if s = s' then decide (p < p') else Op.bytesLess s.toList s'.toList) else decide (k < k')) else decide (n < n')
theorem toList_inj (s t : ByteArray) : (s.toList = t.toList) = (s = t) := by
  apply propext
  constructor
  · intro h
    rw [ByteArray.toList_eq, ByteArray.toList_eq] at h
    exact ByteArray.ext (Array.ext' h)
  · rintro rfl; rfl
set_option maxHeartbeats 1000000 in
theorem ref_less (n k : Int) (s : ByteArray) (p : Int) (n' k' : Int) (s' : ByteArray) (p' : Int) (w : World) :
    Calls Try.prog 11 #[keyV n k s p, keyV n' k' s' p'] w fun e w' => e = .returned (.bool (lessB n k s p n' k' s' p')) ∧ Below w.heap.size w w' := by
  have hi := toList_inj s s'
  go_enter Try.func11, Try.ntmps11
  go_wp2
  all_goals
    go_ret
    refine ⟨ret_bool ?_, ((Below.refl _ _).alloc (Nat.le_refl _) _).alloc (by simp) _⟩
    unfold lessB
    simp_all
end Go.Proofs.Ytkmdoaenlpfdaaa
