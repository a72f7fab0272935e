/-
  The node's numbers as bytes, and back; what fits.
-/
import Derived.Test.YtdjkcmjhknabnaaDoorBe
import Derived.Test.YtdjkcmjhknabnaaDoorSlices
namespace Go.Proofs.YtdjkcmjhknabnaaDoor
open Go.RowKit

def fitsB (n : Int) : Bool := decide (0 ≤ n ∧ n ≤ 1099511627776)
def bitI (b : Bool) : Int := if b then 1 else 0

theorem node_bit (b : Bool) (w : World) : Calls Tryd.prog 14 #[.bool b] w fun e w' => e = .returned (.int .u8 (bitI b)) ∧ w = w' := by
  cases b <;> (go_enter Tryd.func14, Tryd.ntmps14; go_wp2; go_ret; exact ⟨rfl, rfl⟩)
set_option maxHeartbeats 1000000 in
theorem node_number (s : ByteArray) (w : World) (h8 : 8 ≤ s.size) :
    Calls Tryd.prog 22 #[.string s] w fun e w' => e = .returned (.int .i64 (IntKind.i64.wrap (beN (s.data.toList.take 8)))) ∧ w = w' := by
  go_enter Tryd.func22, Tryd.ntmps22
  go_wp2
  go_loop [3, 5] (fun n i => ∃ k : Nat, k ≤ 8 ∧ i = .int .i64 k ∧ n = .int .i64 (IntKind.i64.wrap (beN (s.data.toList.take k)))) (fun _ i => 8 - (intOf i).toNat)
  case atStart => exact ⟨0, Nat.zero_le _, rfl, rfl⟩
  case round =>
    obtain ⟨k, hk, rfl, rfl⟩ := hrel
    by_cases hlt : k < 8
    · have hks : k < s.size := by omega
      have hsn := beN_snoc (s.data.toList.take k) s[k]
      have hb := s[k].toNat_lt
      have HS := Aside.mk hsn
      clear hsn
      go_wp2
      go_round
      case rel =>
        refine ⟨k + 1, by omega, by go_num, ?_⟩
        rw [take_snoc_b s k hks, HS.out]
        rw [← IntWalk.i64_left, ← IntWalk.i64_left, or64w _ _ hb]
        simp
      case measure => simp [intOf]; omega
    · obtain rfl : k = 8 := by omega
      go_wp2
      go_ret
      exact ⟨rfl, rfl⟩

set_option maxHeartbeats 1000000 in
theorem node_fits (A : Option Addr) (n c : Nat) (l : List Int) (w : World) (hl : l.length = n) (hn : n ≤ 17592186044416) (hR : Rd w A n (fun i => .int .i64 (l.getD i 0))) :
    Calls Tryd.prog 24 #[.slice A n c] w fun e w' => e = .returned (.bool (l.all fitsB)) ∧ w = w' := by
  obtain ⟨r, hr⟩ : ∃ r, r = l.all fitsB := ⟨_, rfl⟩
  rw [← hr]
  have HR := Aside.mk hr
  clear hr
  go_enter Tryd.func24, Tryd.ntmps24
  go_wp2
  go_loop [4, 7] (fun s4 i => ∃ k : Nat, k ≤ n ∧ i = .int .i64 k ∧ (l.take k).all fitsB = true) (fun _ i => n - (intOf i).toNat)
  case atStart => exact ⟨0, Nat.zero_le _, rfl, rfl⟩
  case round =>
    obtain ⟨k, hk, rfl, hall⟩ := hrel
    by_cases hlt : k < n
    · obtain ⟨b, off, rfl, hblt, hcell⟩ := hR k hlt
      change w.cell? _ = some (Value.int .i64 (l.getD k 0)) at hcell
      have ht : l.take (k + 1) = l.take k ++ [l.getD k 0] := by
        rw [List.take_succ_eq_append_getElem (by omega)]
        simp [List.getD, show k < l.length by omega]
      have hmem : l.getD k 0 ∈ l := by
        simp [List.getD, show k < l.length by omega]
      have HM := Aside.mk hmem
      have HT := Aside.mk ht
      have HA := Aside.mk hall
      clear ht hmem hall hR
      generalize l.getD k 0 = x at *
      by_cases h0 : 0 ≤ x
      · by_cases h1 : x ≤ 1099511627776
        · have e : (l.take (k + 1)).all fitsB = true := by
            rw [HT.out, List.all_append, HA.out]; simp [fitsB, h0, h1]
          have HE := Aside.mk e
          clear e
          go_wp2
          go_round
          case rel => exact ⟨k + 1, by omega, by go_num, HE.out⟩
          case measure => simp [intOf]; omega
        · have e : r = false := HR.out.trans (List.all_eq_false.2 ⟨x, HM.out, by simp only [fitsB, decide_eq_true_eq]; omega⟩)
          subst e
          go_wp2
          go_ret
          exact ⟨rfl, rfl⟩
      · have e : r = false := HR.out.trans (List.all_eq_false.2 ⟨x, HM.out, by simp only [fitsB, decide_eq_true_eq]; omega⟩)
        subst e
        go_wp2
        go_ret
        exact ⟨rfl, rfl⟩
    · obtain rfl : k = n := by omega
      rw [List.take_of_length_le (by omega)] at hall
      have e : r = true := HR.out.trans hall
      subst e
      clear hall
      go_wp2
      go_ret
      exact ⟨rfl, rfl⟩

/-- The bytes of a list of numbers. -/
def numsL (l : List Int) : List UInt8 := l.flatMap fun n => beL 8 (u64 n)
theorem numsL_snoc (l : List Int) (x : Int) : numsL (l ++ [x]) = numsL l ++ beL 8 (u64 x) := by simp [numsL]
theorem numsL_length (l : List Int) : (numsL l).length = 8 * l.length := by
  induction l with
  | nil => rfl
  | cons x l ih =>
    have : numsL (x :: l) = beL 8 (u64 x) ++ numsL l := rfl
    rw [this, List.length_append, beL_length, ih, List.length_cons]; omega
/-- The i-th byte of a number, as the machine reckons it. -/
theorem byte_at (x : Int) (i : Nat) (h : i < 8) : ((((beL 8 (u64 x)).getD i 0).toNat : Nat) : Int) = x / 2 ^ (56 - 8 * i) % 256 := by
  have hg := beL_get 8 (u64 x) i h
  rw [List.getD_eq_getElem?_getD, hg, Option.getD_some, UInt8.toNat_ofNat']
  unfold u64
  rcases (by omega : i = 0 ∨ i = 1 ∨ i = 2 ∨ i = 3 ∨ i = 4 ∨ i = 5 ∨ i = 6 ∨ i = 7) with rfl | rfl | rfl | rfl | rfl | rfl | rfl | rfl <;> simp <;> omega

def numsB (l : List Int) : ByteArray := ⟨(numsL l).toArray⟩

set_option maxHeartbeats 2000000 in
theorem node_numbers (A : Option Addr) (n c : Nat) (l : List Int) (w : World) (hl : l.length = n) (hn : n ≤ 1000) (hR : Rd w A n (fun i => .int .i64 (l.getD i 0))) :
    Calls Tryd.prog 15 #[.slice A n c] w fun e w' => e = .returned (.string (numsB l)) ∧ Below w.heap.size w w' := by
  go_enter Tryd.func15, Tryd.ntmps15
  go_wp2
  go_loopw [3, 5, 6, 9] (fun s3 s5 s6 s9 wr => ∃ k : Nat, k ≤ n ∧ s9 = .int .i64 k ∧ Row wr w.heap.size 5 1 s3 (8 * k) (bytesV (numsL (l.take k))) ∧ Below w.heap.size w wr) (fun _ _ _ s9 _ => n - (intOf s9).toNat)
  case atStart => exact ⟨0, Nat.zero_le _, rfl, Row.nil _ _ _ _, Below.refl _ _⟩
  case round =>
    obtain ⟨k, hk, rfl, hrow, hb⟩ := hrel
    by_cases hlt : k < n
    · obtain ⟨b, off, rfl, hblt, hcell⟩ := hR k hlt
      have hc2 := (hb.cell (p := ⟨b, off + k, none⟩) hblt).trans hcell
      change wr.cell? _ = some (Value.int .i64 (l.getD k 0)) at hc2
      have ht : l.take (k + 1) = l.take k ++ [l.getD k 0] := by
        rw [List.take_succ_eq_append_getElem (by omega)]
        simp [List.getD, show k < l.length by omega]
      have HT := Aside.mk ht
      have HB := Aside.mk (And.intro hrow hb)
      clear ht hrow hb hcell hR
      generalize l.getD k 0 = x at *
      go_wp2
      go_loopw [3, 6, 13] (fun s3 s6 s13 wq => ∃ i : Nat, i ≤ 8 ∧ s13 = .int .i64 i ∧ Row wq w.heap.size 5 1 s3 (8 * k + i) (bytesV (numsL (l.take k) ++ (beL 8 (u64 x)).take i)) ∧ Below w.heap.size w wq) (fun _ _ s13 _ => 8 - (intOf s13).toNat)
      case atStart => exact ⟨0, Nat.zero_le _, rfl, by simpa using HB.out.1, HB.out.2⟩
      case round =>
        obtain ⟨i, hi, rfl, hrow, hb⟩ := hrel
        clear HB
        by_cases hi8 : i < 8
        · have hm : IntKind.i64.wrap (8 * (i : Int)) = 8 * i := by rw [IntKind.wrap_i64]; omega
          have hs : IntKind.i64.wrap (56 - 8 * (i : Int)) = ((56 - 8 * i : Nat) : Int) := by rw [IntKind.wrap_i64]; omega
          have hbs := hb.size
          have HG := Aside.mk (byte_at x i hi8)
          go_wp2_with (at_builtin; refine wpList_append_one (w0 := w) w.heap.size rfl _ _ 42 5 1 1 (.int .u8 0) rfl Tryd.underlying42 infoU8 rfl (by decide) u3 (8 * k + i) _ #[.int .u8 (x / 2 ^ (56 - 8 * i) % 256)] rfl rfl rfl hrow (by simp [Value.oneCell']) hb hbs (by omega) (by simp only [maxLen]; omega) ?_; intro v1 w1 hr1 hb1 hg1 hat1)
          have hr2 : Row w1 w.heap.size 5 1 v1 (8 * k + i + 1) (bytesV (numsL (l.take k) ++ (beL 8 (u64 x)).take (i + 1))) := by
            have e : (beL 8 (u64 x)).take (i + 1) = (beL 8 (u64 x)).take i ++ [(beL 8 (u64 x)).getD i 0] := by
              rw [List.take_succ_eq_append_getElem (by rw [beL_length]; exact hi8)]
              simp [List.getD, show i < (beL 8 (u64 x)).length by rw [beL_length]; exact hi8]
            rw [e, ← List.append_assoc, bytesV_append]
            have e2 : bytesV [(beL 8 (u64 x)).getD i 0] = [Value.int .u8 (x / 2 ^ (56 - 8 * i) % 256)] := by
              rw [← HG.out]; rfl
            rw [e2]
            exact hr1
          go_roundw
          case rel => exact ⟨i + 1, by omega, by go_num, hr2, hb1⟩
          case measure => simp [intOf]; omega
        · obtain rfl : i = 8 := by omega
          have hr2 : Row wr w.heap.size 5 1 u3 (8 * (k + 1)) (bytesV (numsL (l.take (k + 1)))) := by
            rw [HT.out, numsL_snoc, show 8 * (k + 1) = 8 * k + 8 by omega]
            rwa [List.take_of_length_le (l := beL 8 (u64 x)) (by rw [beL_length]; exact Nat.le_refl _)] at hrow
          have H2 := Aside.mk hr2
          clear hr2 hrow
          go_wp2
          go_roundw
          case rel => exact ⟨k + 1, by omega, by go_num, H2.out, hb⟩
          case measure => simp [intOf]; omega
    · obtain rfl : k = n := by omega
      rw [List.take_of_length_le (by omega)] at hrow
      have hst := hrow.toString (P := Tryd.prog) Tryd.underlying42 Tryd.underlying5 Tryd.underlying9
      clear hrow
      go_wp2
      go_ret
      exact ⟨rfl, hb⟩
end Go.Proofs.YtdjkcmjhknabnaaDoor
