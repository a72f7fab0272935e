/-
  A row of bytes shifted by one bit.
-/
import Derived.Test.YtkdfbganhohbfaaDoorBchMem
namespace Go.Proofs.YtkdfbganhohbfaaDoor
open Go.RowKit

/-- Shifted to the left by one bit; the bit that falls out. -/
def leftL : List UInt8 → List UInt8 × UInt8
  | [] => ([], 0)
  | x :: r => (((x <<< 1) ||| (leftL r).2) :: (leftL r).1, x >>> 7)
theorem leftL_len (l : List UInt8) : (leftL l).1.length = l.length := by
  induction l with
  | nil => rfl
  | cons x r ih => simp [leftL, ih]
theorem shl_all : ∀ n : Nat, n < 256 → (UInt8.ofNat n <<< 1).toNat = n * 2 % 256 := by decide +kernel
theorem shr_all : ∀ n : Nat, n < 256 → (UInt8.ofNat n >>> 7).toNat = n / 128 := by decide +kernel
theorem shl_one (x : UInt8) : (x <<< 1).toNat = x.toNat * 2 % 256 := by
  have := shl_all x.toNat x.toNat_lt
  rwa [UInt8.ofNat_toNat] at this
theorem shr_seven (x : UInt8) : (x >>> 7).toNat = x.toNat / 128 := by
  have := shr_all x.toNat x.toNat_lt
  rwa [UInt8.ofNat_toNat] at this
theorem or8U (x o : UInt8) : bits .or .u8 (x.toNat : Int) (o.toNat : Int) = ((x ||| o).toNat : Int) := by
  rw [u8_or x.toNat_lt o.toNat_lt, UInt8.toNat_or]
theorem shl_or (x o : UInt8) : bits .or .u8 ((x.toNat : Int) * 2 % 256) (o.toNat : Int) = ((x <<< 1 ||| o).toNat : Int) := by
  have e : ((x.toNat * 2 % 256 : Nat) : Int) = (x.toNat : Int) * 2 % 256 := by omega
  rw [← or8U, shl_one, e]
theorem bytesV_at {l : List UInt8} {i : Nat} (h : i < l.length) : (bytesV l).getD i undef = .int .u8 ((l.getD i 0).toNat : Int) := by
  unfold bytesV
  rw [List.getD_eq_getElem?_getD, List.getElem?_map, List.getElem?_eq_getElem h, List.getD_eq_getElem?_getD, List.getElem?_eq_getElem h]
  rfl
theorem take_at {l r : List UInt8} {i : Nat} (h : i < l.length) : (l.take (i + 1) ++ r).getD i 0 = l.getD i 0 := by
  have h2 : i < (l.take (i + 1)).length := by rw [List.length_take]; omega
  simp only [List.getD_eq_getElem?_getD]
  rw [List.getElem?_append_left h2, List.getElem?_take_of_lt (by omega)]
theorem take_set_app {l r : List UInt8} {i : Nat} (b : UInt8) (h : i < l.length) : (l.take (i + 1) ++ r).set i b = l.take i ++ b :: r := by
  have h2 : (l.take i).length = i := by rw [List.length_take]; omega
  rw [List.take_add_one, List.getElem?_eq_getElem h, Option.toList_some, List.append_assoc]
  rw [List.set_append_right _ _ (by omega), h2, Nat.sub_self]
  rfl
def LeftPost (w : World) (B g n c : Nat) (l : List UInt8) (e : Ending) (w' : World) : Prop :=
  e = .returned (.int .u8 ((leftL l).2.toNat : Int)) ∧ Row w' B 5 1 (.slice (some ⟨g, 0, none⟩) n c) n (bytesV (leftL l).1) ∧ w.grownBy w' (some g)
set_option maxRecDepth 100000 in
set_option maxHeartbeats 2000000 in
theorem bch_left (B g n c : Nat) (l : List UInt8) (w : World) (hn : n ≤ 1000000) (hl : l.length = n) (hr : Row w B 5 1 (.slice (some ⟨g, 0, none⟩) n c) n (bytesV l)) :
    Calls Tryd.prog 14 #[.slice (some ⟨g, 0, none⟩) n c] w (LeftPost w B g n c l) := by
  have HL := Aside.mk (And.intro hn (And.intro hl hr))
  have w1 : IntKind.i64.wrap ((n : Int) - 1) = (n : Int) - 1 := by rw [IntKind.wrap_i64]; omega
  clear hn hl hr
  go_enter Tryd.func14, Tryd.ntmps14
  go_wp2
  go_loopw [3, 4] (fun s3 s4 wr => ∃ j : Nat, s4 = .int .i64 ((j : Int) - 1) ∧ j ≤ n ∧ s3 = .int .u8 ((leftL (l.drop j)).2.toNat : Int) ∧ Aside (Row wr B 5 1 (.slice (some ⟨g, 0, none⟩) n c) n (bytesV (l.take j ++ (leftL (l.drop j)).1)) ∧ w.grownBy wr (some g))) (fun _ s4 _ => (intOf s4 + 1).toNat)
  case atStart => exact ⟨n, rfl, Nat.le_refl _, by rw [List.drop_of_length_le (by have := HL.out; omega)]; rfl, ⟨by rw [List.drop_of_length_le (by have := HL.out; omega), List.take_of_length_le (by have := HL.out; omega)]; simpa [leftL] using HL.out.2.2, World.grownBy.refl _ _⟩⟩
  case round =>
    obtain ⟨j, rfl, hj, rfl, HI⟩ := hrel
    by_cases h0 : j = 0
    · subst h0
      have h1 : ¬ (0 : Int) ≤ ((0 : Nat) : Int) - 1 := by omega
      clear w1
      go_wp2
      go_ret
      exact ⟨rfl, HI.out.1, HI.out.2⟩
    · obtain ⟨i, rfl⟩ : ∃ i, j = i + 1 := ⟨j - 1, by omega⟩
      have e1 : (((i + 1 : Nat) : Int) - 1) = (i : Int) := by omega
      rw [e1]
      have h1 : (0 : Int) ≤ (i : Int) := by omega
      have h2 : (i : Int) < (n : Int) := by omega
      have hi1 : IntKind.i64.wrap ((i : Int) - 1) = (i : Int) - 1 := by have := HL.out; rw [IntKind.wrap_i64]; omega
      have hd : l.drop i = l.getD i 0 :: l.drop (i + 1) := by
        have hil : i < l.length := by have := HL.out; omega
        rw [List.drop_eq_getElem_cons hil]
        simp [List.getD_eq_getElem?_getD, hil]
      obtain ⟨y0, z0⟩ := HI.out.1.at_ rfl i (by omega)
      have hil : i < l.length := by have := HL.out; omega
      have ht := take_at (r := (leftL (l.drop (i + 1))).1) hil
      obtain ⟨x, hx⟩ : ∃ x, x = l.getD i 0 := ⟨_, rfl⟩
      obtain ⟨o, ho⟩ : ∃ o, o = (leftL (l.drop (i + 1))).2 := ⟨_, rfl⟩
      replace y0 : wr.cell? ⟨g, i, none⟩ = some (.int .u8 (x.toNat : Int)) := by
        rw [Nat.zero_add] at y0
        rw [y0, hx, ← ht]
        exact congrArg some (bytesV_at (by rw [List.length_append, List.length_take, leftL_len, List.length_drop]; have := HL.out; omega))
      rw [Nat.zero_add] at z0
      rw [← ho]
      have HX := Aside.mk (And.intro hx (And.intro ho (And.intro hd (And.intro hj hil))))
      clear hx ho hd ht hj e1 h0 w1 hil
      go_upto_region 5 with fail
      go_region
      all_goals
        go_wp2
        go_roundw
        case rel =>
          obtain ⟨hx, ho, hd, hj, hil⟩ := HX.out
          have hs := HI.out.1.store rfl i (by omega) (.int .u8 ((x <<< 1 ||| o).toNat : Int))
          rw [Nat.zero_add] at hs
          have e2 : leftL (l.drop i) = ((x <<< 1 ||| o) :: (leftL (l.drop (i + 1))).1, x >>> 7) := by rw [hd, hx, ho]; rfl
          refine ⟨i, rfl, by omega, ?_, ⟨?_, ?_⟩⟩
          · have e4 : (((x >>> 7).toNat : Nat) : Int) = (x.toNat : Int) / 128 := by rw [shr_seven]; omega
            rw [e2, e4]
          · rw [shl_or, e2]
            have e3 : (bytesV (l.take (i + 1) ++ (leftL (l.drop (i + 1))).1)).set i (.int .u8 ((x <<< 1 ||| o).toNat : Int)) = bytesV (l.take i ++ (x <<< 1 ||| o) :: (leftL (l.drop (i + 1))).1) := by
              rw [← take_set_app _ hil]
              simp only [bytesV, List.map_set]
            rw [← e3]
            exact hs.1.drew
          · rw [shl_or]
            exact grownBy_drew (World.grownBy.trans HI.out.2 hs.2)
        case measure => simp [intOf]
end Go.Proofs.YtkdfbganhohbfaaDoor
