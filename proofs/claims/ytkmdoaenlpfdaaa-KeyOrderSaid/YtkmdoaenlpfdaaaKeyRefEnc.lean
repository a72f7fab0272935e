/-
  The document's text of a key.
-/
import Derived.Test.YtkmdoaenlpfdaaaKeyRef
namespace Go.Proofs.Ytkmdoaenlpfdaaa
open Go.RowKit

/-- The text of a key. -/
def encT (n k : Int) (s : ByteArray) (p : Int) : ByteArray :=
  if goodB n k s p then (if k = 3 then hd n.toNat 3 ++ be 4 p.toNat else hd n.toNat k.toNat ++ s) else ⟨#[]⟩
theorem key_encode (n k : Int) (s : ByteArray) (p : Int) (w : World) :
    Calls Try.prog 9 #[keyV n k s p] w fun e w' => e = .returned (.tuple #[.string (encT n k s p), .bool (goodB n k s p)]) ∧ Below w.heap.size w w' := by
  cases hg : goodB n k s p
  · refine (key_encode_bad n k s p w hg).mono ?_
    rintro e w1 ⟨rfl, hb⟩
    exact ⟨by unfold encT; rw [hg]; rfl, hb⟩
  · have h := goodB_iff.1 hg
    obtain ⟨n, rfl⟩ := Int.eq_ofNat_of_zero_le h.1
    rcases h.2.2 with h1 | h1 | h1
    · obtain ⟨rfl, hs, rfl⟩ := h1
      refine (key_encode_name n 1 s w (by omega) (.inl ⟨rfl, hs⟩)).mono ?_
      rintro e w1 ⟨rfl, hb⟩
      exact ⟨by unfold encT; rw [hg]; rfl, hb⟩
    · obtain ⟨rfl, hs, hs2, rfl⟩ := h1
      refine (key_encode_name n 2 s w (by omega) (.inr ⟨rfl, hs, hs2⟩)).mono ?_
      rintro e w1 ⟨rfl, hb⟩
      exact ⟨by unfold encT; rw [hg]; rfl, hb⟩
    · obtain ⟨rfl, hs, hp, hp2⟩ := h1
      obtain ⟨p, rfl⟩ := Int.eq_ofNat_of_zero_le hp
      refine (key_encode_data n p s w (by omega) hs (by omega)).mono ?_
      rintro e w1 ⟨rfl, hb⟩
      exact ⟨by unfold encT; rw [hg]; rfl, hb⟩

set_option maxHeartbeats 1000000 in
theorem ref_encode_bad (n k : Int) (s : ByteArray) (p : Int) (w : World) (hg : goodB n k s p = false) :
    Calls Try.prog 14 #[keyV n k s p] w fun e w' => e = .returned (.string ⟨#[]⟩) ∧ Below w.heap.size w w' := by
  go_enter Try.func14, Try.ntmps14
  go_wp2_with (go_at_call 15; refine (ref_good n k s p _).mono ?_; rintro e w1 ⟨rfl, rfl⟩)
  go_ret
  exact ⟨rfl, ((Below.refl _ _).alloc (Nat.le_refl _) _).alloc (by simp) _⟩

def refT (n k : Nat) (s : ByteArray) (p : Nat) : ByteArray := if k = 3 then hd n k ++ s ++ be 4 p else hd n k ++ s
set_option maxHeartbeats 4000000 in
theorem ref_encode_good (n k : Nat) (s : ByteArray) (p : Nat) (w : World) (hn : n ≤ 1099511627776) (hg : goodB n k s p = true) (hk1 : 1 ≤ k) (hk3 : k ≤ 3) (hs : s.size ≤ 32) :
    Calls Try.prog 14 #[keyV n k s p] w fun e w' => e = .returned (.string (refT n k s p)) ∧ Below w.heap.size w w' := by
  have hz1 := be_size 8 n
  have hz2 := be_size 1 k
  have hz3 : (be 8 n ++ be 1 k).size = 9 := by rw [ByteArray.size_append, hz1, hz2]
  have hz4 : (be 8 n ++ be 1 k ++ s).size = 9 + s.size := by rw [ByteArray.size_append, hz3]
  have hz5 := be_size 4 p
  have hs' : (s.size : Int) ≤ 32 := by omega
  have HG := Aside.mk (goodB_iff.1 hg)
  go_enter Try.func14, Try.ntmps14
  go_upto_region 3 with (go_at_call 15; refine (ref_good n k s p _).mono ?_; rintro e w1 ⟨rfl, rfl⟩)
  have hH := ((Held.refl w).lay (.cells #[.int .i64 n, .int .i64 k, .string s, .int .i64 p] 30)).alloc (.cells #[.int .i64 n, .int .i64 k, .string s, .int .i64 p] 30)
  generalize (w.alloc (.cells #[.int .i64 n, .int .i64 k, .string s, .int .i64 p] 30)).alloc (.cells #[.int .i64 n, .int .i64 k, .string s, .int .i64 p] 30) = W at *
  have c0 : W.cell? ⟨w.heap.size, 0, none⟩ = some (.int .i64 n) := hH.cells (List.mem_cons_self ..) 0 rfl
  have c1 : W.cell? ⟨w.heap.size, 1, none⟩ = some (.int .i64 k) := hH.cells (List.mem_cons_self ..) 1 rfl
  have c2 : W.cell? ⟨w.heap.size, 2, none⟩ = some (.string s) := hH.cells (List.mem_cons_self ..) 2 rfl
  clear hg
  go_cut [3] (fun s3 wx => s3 = .string (be 8 n ++ be 1 k ++ s) ∧ Held w [(w.heap.size, .cells #[.int .i64 n, .int .i64 k, .string s, .int .i64 p] 30)] wx)
  case first =>
    go_region_with ((first | (go_at_call 13; refine (ref_bytes_at n 8 _ _ _ (by omega) (by omega) (by omega) (by omega)).mono ?_; rintro e w1 ⟨rfl, hb1⟩; have hH1 : Held w [(w.heap.size, .cells #[.int .i64 n, .int .i64 k, .string s, .int .i64 p] 30)] w1 := Held.step (by first | assumption | (refine Held.drew ?_; assumption)) hb1; have d0 : w1.cell? ⟨w.heap.size, 0, none⟩ = some (.int .i64 n) := hH1.cells (List.mem_cons_self ..) 0 rfl; have d1 : w1.cell? ⟨w.heap.size, 1, none⟩ = some (.int .i64 k) := hH1.cells (List.mem_cons_self ..) 1 rfl; have d2 : w1.cell? ⟨w.heap.size, 2, none⟩ = some (.string s) := hH1.cells (List.mem_cons_self ..) 2 rfl; clear hb1) |
    (go_at_call 13; refine (ref_bytes_at k 1 _ _ _ (by omega) (by omega) (by omega) (by omega)).mono ?_; rintro e w2 ⟨rfl, hb2⟩; have hH2 : Held w [(w.heap.size, .cells #[.int .i64 n, .int .i64 k, .string s, .int .i64 p] 30)] w2 := Held.step (by first | assumption | (refine Held.drew ?_; assumption)) hb2; have e0 : w2.cell? ⟨w.heap.size, 0, none⟩ = some (.int .i64 n) := hH2.cells (List.mem_cons_self ..) 0 rfl; have e1 : w2.cell? ⟨w.heap.size, 1, none⟩ = some (.int .i64 k) := hH2.cells (List.mem_cons_self ..) 1 rfl; have e2 : w2.cell? ⟨w.heap.size, 2, none⟩ = some (.string s) := hH2.cells (List.mem_cons_self ..) 2 rfl; clear hb2)))
    all_goals (go_wp2; go_meet; exact ⟨rfl, by first | exact hH1 | exact hH2⟩)
  case rest =>
    obtain ⟨rfl, hH1⟩ := hcut
    clear hz1 hz2 hz3 c0 c1 c2 hH
    have d1 : wc.cell? ⟨w.heap.size, 1, none⟩ = some (.int .i64 k) := hH1.cells (List.mem_cons_self ..) 1 rfl
    have d3 : wc.cell? ⟨w.heap.size, 3, none⟩ = some (.int .i64 p) := hH1.cells (List.mem_cons_self ..) 3 rfl
    by_cases hk : k = 3
    · subst hk
      have hr : be 8 n ++ be 1 3 ++ s ++ be 4 p = refT n 3 s p := by unfold refT; rw [if_pos rfl]; rfl
      have HR := Aside.mk hr
      clear hr
      go_wp2_with (go_at_call 13; refine (ref_bytes_at p 4 _ _ _ (by omega) (by omega) (by have := HG.out; omega) (by omega)).mono ?_; rintro e w3 ⟨rfl, hb3⟩)
      go_ret
      exact ⟨by rw [← HR.out]; rfl, (hH1.step hb3).bel⟩
    · have hr : be 8 n ++ be 1 k ++ s = refT n k s p := by unfold refT; rw [if_neg hk]; rfl
      have hk' : ((k : Int) == 3) = false := by simp; omega
      have HR := Aside.mk hr
      clear hr hz5
      go_wp2
      go_ret
      exact ⟨by rw [← HR.out]; rfl, hH1.bel⟩

theorem ref_encode (n k : Int) (s : ByteArray) (p : Int) (w : World) :
    Calls Try.prog 14 #[keyV n k s p] w fun e w' => e = .returned (.string (encT n k s p)) ∧ Below w.heap.size w w' := by
  cases hg : goodB n k s p
  · refine (ref_encode_bad n k s p w hg).mono ?_
    rintro e w1 ⟨rfl, hb⟩
    exact ⟨by unfold encT; rw [hg]; rfl, hb⟩
  · have h := goodB_iff.1 hg
    have hp : 0 ≤ p := by omega
    have hk : 1 ≤ k := by omega
    have hk3 : k ≤ 3 := by omega
    have hs : s.size ≤ 32 := by omega
    have h3 : k = 3 → s = ⟨#[]⟩ := fun h3 => ByteArray.size_eq_zero_iff.1 (by omega)
    obtain ⟨n, rfl⟩ := Int.eq_ofNat_of_zero_le h.1
    obtain ⟨p, rfl⟩ := Int.eq_ofNat_of_zero_le hp
    obtain ⟨k, rfl⟩ := Int.eq_ofNat_of_zero_le (show 0 ≤ k by omega)
    refine (ref_encode_good n k s p w (by omega) hg (by omega) (by omega) hs).mono ?_
    rintro e w1 ⟨rfl, hb⟩
    refine ⟨?_, hb⟩
    unfold encT refT
    rw [hg]
    by_cases hq : k = 3
    · subst hq
      obtain rfl := h3 rfl
      rw [← hd_nil]
      rfl
    · rw [if_neg hq, if_pos rfl, if_neg (by omega)]
      rfl
end Go.Proofs.Ytkmdoaenlpfdaaa
