/-
  A piece of a file packed, keyed, written as a node and read back.
-/
import Derived.Test.YtdjkcmjhknabnaaDoorKeyOrd
import Derived.Test.YtdjkcmjhknabnaaDoorNodeEncodes
import Derived.Test.YtdjkcmjhknabnaaDoorLzPacks
import Derived.Test.YtdjkcmjhknabnaaDoorHeld
namespace Go.Proofs.YtdjkcmjhknabnaaDoor
open Go.RowKit

theorem unpack_most (t : List UInt8) (n : Nat) (h : t.length ≤ n) (hn : n ≤ 65536) : unpack (packF t) (n : Int) = (⟨t.toArray⟩, 0) := by
  have hI := inv_run t
  have hplain : unpack (0 :: t) (n : Int) = (⟨t.toArray⟩, 0) := by
    simp only [unpack]
    rw [if_neg (by decide), if_pos (by decide), if_neg (by rw [mostN_of hn]; omega)]
  unfold packF
  rw [if_neg (by omega)]
  split
  · unfold packO
    simp only [unpack]
    rw [if_neg (by decide), if_neg (by decide), mostN_of hn, hI.back _ _ h]
    have := unp_lits (t := t) (rest := []) (m := n) (Nat.le_trans hI.le hI.len) (Nat.le_refl _) h
    rw [List.append_nil] at this
    rw [this, unp_nil, List.take_length]
  · exact hplain

theorem ext_le (s : ByteArray) (k : Nat) : (s.extract 0 k).size ≤ k := by rw [ByteArray.size_extract]; omega
/-- What stands fast about a piece's record. -/
structure Rec (N P : Nat) (d a K1 V S K2 K3 : ByteArray) (ok2 : Bool) : Prop where
  key : ∀ W, Calls Tryd.prog 4 #[.agg #[.int .i64 (N : Int), .int .i64 3, .string ⟨#[]⟩, .int .i64 (P : Int)]] W fun e w' => e = .returned (.tuple #[.string K1, .bool true]) ∧ Below W.heap.size W w'
  pack : ∀ W, Calls Tryd.prog 6 #[.string d] W fun e w' => e = .returned (.string V) ∧ Below W.heap.size W w'
  node : ∀ W, Nib W → Calls Tryd.prog 5 #[.agg #[.int .i64 (N : Int), .bool false, .bool true, .string K1, .string V]] W fun e w' => e = .returned (.tuple #[.string S, .bool true]) ∧ Below W.heap.size W w'
  back : ∀ W, Nib W → Calls Tryd.prog 7 #[.string (a ++ S ++ ⟨#[120]⟩), .int .i64 (a.size : Int)] W fun e w' => e = .returned (.tuple #[.agg #[.int .i64 (N : Int), .bool false, .bool true, .string K1, .string V], .int .i64 ((a.size + S.size : Nat) : Int), .int .i64 0]) ∧ Below W.heap.size W w'
  keyback : ∀ W, Calls Tryd.prog 8 #[.string K1] W fun e w' => e = .returned (.tuple #[.agg #[.int .i64 (N : Int), .int .i64 3, .string ⟨#[]⟩, .int .i64 (P : Int)], .bool true]) ∧ Below W.heap.size W w'
  unpack : ∀ W, Calls Tryd.prog 9 #[.string V, .int .i64 64] W fun e w' => e = .returned (.tuple #[.string d, .int .i64 0]) ∧ Below W.heap.size W w'
  after : ∀ W, Calls Tryd.prog 4 #[.agg #[.int .i64 (N : Int), .int .i64 3, .string ⟨#[]⟩, .int .i64 ((P : Int) + 1)]] W fun e w' => e = .returned (.tuple #[.string K2, .bool ok2]) ∧ Below W.heap.size W w'
  entry : ∀ W, Calls Tryd.prog 4 #[.agg #[.int .i64 (N : Int), .int .i64 2, .string ⟨#[110]⟩, .int .i64 0]] W fun e w' => e = .returned (.tuple #[.string K3, .bool true]) ∧ Below W.heap.size W w'
  size : S.size ≤ 95
  fine : ok2 = true ∨ K2 = ⟨#[]⟩
  less : ok2 = true → Op.bytesLess K1.toList K2.toList = true
  first : Op.bytesLess K3.toList K1.toList = true
theorem rec_of (N P : Nat) (d a : ByteArray) (hN : N ≤ 1099511627776) (hP : P < 4294967296) (hd : d.size ≤ 64) (ha : a.size ≤ 300) :
    ∃ K1 V S K2 K3 ok2, Rec N P d a K1 V S K2 K3 ok2 := by
  have g1 : K.goodB N 3 ⟨#[]⟩ P = true := K.goodB_iff.2 ⟨by omega, by omega, .inr (.inr ⟨rfl, rfl, by omega, by omega⟩)⟩
  have g3 : K.goodB N 2 ⟨#[110]⟩ 0 = true := K.goodB_iff.2 ⟨by omega, by omega, .inr (.inl ⟨rfl, by decide, by decide, rfl⟩)⟩
  have hsz : (K.encT N 3 ⟨#[]⟩ P).size = 13 := by
    rw [K.enc_shape g1, if_pos rfl, ByteArray.size_append, K.hd_size, K.be_size]
  have hV := packB_le d
  have gn : goodN N false (K.encT N 3 ⟨#[]⟩ P) (packB d) = true := goodN_iff.2 ⟨by omega, by omega, by omega, by omega, by omega, fun h => by cases h⟩
  have hS := encB_size (l := true) gn
  have hun : unpack (packB d).data.toList ((64 : Nat) : Int) = (d, 0) := by
    rw [packB_list, unpack_most _ 64 (by rw [data_len]; exact hd) (by omega), str_toArray]
  refine ⟨K.encT N 3 ⟨#[]⟩ P, packB d, encB N false true (K.encT N 3 ⟨#[]⟩ P) (packB d), K.encT N 3 ⟨#[]⟩ (P + 1 : Nat), K.encT N 2 ⟨#[110]⟩ 0, K.goodB N 3 ⟨#[]⟩ (P + 1 : Nat), ?_, ?_, ?_, ?_, ?_, ?_, ?_, ?_, ?_, ?_, ?_, ?_⟩
  · intro W
    have := K.key_encode N 3 ⟨#[]⟩ P W
    rw [g1] at this
    exact this
  · intro W
    exact lz_packB d W (by omega)
  · intro W hW
    have := node_encode N false true (K.encT N 3 ⟨#[]⟩ P) (packB d) W hW
    rw [gn] at this
    exact this
  · intro W hW
    have h1 := node_decode (a ++ encB N false true (K.encT N 3 ⟨#[]⟩ P) (packB d) ++ ⟨#[120]⟩) a.size W (by rw [ByteArray.size_append, ByteArray.size_append, hS]; have : (⟨#[120]⟩ : ByteArray).size = 1 := rfl; omega) hW
    rw [decV_enc a ⟨#[120]⟩ N false true _ _ gn] at h1
    exact h1
  · intro W
    exact K.key_back N 3 ⟨#[]⟩ P W g1
  · intro W
    exact lz_unpack_is (packB d) 64 d 0 W (by omega) hun
  · intro W
    have e : ((P + 1 : Nat) : Int) = (P : Int) + 1 := by omega
    rw [← e]
    exact K.key_encode N 3 ⟨#[]⟩ (P + 1 : Nat) W
  · intro W
    have := K.key_encode N 2 ⟨#[110]⟩ 0 W
    rw [g3] at this
    exact this
  · rw [hS]; omega
  · cases h : K.goodB N 3 ⟨#[]⟩ (P + 1 : Nat)
    · exact .inr (by unfold K.encT; rw [h]; rfl)
    · exact .inl rfl
  · intro h
    rw [K.enc_less g1 h]
    unfold K.lessB
    rw [if_pos rfl, if_pos rfl, if_pos rfl]
    exact decide_eq_true (by omega)
  · rw [K.enc_less g3 g1]
    unfold K.lessB
    rw [if_pos rfl, if_neg (by decide)]
    rfl

set_option maxRecDepth 100000 in
set_option maxHeartbeats 4000000 in
theorem topRecords_walk (n p : Int) (s0 s1 : ByteArray) (w : World) (_h1 : (Lit.int .i64 n).wf = true) (_h2 : (Lit.int .i64 p).wf = true) (_h3 : s0.size ≤ 140737488351232 ∧ s1.size ≤ 140737488351232) (hnib : Nib w) :
    Calls Tryd.prog 3 #[.int .i64 n, .int .i64 p, .agg #[.string s0, .string s1]] w fun e w' => e = .returned (.bool true) ∧ Below w.heap.size w w' := by
  go_enter Tryd.func3, Tryd.ntmps3
  go_upto_region 1 with fail
  have hA := heap_alloc_new w (.cells #[.string s0, .string s1] 22)
  have HA : Aside (Below w.heap.size w (w.alloc (.cells #[.string s0, .string s1] 22)) ∧ Nib (w.alloc (.cells #[.string s0, .string s1] 22))) := ⟨(Below.refl _ _).alloc (Nat.le_refl _) _, hnib.alloc _⟩
  have c0 := (row_cell hA 0 (v := .string s0) rfl).1
  have c1 := (row_cell hA 1 (v := .string s1) rfl).1
  clear hA hnib
  generalize w.alloc (.cells #[.string s0, .string s1] 22) = w0 at *
  go_quiet (fail)
  have HB : Aside (Below w.heap.size w (w0.drewN nq) ∧ Nib (w0.drewN nq)) := ⟨HA.out.1.trans ⟨rfl, rfl, rfl, Nat.le_refl _, fun _ _ => rfl⟩, HA.out.2.drewN nq⟩
  generalize w0.drewN nq = w1 at *
  clear c0 c1 HA w0
  obtain ⟨bad, hbad⟩ : ∃ bad, bad = decide (n < 0 ∨ 1099511627776 < n ∨ p < 0 ∨ 4294967296 ≤ p) := ⟨_, rfl⟩
  have HBD := Aside.mk hbad
  clear hbad
  simp only [Exit.then]
  apply_assumption
  go_upto_region 2 with fail
  go_cut [41] (fun s41 wx => s41 = .bool bad ∧ w1 = wx)
  case first =>
    by_cases h1 : n < 0
    · go_wp2
      go_meet
      exact ⟨by rw [HBD.out]; simp [h1], rfl⟩
    · by_cases h2 : 1099511627776 < n
      · go_wp2
        go_meet
        exact ⟨by rw [HBD.out]; simp [h2], rfl⟩
      · by_cases h3 : p < 0
        · go_wp2
          go_meet
          exact ⟨by rw [HBD.out]; simp [h3], rfl⟩
        · by_cases h4 : 4294967296 ≤ p
          · go_wp2
            go_meet
            exact ⟨by rw [HBD.out]; simp [h4], rfl⟩
          · go_wp2
            go_meet
            exact ⟨by rw [HBD.out]; simp [h1, h2, h3, h4], rfl⟩
  case rest =>
  obtain ⟨rfl, rfl⟩ := hcut
  apply_assumption
  go_cut [0, 1] (fun s0 s1 wx => ∃ N P : Nat, s0 = .int .i64 (N : Int) ∧ s1 = .int .i64 (P : Int) ∧ N ≤ 1099511627776 ∧ P < 4294967296 ∧ w1 = wx)
  case first =>
    cases bad with
    | true =>
      go_wp2
      go_meet
      exact ⟨3, 5, rfl, rfl, by omega, by omega, rfl⟩
    | false =>
      have hn := of_decide_eq_false HBD.out.symm
      have HN := Aside.mk (show (0 ≤ n ∧ n ≤ 1099511627776) ∧ 0 ≤ p ∧ p < 4294967296 by omega)
      clear hn
      go_wp2
      go_meet
      exact ⟨n.toNat, p.toNat, by have := HN.out; rw [Int.toNat_of_nonneg (by omega)], by have := HN.out; rw [Int.toNat_of_nonneg (by omega)], by have := HN.out; omega, by have := HN.out; omega, rfl⟩
  case rest =>
  obtain ⟨N, P, rfl, rfl, hN, hP, rfl⟩ := hcut
  have HNP := Aside.mk (And.intro hN hP)
  clear hN hP HBD _h1 _h2 n p
  apply_assumption
  go_upto_region 4 with fail
  go_cut [7, 8] (fun s7 s8 wx => ∃ d a : ByteArray, ∃ q : Nat, s7 = .string d ∧ s8 = .string a ∧ d.size ≤ 64 ∧ a.size ≤ 300 ∧ w1.drewN q = wx)
  case first =>
    rcases (by omega : (s0.size : Int) ≤ 64 ∨ (64 : Int) < s0.size) with h1 | h1
    · rcases (by omega : (s1.size : Int) ≤ 300 ∨ (300 : Int) < s1.size) with h2 | h2
      · go_quiet (fail)
        simp only [Exit.then]
        apply_assumption
        go_meet
        exact ⟨_, _, nq, rfl, rfl, by omega, by omega, rfl⟩
      · go_quiet (fail)
        simp only [Exit.then]
        apply_assumption
        go_meet
        exact ⟨_, _, nq, rfl, rfl, by omega, ext_le _ _, rfl⟩
    · rcases (by omega : (s1.size : Int) ≤ 300 ∨ (300 : Int) < s1.size) with h2 | h2
      · go_quiet (fail)
        simp only [Exit.then]
        apply_assumption
        go_meet
        exact ⟨_, _, nq, rfl, rfl, ext_le _ _, by omega, rfl⟩
      · go_quiet (fail)
        simp only [Exit.then]
        apply_assumption
        go_meet
        exact ⟨_, _, nq, rfl, rfl, ext_le _ _, ext_le _ _, rfl⟩
  case rest =>
  obtain ⟨d, a, q, rfl, rfl, hd, ha, hwc⟩ := hcut
  have HC : Aside (Below w.heap.size w wc ∧ Nib wc) := ⟨by subst hwc; exact HB.out.1.trans ⟨rfl, rfl, rfl, Nat.le_refl _, fun _ _ => rfl⟩, by subst hwc; exact HB.out.2.drewN q⟩
  obtain ⟨K1, V, S, K2, K3, ok2, hR⟩ := rec_of N P d a HNP.out.1 HNP.out.2 hd ha
  have HR := Aside.mk hR
  have HA := Aside.mk ha
  clear hwc HB hd ha hR _h3
  apply_assumption
  go_upto_region 7 with (first | (go_at_call 4; refine (HR.out.key _).mono ?_; rintro e w2 ⟨rfl, hb2⟩; have HC2 := Aside.mk (And.intro (HC.out.1.trans (hb2.mono HC.out.1.size)) (HC.out.2.below hb2)); clear hb2) | (go_at_call 6; refine (HR.out.pack _).mono ?_; rintro e w3 ⟨rfl, hb3⟩; have HC3 := Aside.mk (And.intro (HC2.out.1.trans (hb3.mono HC2.out.1.size)) (HC2.out.2.below hb3)); clear hb3) | (go_at_call 5; refine (HR.out.node _ HC3.out.2).mono ?_; rintro e w4 ⟨rfl, hb4⟩; have HC4 := Aside.mk (And.intro (HC3.out.1.trans (hb4.mono HC3.out.1.size)) (HC3.out.2.below hb4)); clear hb4))
  have hsz1 : ¬ (95 : Int) < (S.size : Int) := by have := HR.out.size; omega
  have hsum : (⟨#[120]⟩ : ByteArray).size = 1 := rfl
  have hw1 : IntKind.i64.wrap ((a.size : Int) + (S.size : Int)) = (a.size : Int) + (S.size : Int) := by have := HR.out.size; have := HA.out; rw [IntKind.wrap_i64]; omega
  have hl1 : ¬ 9223372036854775807 < a.size + S.size := by have := HR.out.size; have := HA.out; omega
  have hl2 : ¬ 9223372036854775807 < a.size + S.size + 1 := by have := HR.out.size; have := HA.out; omega
  have hcat : (a ++ S).size = a.size + S.size := ByteArray.size_append
  have hcat2 : (a ++ S ++ ⟨#[120]⟩).size = a.size + S.size + 1 := by rw [ByteArray.size_append, hcat]; rfl
  have HX := Aside.mk (And.intro hcat hcat2)
  clear hcat hcat2 hsum
  go_upto_region 10 with (go_at_call 7; refine (HR.out.back _ HC4.out.2).mono ?_; rintro e w5 ⟨rfl, hb5⟩; have HC5 := Aside.mk (And.intro (HC4.out.1.trans (hb5.mono HC4.out.1.size)) (HC4.out.2.below hb5)); clear hb5)
  have hN5 := heap_alloc_new w5 (.cells (nodeC N false true K1 V) 30)
  have HC6 : Aside (Below w.heap.size w (w5.alloc (.cells (nodeC N false true K1 V) 30)) ∧ Nib (w5.alloc (.cells (nodeC N false true K1 V) 30))) := ⟨HC5.out.1.alloc HC5.out.1.size _, HC5.out.2.alloc _⟩
  generalize w5.alloc (.cells (nodeC N false true K1 V) 30) = w6 at *
  generalize w5.heap.size = g at *
  obtain ⟨c0, c1, c2, c3, c4⟩ := node_cells hN5
  have hgl := heap_lt hN5
  have HN5 := Aside.mk hN5
  clear hN5 hl1 hl2
  go_upto_region 13 with (go_at_call 8; refine (HR.out.keyback _).mono ?_; rintro e w7 ⟨rfl, hb7⟩; have HC7 := Aside.mk (And.intro (HC6.out.1.trans (hb7.mono HC6.out.1.size)) (And.intro (HC6.out.2.below hb7) (And.intro (below_blk HN5.out hb7) (Nat.lt_of_lt_of_le hgl hb7.size)))); clear hb7 c0 c1 c2 c3 c4)
  have hK7 := heap_alloc_new w7 (.cells #[.int .i64 (N : Int), .int .i64 3, .string ⟨#[]⟩, .int .i64 (P : Int)] 26)
  have hg7 := row_alloc HC7.out.2.2.1 (.cells #[.int .i64 (N : Int), .int .i64 3, .string ⟨#[]⟩, .int .i64 (P : Int)] 26)
  have HC8 : Aside (Below w.heap.size w (w7.alloc (.cells #[.int .i64 (N : Int), .int .i64 3, .string ⟨#[]⟩, .int .i64 (P : Int)] 26))) := ⟨HC7.out.1.alloc HC7.out.1.size _⟩
  generalize w7.alloc (.cells #[.int .i64 (N : Int), .int .i64 3, .string ⟨#[]⟩, .int .i64 (P : Int)] 26) = w8 at *
  generalize w7.heap.size = h at *
  obtain ⟨c0, c1, c2, c3, c4⟩ := node_cells hg7
  have hhl := heap_lt hK7
  have HK8 := Aside.mk (And.intro hK7 hhl)
  clear hK7 hg7 hhl hgl
  have hP1 : IntKind.i64.wrap ((P : Int) + 1) = (P : Int) + 1 := by have := HNP.out; rw [IntKind.wrap_i64]; omega
  go_upto_region 14 with (go_at_call 9; refine (HR.out.unpack _).mono ?_; rintro e w9 ⟨rfl, hb9⟩; have HC9 := Aside.mk (And.intro (HC8.out.trans (hb9.mono HC8.out.size)) (And.intro (below_blk HK8.out.1 hb9) (Nat.lt_of_lt_of_le HK8.out.2 hb9.size))); clear hb9 c0 c1 c2 c3 c4)
  clear HC7 HC8 HC6 HC5 HC4 HC3 HC2 HC HN5 HK8
  go_upto_region 15 with (go_at_call 4; refine (HR.out.after _).mono ?_; rintro e wa ⟨rfl, hba⟩; have HCa := Aside.mk (And.intro (HC9.out.1.trans (hba.mono HC9.out.1.size)) (And.intro (below_blk HC9.out.2.1 hba) (Nat.lt_of_lt_of_le HC9.out.2.2 hba.size))); clear hba)
  go_upto_region 16 with (go_at_call 4; refine (HR.out.entry _).mono ?_; rintro e wb ⟨rfl, hbb⟩; have HCb := Aside.mk (And.intro (HCa.out.1.trans (hbb.mono HCa.out.1.size)) (below_blk HCa.out.2.1 hbb)); clear hbb)
  clear HC9 HCa
  obtain ⟨c0, _⟩ := row_cell HCb.out.2 0 (v := .int .i64 (N : Int)) rfl
  obtain ⟨c1, _⟩ := row_cell HCb.out.2 1 (v := .int .i64 3) rfl
  obtain ⟨c2, _⟩ := row_cell HCb.out.2 2 (v := .string ⟨#[]⟩) rfl
  obtain ⟨c3, _⟩ := row_cell HCb.out.2 3 (v := .int .i64 (P : Int)) rfl
  have hfirst := HR.out.first
  cases hok : ok2 with
  | true =>
    have hless := HR.out.less hok
    clear hok
    go_wp2
    all_goals
      go_ret
      exact ⟨rfl, HCb.out.1⟩
  | false =>
    obtain rfl : K2 = ⟨#[]⟩ := by rcases HR.out.fine with h | h; exact absurd (h.symm.trans hok) (by decide); exact h
    clear hok
    go_wp2
    all_goals
      go_ret
      exact ⟨rfl, HCb.out.1⟩
end Go.Proofs.YtdjkcmjhknabnaaDoor
