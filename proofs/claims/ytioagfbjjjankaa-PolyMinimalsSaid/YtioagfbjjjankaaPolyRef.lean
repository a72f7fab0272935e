/-
  What the document's polynomials answer: a row of truths, the exponents, are two lists alike.
-/
import Derived.Test.YtioagfbjjjankaaPolyRem
import Derived.Test.YtioagfbjjjankaaDrew
namespace Go.Proofs.Ytioagfbjjjankaa
open Go.RowKit

def boolsV (n P : Nat) : List Value := (List.range n).map fun i => .bool (P.testBit i)
theorem boolsV_length (n P : Nat) : (boolsV n P).length = n := by simp [boolsV]
theorem boolsV_get {n P i : Nat} (h : i < n) : (boolsV n P).getD i undef = .bool (P.testBit i) := by simp [boolsV, List.getD_eq_getElem?_getD, h]
theorem boolsV_set (n P e : Nat) : (boolsV n P).set e (.bool (!P.testBit e)) = boolsV n (P ^^^ 2 ^ e) := by
  apply List.ext_getElem
  · simp [boolsV]
  · intro i h1 h2
    simp only [boolsV, List.getElem_set, List.getElem_map, List.getElem_range, Nat.testBit_xor, Poly.tb_pow]
    by_cases h : e = i
    · subst h; simp
    · rw [if_neg h]; simp [h]
theorem boolsV_zero (n : Nat) : boolsV n 0 = List.replicate n (.bool false) := by
  apply List.ext_getElem
  · rw [boolsV_length, List.length_replicate]
  · intro i h1 h2
    simp only [boolsV, List.getElem_map, List.getElem_range, List.getElem_replicate]
    simp
abbrev RowB (w : World) (b : Nat) (v : Value) (n P : Nat) : Prop := Row w b 4 1 v n (boolsV n P)
theorem RowB.cell {w : World} {b g off n c P : Nat} (h : RowB w b (.slice (some ⟨g, off, none⟩) n c) n P) {i : Nat} (hi : i < n) :
    w.cell? ⟨g, off + i, none⟩ = some (.bool (P.testBit i)) ∧ w.frozen? ⟨g, off + i, none⟩ = false := by
  have := Row.at_ h rfl i hi
  rwa [boolsV_get hi] at this
theorem RowB.cell0 {w : World} {b g n c P : Nat} (h : RowB w b (.slice (some ⟨g, 0, none⟩) n c) n P) {i : Nat} (hi : i < n) :
    w.cell? ⟨g, i, none⟩ = some (.bool (P.testBit i)) ∧ w.frozen? ⟨g, i, none⟩ = false := by
  have := RowB.cell h hi
  rwa [Nat.zero_add] at this
theorem RowB.flip {w : World} {b g n c P : Nat} (h : RowB w b (.slice (some ⟨g, 0, none⟩) n c) n P) {e : Nat} (he : e < n) :
    RowB (w.setCell ⟨g, e, none⟩ (.bool (!P.testBit e))) b (.slice (some ⟨g, 0, none⟩) n c) n (P ^^^ 2 ^ e) ∧ w.grownBy (w.setCell ⟨g, e, none⟩ (.bool (!P.testBit e))) (some g) := by
  have := Row.store h rfl e (by omega) (.bool (!P.testBit e))
  rwa [boolsV_set, Nat.zero_add] at this
theorem make_bools (m : Nat) (h : m ≤ 1000000) (W : World) :
    (Instr.makeSlice 34 (.int .i64 (m : Int)) (.int .i64 (m : Int))).run Try.prog W = .ok (.slice (some ⟨W.heap.size, 0, none⟩) m m) (W.alloc (.cells (madeCells #[.bool false] m) 4)) :=
  run_make_row' 34 4 (.bool false) 1 Try.underlying34 (by kernel_rfl) rfl .i64 .i64 m (by omega) (by omega) W
theorem RowB.made (w : World) (b n : Nat) (hb : b ≤ w.heap.size) (hn : n ≤ 1000000) : RowB (w.alloc (.cells (madeCells #[.bool false] n) 4)) b (.slice (some ⟨w.heap.size, 0, none⟩) n n) n 0 := by
  have h := Row.zeros w b 4 (.bool false) n hb (by simp only [maxLen]; omega)
  rwa [← boolsV_zero] at h
def BitsOf (w : World) (P : Nat) (e : Ending) (w' : World) : Prop := ∃ g, w.heap.size ≤ g ∧ e = .returned (.slice (some ⟨g, 0, none⟩) 16385 16385) ∧ RowB w' w.heap.size (.slice (some ⟨g, 0, none⟩) 16385 16385) 16385 P ∧ Below w.heap.size w w'

set_option maxRecDepth 100000 in
set_option maxHeartbeats 3200000 in
theorem ref_bits (A : Option Addr) (len c : Nat) (l : List Int) (w : World) (hl : len = l.length) (hn : len ≤ 9223372036854775807) (hR : Rd w A len (fun i => .int .i64 (l.getD i 0))) :
    Calls Try.prog 18 #[.slice A len c] w (BitsOf w (Poly.bitsOf l)) := by
  have HR := Aside.mk (And.intro hl hR)
  have hmk : ∀ W : World, (Instr.makeSlice 34 (.int .i64 16385) (.int .i64 16385)).run Try.prog W = .ok (.slice (some ⟨W.heap.size, 0, none⟩) 16385 16385) (W.alloc (.cells (madeCells #[.bool false] 16385) 4)) := make_bools 16385 (by omega)
  have hm := RowB.made w w.heap.size 16385 (Nat.le_refl _) (by omega)
  have hb := (Below.refl w.heap.size w).alloc (Nat.le_refl _) (.cells (madeCells #[.bool false] 16385) 4)
  obtain ⟨cs, hcs⟩ : ∃ cs, cs = madeCells #[Value.bool false] 16385 := ⟨_, rfl⟩
  rw [← hcs] at hmk hm hb
  have HM := Aside.mk (And.intro hm hb)
  clear hl hR hcs hm hb
  obtain ⟨g, hg⟩ : ∃ g, g = w.heap.size := ⟨_, rfl⟩
  have HG := Aside.mk hg
  clear hg
  go_enter Try.func18, Try.ntmps18
  go_wp2
  rw [← HG.out]
  clear hmk
  go_loopw [4] (fun s4 wr => ∃ k : Nat, k ≤ len ∧ s4 = .int .i64 k ∧ RowB wr w.heap.size (.slice (some ⟨g, 0, none⟩) 16385 16385) 16385 (Poly.bitsOf (l.take k)) ∧ Below w.heap.size w wr) (fun s4 _ => len - (intOf s4).toNat)
  case atStart => exact ⟨0, by omega, rfl, by rw [HG.out]; exact HM.out.1, HM.out.2⟩
  case round =>
    obtain ⟨k, hk, rfl, hr, hb⟩ := hrel
    have HK := Aside.mk (And.intro hr hb)
    clear hr hb HM
    by_cases hlt : k < len
    · have hk1 : IntKind.i64.wrap ((k : Int) + 1) = (k : Int) + 1 := by rw [IntKind.wrap_i64]; omega
      obtain ⟨b, off, rfl, hbl, hc⟩ := HR.out.2 k hlt
      have y1 : wr.cell? ⟨b, off + k, none⟩ = some (.int .i64 (l.getD k 0)) := (HK.out.2.cell (p := ⟨b, off + k, none⟩) hbl).trans hc
      have hts : Poly.bitsOf (l.take (k + 1)) = Poly.put (Poly.bitsOf (l.take k)) (l.getD k 0) := by
        have h : k < l.length := by have := HR.out.1; omega
        rw [List.take_succ_eq_append_getElem h, Poly.bitsOf_snoc]
        simp [List.getD_eq_getElem?_getD, List.getElem?_eq_getElem h]
      generalize l.getD k 0 = y at *
      have hk2 : (k : Int) < (len : Int) := by omega
      have hk0 : (0 : Int) ≤ (k : Int) := by omega
      have HT := Aside.mk hts
      clear hts hc
      by_cases h1 : 0 ≤ y
      · obtain ⟨e, rfl⟩ := Int.eq_ofNat_of_zero_le h1
        by_cases h2 : e ≤ 16384
        · have h3 : (e : Int) ≤ 16384 := by omega
          have h4 : (e : Int) < 16385 := by omega
          have hp : Poly.put (Poly.bitsOf (l.take k)) (e : Int) = Poly.bitsOf (l.take k) ^^^ 2 ^ e := by
            unfold Poly.put
            rw [if_pos ⟨h1, h3⟩, Int.toNat_natCast]
          obtain ⟨c1, z1⟩ := RowB.cell0 HK.out.1 (show e < 16385 by omega)
          have hf := RowB.flip HK.out.1 (show e < 16385 by omega)
          have hgb : w.heap.size ≤ g := by rw [HG.out]; exact Nat.le_refl _
          have HP := Aside.mk (And.intro hp (And.intro hf hgb))
          generalize (Poly.bitsOf (l.take k)).testBit e = x at *
          have hlt2 : b < g := by rw [HG.out]; exact hbl
          clear hp hf hgb hbl
          go_upto_region 6 with fail
          go_region
          all_goals
            go_wp2
            go_roundw
            case rel => exact ⟨k + 1, by omega, by go_num, by rw [HT.out, HP.out.1]; exact HP.out.2.1.1.drew, (HK.out.2.grown HP.out.2.1.2 HK.out.2.size (fun j hj => by injection hj with hj; have := HP.out.2.2; omega)).drew⟩
            case measure => simp [intOf]; omega
        · have h3 : ¬ (e : Int) ≤ 16384 := by omega
          have hp : Poly.put (Poly.bitsOf (l.take k)) (e : Int) = Poly.bitsOf (l.take k) := by
            unfold Poly.put
            rw [if_neg (by omega)]
          have HP := Aside.mk hp
          clear hp
          go_wp2
          go_roundw
          case rel => exact ⟨k + 1, by omega, by go_num, by rw [HT.out, HP.out]; exact HK.out.1, HK.out.2⟩
          case measure => simp [intOf]; omega
      · have hp : Poly.put (Poly.bitsOf (l.take k)) y = Poly.bitsOf (l.take k) := by
          unfold Poly.put
          rw [if_neg (by omega)]
        have HP := Aside.mk hp
        clear hp
        go_wp2
        go_roundw
        case rel => exact ⟨k + 1, by omega, by go_num, by rw [HT.out, HP.out]; exact HK.out.1, HK.out.2⟩
        case measure => simp [intOf]; omega
    · have hkl : l.take k = l := List.take_of_length_le (by have := HR.out.1; omega)
      have HL := Aside.mk hkl
      clear hkl
      go_wp2
      go_ret
      exact ⟨g, by rw [HG.out]; exact Nat.le_refl _, rfl, by have := HK.out.1; rwa [HL.out] at this, HK.out.2⟩

set_option maxRecDepth 100000 in
set_option maxHeartbeats 3200000 in
theorem ref_list (b g n c P : Nat) (w : World) (hR : RowB w b (.slice (some ⟨g, 0, none⟩) n c) n P) (hn : n ≤ 1000000) :
    Calls Try.prog 17 #[.slice (some ⟨g, 0, none⟩) n c] w (ListOf w (Poly.fall n P)) := by
  have HR := Aside.mk hR
  clear hR
  go_enter Try.func17, Try.ntmps17
  go_wp2
  go_loopw [3, 4] (fun s3 s4 wr => ∃ (j : Nat) (L : List Nat), j ≤ n ∧ s4 = .int .i64 ((j : Int) - 1) ∧ Row wr w.heap.size 3 1 s3 L.length (intsV (Poly.ints L)) ∧ Below w.heap.size w wr ∧ Aside (L ++ Poly.fall j P = Poly.fall n P)) (fun _ s4 _ => ((intOf s4) + 1).toNat)
  case atStart => exact ⟨n, [], by omega, rfl, Row.nil _ _ _ _, Below.refl _ _, ⟨rfl⟩⟩
  case round =>
    obtain ⟨j, L, hj, rfl, hr, hb, HL⟩ := hrel
    by_cases h0 : j = 0
    · subst h0
      have hLn : L = Poly.fall n P := by
        have := HL.out
        rw [← this]
        simp [Poly.fall]
      have HN := Aside.mk hLn
      have HH := Aside.mk (And.intro hr hb)
      clear hLn hr hb
      go_wp2
      go_ret
      exact ⟨_, rfl, by rw [← HN.out]; exact HH.out.1, HH.out.2⟩
    · obtain ⟨i, rfl⟩ : ∃ i, j = i + 1 := ⟨j - 1, by omega⟩
      have hin : i < n := by omega
      have c1 := (RowB.cell0 (Row.below HR.out hb) hin).1
      have e1 : ((i + 1 : Nat) : Int) - 1 = (i : Int) := by omega
      have e2 : IntKind.i64.wrap ((i : Int) - 1) = (i : Int) - 1 := by rw [IntKind.wrap_i64]; omega
      have hi0 : (0 : Int) ≤ (i : Int) := by omega
      have hi1 : (i : Int) < (n : Int) := by omega
      have hLL := HL.out
      rw [e1]
      clear e1
      cases hx : P.testBit i
      · rw [hx] at c1
        rw [Poly.fall_no hx] at hLL
        have H4 := Aside.mk (And.intro hr (And.intro hb hLL))
        clear hx hr hb hLL HL
        go_wp2
        go_roundw
        case rel => exact ⟨i, L, by omega, rfl, H4.out.1, H4.out.2.1, ⟨H4.out.2.2⟩⟩
        case measure => simp [intOf]
      · rw [hx] at c1
        rw [Poly.fall_yes hx] at hLL
        have hL2 : (L ++ [i]) ++ Poly.fall i P = Poly.fall n P := by rw [← hLL]; simp
        have hll : L.length + 1 ≤ n := by
          have h1 := congrArg List.length hL2
          have h2 := Poly.fall_len P n
          simp at h1
          omega
        have hsz := hb.size
        have H4 := Aside.mk hL2
        clear hx hLL HL hL2
        go_wp2_with (at_builtin; refine wpList_append_one (w0 := w) w.heap.size rfl _ _ 22 3 1 8 (.int .i64 0) rfl Try.underlying22 infoInt rfl (by decide) u3 L.length _ #[.int .i64 (i : Int)] rfl rfl rfl hr (by simp [Value.oneCell']) hb hsz (by omega) (by simp only [maxLen]; omega) ?_; intro v5 w5 hr5 hb5 hg5 hat5; have HR5 := Aside.mk (And.intro hr5 hb5); clear hr5 hb5 hg5 hat5)
        go_roundw
        case rel => exact ⟨i, L ++ [i], by omega, rfl, by have := HR5.out.1; rw [ints_append, intsV_append, List.length_append]; exact this, HR5.out.2, ⟨H4.out⟩⟩
        case measure => simp [intOf]
theorem ref_list_lim (b g P : Nat) (w : World) (hR : RowB w b (.slice (some ⟨g, 0, none⟩) 16385 16385) 16385 P) :
    Calls Try.prog 17 #[.slice (some ⟨g, 0, none⟩) 16385 16385] w (ListOf w (listP P)) := ref_list b g 16385 16385 P w hR (by omega)

/-! Are two lists alike? -/
theorem alike_take {l k : List Int} {i : Nat} (hi : i < l.length) (hlk : l.length = k.length) (h : l.take i = k.take i) : (l.take (i + 1) = k.take (i + 1)) ↔ l.getD i 0 = k.getD i 0 := by
  have hk : i < k.length := by omega
  have e1 : l.getD i 0 = l[i] := by simp [List.getD_eq_getElem?_getD, List.getElem?_eq_getElem hi]
  have e2 : k.getD i 0 = k[i] := by simp [List.getD_eq_getElem?_getD, List.getElem?_eq_getElem hk]
  rw [List.take_succ_eq_append_getElem hi, List.take_succ_eq_append_getElem hk, h, e1, e2, List.append_right_inj]
  constructor
  · intro e; injection e
  · intro e; rw [e]
set_option maxRecDepth 100000 in
set_option maxHeartbeats 3200000 in
theorem ref_same (A B : Option Addr) (n c m d : Nat) (l k : List Int) (w : World) (hl : n = l.length) (hn : n ≤ 9223372036854775807) (hR : Rd w A n (fun i => .int .i64 (l.getD i 0)))
    (hk : m = k.length) (hm : m ≤ 9223372036854775807) (hS : Rd w B m (fun i => .int .i64 (k.getD i 0))) :
    Calls Try.prog 14 #[.slice A n c, .slice B m d] w fun e w' => e = .returned (.bool (decide (l = k))) ∧ DrewOf w w' := by
  by_cases hnm : n = m
  · subst hnm
    have HR := Aside.mk (And.intro hl (And.intro hk (And.intro hR hS)))
    clear hl hk hR hS
    obtain ⟨R, hRr⟩ : ∃ R, R = decide (l = k) := ⟨_, rfl⟩
    rw [← hRr]
    have HX := Aside.mk hRr
    clear hRr
    go_enter Try.func14, Try.ntmps14
    go_wp2
    go_loopw [5] (fun s5 wr => ∃ i : Nat, i ≤ n ∧ s5 = .int .i64 (i : Int) ∧ DrewOf w wr ∧ Aside (l.take i = k.take i)) (fun s5 _ => n - (intOf s5).toNat)
    case atStart => exact ⟨0, by omega, rfl, DrewOf.refl _, ⟨rfl⟩⟩
    case round =>
      obtain ⟨i, hi, rfl, hD, HT⟩ := hrel
      have HD := Aside.mk hD
      clear hD
      by_cases hlt : i < n
      · have hi1 : IntKind.i64.wrap ((i : Int) + 1) = (i : Int) + 1 := by rw [IntKind.wrap_i64]; omega
        obtain ⟨b, off, rfl, hb, hc⟩ := HR.out.2.2.1 i hlt
        obtain ⟨b1, off1, rfl, hbb1, hcc1⟩ := HR.out.2.2.2 i hlt
        have hcell : ∀ (q : Addr), wr.cell? q = w.cell? q := fun q => by obtain ⟨m, hm⟩ := HD.out; rw [hm]; rfl
        have y1 : wr.cell? ⟨b, off + i, none⟩ = some (.int .i64 (l.getD i 0)) := by rw [hcell]; exact hc
        have y2 : wr.cell? ⟨b1, off1 + i, none⟩ = some (.int .i64 (k.getD i 0)) := by rw [hcell]; exact hcc1
        have hk2 : (0 : Int) ≤ (i : Int) := by omega
        have hk3 : (i : Int) < (n : Int) := by omega
        have hal := alike_take (i := i) (by have := HR.out.1; omega) (by have := HR.out.1; have := HR.out.2.1; omega) HT.out
        have HA := Aside.mk hal
        generalize l.getD i 0 = x at *
        generalize k.getD i 0 = y at *
        clear hcell hc hcc1 hal
        go_upto_region 6 with fail
        by_cases hxy : x = y
        · subst hxy
          go_quiet (fail)
          go_wp2
          go_roundw
          case rel => exact ⟨i + 1, by omega, by go_num, HD.out.more _, ⟨HA.out.2 rfl⟩⟩
          case measure => simp [intOf]; omega
        · have hne : R = false := by
            rw [HX.out, decide_eq_false]
            intro e
            exact hxy (HA.out.1 (by rw [e]))
          have hb1 : (x != y) = true := by simp [hxy]
          have HN := Aside.mk hne
          clear hxy hne
          go_quiet (fail)
          go_wp2
          go_ret
          exact ⟨by rw [HN.out]; rfl, HD.out.more _⟩
      · have hyes : R = true := by
          rw [HX.out, decide_eq_true]
          have h1 := HT.out
          rwa [List.take_of_length_le (by have := HR.out.1; omega), List.take_of_length_le (by have := HR.out.2.1; omega)] at h1
        have HN := Aside.mk hyes
        clear hyes
        go_wp2
        go_ret
        exact ⟨by rw [HN.out]; rfl, HD.out⟩
  · have hne : decide (l = k) = false := by
      rw [decide_eq_false]
      intro e
      rw [e] at hl
      omega
    rw [hne]
    have hnm2 : ((n : Int) != (m : Int)) = true := by simp; omega
    have hnm3 : (n != m) = true := by simp [hnm]
    clear hne hl hk hR hS
    go_enter Try.func14, Try.ntmps14
    go_wp2
    go_ret
    exact ⟨rfl, DrewOf.refl _⟩
end Go.Proofs.Ytioagfbjjjankaa
