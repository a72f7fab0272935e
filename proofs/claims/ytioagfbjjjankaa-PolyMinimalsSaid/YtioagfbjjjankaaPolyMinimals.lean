/-
  The document's generator; the least polynomial of every power, and what makes codes.
-/
import Derived.Test.YtioagfbjjjankaaPolyRefMin
namespace Go.Proofs.Ytioagfbjjjankaa
open Go.RowKit

theorem infoIntL : (Try.prog.info? 22).map (fun i => (i.zero, i.size, i.bytes)) = some (some (.slice none 0 0), 1, 24) := by kernel_rfl
/-- The lists seen so far. -/
def SeenL (w : World) (b : Nat) (v : Value) (i : Nat) : Prop :=
  ∃ vs : Nat → Value, Row w b 22 1 v i ((List.range i).map vs) ∧ ∀ j, j < i → Row w b 3 1 (vs j) (mkL j).length (intsV (Poly.ints (mkL j)))
theorem SeenL.below {w w' : World} {b i : Nat} {v : Value} (h : SeenL w b v i) (hb : Below w.heap.size w w') : SeenL w' b v i := by
  obtain ⟨vs, h1, h2⟩ := h
  exact ⟨vs, h1.below hb, fun j hj => (h2 j hj).below hb⟩
theorem ref_minimal_odd (i : Nat) (h : i < 8) (k : Nat) (hk : k = 2 * i + 1) (w : World) : Calls Try.prog 23 #[.int .i64 (k : Int)] w (ListOf w (mkL i)) := by
  have := ref_minimal k (Gf.pw (2 * i + 1)) w (by omega) (by omega) (by rw [hk, arN_odd h])
  rw [Gf.refN_eq (Gf.pw_pos _) (Gf.pw_lt _)] at this
  exact this
set_option maxRecDepth 100000 in
set_option maxHeartbeats 2000000 in
theorem ref_generator (t : Nat) (w : World) (ht : t ≤ 8) (h0 : 0 < t) :
    Calls Try.prog 24 #[.int .i64 (t : Int)] w (ListOf w (listP (genN t))) := by
  obtain ⟨t2, ht2⟩ : ∃ t2, t2 = 2 * t := ⟨_, rfl⟩
  have w2 : IntKind.i64.wrap (2 * (t : Int)) = (t2 : Int) := by rw [IntKind.wrap_i64]; omega
  have HT := Aside.mk (And.intro ht2 (And.intro ht h0))
  clear ht2 ht h0
  go_enter Try.func24, Try.ntmps24
  go_wp2_with fail
  go_loopw [3, 4, 5] (fun s3 s4 s5 wr => ∃ i k : Nat, s5 = .int .i64 (k : Int) ∧ i ≤ t ∧ Aside (k = 2 * i + 1) ∧ SeenL wr w.heap.size s4 i ∧ Row wr w.heap.size 3 1 s3 (listP (genN i)).length (intsV (Poly.ints (listP (genN i)))) ∧ Below w.heap.size w wr) (fun _ _ s5 _ => t2 - (intOf s5).toNat)
  case atStart =>
    refine ⟨0, 1, rfl, by omega, ⟨rfl⟩, ⟨fun _ => undef, Row.nil _ _ _ _, fun j hj => by omega⟩, ?_, (Below.refl _ _).alloc (Nat.le_refl _) _⟩
    rw [gen_zero]
    exact Row.lit w w.heap.size 3 1 #[.int .i64 0] 1 (Nat.le_refl _) (by decide) rfl
  case round =>
    obtain ⟨i, k, rfl, hit, HK, hsn, hout, hbl⟩ := hrel
    obtain ⟨A6, c6, rfl⟩ : ∃ A6 c6, u4 = .slice A6 i c6 := by obtain ⟨vs, h1, _⟩ := hsn; obtain ⟨A, c, e, _⟩ := h1.slice; exact ⟨A, c, e⟩
    obtain ⟨A7, c7, rfl⟩ : ∃ A7 c7, u3 = .slice A7 (listP (genN i)).length c7 := by obtain ⟨A, c, e, _⟩ := hout.slice; exact ⟨A, c, e⟩
    have HR := Aside.mk (And.intro hsn (And.intro hout hbl))
    clear hsn hout hbl
    by_cases hlt : i < t
    · have hk2 : (k : Int) < (t2 : Int) := by have := HK.out; have := HT.out; omega
      have hwk : IntKind.i64.wrap ((k : Int) + 2) = ((k + 2 : Nat) : Int) := by have := HK.out; have := HT.out; rw [IntKind.wrap_i64]; omega
      have hi8 : i < 8 := by have := HT.out; omega
      have HMN := Aside.mk (ref_minimal_odd i hi8 k HK.out wr)
      have HI8 := Aside.mk (And.intro hi8 hlt)
      clear hi8 hlt
      have HM2 : Aside (∀ e w', ListOf wr (mkL i) e w' → ∃ A1 c1, e = .returned (.slice A1 (mkL i).length c1) ∧ Aside (Row w' w.heap.size 3 1 (.slice A1 (mkL i).length c1) (mkL i).length (intsV (Poly.ints (mkL i))) ∧ SeenL w' w.heap.size (.slice A6 i c6) i ∧ Row w' w.heap.size 3 1 (.slice A7 (listP (genN i)).length c7) (listP (genN i)).length (intsV (Poly.ints (listP (genN i)))) ∧ Below w.heap.size w w')) := ⟨by
        rintro e w' ⟨v, rfl, hr, hb⟩
        obtain ⟨A1, c1, rfl, _⟩ := hr.slice
        exact ⟨A1, c1, rfl, hr.mono HR.out.2.2.size, HR.out.1.below hb, HR.out.2.1.below hb, HR.out.2.2.trans (hb.mono HR.out.2.2.size)⟩⟩
      go_wp2_with (go_at_call 23; refine HMN.out.mono ?_; intro e w1 h1; obtain ⟨A1, c1, rfl, HM1⟩ := HM2.out e w1 h1; clear h1)
      obtain ⟨vs, hv1, hv2⟩ := HM1.out.2.1
      have HV := Aside.mk (And.intro hv1 hv2)
      clear hv1 hv2
      go_loopw [7, 8] (fun s7 s8 w5 => ∃ j : Nat, s8 = .int .i64 (j : Int) ∧ s7 = .bool false ∧ j ≤ i ∧ DrewOf w1 w5) (fun _ s8 _ => i - (intOf s8).toNat)
      case atStart => exact ⟨0, rfl, rfl, by omega, DrewOf.refl _⟩
      case round =>
        obtain ⟨j, rfl, rfl, hji, hd⟩ := hrel
        have HD := Aside.mk hd
        clear hd
        have hj1 : IntKind.i64.wrap ((j : Int) + 1) = ((j + 1 : Nat) : Int) := by have := HI8.out; rw [IntKind.wrap_i64]; omega
        by_cases hlt : j < i
        · have hrow : Row wr w.heap.size 22 1 (.slice A6 i c6) i ((List.range i).map vs) := by obtain ⟨q, hq⟩ := HD.out; rw [hq]; exact HV.out.1.drewN q
          obtain ⟨b6, o6, cap, e6, x1, x2, x3⟩ := hrow.form (by omega)
          injection e6 with e6 e7 e8
          subst e6; subst e8
          clear e7
          have hy := (hrow.at_ rfl j hlt).1
          have hgj : ((List.range i).map vs).getD j undef = vs j := by simp [List.getD_eq_getElem?_getD, hlt]
          rw [hgj] at hy
          have hrj : Row wr w.heap.size 3 1 (vs j) (mkL j).length (intsV (Poly.ints (mkL j))) := by obtain ⟨q, hq⟩ := HD.out; rw [hq]; exact (HV.out.2 j hlt).drewN q
          have hrm : Row wr w.heap.size 3 1 (.slice A1 (mkL i).length c1) (mkL i).length (intsV (Poly.ints (mkL i))) := by obtain ⟨q, hq⟩ := HD.out; rw [hq]; exact HM1.out.1.drewN q
          obtain ⟨A2, c2, hvj, hl2, x4, x5, hrd2⟩ := hrj.readInts
          obtain ⟨A1', c1', e1, hl1, x6, x7, hrd1⟩ := hrm.readInts
          injection e1 with e1 e3 e2
          subst e1; subst e2
          clear e3
          rw [hvj] at hy
          have HSM := Aside.mk (ref_same A2 A1 (mkL j).length c2 (mkL i).length c1 (Poly.ints (mkL j)) (Poly.ints (mkL i)) wr hl2 (by have := mkL_len j; omega) hrd2 hl1 (by have := mkL_len i; omega) hrd1)
          have HNE := Aside.mk (decide_eq_false (fun e => by have := mkL_inj (by have := HI8.out; omega) HI8.out.1 e; omega : ¬ Poly.ints (mkL j) = Poly.ints (mkL i)))
          have hj2 : (0 : Int) ≤ (j : Int) := by omega
          have hj3 : (j : Int) < (i : Int) := by omega
          have HJ := Aside.mk hlt
          clear hrow hgj hrj hrm hvj hl2 hrd2 hl1 hrd1 hlt x1 x2 x3 x4 x5 x6 x7
          go_wp2_with (go_at_call 14; refine HSM.out.mono ?_; rw [HNE.out]; rintro e w6 ⟨rfl, hd6⟩; have HD6 := Aside.mk hd6; clear hd6)
          go_roundw
          case rel => exact ⟨j + 1, rfl, rfl, by have := HJ.out; omega, HD.out.trans HD6.out⟩
          case measure => have := HJ.out; simp [intOf]; omega
        · have hrow : Row wr w.heap.size 22 1 (.slice A6 i c6) i ((List.range i).map vs) := by obtain ⟨q, hq⟩ := HD.out; rw [hq]; exact HV.out.1.drewN q
          have HRW := Aside.mk hrow
          have HBW : Aside (Below w.heap.size w wr) := ⟨by obtain ⟨q, hq⟩ := HD.out; rw [hq]; exact HM1.out.2.2.2.trans ⟨rfl, rfl, rfl, Nat.le_refl _, fun _ _ => rfl⟩⟩
          have HKP : Aside (∀ {v : Value} {n : Nat} {xs : List Value}, Row w1 w.heap.size 3 1 v n xs → Row wr w.heap.size 3 1 v n xs) := ⟨fun h => by obtain ⟨q, hq⟩ := HD.out; rw [hq]; exact h.drewN q⟩
          have HAP : Aside (∀ v4 w4, Row w4 w.heap.size 22 1 v4 (i + 1) ((List.range i).map vs ++ [.slice A1 (mkL i).length c1]) → wr.grownBy w4 (Value.slice A6 i c6).ownBlock → Below w.heap.size wr w4 →
              Aside (SeenL w4 w.heap.size v4 (i + 1) ∧ Below w.heap.size w w4 ∧ Row w4 w.heap.size 3 1 (.slice A1 (mkL i).length c1) (mkL i).length (intsV (Poly.ints (mkL i))) ∧ Row w4 w.heap.size 3 1 (.slice A7 (listP (genN i)).length c7) (listP (genN i)).length (intsV (Poly.ints (listP (genN i)))))) := ⟨by
            intro v4 w4 hr4 hg4 hb4
            have hk : ∀ {v : Value} {n : Nat} {xs : List Value}, Row w1 w.heap.size 3 1 v n xs → Row w4 w.heap.size 3 1 v n xs := fun h => (HKP.out h).kept hg4 (Row.other (HKP.out h) HRW.out (by decide))
            refine ⟨⟨fun j => if j = i then .slice A1 (mkL i).length c1 else vs j, ?_, fun j hj => ?_⟩, HBW.out.trans hb4, hk HM1.out.1, hk HM1.out.2.2.1⟩
            · have e : (List.range (i + 1)).map (fun j => if j = i then Value.slice A1 (mkL i).length c1 else vs j) = (List.range i).map vs ++ [.slice A1 (mkL i).length c1] := by
                rw [List.range_succ, List.map_append]
                congr 1
                · apply List.map_congr_left
                  intro j hj
                  rw [if_neg (by have := List.mem_range.1 hj; omega)]
                · simp
              rw [e]
              exact hr4
            · by_cases hji : j = i
              · subst hji
                simp only [if_true]
                exact hk HM1.out.1
              · simp only [if_neg hji]
                exact hk (HV.out.2 j (by omega))⟩
          have HML : Aside (∀ w4, Row w4 w.heap.size 3 1 (.slice A1 (mkL i).length c1) (mkL i).length (intsV (Poly.ints (mkL i))) → Row w4 w.heap.size 3 1 (.slice A7 (listP (genN i)).length c7) (listP (genN i)).length (intsV (Poly.ints (listP (genN i)))) →
              Calls Try.prog 13 #[.slice A7 (listP (genN i)).length c7, .slice A1 (mkL i).length c1] w4 (PairOf w4 (some (genN (i + 1))))) := ⟨fun w4 h1 h2 => by
            have := lrmul (.slice A7 (listP (genN i)).length c7) (.slice A1 (mkL i).length c1) (Poly.ints (listP (genN i))) (Poly.ints (mkL i)) w4 (Row.lrd h2 (listP_short _)) (Row.lrd h1 (by have := mkL_len i; omega))
            rw [bits_gen (by have := HI8.out.1; omega), bits_mk HI8.out.1, gen_mul HI8.out.1] at this
            exact this⟩
          have hj3 : ¬ (j : Int) < (i : Int) := by omega
          clear hlt hrow
          go_wp2_with (first | (at_builtin; refine wpList_append_one (w0 := wr) w.heap.size rfl _ _ 72 22 1 24 (.slice none 0 0) rfl Try.underlying72 infoIntL rfl (by decide) (.slice A6 i c6) i ((List.range i).map vs) #[.slice A1 (mkL i).length c1] rfl rfl rfl HRW.out (by simp [Value.oneCell']) (Below.refl _ _) HBW.out.size (by have := HI8.out; omega) (by have := HI8.out; simp only [maxLen]; omega) ?_; intro v4 w4 hr4 hb4 hg4 hat4; have HS4 := HAP.out v4 w4 hr4 hg4 hb4; clear hr4 hb4 hg4 hat4) | (go_at_call 13; refine (HML.out _ HS4.out.2.2.1 HS4.out.2.2.2).mono ?_; rintro e w5 ⟨v5, rfl, hr5, hb5⟩; have H5 := Aside.mk (And.intro hr5 hb5); clear hr5 hb5))
          go_roundw
          case rel =>
            obtain ⟨hs4, hb4, hm4, ho4⟩ := HS4.out
            obtain ⟨hr5, hb5⟩ := H5.out
            exact ⟨i + 1, k + 2, rfl, HI8.out.2, ⟨by have := HK.out; omega⟩, hs4.below hb5, hr5.mono hb4.size, hb4.trans (hb5.mono hb4.size)⟩
          case measure => have := HK.out; have := HT.out; have := HI8.out; simp [intOf]; omega
    · have hk2 : ¬ (k : Int) < (t2 : Int) := by have := HK.out; have := HT.out; omega
      have hit2 : i = t := by omega
      have HI := Aside.mk hit2
      clear hit2 hlt hit
      go_wp2
      go_ret
      exact ⟨_, rfl, by rw [← HI.out]; exact HR.out.2.1, HR.out.2.2⟩
/-- The list that makes a code for b errors, empty where there is none. -/
def gL (b : Int) : List Nat := if 1 ≤ b ∧ b ≤ 8 then listP (genN b.toNat) else []
theorem gL_len (b : Int) : (gL b).length ≤ 1000000 := by
  unfold gL
  split
  · have := listP_le (genN b.toNat)
    omega
  · simp
def GenAny (b : Int) (w : World) (f : Nat) (e : Ending) (w' : World) : Prop :=
  ∃ v, e = .returned (.tuple #[v, .bool (decide (1 ≤ b ∧ b ≤ 8))]) ∧ w.grownBy w' (some f) ∧ Row w' w.heap.size 3 1 v (gL b).length (intsV (Poly.ints (gL b)))
set_option maxRecDepth 100000 in
set_option maxHeartbeats 2000000 in
theorem gen_any (f p : Nat) (b : Int) (w : World) (hp : p ≤ 100000) (hF : Fld w f p) :
    Calls Try.prog 22 #[.pointer (some ⟨f, 0, none⟩), .int .i64 b] w (GenAny b w f) := by
  by_cases h1 : b < 1
  · have hP : Aside (GenAny b w f (.returned (.tuple #[.slice none 0 0, .bool false])) w) := ⟨by
      have e1 : decide (1 ≤ b ∧ b ≤ 8) = false := by simp; omega
      have e2 : gL b = [] := by unfold gL; rw [if_neg (by omega)]
      unfold GenAny
      rw [e1, e2]
      exact ⟨_, rfl, ⟨rfl, rfl, rfl, Nat.le_refl _, fun _ _ _ => rfl⟩, Row.nil _ _ _ _⟩⟩
    clear hF
    go_enter Try.func22, Try.ntmps22
    go_wp2
    go_ret2
    exact hP.out
  · by_cases h8 : 8 < b
    · have hP : Aside (GenAny b w f (.returned (.tuple #[.slice none 0 0, .bool false])) w) := ⟨by
        have e1 : decide (1 ≤ b ∧ b ≤ 8) = false := by simp; omega
        have e2 : gL b = [] := by unfold gL; rw [if_neg (by omega)]
        unfold GenAny
        rw [e1, e2]
        exact ⟨_, rfl, ⟨rfl, rfl, rfl, Nat.le_refl _, fun _ _ _ => rfl⟩, Row.nil _ _ _ _⟩⟩
      clear hF
      go_enter Try.func22, Try.ntmps22
      go_wp2
      go_ret2
      exact hP.out
    · obtain ⟨t, rfl⟩ : ∃ t : Nat, b = (t : Int) := ⟨b.toNat, by omega⟩
      refine (poly_generator f p t w hp hF (by omega) (by omega)).mono ?_
      rintro e w' ⟨v, q, rfl, _, _, _, hg, hr⟩
      have e1 : decide (1 ≤ (t : Int) ∧ (t : Int) ≤ 8) = true := by simp; omega
      have e2 : gL (t : Int) = listP (genN t) := by unfold gL; rw [if_pos (by omega)]; simp
      unfold GenAny
      rw [e1, e2]
      exact ⟨v, rfl, hg, hr⟩
set_option maxRecDepth 100000 in
theorem gen_nil (b : Int) (w : World) :
    Calls Try.prog 22 #[.pointer none, .int .i64 b] w fun e w' => e = .returned (.tuple #[.slice none 0 0, .bool false]) ∧ w' = w := by
  go_enter Try.func22, Try.ntmps22
  go_wp2
  go_ret2
  exact ⟨rfl, rfl⟩
set_option maxRecDepth 100000 in
theorem min_nil (k : Int) (w : World) :
    Calls Try.prog 21 #[.pointer none, .int .i64 k] w fun e w' => e = .returned (.slice none 0 0) ∧ w' = w := by
  go_enter Try.func21, Try.ntmps21
  go_wp2
  go_ret
  exact ⟨rfl, rfl⟩
theorem below_gb {w w' : World} {B f : Nat} (h : w.grownBy w' (some f)) (hf : B ≤ f) (hB : B ≤ w.heap.size) : Below B w w' := (Below.refl B w).grown h hB (fun r hr => by injection hr with hr; omega)
set_option maxRecDepth 100000 in
set_option maxHeartbeats 2000000 in
theorem polyMinimals_walk (a b : Int) (w : World) (_h1 : (Lit.int .i64 a).wf = true) (_h2 : (Lit.int .i64 b).wf = true) :
    Calls Try.prog 8 #[.int .i64 a, .int .i64 b] w fun e w' => e = .returned (.bool true) ∧ Below w.heap.size w w' := by
  obtain ⟨ha1, ha2⟩ : -9223372036854775808 ≤ a ∧ a ≤ 9223372036854775807 := by
    have h : IntKind.i64.min ≤ a ∧ a ≤ 9223372036854775807 := by have := _h1; simp [Lit.wf] at this; exact this
    exact h
  clear _h1 _h2
  obtain ⟨r, hr⟩ : ∃ r, r = Gf.pw (arN a) := ⟨_, rfl⟩
  have hr0 : 0 < r := by rw [hr]; exact Gf.pw_pos _
  have hr8 : r < 8192 := by rw [hr]; exact Gf.pw_lt _
  obtain ⟨M, hM⟩ : ∃ M, M = Poly.fall 14 (Gf.minN r) := ⟨_, rfl⟩
  have hMl : M.length ≤ 14 := by rw [hM]; exact Poly.fall_len _ _
  obtain ⟨ok, hok⟩ : ∃ ok, ok = decide (1 ≤ b ∧ b ≤ 8) := ⟨_, rfl⟩
  have HRM : Aside (∀ W, Calls Try.prog 23 #[.int .i64 a] W (ListOf W M)) := ⟨fun W => by
    have := ref_minimal a r W ha1 ha2 hr
    rw [Gf.refN_eq hr0 hr8] at this
    rw [hM]
    exact this⟩
  have HRG : Aside (ok = true → ∀ W, Calls Try.prog 24 #[.int .i64 b] W (ListOf W (gL b))) := ⟨fun h W => by
    have h1 := of_decide_eq_true (hok ▸ h)
    obtain ⟨t, rfl⟩ : ∃ t : Nat, b = (t : Int) := ⟨b.toNat, by omega⟩
    have e2 : gL (t : Int) = listP (genN t) := by unfold gL; rw [if_pos h1]; simp
    rw [e2]
    exact ref_generator t W (by omega) (by omega)⟩
  have HGL : Aside (ok = false → gL b = []) := ⟨fun h => by
    have h1 := of_decide_eq_false (hok ▸ h)
    unfold gL; rw [if_neg h1]⟩
  have HPM : Aside (∀ f W, f < W.heap.size → Fld W f 0 → Calls Try.prog 21 #[.pointer (some ⟨f, 0, none⟩), .int .i64 a] W fun e w' => ∃ A c q, e = .returned (.slice A M.length c) ∧ Aside (Fld w' f q ∧ q ≤ 200 ∧ W.grownBy w' (some f) ∧ Row w' W.heap.size 3 1 (.slice A M.length c) M.length (intsV (Poly.ints M)))) := ⟨fun f W hf hF => by
    refine (poly_minimal f 0 a r W (fun _ _ => True) (by omega) hf hr0 hr8 ?_).mono ?_
    · refine (gf_exp f 0 a W hF ha1 ha2).mono ?_
      rintro e w1 ⟨rfl, ⟨ge, gl, hM⟩, hg⟩
      rw [hr]
      exact ⟨rfl, ge, gl, trivial, hM, hg⟩
    · rintro e w' ⟨v, ge, gl, q, rfl, _, hMd, _, hq, hg, hrow⟩
      rw [← hM] at hrow
      obtain ⟨A, c, rfl, _⟩ := hrow.slice
      exact ⟨A, c, q, rfl, .inr ⟨ge, gl, hMd⟩, by omega, hg, hrow⟩⟩
  have HOK := Aside.mk (And.intro hok hMl)
  clear hr hr0 hr8 hM hMl ha1 ha2 hok
  go_enter Try.func8, Try.ntmps8
  go_upto_region 3 with (go_at_call 10; refine (poly_speaks _).mono ?_; rintro e w1 ⟨rfl, hb1⟩)
  have HB1 := Aside.mk hb1
  clear hb1
  obtain ⟨W0, hW0⟩ : ∃ W0, W0 = w1.alloc (.cells #[.int .u32 0, .int .i32 0, .int .u32 0, .slice none 0 0, .slice none 0 0, .int .i64 0] 53) := ⟨_, rfl⟩
  have HF0 : Aside (Fld W0 w1.heap.size 0 ∧ Below w.heap.size w W0 ∧ w1.heap.size < W0.heap.size) := ⟨by
    subst hW0
    exact ⟨.inl (heap_alloc_new w1 _), HB1.out.alloc HB1.out.size _, by simp⟩⟩
  obtain ⟨f, hf⟩ : ∃ f, f = w1.heap.size := ⟨_, rfl⟩
  rw [← hf] at HF0
  have HMN := Aside.mk (HPM.out f W0 HF0.out.2.2 HF0.out.1)
  rw [hW0] at HMN
  have hPost : Aside (∀ (e : Ending) (w2 : World), (∃ A c q, e = .returned (.slice A M.length c) ∧ Aside (Fld w2 f q ∧ q ≤ 200 ∧ W0.grownBy w2 (some f) ∧ Row w2 W0.heap.size 3 1 (.slice A M.length c) M.length (intsV (Poly.ints M)))) → ∃ A c, e = .returned (.slice A M.length c) ∧ Aside (Calls Try.prog 22 #[.pointer (some ⟨f, 0, none⟩), .int .i64 b] w2 fun e w3 => ∃ B n d, e = .returned (.tuple #[.slice B n d, .bool ok]) ∧ Aside (n = (gL b).length ∧ Row w3 W0.heap.size 3 1 (.slice B n d) n (intsV (Poly.ints (gL b))) ∧ Row w3 W0.heap.size 3 1 (.slice A M.length c) M.length (intsV (Poly.ints M)) ∧ Below w.heap.size w w3 ∧ W0.heap.size ≤ w3.heap.size))) := ⟨by
    rintro e w2 ⟨A, c, q, rfl, H⟩
    obtain ⟨hF, hq, hg, hrow⟩ := H.out
    refine ⟨A, c, rfl, ⟨?_⟩⟩
    refine (gen_any f q b w2 (by omega) hF).mono ?_
    rintro e w3 ⟨v, rfl, hg3, hr3⟩
    obtain ⟨B, d, rfl, _⟩ := hr3.slice
    have hf1 : w.heap.size ≤ f := by have := HB1.out.size; omega
    have hf0 := HF0.out.2.2
    have hb2 : Below w.heap.size w w2 := HF0.out.2.1.trans (below_gb hg hf1 HF0.out.2.1.size)
    rw [HOK.out.1]
    exact ⟨B, _, d, rfl, ⟨rfl, hr3.mono hg.size, hrow.far hg3 (by intro r hr; injection hr with hr; omega), hb2.trans (below_gb hg3 hf1 hb2.size), Nat.le_trans hg.size hg3.size⟩⟩⟩
  rw [hf] at HMN
  go_upto_region 5 with (go_at_call 21; refine HMN.out.mono ?_; intro e w2 h2; rw [← hf, ← hW0] at h2; obtain ⟨A, c, rfl, HG⟩ := hPost.out e w2 h2; clear h2)
  have hPost3 : Aside (∀ (B : Option Addr) (n d : Nat) (w3 : World), Aside (n = (gL b).length ∧ Row w3 W0.heap.size 3 1 (.slice B n d) n (intsV (Poly.ints (gL b))) ∧ Row w3 W0.heap.size 3 1 (.slice A M.length c) M.length (intsV (Poly.ints M)) ∧ Below w.heap.size w w3 ∧ W0.heap.size ≤ w3.heap.size) →
      ∀ e w4, ListOf w3 M e w4 → ∃ A4 c4, e = .returned (.slice A4 M.length c4) ∧ Aside (Calls Try.prog 14 #[.slice A M.length c, .slice A4 M.length c4] w4 fun e w5 => e = .returned (.bool true) ∧ Aside (n = (gL b).length ∧ Row w5 W0.heap.size 3 1 (.slice B n d) n (intsV (Poly.ints (gL b))) ∧ Below w.heap.size w w5 ∧ W0.heap.size ≤ w5.heap.size))) := ⟨by
    rintro B n d w3 H3 e w4 ⟨v, rfl, hr, hb⟩
    obtain ⟨hn, hB, hA, hbl, hsz⟩ := H3.out
    have hbW : Below W0.heap.size w3 w4 := hb.mono hsz
    obtain ⟨A4, c4, rfl, hl4, _, _, hrd4⟩ := hr.readInts
    obtain ⟨A1, c1, e1, hl1, _, _, hrd1⟩ := (hA.below hb).readInts
    injection e1 with e1 _ e2
    subst e1; subst e2
    refine ⟨A4, c4, rfl, ⟨?_⟩⟩
    refine (ref_same A A4 M.length c M.length c4 (Poly.ints M) (Poly.ints M) w4 hl1 (by have := HOK.out; omega) hrd1 hl4 (by have := HOK.out; omega) hrd4).mono ?_
    rintro e w5 ⟨rfl, q, rfl⟩
    have hbq : Below W0.heap.size w4 (w4.drewN q) := ⟨rfl, rfl, rfl, Nat.le_refl _, fun _ _ => rfl⟩
    refine ⟨by simp, hn, (hB.below hb).drewN q, ?_, Nat.le_trans hsz (Nat.le_trans hbW.size hbq.size)⟩
    have h1 := hbl.trans (hb.mono hbl.size)
    exact h1.trans ⟨rfl, rfl, rfl, Nat.le_refl _, fun _ _ => rfl⟩⟩
  clear HMN hPost HPM HF0
  go_upto_region 6 with (go_at_call 22; rw [← hf]; refine HG.out.mono ?_; rintro e w3 ⟨B, n, d, rfl, H3⟩)
  clear hf hW0 HG
  go_upto_region 8 with (first | (go_at_call 23; refine (HRM.out _).mono ?_; intro e w4 h4; obtain ⟨A4, c4, rfl, HSM⟩ := hPost3.out B n d w3 H3 e w4 h4; clear h4) | (go_at_call 14; refine HSM.out.mono ?_; rintro e w5 ⟨rfl, H5⟩) | (go_at_call 21; refine (min_nil a _).mono ?_; rintro e w6 ⟨rfl, rfl⟩))
  clear H3 HSM hPost3 HRM
  go_upto_region 11 with (go_at_call 22; refine (gen_nil b _).mono ?_; rintro e w7 ⟨rfl, rfl⟩)
  by_cases h1 : b < 1
  · obtain ⟨rfl, rfl⟩ : ok = false ∧ n = 0 := by
      have e1 : ok = false := by rw [HOK.out.1]; simp; omega
      exact ⟨e1, by rw [H5.out.1, HGL.out e1]; rfl⟩
    have HB5 := Aside.mk H5.out.2.2.1
    clear H5 HOK HGL HRG
    go_wp2
    go_ret
    exact ⟨rfl, HB5.out⟩
  · by_cases h8 : 8 < b
    · obtain ⟨rfl, rfl⟩ : ok = false ∧ n = 0 := by
        have e1 : ok = false := by rw [HOK.out.1]; simp; omega
        exact ⟨e1, by rw [H5.out.1, HGL.out e1]; rfl⟩
      have HB5 := Aside.mk H5.out.2.2.1
      clear H5 HOK HGL HRG
      go_wp2
      go_ret
      exact ⟨rfl, HB5.out⟩
    · obtain rfl : ok = true := by rw [HOK.out.1]; simp; omega
      have HG5 := Aside.mk (HRG.out rfl w7)
      have hPost5 : Aside (∀ (e : Ending) (w8 : World), ListOf w7 (gL b) e w8 → ∃ A4 c4, e = .returned (.slice A4 (gL b).length c4) ∧ Aside (Calls Try.prog 14 #[.slice B n d, .slice A4 (gL b).length c4] w8 fun e w9 => e = .returned (.bool true) ∧ Aside (Below w.heap.size w w9))) := ⟨by
        rintro e w8 ⟨v, rfl, hr, hb⟩
        obtain ⟨hn, hB, hbl, hsz⟩ := H5.out
        obtain ⟨A4, c4, rfl, hl4, _, _, hrd4⟩ := hr.readInts
        obtain ⟨A1, c1, e1, hl1, _, _, hrd1⟩ := (hB.below hb).readInts
        injection e1 with e1 _ e2
        subst e1; subst e2
        refine ⟨A4, c4, rfl, ⟨?_⟩⟩
        have := gL_len b
        refine (ref_same B A4 n d (gL b).length c4 (Poly.ints (gL b)) (Poly.ints (gL b)) w8 hl1 (by omega) hrd1 hl4 (by omega) hrd4).mono ?_
        rintro e w9 ⟨rfl, q, rfl⟩
        have h1 := hbl.trans (hb.mono hbl.size)
        exact ⟨by simp, ⟨h1.trans ⟨rfl, rfl, rfl, Nat.le_refl _, fun _ _ => rfl⟩⟩⟩⟩
      clear H5 HOK HGL HRG
      go_wp2_with (first | (go_at_call 24; refine HG5.out.mono ?_; intro e w8 h4; obtain ⟨A4, c4, rfl, HSM⟩ := hPost5.out e w8 h4; clear h4) | (go_at_call 14; refine HSM.out.mono ?_; rintro e w9 ⟨rfl, H9⟩))
      go_ret
      exact ⟨rfl, H9.out⟩
end Go.Proofs.Ytioagfbjjjankaa
