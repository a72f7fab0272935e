/-
  The value of every polynomial; the list stays.
-/
import Derived.Test.YtciacjegndjdmaaGfLaws3
import Derived.Test.YtciacjegndjdmaaArgs
namespace Go.Proofs.Ytciacjegndjdmaa
open Go.RowKit

/-- By definition: the powers of x, from the lowest on upwards. -/
def evalP (l : List Int) (x : Nat) : Nat × Nat := l.foldl (fun v c => (v.1 ^^^ Gf.mul (lowN c) v.2, Gf.mul v.2 x)) (0, 1)
theorem evalP_snoc (l : List Int) (c : Int) (x : Nat) : evalP (l ++ [c]) x = ((evalP l x).1 ^^^ Gf.mul (lowN c) (evalP l x).2, Gf.mul (evalP l x).2 x) := by
  simp [evalP]
theorem evalP_go {x : Nat} (hx : x < 8192) : ∀ (l : List Int) (v p : Nat), v < 8192 → p < 8192 → (l.foldl (fun v c => (v.1 ^^^ Gf.mul (lowN c) v.2, Gf.mul v.2 x)) ((v, p) : Nat × Nat)).1 = v ^^^ Gf.mul (evalH l x) p
  | [], v, p, _, _ => by simp [evalH, Gf.mul_zero_left]
  | c :: l, v, p, hv, hp => by
    have hc := lowN_lt c
    have hm : Gf.mul (lowN c) p < 8192 := Gf.mul_lt _ hc
    have hpx : Gf.mul p x < 8192 := Gf.mul_lt _ hp
    have hel := evalH_lt l x
    simp only [List.foldl_cons]
    rw [evalP_go hx l _ _ (Gf.xor_lt hv hm) hpx]
    show _ = v ^^^ Gf.mul (Gf.mul (evalH l x) x ^^^ lowN c) p
    rw [Gf.mul_xor_left _ (Gf.mul_lt _ hel) hc, Gf.mul_assoc hel hx hp, Gf.mul_comm hx hp]
    ac_rfl
theorem evalP_eq (l : List Int) {x : Nat} (hx : x < 8192) : (evalP l x).1 = evalH l x := by
  unfold evalP
  rw [evalP_go hx l 0 1 (by omega) (by omega), Nat.zero_xor, Gf.mul_one (evalH_lt l x)]
theorem evalP_lt {x : Nat} (hx : x < 8192) (l : List Int) : (evalP l x).1 < 8192 ∧ (evalP l x).2 < 8192 := by
  refine ⟨by rw [evalP_eq l hx]; exact evalH_lt l x, ?_⟩
  unfold evalP
  have : ∀ (l : List Int) (v p : Nat), p < 8192 → (l.foldl (fun v c => (v.1 ^^^ Gf.mul (lowN c) v.2, Gf.mul v.2 x)) ((v, p) : Nat × Nat)).2 < 8192 := by
    intro l
    induction l with
    | nil => intro v p h; exact h
    | cons c l ih => intro v p h; exact ih _ _ (Gf.mul_lt _ h)
  exact this l 0 1 (by omega)

set_option maxRecDepth 100000 in
set_option maxHeartbeats 1600000 in
theorem ref_eval (A : Option Addr) (n c : Nat) (l : List Int) (x : Int) (w : World) (hn : n ≤ 9223372036854775807) (hl : n = l.length) (hR : Rd w A n (fun k => .int .i64 (l.getD k 0))) :
    Calls Try.prog 18 #[.slice A n c, .int .i64 x] w fun e w' => e = .returned (.int .i64 (evalH l (lowN x) : Nat)) ∧ w = w' := by
  have HR := Aside.mk (And.intro hl hR)
  clear hl hR
  have hx := lowN_lt x
  go_enter Try.func18, Try.ntmps18
  go_wp2
  go_loop [5, 6, 7] (fun s5 s6 s7 => ∃ k : Nat, k ≤ n ∧ s7 = .int .i64 (k : Int) ∧ s5 = .int .i64 ((evalP (l.take k) (lowN x)).1 : Nat) ∧ s6 = .int .i64 ((evalP (l.take k) (lowN x)).2 : Nat)) (fun _ _ s7 => n - (intOf s7).toNat)
  case atStart => exact ⟨0, by omega, rfl, rfl, rfl⟩
  case round =>
    obtain ⟨k, hk, rfl, rfl, rfl⟩ := hrel
    by_cases hlt : k < n
    · obtain ⟨b, off, rfl, hb, hc⟩ := HR.out.2 k hlt
      have hts : l.take (k + 1) = l.take k ++ [l.getD k 0] := by
        have h : k < l.length := by have := HR.out.1; omega
        rw [List.take_succ_eq_append_getElem h]
        simp [List.getD_eq_getElem?_getD, List.getElem?_eq_getElem h]
      have hsn := evalP_snoc (l.take k) (l.getD k 0) (lowN x)
      rw [← hts] at hsn
      obtain ⟨b1, b2⟩ := evalP_lt hx (l.take k)
      have y1 : w.cell? ⟨b, off + k, none⟩ = some (.int .i64 (l.getD k 0)) := hc
      generalize l.getD k 0 = y at *
      generalize evalP (l.take k) (lowN x) = V at *
      obtain ⟨v, p⟩ := V
      simp only at hsn b1 b2 ⊢
      have hml := Gf.mul_lt p (lowN_lt y)
      have hxx := i64_xor_nat (a := v) (b := Gf.mul (lowN y) p) (by omega) (by omega)
      have m1 : Aside (∀ W, Calls Try.prog 13 #[.int .i64 y, .int .i64 (p : Int)] W fun e w' => e = .returned (.int .i64 (Gf.mul (lowN y) p : Nat)) ∧ W = w') := ⟨fun W => by
        have := ref_mul y p W
        rwa [lowN_of_lt b2] at this⟩
      have m2 : Aside (∀ W, Calls Try.prog 13 #[.int .i64 (p : Int), .int .i64 x] W fun e w' => e = .returned (.int .i64 (Gf.mul p (lowN x) : Nat)) ∧ W = w') := ⟨fun W => by
        have := ref_mul p x W
        rwa [lowN_of_lt b2] at this⟩
      have HS := Aside.mk hsn
      have hk1 : IntKind.i64.wrap ((k : Int) + 1) = (k : Int) + 1 := by rw [IntKind.wrap_i64]; omega
      clear hsn hts hc
      generalize Gf.mul (lowN y) p = q at *
      generalize Gf.mul p (lowN x) = r at *
      go_wp2_with (first | (obtain ⟨HI⟩ := m1; go_at_call 13; refine (HI _).mono ?_; clear HI; rintro e w2 ⟨rfl, rfl⟩) | (obtain ⟨HI⟩ := m2; go_at_call 13; refine (HI _).mono ?_; clear HI; rintro e w2 ⟨rfl, rfl⟩))
      go_round
      case rel => exact ⟨k + 1, by omega, by go_num, by rw [HS.out], by rw [HS.out]⟩
      case measure => simp [intOf]; omega
    · have hkl : l.take k = l := List.take_of_length_le (by have := HR.out.1; omega)
      have he := evalP_eq l hx
      rw [hkl]
      have HE := Aside.mk he
      clear he hkl
      go_wp2
      go_ret
      exact ⟨by rw [← HE.out]; rfl, rfl⟩

set_option maxRecDepth 100000 in
set_option maxHeartbeats 3200000 in
theorem gfEvals_walk (A : Option Addr) (len cap : Nat) (l : List Int) (x : Int) (w : World)
    (hx : l.length = len ∧ len ≤ cap ∧ cap ≤ maxLen ∧ len * 8 ≤ 140737488351232 ∧ (∀ k ∈ l, (Lit.int .i64 k).wf = true) ∧ Rd w A len (fun i => .int .i64 (l.getD i 0))) (_hn : (Lit.int .i64 x).wf = true) :
    Calls Try.prog 5 #[.slice A len cap, .int .i64 x] w fun e w' => e = .returned (.bool true) ∧ Below w.heap.size w w' := by
  obtain ⟨hl, hlc, hcm, hlb, _, hR⟩ := hx
  have hlen : len ≤ 17592186043904 := by omega
  have HR := Aside.mk (And.intro hl.symm hR)
  have hcm : cap ≤ 9223372036854775807 := hcm
  clear hR hl hlb
  go_enter Try.func5, Try.ntmps5
  go_upto_region 4 with (go_at_call 10; refine (gf_speaks _).mono ?_; rintro e w1 ⟨rfl, hb1⟩)
  have hS := St.new hb1
  have hfl := hS.fld.lt
  have HT := Aside.mk hS
  clear hS hb1
  generalize w1.alloc (.cells #[.int .u32 0, .int .i32 0, .int .u32 0, .slice none 0 0, .slice none 0 0, .int .i64 0] 40) = W at *
  generalize w1.heap.size = f at *
  have hbs := HT.out.bel.size
  have hlo := HT.out.lo
  go_upto_region 5 with (at_builtin; refine wpList_append_row (w0 := W) W.heap.size rfl _ _ 35 3 1 8 (.int .i64 0) rfl Try.underlying35 infoInt rfl (by decide) _ 0 [] _ len _ rfl rfl (Row.lit W W.heap.size 3 1 #[] 0 (Nat.le_refl _) (by decide) rfl) (Src.of_rd (Rd.below HR.out.2 (Nat.le_refl _) (HT.out.bel.alloc hbs _))) (by simp [Value.oneCell']) ((Below.refl _ _).alloc (Nat.le_refl _) _) (by simp) (by omega) (by simp only [maxLen]; omega) ?_; intro v1 w2 hr1 hb2 hg1 hat1; clear hg1 hat1)
  have hr2 : Row w2 W.heap.size 3 1 v1 len (intsV l) := by
    have e : (List.range len).map (fun i => Value.int .i64 (l.getD i 0)) = intsV l := by rw [HR.out.1]; exact range_getD_ints l
    rw [Nat.zero_add, List.nil_append, e] at hr1
    exact hr1
  have hT2 := HT.out.below hb2
  obtain ⟨A1, c1, rfl, hl1, hc1, hm1, hR1⟩ := hr2.readInts
  have hA1 : ∀ b off, A1 = some ⟨b, off, none⟩ → b ≠ f := fun b off e => by
    subst e
    have := (hr2.blk b rfl).1
    omega
  have HU := Aside.mk (And.intro hT2 (And.intro hr2 (And.intro hR1 hA1)))
  clear hT2 hr1 hr2 hR1 hA1 hb2 hl1 HT hbs hfl
  go_wp2_with (first | (go_at_call 17; refine (HU.out.1.eval A1 len c1 l x (by omega) HR.out.1 HU.out.2.2.1 HU.out.2.2.2).mono ?_; rintro e w3 ⟨rfl, hT3, hg3⟩; have HV := Aside.mk (And.intro hT3 hg3); clear hT3 hg3) | (go_at_call 18; refine (ref_eval A len cap l x _ (by omega) HR.out.1 (Rd.below HR.out.2 (Nat.le_refl _) HV.out.1.bel)).mono ?_; rintro e w4 ⟨rfl, rfl⟩))
  go_loopw [7] (fun s7 wr => ∃ k : Nat, k ≤ len ∧ s7 = .int .i64 (k : Int) ∧ DrewOf w3 wr) (fun s7 _ => len - (intOf s7).toNat)
  case atStart => exact ⟨0, by omega, rfl, DrewOf.refl _⟩
  case round =>
    obtain ⟨k, hk, rfl, hD⟩ := hrel
    have hk1 : IntKind.i64.wrap ((k : Int) + 1) = (k : Int) + 1 := by rw [IntKind.wrap_i64]; omega
    have HD := Aside.mk hD
    clear hD
    by_cases hlt : k < len
    · obtain ⟨b, off, rfl, hb, hc⟩ := HR.out.2 k hlt
      obtain ⟨b1, off1, rfl, hbb1, hcc1⟩ := HU.out.2.2.1 k hlt
      have hcell : ∀ (q : Addr), wr.cell? q = w3.cell? q := fun q => by obtain ⟨m, hm⟩ := HD.out; rw [hm]; rfl
      have y1 : wr.cell? ⟨b, off + k, none⟩ = some (.int .i64 (l.getD k 0)) := by
        rw [hcell, HV.out.1.bel.cell (p := ⟨b, off + k, none⟩) hb]
        exact hc
      have y2 : wr.cell? ⟨b1, off1 + k, none⟩ = some (.int .i64 (l.getD k 0)) := by
        rw [hcell]
        exact HV.out.2.cell hcc1 (by have := HU.out.2.2.2 b1 off1 rfl; simp; omega)
      have hk2 : (0 : Int) ≤ (k : Int) := by omega
      have hk3 : (k : Int) < (len : Int) := by omega
      generalize l.getD k 0 = y at *
      clear hcell hc hcc1
      go_upto_region 10 with fail
      go_quiet (fail)
      go_wp2
      go_roundw
      case rel => exact ⟨k + 1, by omega, by go_num, HD.out.more _⟩
      case measure => simp [intOf]; omega
    · go_wp2
      go_ret
      exact ⟨rfl, by obtain ⟨m, hm⟩ := HD.out; rw [hm]; exact ⟨HV.out.1.bel.os, HV.out.1.bel.tape, HV.out.1.bel.output, HV.out.1.bel.size, HV.out.1.bel.block⟩⟩
end Go.Proofs.Ytciacjegndjdmaa
