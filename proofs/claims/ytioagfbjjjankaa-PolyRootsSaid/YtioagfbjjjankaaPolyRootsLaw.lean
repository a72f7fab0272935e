/-
  A generator has the first 2t powers as roots.
-/
import Derived.Test.YtioagfbjjjankaaPolyGen
import Derived.Test.YtioagfbjjjankaaGfRef
import Derived.Test.YtioagfbjjjankaaPolyRef2
namespace Go.Proofs.Ytioagfbjjjankaa
open Go.RowKit

theorem gen_roots : ∀ t, t < 9 → ∀ k, k < 17 → 0 < t → 0 < k → k ≤ 2 * t → Gf.evN 105 (genN t) (Gf.pw k) = 0 := by decide +kernel
theorem gen_log : ∀ t, t < 9 → (genN t).log2 ≤ 13 * t := by decide +kernel
/-- The sum of the powers of x at some exponents. -/
def powSum (x : Nat) (l : List Nat) : Nat := l.foldl (fun v e => v ^^^ Gf.pow x e) 0
theorem powSum_snoc (x : Nat) (l : List Nat) (e : Nat) : powSum x (l ++ [e]) = powSum x l ^^^ Gf.pow x e := by simp [powSum]
theorem powSum_lt {x : Nat} (hx : x < 8192) (l : List Nat) : powSum x l < 8192 := by
  have : ∀ (l : List Nat) (v : Nat), v < 8192 → l.foldl (fun v e => v ^^^ Gf.pow x e) v < 8192 := by
    intro l
    induction l with
    | nil => intro v hv; exact hv
    | cons a l ih => intro v hv; exact ih _ (Gf.xor_lt hv (Gf.pow_lt hx a))
  exact this l 0 (by omega)
theorem evN_foldl {x N : Nat} : ∀ (l : List Nat) (P : Nat), (∀ e ∈ l, e < N) → Gf.evN N (l.foldl (fun P e => P ^^^ 1 * 2 ^ e) P) x = l.foldl (fun v e => v ^^^ Gf.pow x e) (Gf.evN N P x)
  | [], _, _ => rfl
  | a :: l, P, h => by
    rw [List.foldl_cons, evN_foldl l _ (fun e he => h e (by simp [he])), List.foldl_cons, Gf.evN_xor, Nat.one_mul, Gf.evN_pow N a (h a (by simp))]
theorem powSum_list {x P N : Nat} (hP : P < 2 ^ Poly.lim) (hN : P < 2 ^ N) : powSum x (listP P) = Gf.evN N P x := by
  have h1 := evN_foldl (x := x) (N := N) (listP P) 0 (fun e he => by
    obtain ⟨h0, h1⟩ := listP_mem he
    have := (Nat.log2_lt h0).2 hN
    omega)
  rw [Gf.evN_zero] at h1
  have h2 := sumL_all hP
  unfold sumL Poly.mulL at h2
  rw [h2] at h1
  exact h1.symm
theorem powSum_gen {t k : Nat} (ht : t ≤ 8) (h0 : 0 < t) (hk0 : 0 < k) (hk : k ≤ 2 * t) : powSum (Gf.pw k) (listP (genN t)) = 0 := by
  rw [powSum_list (gen_lim ht) (gen_lt t ht).1]
  exact gen_roots t (by omega) k (by omega) h0 hk0 hk
theorem below_of_gb {w w' : World} {B f : Nat} (h : w.grownBy w' (some f)) (hf : B ≤ f) (hB : B ≤ w.heap.size) : Below B w w' := (Below.refl B w).grown h hB (fun r hr => by injection hr with hr; omega)
set_option maxRecDepth 20000 in
set_option maxHeartbeats 1000000 in
theorem polyRoots_walk (a b : Int) (w : World) (_h1 : (Lit.int .i64 a).wf = true) (_h2 : (Lit.int .i64 b).wf = true) :
    Calls Try.prog 9 #[.int .i64 a, .int .i64 b] w fun e w' => e = .returned (.bool true) ∧ Below w.heap.size w w' := by
  go_enter Try.func9, Try.ntmps9
  go_upto_region 3 with (go_at_call 10; refine (poly_speaks _).mono ?_; rintro e w1 ⟨rfl, hb1⟩)
  have HB1 := Aside.mk hb1
  clear hb1
  obtain ⟨bb, hbb⟩ : ∃ bb, bb = decide (a < 1 ∨ 8 < a) := ⟨_, rfl⟩
  have HBB := Aside.mk hbb
  clear hbb
  go_cut [17] (fun s17 wx => s17 = .bool bb ∧ w1 = wx)
  case first =>
    by_cases h8 : a < 1
    · go_wp2
      go_meet
      exact ⟨by rw [HBB.out]; simp [h8], rfl⟩
    · by_cases h6 : 8 < a
      · go_wp2
        go_meet
        exact ⟨by rw [HBB.out]; simp [h6], rfl⟩
      · go_wp2
        go_meet
        exact ⟨by rw [HBB.out]; simp [h6, h8], rfl⟩
  case rest =>
  obtain ⟨rfl, rfl⟩ := hcut
  apply_assumption
  go_cut [0] (fun s0 wx => ∃ t : Nat, s0 = .int .i64 (t : Int) ∧ 1 ≤ t ∧ t ≤ 8 ∧ w1 = wx)
  case first =>
    cases bb with
    | true =>
      go_wp2
      go_meet
      exact ⟨3, rfl, by omega, by omega, rfl⟩
    | false =>
      have hn := of_decide_eq_false HBB.out.symm
      have HN := Aside.mk (show 1 ≤ a ∧ a ≤ 8 by omega)
      clear hn
      go_wp2
      go_meet
      exact ⟨a.toNat, by have := HN.out; rw [Int.toNat_of_nonneg (by omega)], by have := HN.out; omega, by have := HN.out; omega, rfl⟩
  case rest =>
  obtain ⟨t, rfl, h1, h8, rfl⟩ := hcut
  clear _h1 HBB
  have HF0 : Aside (Fld (w1.alloc (.cells #[.int .u32 0, .int .i32 0, .int .u32 0, .slice none 0 0, .slice none 0 0, .int .i64 0] 53)) w1.heap.size 0) := ⟨.inl (heap_alloc_new w1 _)⟩
  have HG := Aside.mk (poly_generator w1.heap.size 0 t _ (by omega) HF0.out h8 (by omega))
  have HT := Aside.mk (And.intro h1 h8)
  have hPost : Aside (∀ e w', GenPost (w1.alloc (.cells #[.int .u32 0, .int .i32 0, .int .u32 0, .slice none 0 0, .slice none 0 0, .int .i64 0] 53)) w1.heap.size 0 (genN t) e w' → ∃ A n c, e = .returned (.tuple #[.slice A n c, .bool true]) ∧ Aside (n = (listP (genN t)).length ∧ n ≤ c ∧ Rd w' A n (fun k => .int .i64 ((Poly.ints (listP (genN t))).getD k 0)) ∧ Below w.heap.size w w')) := ⟨by
    rintro e w2 ⟨v, q, rfl, hF, _, _, hg, hr⟩
    obtain ⟨A, c, rfl, hl, hc, hcm, hrd⟩ := hr.readInts
    refine ⟨A, _, c, rfl, rfl, hc, hrd, ?_⟩
    have h1 := HB1.out.alloc HB1.out.size (.cells #[.int .u32 0, .int .i32 0, .int .u32 0, .slice none 0 0, .slice none 0 0, .int .i64 0] 53)
    exact h1.trans (below_of_gb hg HB1.out.size h1.size)⟩
  clear h1 h8
  go_upto_region 7 with (go_at_call 22; refine HG.out.mono ?_; intro e w2 h2; obtain ⟨A, n, c, rfl, H2⟩ := hPost.out e w2 h2; clear h2)
  obtain ⟨hn, hnc, hrd, hbl⟩ := H2.out
  have hg0 := (gen_lt t HT.out.2).2
  obtain ⟨hpos, hhead⟩ := listP_head hg0 (gen_lim HT.out.2)
  have hlog := gen_log t (by have := HT.out; omega)
  obtain ⟨b0, o0, rfl, hb0, hy0⟩ := hrd 0 (by omega)
  obtain ⟨d, hd⟩ : ∃ d, d = (genN t).log2 := ⟨_, rfl⟩
  replace hy0 : w2.cell? ⟨b0, o0, none⟩ = some (.int .i64 (d : Int)) := by
    have e1 : (Poly.ints (listP (genN t))).getD 0 0 = (d : Int) := by rw [ints_getD hpos, hhead, hd]
    rw [Nat.add_zero] at hy0
    rw [hy0]
    exact congrArg (fun x => some (Value.int .i64 x)) e1
  have hn0 : ((n : Int) == 0) = false := by simp; omega
  have hn1 : (0 : Int) < (n : Int) := by omega
  obtain ⟨t13, ht13⟩ : ∃ x, x = 13 * t := ⟨_, rfl⟩
  obtain ⟨t2, ht2⟩ : ∃ x, x = 2 * t := ⟨_, rfl⟩
  have w13 : IntKind.i64.wrap (13 * (t : Int)) = (t13 : Int) := by have := HT.out; rw [IntKind.wrap_i64]; omega
  have w22 : IntKind.i64.wrap (2 * (t : Int)) = (t2 : Int) := by have := HT.out; rw [IntKind.wrap_i64]; omega
  have hdt : ¬ (t13 : Int) < (d : Int) := by omega
  have HX := Aside.mk (And.intro ht2 (And.intro hn (And.intro hrd hbl)))
  clear hn hrd hbl hg0 hpos hhead hlog ht13 ht2 hb0 hd H2 hPost HG HF0
  go_upto_region 9 with fail
  obtain ⟨b2, hb2⟩ : ∃ b2, b2 = decide (b < 1 ∨ (t2 : Int) < b) := ⟨_, rfl⟩
  have HB2 := Aside.mk hb2
  clear hb2 hdt hn0 w13
  go_cut [45] (fun s45 wx => s45 = .bool b2 ∧ w2 = wx)
  case first =>
    by_cases h8 : b < 1
    · go_wp2
      go_meet
      exact ⟨by rw [HB2.out]; simp [h8], rfl⟩
    · by_cases h6 : (t2 : Int) < b
      · go_wp2
        go_meet
        exact ⟨by rw [HB2.out]; simp [h6], rfl⟩
      · go_wp2
        go_meet
        exact ⟨by rw [HB2.out]; simp [h6, h8], rfl⟩
  case rest =>
  obtain ⟨rfl, rfl⟩ := hcut
  apply_assumption
  go_cut [1] (fun s1 wx => ∃ k : Nat, s1 = .int .i64 (k : Int) ∧ 1 ≤ k ∧ k ≤ 2 * t ∧ w2 = wx)
  case first =>
    cases b2 with
    | true =>
      go_wp2
      go_meet
      exact ⟨t2, rfl, by have := HX.out.1; have := HT.out; omega, by have := HX.out.1; omega, rfl⟩
    | false =>
      have hn := of_decide_eq_false HB2.out.symm
      have HN := Aside.mk (show 1 ≤ b ∧ b ≤ (t2 : Int) by omega)
      clear hn
      go_wp2
      go_meet
      exact ⟨b.toNat, by have := HN.out; rw [Int.toNat_of_nonneg (by omega)], by have := HN.out; omega, by have := HN.out; have := HX.out.1; omega, rfl⟩
  case rest =>
  obtain ⟨k, rfl, hk1, hk2, rfl⟩ := hcut
  have HK := Aside.mk (And.intro hk1 hk2)
  clear _h2 HB2 hk1 hk2 w22 hn1 hy0
  go_wp2
  go_loopw [8, 9] (fun s8 s9 wr => ∃ j : Nat, j ≤ n ∧ s9 = .int .i64 (j : Int) ∧ s8 = .int .i64 (powSum (Gf.pw k) ((listP (genN t)).take j) : Nat) ∧ w2 = wr) (fun _ s9 _ => n - (intOf s9).toNat)
  case atStart => exact ⟨0, by omega, rfl, rfl, rfl⟩
  case round =>
    obtain ⟨j, hj, rfl, rfl, rfl⟩ := hrel
    have hj1 : IntKind.i64.wrap ((j : Int) + 1) = ((j + 1 : Nat) : Int) := by have := HX.out.2.1; have := listP_le (genN t); rw [IntKind.wrap_i64]; omega
    by_cases hlt : j < n
    · obtain ⟨b1, o1, e1, hb1, hy⟩ := HX.out.2.2.1 j hlt
      injection e1 with e1
      injection e1 with e1 e2
      subst e1; subst e2
      have hjl : j < (listP (genN t)).length := by have := HX.out.2.1; omega
      obtain ⟨g, hg⟩ : ∃ g, g = (listP (genN t)).getD j 0 := ⟨_, rfl⟩
      replace hy : w2.cell? ⟨b0, o0 + j, none⟩ = some (.int .i64 (g : Int)) := by rw [hy, hg]; exact congrArg (fun x => some (Value.int .i64 x)) (ints_getD hjl)
      have hg105 : g < 105 := by
        obtain ⟨h0, h1⟩ := listP_mem (hg ▸ getD_memN hjl)
        have := (Nat.log2_lt h0).2 (gen_lt t HT.out.2).1
        omega
      obtain ⟨m, hm⟩ : ∃ m, m = k * g := ⟨_, rfl⟩
      have hm2 : m ≤ 16 * 105 := by rw [hm]; exact Nat.mul_le_mul (by have := HK.out; have := HT.out; omega) (by omega)
      have wm : IntKind.i64.wrap ((k : Int) * (g : Int)) = (m : Int) := by rw [← Int.natCast_mul, ← hm, IntKind.wrap_i64]; omega
      obtain ⟨z, hz⟩ : ∃ z, z = Gf.pw (arN (m : Int)) := ⟨_, rfl⟩
      have hz8 : z < 8192 := by rw [hz]; exact Gf.pw_lt _
      have hzp : z = Gf.pow (Gf.pw k) g := by rw [hz, arN_nat, Gf.pw_mod, hm, Gf.pow_pw]
      have hs8 := powSum_lt (Gf.pw_lt k) ((listP (genN t)).take j)
      have hnext : powSum (Gf.pw k) ((listP (genN t)).take (j + 1)) = powSum (Gf.pw k) ((listP (genN t)).take j) ^^^ z := by rw [take_snocN hjl, powSum_snoc, ← hg, hzp]
      generalize powSum (Gf.pw k) ((listP (genN t)).take j) = y at *
      have xr : bits .xor .i64 (y : Int) (z : Int) = ((y ^^^ z : Nat) : Int) := i64_xor_nat (by omega) (by omega)
      have hj2 : (0 : Int) ≤ (j : Int) := by omega
      have hj3 : (j : Int) < (n : Int) := by omega
      have HZ := Aside.mk (And.intro hz (And.intro hnext hlt))
      have HM := Aside.mk hm2
      clear hjl hg hg105 hm hm2 hz hz8 hzp hs8 hnext hlt
      go_wp2_with (go_at_call 25; refine (ref_exp m _ (by omega) (by have := HM.out; omega)).mono ?_; rw [← HZ.out.1]; rintro e w3 ⟨rfl, rfl⟩)
      go_roundw
      case rel => exact ⟨j + 1, by have := HZ.out.2.2; omega, rfl, by rw [HZ.out.2.1], trivial⟩
      case measure => have := HZ.out.2.2; simp [intOf]; omega
    · have hall : (listP (genN t)).take j = listP (genN t) := List.take_of_length_le (by have := HX.out.2.1; omega)
      have h0 := powSum_gen HT.out.2 (by have := HT.out; omega) HK.out.1 HK.out.2
      rw [hall, h0]
      clear hall h0
      go_wp2
      go_ret
      exact ⟨rfl, HX.out.2.2.2⟩
end Go.Proofs.Ytioagfbjjjankaa
