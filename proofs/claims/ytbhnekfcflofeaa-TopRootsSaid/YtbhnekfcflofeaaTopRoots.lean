/-
  The least polynomial of a power has just that power's squares as roots.
-/
import Derived.Test.YtbhnekfcflofeaaPolyMinW
namespace Go.Proofs.Ytbhnekfcflofeaa
open Go.RowKit

/-- The sum of the powers of x at some exponents. -/
def powSum (x : Nat) (l : List Nat) : Nat := l.foldl (fun v e => v ^^^ Gf.pow x e) 0
theorem powSum_snoc (x : Nat) (l : List Nat) (e : Nat) : powSum x (l ++ [e]) = powSum x l ^^^ Gf.pow x e := by simp [powSum]
theorem powSum_lt {x : Nat} (hx : x < 8192) (l : List Nat) : powSum x l < 8192 := by
  have : ∀ (l : List Nat) (v : Nat), v < 8192 → l.foldl (fun v e => v ^^^ Gf.pow x e) v < 8192 := by
    intro l
    induction l with
    | nil => intro v hv; exact hv
    | cons a l ih => intro v hv; exact ih _ (Gf.xor_lt hv (Gf.pow_lt hx a))
  exact this l 0 (by omega)
theorem evN_foldlT {x N : Nat} : ∀ (l : List Nat) (P : Nat), (∀ e ∈ l, e < N) → Gf.evN N (l.foldl (fun P e => P ^^^ 1 * 2 ^ e) P) x = l.foldl (fun v e => v ^^^ Gf.pow x e) (Gf.evN N P x)
  | [], _, _ => rfl
  | a :: l, P, h => by
    rw [List.foldl_cons, evN_foldlT l _ (fun e he => h e (by simp [he])), List.foldl_cons, Gf.evN_xor, Nat.one_mul, Gf.evN_pow N a (h a (by simp))]

theorem evN_fall {x M N : Nat} : ∀ n, n ≤ N → powSum x (Poly.fall n M) = Gf.evN N (M % 2 ^ n) x
  | 0, _ => by
    rw [Nat.pow_zero, Nat.mod_one, Gf.evN_zero]
    rfl
  | n + 1, h => by
    have ih := evN_fall (x := x) (M := M) (N := N) n (by omega)
    have hps : ∀ (l : List Nat) (v : Nat), l.foldl (fun v e => v ^^^ Gf.pow x e) v = v ^^^ powSum x l := by
      intro l
      unfold powSum
      induction l with
      | nil => intro v; simp
      | cons a l ih => intro v; simp only [List.foldl_cons]; rw [ih, ih (0 ^^^ Gf.pow x a), Nat.zero_xor, Nat.xor_assoc]
    cases hb : M.testBit n with
    | false =>
      rw [Poly.fall_no hb, ih]
      congr 1
      apply Poly.ext
      intro i
      rw [Nat.testBit_mod_two_pow, Nat.testBit_mod_two_pow]
      by_cases hi : i = n
      · subst hi; simp [hb]
      · by_cases h2 : i < n
        · simp [h2, show i < n + 1 by omega]
        · simp [h2, show ¬ i < n + 1 by omega]
    | true =>
      rw [Poly.fall_yes hb]
      have e : M % 2 ^ (n + 1) = 2 ^ n ^^^ M % 2 ^ n := by
        apply Poly.ext
        intro i
        rw [Nat.testBit_mod_two_pow, Nat.testBit_xor, Nat.testBit_mod_two_pow, Nat.testBit_two_pow]
        by_cases hi : n = i
        · subst hi; simp [hb]
        · by_cases h2 : i < n
          · simp [h2, show i < n + 1 by omega, hi]
          · simp [h2, show ¬ i < n + 1 by omega, hi]
      have h0 : powSum x (n :: Poly.fall n M) = Gf.pow x n ^^^ powSum x (Poly.fall n M) := by
        have := hps (Poly.fall n M) (0 ^^^ Gf.pow x n)
        unfold powSum at this ⊢
        rw [List.foldl_cons, this, Nat.zero_xor]
      rw [h0, ih, e, Gf.evN_xor, Gf.evN_pow N n (by omega)]
theorem take_snocT {l : List Nat} {k : Nat} (h : k < l.length) : l.take (k + 1) = l.take k ++ [l.getD k 0] := by
  rw [List.take_add_one, List.getElem?_eq_getElem h, List.getD_eq_getElem?_getD, List.getElem?_eq_getElem h]
  rfl
theorem ints_getT {l : List Nat} {k : Nat} (h : k < l.length) : (Poly.ints l).getD k 0 = ((l.getD k 0 : Nat) : Int) := by
  simp [Poly.ints, List.getD_eq_getElem?_getD, h]
def ValPost (w : World) (f p : Nat) (v : Nat) (e : Ending) (w' : World) : Prop := e = .returned (.int .i64 (v : Int)) ∧ Fld w' f p ∧ w.grownBy w' (some f)
set_option maxHeartbeats 1000000 in
theorem top_value (f p n c : Nat) (A : Option Addr) (L : List Nat) (x : Nat) (B : Nat) (w : World) (hF : Fld w f p) (hfB : f < B) (hr : Row w B 3 1 (.slice A n c) n (intsV (Poly.ints L))) (hn : n = L.length) (hn14 : n ≤ 14) (hx : x < 8192) (hL : ∀ e ∈ L, e < 8192) :
    Calls Try.prog 7 #[.pointer (some ⟨f, 0, none⟩), .slice A n c, .int .i64 (x : Int)] w (ValPost w f p (powSum x L)) := by
  have HH := Aside.mk (And.intro hF (And.intro hfB (And.intro hr (And.intro hn (And.intro hx hL)))))
  clear hF hfB hr hn hx hL
  go_enter Try.func7, Try.ntmps7
  go_wp2
  go_loopw [7, 8] (fun s7 s8 wr => ∃ j v : Nat, j ≤ n ∧ s8 = .int .i64 (j : Int) ∧ s7 = .int .i64 (v : Int) ∧ Aside (v = powSum x (L.take j)) ∧ Fld wr f p ∧ w.grownBy wr (some f)) (fun _ s8 _ => n - (intOf s8).toNat)
  case atStart => exact ⟨0, 0, by omega, rfl, rfl, ⟨rfl⟩, HH.out.1, World.grownBy.refl _ _⟩
  case round =>
    obtain ⟨j, v, hj, rfl, rfl, HV, hF, hg⟩ := hrel
    have hj1 : IntKind.i64.wrap ((j : Int) + 1) = ((j + 1 : Nat) : Int) := by rw [IntKind.wrap_i64]; omega
    have HR := Aside.mk (And.intro hF hg)
    clear hF hg
    by_cases hlt : j < n
    · have hrow := HH.out.2.2.1.kept HR.out.2 (by
        cases hb : (Value.slice A n c).ownBlock with
        | none => exact .inl rfl
        | some b => exact .inr fun e => by injection e with e; have := (HH.out.2.2.1.blk b hb).1; have := HH.out.2.1; omega)
      obtain ⟨A', c', he, hz1, hz2, hz3, hrd⟩ := hrow.readInts
      clear hz1 hz2 hz3
      injection he with e1 _ e2
      subst e1; subst e2
      obtain ⟨b, o, rfl, hb, hy⟩ := hrd j hlt
      have hjl : j < L.length := by have := HH.out.2.2.2.1; omega
      obtain ⟨g, hg⟩ : ∃ g, g = L.getD j 0 := ⟨_, rfl⟩
      replace hy : wr.cell? ⟨b, o + j, none⟩ = some (.int .i64 (g : Int)) := by rw [hy, hg]; exact congrArg (fun x => some (Value.int .i64 x)) (ints_getT hjl)
      have hgm : g ∈ L := by rw [hg, List.getD_eq_getElem?_getD, List.getElem?_eq_getElem hjl]; exact List.getElem_mem _
      have hg8 : g < 8192 := HH.out.2.2.2.2.2 g hgm
      obtain ⟨z, hz⟩ : ∃ z, z = powN (lowN (x : Int)) (g : Int) := ⟨_, rfl⟩
      have hzp : z = Gf.pow x g := by rw [hz, lowN_of_lt HH.out.2.2.2.2.1, powN_nat HH.out.2.2.2.2.1]
      have hz8 : z < 8192 := by rw [hzp]; exact Gf.pow_lt HH.out.2.2.2.2.1 g
      have hnext : powSum x (L.take (j + 1)) = v ^^^ z := by rw [take_snocT hjl, powSum_snoc, ← HV.out, ← hg, hzp]
      have hv8 : v < 8192 := by rw [HV.out]; exact powSum_lt HH.out.2.2.2.2.1 _
      have xr : bits .xor .i64 (v : Int) (z : Int) = ((v ^^^ z : Nat) : Int) := i64_xor_nat (by omega) (by omega)
      have hj2 : (0 : Int) ≤ (j : Int) := by omega
      have hj3 : (j : Int) < (n : Int) := by omega
      have HZ := Aside.mk (And.intro hz (And.intro hnext (And.intro hlt hg8)))
      clear hrow hrd hb hjl hg hgm hg8 hz hzp hz8 hnext hv8 hlt
      go_wp2_with (go_at_call 9; refine (gf_pow f p x g _ HR.out.1 (by omega) (by have := HZ.out.2.2.2; omega)).mono ?_; rw [← HZ.out.1]; rintro e w3 ⟨rfl, hF3, hg3⟩)
      go_roundw
      case rel => exact ⟨j + 1, v ^^^ z, by have := HZ.out.2.2.1; omega, rfl, rfl, ⟨HZ.out.2.1.symm⟩, hF3, World.grownBy.trans HR.out.2 hg3⟩
      case measure => have := HZ.out.2.2.1; simp [intOf]; omega
    · have hall : L.take j = L := List.take_of_length_le (by have := HH.out.2.2.2.1; omega)
      have hv := HV.out
      rw [hall] at hv
      have HV2 := Aside.mk hv
      clear hall hv HV
      go_wp2
      go_ret
      exact ⟨by rw [← HV2.out]; rfl, HR.out.1, HR.out.2⟩

/-- What is known of a polynomial's exponents. -/
structure LFacts (r N : Nat) (L : List Nat) : Prop where
  len : L.length ≤ 14
  two : 2 ≤ L.length
  head : L.getD 0 0 = N
  pos : 0 < N
  le : N ≤ 13
  small : ∀ e ∈ L, e < 8192
  zero : ∀ j, j < N → powSum (Gf.sqs r j) L = 0
  back : Gf.sqs r N = r
  fresh : ∀ j, 0 < j → j < N → Gf.sqs r j ≠ r
  just : ∀ x, x < 8192 → (powSum x L = 0 ↔ x ∈ Gf.sqsL r N)
theorem lfacts {r : Nat} (h0 : 0 < r) (h : r < 8192) : ∃ N, LFacts r N (Poly.fall 14 (Gf.minN r)) := by
  obtain ⟨N, e, hR⟩ := Gf.roots_round h0 h
  have hl := Gf.minN_least h0 h
  have hlen : (Gf.rootsF r).length = N := by rw [e]; simp [Gf.sqsL]
  rw [hlen] at hl
  have hlt := Gf.minN_lt h0 h
  have hps : ∀ x, powSum x (Poly.fall 14 (Gf.minN r)) = Gf.evN 14 (Gf.minN r) x := fun x => by
    rw [evN_fall (x := x) (M := Gf.minN r) (N := 14) 14 (Nat.le_refl _), Nat.mod_eq_of_lt hlt]
  have hP0 : Gf.minN r ≠ 0 := by have := hl.ge; have := Nat.two_pow_pos N; omega
  have hlog : (Gf.minN r).log2 = N := by
    have h1 := (Nat.log2_lt hP0).2 hl.lt
    have h2 := (Nat.le_log2 hP0).2 hl.ge
    omega
  have htop := Poly.fall_top (n := 14) hP0 hlt
  rw [hlog] at htop
  have hne : Gf.minN r ^^^ 2 ^ N ≠ 0 := by
    intro hx
    have h1 : Gf.minN r = 2 ^ N := Gf.xor_eq_zero hx
    have h2 := hl.root
    rw [h1, Gf.evN_pow 14 N (by have := hR.le; omega)] at h2
    have h3 : 0 < Gf.pow r N := by
      obtain ⟨i, _, rfl⟩ := Gf.pw_surj h0 h
      rw [Gf.pow_pw]; exact Gf.pw_pos _
    omega
  have hne2 : Poly.fall 14 (Gf.minN r ^^^ 2 ^ N) ≠ [] := fun hx => hne ((Poly.fall_nil (n := 14) (Nat.xor_lt_two_pow (n := 14) hlt (Nat.pow_lt_pow_right (by omega) (by have := hR.le; omega)))).1 hx)
  refine ⟨N, Poly.fall_len _ _, ?_, ?_, hR.pos, hR.le, fun x hx => ?_, fun j hj => ?_, hR.back, fun j h1 h2 hx => ?_, fun x hx => ?_⟩
  · rw [htop, List.length_cons]
    have := List.length_pos_iff.2 hne2
    omega
  · rw [htop]; rfl
  · have := (Poly.fall_mem.1 hx).1; omega
  · rw [hps, Gf.minN_zero h0 h (Gf.sqs_lt h j), e]
    exact Gf.sqsL_mem.2 ⟨j, hj, rfl⟩
  · have hp := List.pairwise_iff_getElem.1 hR.nodup 0 j (by simp [Gf.sqsL]; omega) (by simp [Gf.sqsL]; omega) h1
    simp only [Gf.sqsL, List.getElem_map, List.getElem_range] at hp
    exact hp hx.symm
  · rw [hps, Gf.minN_zero h0 h hx, e]
def TS (w1 : World) (f B n c : Nat) (A : Option Addr) (L : List Nat) (q : Nat) (wr : World) : Prop := Fld wr f q ∧ Row wr B 3 1 (.slice A n c) n (intsV (Poly.ints L)) ∧ w1.grownBy wr (some f)
theorem TS.call {w1 wr w' : World} {f B n c q q' : Nat} {A : Option Addr} {L : List Nat} (h : TS w1 f B n c A L q wr) (hfB : f < B) (hF : Fld w' f q') (hg : wr.grownBy w' (some f)) : TS w1 f B n c A L q' w' := by
  refine ⟨hF, h.2.1.kept hg ?_, World.grownBy.trans h.2.2 hg⟩
  cases hb : (Value.slice A n c).ownBlock with
  | none => exact .inl rfl
  | some b => exact .inr fun e => by injection e with e; have := (h.2.1.blk b hb).1; omega
theorem sqsL_snoc_mem {r j x : Nat} : x ∈ Gf.sqsL r (j + 1) ↔ x ∈ Gf.sqsL r j ∨ x = Gf.sqs r j := by
  rw [Gf.sqsL_succ, List.mem_append]
  simp
theorem mul_27 : Gf.mul (lowN 4096) (lowN 2) = 27 := by decide +kernel
set_option maxRecDepth 20000 in
set_option maxHeartbeats 1000000 in
theorem topRoots_walk (a b : Int) (w : World) (h1 : (Lit.int .i64 a).wf = true) (h2 : (Lit.int .i64 b).wf = true) :
    Calls Try.prog 3 #[.int .i64 a, .int .i64 b] w fun e w' => e = .returned (.bool true) ∧ Below w.heap.size w w' := by
  have hwf : ∀ {z : Int}, (Lit.int .i64 z).wf = true → -9223372036854775808 ≤ z ∧ z ≤ 9223372036854775807 := fun {z} h => by
    have e1 : IntKind.i64.min = -9223372036854775808 := rfl
    have e2 : IntKind.i64.max = 9223372036854775807 := rfl
    simpa only [Lit.wf, e1, e2, Bool.and_eq_true, decide_eq_true_eq] using h
  have HW := Aside.mk (And.intro (hwf h1) (hwf h2))
  clear hwf h1 h2
  obtain ⟨r, hr⟩ : ∃ r, r = Gf.pw (arN a) := ⟨_, rfl⟩
  obtain ⟨x, hx⟩ : ∃ x, x = Gf.pw (arN b) := ⟨_, rfl⟩
  have hr0 : 0 < r := by rw [hr]; exact Gf.pw_pos _
  have hr8 : r < 8192 := by rw [hr]; exact Gf.pw_lt _
  have hx8 : x < 8192 := by rw [hx]; exact Gf.pw_lt _
  obtain ⟨N, hLF⟩ := lfacts hr0 hr8
  have HX := Aside.mk (And.intro hr (And.intro hx (And.intro hr0 (And.intro hr8 hx8))))
  obtain ⟨L, hL⟩ : ∃ L, L = Poly.fall 14 (Gf.minN r) := ⟨_, rfl⟩
  rw [← hL] at hLF
  have HLF := Aside.mk hLF
  have HL := Aside.mk hL
  clear hr hx hr0 hr8 hx8 hLF hL
  have HF0 : Aside (Fld (w.alloc (.cells #[.int .u32 0, .int .i32 0, .int .u32 0, .slice none 0 0, .slice none 0 0, .int .i64 0] 39)) w.heap.size 0) := ⟨.inl (heap_alloc_new w _)⟩
  have HS0 : Aside (w.heap.size < (w.alloc (.cells #[.int .u32 0, .int .i32 0, .int .u32 0, .slice none 0 0, .slice none 0 0, .int .i64 0] 39)).heap.size ∧ Below w.heap.size w (w.alloc (.cells #[.int .u32 0, .int .i32 0, .int .u32 0, .slice none 0 0, .slice none 0 0, .int .i64 0] 39))) := ⟨by simp, (Below.refl _ _).alloc (Nat.le_refl _) _⟩
  go_enter Try.func3, Try.ntmps3
  go_upto_region 2 with fail
  generalize w.alloc (.cells #[.int .u32 0, .int .i32 0, .int .u32 0, .slice none 0 0, .slice none 0 0, .int .i64 0] 39) = w1 at *
  obtain ⟨f, hf⟩ : ∃ f, f = w.heap.size := ⟨_, rfl⟩
  rw [← hf] at HF0 HS0 ⊢
  have HFF := Aside.mk hf
  clear hf
  have HMIN : Aside (∀ e w', MinPost w1 f 0 (fun _ _ => True) (Gf.minN r) e w' → ∃ A n c q, e = .returned (.slice A n c) ∧ Aside (n = L.length ∧ TS w1 f w1.heap.size n c A L q w' ∧ q ≤ 200)) := ⟨by
    rintro e w' ⟨v, ge, gl, q, rfl, _, hM, h1, h2, hg, hrow⟩
    rw [← HL.out] at hrow
    obtain ⟨A, c, rfl, _⟩ := hrow.slice
    exact ⟨A, _, c, q, rfl, rfl, ⟨.inr ⟨ge, gl, hM⟩, hrow, hg⟩, by omega⟩⟩
  have HE : Aside (∀ f q W, Fld W f q → Calls Try.prog 6 #[.pointer (some ⟨f, 0, none⟩), .int .i64 a] W (Mpost W f q (.int .i64 (r : Int)))) := ⟨fun f q W hF => by
    have := gf_exp f q a W hF HW.out.1.1 HW.out.1.2
    rw [← HX.out.1] at this
    exact this⟩
  have HE2 : Aside (∀ f q W, Fld W f q → Calls Try.prog 6 #[.pointer (some ⟨f, 0, none⟩), .int .i64 b] W (Mpost W f q (.int .i64 (x : Int)))) := ⟨fun f q W hF => by
    have := gf_exp f q b W hF HW.out.2.1 HW.out.2.2
    rw [← HX.out.2.1] at this
    exact this⟩
  have HMC := Aside.mk (poly_minimal f 0 a r w1 (fun _ _ => True) (by omega) HS0.out.1 HX.out.2.2.1 HX.out.2.2.2.1 ((HE.out f 0 w1 HF0.out).mono fun e w' ⟨he, ⟨ge, gl, hM⟩, hg⟩ => ⟨he, ge, gl, trivial, hM, hg⟩))
  go_upto_region 3 with (go_at_call 4; refine HMC.out.mono ?_; intro e w2 h2; obtain ⟨A, n, c, q, rfl, HT⟩ := HMIN.out e w2 h2; clear h2)
  clear HMC HMIN
  obtain ⟨hn, hts, hq⟩ := HT.out
  obtain ⟨A', c', he, hz1, hz2, hz3, hrd⟩ := hts.2.1.readInts
  injection he with e1 _ e2
  subst e1; subst e2
  have hn2 : 2 ≤ n := by have := HLF.out.two; omega
  obtain ⟨b0, o0, rfl, _, hy0⟩ := hrd 0 (by omega)
  have hcell : Aside (∀ q W, TS w1 f w1.heap.size n c (some ⟨b0, o0, none⟩) L q W → W.cell? ⟨b0, o0, none⟩ = some (.int .i64 (N : Int))) := ⟨fun q W h => by
    obtain ⟨A', c', he, _, _, _, hrd⟩ := h.2.1.readInts
    injection he with e1 _ e2
    subst e1
    obtain ⟨b1, o1, e3, _, hy⟩ := hrd 0 (by omega)
    injection e3 with e3
    injection e3 with e3 e4
    subst e3; subst e4
    rw [Nat.add_zero] at hy
    refine hy.trans (congrArg (fun x => some (Value.int .i64 x)) ?_)
    rw [ints_getT (by omega), HLF.out.head]⟩
  have y0 := hcell.out q w2 hts
  have hl2 : ¬ (n : Int) < 2 := by omega
  have hl0 : (0 : Int) < (n : Int) := by omega
  have hN13 : ¬ (13 : Int) < (N : Int) := by have := HLF.out.le; omega
  have HTS := Aside.mk (And.intro hts (And.intro hq hn))
  clear hn hts hq hz1 hz2 hz3 hrd hy0 hn2 HT
  go_upto_region 5 with (go_at_call 5; refine (gf_mul f q 4096 2 _ HTS.out.1.1 (by have := HTS.out.2.1; omega)).mono ?_; rw [mul_27]; rintro e w3 ⟨rfl, hM3, hg3⟩; have HT3 := Aside.mk (HTS.out.1.call HS0.out.1 (.inr hM3) hg3); clear hM3 hg3)
  clear hN13 hl2
  go_wp2_with (go_at_call 6; refine (HE.out f (q + 1) _ HT3.out.1).mono ?_; rintro e w4 ⟨rfl, hM4, hg4⟩; have HT4 := Aside.mk (HT3.out.call HS0.out.1 (.inr hM4) hg4); clear hM4 hg4)
  go_loopw [8, 9, 10] (fun s8 s9 s10 wr => ∃ (j y p : Nat) (bb : Bool), s10 = .int .i64 (j : Int) ∧ s8 = .int .i64 (y : Int) ∧ s9 = .bool bb ∧ j < N ∧ Aside (y = Gf.sqs r j ∧ bb = decide (x ∈ Gf.sqsL r j)) ∧ Aside (TS w1 f w1.heap.size n c (some ⟨b0, o0, none⟩) L p wr ∧ p ≤ 201 + j)) (fun _ _ s10 _ => N - (intOf s10).toNat)
  case atStart => exact ⟨0, r, q + 1, false, rfl, rfl, rfl, HLF.out.pos, ⟨rfl, by simp [Gf.sqsL]⟩, ⟨HT4.out, by have := HTS.out.2.1; omega⟩⟩
  case round =>
    obtain ⟨j, y, p, bb, rfl, rfl, rfl, hjN, HY, HP⟩ := hrel
    obtain ⟨j1, hjj⟩ : ∃ j1, j1 = j + 1 := ⟨_, rfl⟩
    have hj1 : IntKind.i64.wrap ((j : Int) + 1) = (j1 : Int) := by have := HLF.out.le; rw [IntKind.wrap_i64]; omega
    have HJJ := Aside.mk hjj
    clear hjj
    have hy8 : y < 8192 := by rw [HY.out.1]; exact Gf.sqs_lt HX.out.2.2.2.1 j
    have HVal : Aside (∀ (q : Nat) (W : World) (z : Nat), TS w1 f w1.heap.size n c (some ⟨b0, o0, none⟩) L q W → z < 8192 → Calls Try.prog 7 #[.pointer (some ⟨f, 0, none⟩), .slice (some ⟨b0, o0, none⟩) n c, .int .i64 (z : Int)] W (ValPost W f q (powSum z L))) := ⟨fun q W z h hz => top_value f q n c (some ⟨b0, o0, none⟩) L z w1.heap.size W h.1 HS0.out.1 h.2.1 HTS.out.2.2 (by rw [HTS.out.2.2]; exact HLF.out.len) hz HLF.out.small⟩
    have hz0 : powSum y L = 0 := by rw [HY.out.1]; exact HLF.out.zero j hjN
    have HZ0 := Aside.mk hz0
    obtain ⟨y2, hy2⟩ : ∃ y2, y2 = Gf.mul y y := ⟨_, rfl⟩
    have hyy : Gf.mul (lowN (y : Int)) (lowN (y : Int)) = y2 := by rw [lowN_of_lt hy8, hy2]
    have hy2s : y2 = Gf.sqs r (j + 1) := by rw [hy2, HY.out.1]; rfl
    have HY2 := Aside.mk (And.intro hyy (And.intro hy2s (And.intro hy8 hjN)))
    clear hz0 hy2 hyy hy2s
    go_upto_region 11 with (go_at_call 7; refine (HVal.out p _ y HP.out.1 HY2.out.2.2.1).mono ?_; rw [HZ0.out]; rintro e w5 ⟨rfl, hF5, hg5⟩; have HT5 := Aside.mk (HP.out.1.call HS0.out.1 hF5 hg5); clear hF5 hg5)
    have hbn : Aside ((bb || decide ((y : Int) = (x : Int))) = decide (x ∈ Gf.sqsL r (j + 1))) := ⟨by
      have e : decide (x ∈ Gf.sqsL r (j + 1)) = (decide (x ∈ Gf.sqsL r j) || decide (x = Gf.sqs r j)) := by
        rw [← Bool.decide_or]
        exact decide_eq_decide.2 sqsL_snoc_mem
      rw [e, ← HY.out.2, ← HY.out.1]
      congr 1
      exact decide_eq_decide.2 ⟨fun h => by omega, fun h => by omega⟩⟩
    go_cut [9] (fun s9 wx => s9 = .bool (bb || decide ((y : Int) = (x : Int))) ∧ Aside (TS w1 f w1.heap.size n c (some ⟨b0, o0, none⟩) L p wx))
    case first =>
      cases bb with
      | true =>
        go_wp2
        go_meet
        exact ⟨rfl, HT5⟩
      | false =>
        by_cases hyx : (y : Int) = (x : Int)
        · have hbq : ((y : Int) == (x : Int)) = true := by simp [hyx]
          have HYX := Aside.mk (decide_eq_true hyx)
          clear hyx
          go_wp2_with (go_at_call 6; refine (HE2.out f p _ HT5.out.1).mono ?_; rintro e w6 ⟨rfl, hM6, hg6⟩; have HT6 := Aside.mk (HT5.out.call HS0.out.1 (.inr hM6) hg6); clear hM6 hg6)
          go_meet
          exact ⟨by rw [HYX.out]; rfl, HT6⟩
        · have hbq : ((y : Int) == (x : Int)) = false := by simp [hyx]
          have HYX := Aside.mk (decide_eq_false hyx)
          clear hyx
          go_wp2_with (go_at_call 6; refine (HE2.out f p _ HT5.out.1).mono ?_; rintro e w6 ⟨rfl, hM6, hg6⟩; have HT6 := Aside.mk (HT5.out.call HS0.out.1 (.inr hM6) hg6); clear hM6 hg6)
          go_meet
          exact ⟨by rw [HYX.out]; rfl, HT6⟩
    case rest =>
      obtain ⟨rfl, HT6⟩ := hcut
      have hbn' := hbn.out
      generalize (bb || decide ((y : Int) = (x : Int))) = b2 at *
      have HBN := Aside.mk hbn'
      clear hbn hbn'
      go_upto_region 14 with (go_at_call 5; refine (gf_mul f p y y _ HT6.out.1 (by have := HP.out.2; have := HLF.out.le; omega)).mono ?_; rw [HY2.out.1]; rintro e w7 ⟨rfl, hM7, hg7⟩; have HT7 := Aside.mk (HT6.out.call HS0.out.1 (.inr hM7) hg7); clear hM7 hg7)
      by_cases hend : j + 1 = N
      · have hyr : y2 = r := by rw [HY2.out.2.1, hend]; exact HLF.out.back
        have heq : ((y2 : Int) == (r : Int)) = true := by simp [hyr]
        have hNN : ((j1 : Int) == (N : Int)) = true := by rw [HJJ.out, hend]; exact beq_self_eq_true _
        have hv : (powSum x L = 0 ↔ x ∈ Gf.sqsL r N) := HLF.out.just x HX.out.2.2.2.2
        rw [← hend] at hv
        obtain ⟨v, hvv⟩ : ∃ v, v = powSum x L := ⟨_, rfl⟩
        have HVV := Aside.mk hvv
        rw [← hvv] at hv
        have y7 := hcell.out _ _ HT7.out
        have hcmp : (b2 == ((v : Int) == 0)) = true := by
          rw [HBN.out]
          by_cases h0 : v = 0
          · rw [decide_eq_true (hv.1 h0), h0]; rfl
          · rw [decide_eq_false (fun h => h0 (hv.2 h))]
            have : ((v : Int) == 0) = false := by simp; omega
            rw [this]; rfl
        have HCM := Aside.mk hcmp
        have HEN := Aside.mk hend
        have hcm2 := hcmp
        clear hyr hv hvv hcmp hend
        go_wp2_with (first | (go_at_call 6; refine (HE2.out f (p + 1) _ HT7.out.1).mono ?_; rintro e w8 ⟨rfl, hM8, hg8⟩; have HT8 := Aside.mk (HT7.out.call HS0.out.1 (.inr hM8) hg8); clear hM8 hg8) | (go_at_call 7; refine (HVal.out (p + 1) _ x HT8.out HX.out.2.2.2.2).mono ?_; rw [← HVV.out]; rintro e w9 ⟨rfl, hF9, hg9⟩; have HT9 := Aside.mk (HT8.out.call HS0.out.1 hF9 hg9); clear hF9 hg9))
        go_ret
        refine ⟨rfl, ?_⟩
        rw [← HFF.out]
        exact HS0.out.2.trans ((Below.refl _ _).grown HT9.out.2.2 (Nat.le_of_lt HS0.out.1) (fun k hk => by injection hk with hk; omega))
      · have hyr : y2 ≠ r := by rw [HY2.out.2.1]; exact HLF.out.fresh (j + 1) (by omega) (by omega)
        have heq : ((y2 : Int) == (r : Int)) = false := by simp; omega
        have HEN := Aside.mk hend
        clear hyr hend
        go_wp2
        go_roundw
        case rel => exact ⟨j1, y2, p + 1, b2, rfl, rfl, rfl, by have := HEN.out; have := HJJ.out; omega, ⟨by rw [HJJ.out]; exact HY2.out.2.1, by rw [HJJ.out]; exact HBN.out⟩, ⟨HT7.out, by have := HP.out.2; have := HJJ.out; omega⟩⟩
        case measure => have := HEN.out; have := HJJ.out; simp [intOf]; omega
end Go.Proofs.Ytbhnekfcflofeaa
