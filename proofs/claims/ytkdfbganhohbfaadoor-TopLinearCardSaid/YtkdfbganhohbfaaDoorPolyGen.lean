/-
  The generator: the product of the least polynomials of the first odd powers.
-/
import Derived.Test.YtkdfbganhohbfaaDoorPolyMinW
import Derived.Test.YtkdfbganhohbfaaDoorPolyLaws
namespace Go.Proofs.YtkdfbganhohbfaaDoor
open Go.RowKit

set_option maxRecDepth 100000 in
set_option maxHeartbeats 3200000 in
theorem sl_equal (A B : Option Addr) (n c m d : Nat) (l k : List Int) (w : World) (hl : n = l.length) (hn : n ≤ 9223372036854775807) (hR : Rd w A n (fun i => .int .i64 (l.getD i 0)))
    (hk : m = k.length) (hm : m ≤ 9223372036854775807) (hS : Rd w B m (fun i => .int .i64 (k.getD i 0))) :
    Calls Tryd.prog 20 #[.slice A n c, .slice B m d] w fun e w' => e = .returned (.bool (decide (l = k))) ∧ DrewOf w w' := by
  by_cases hnm : n = m
  · subst hnm
    have HR := Aside.mk (And.intro hl (And.intro hk (And.intro hR hS)))
    clear hl hk hR hS
    obtain ⟨R, hRr⟩ : ∃ R, R = decide (l = k) := ⟨_, rfl⟩
    rw [← hRr]
    have HX := Aside.mk hRr
    clear hRr
    go_enter Tryd.func20, Tryd.ntmps20
    go_wp2
    go_loopw [13] (fun s5 wr => ∃ i : Nat, i ≤ n ∧ s5 = .int .i64 (i : Int) ∧ DrewOf w wr ∧ Aside (l.take i = k.take i)) (fun s5 _ => n - (intOf s5).toNat)
    case atStart => exact ⟨0, by omega, rfl, DrewOf.refl _, ⟨rfl⟩⟩
    case round =>
      obtain ⟨i, hi, rfl, hD, HT⟩ := hrel
      have HD := Aside.mk hD
      clear hD
      by_cases hlt : i < n
      · have hi1 : IntKind.i64.wrap ((i : Int) + 1) = (i : Int) + 1 := by rw [IntKind.wrap_i64]; omega
        obtain ⟨b, off, rfl, hb, hc⟩ := HR.out.2.2.1 i hlt
        obtain ⟨b1, off1, rfl, hbb1, hcc1⟩ := HR.out.2.2.2 i hlt
        have hcell : ∀ (q : Addr), wr.cell? q = w.cell? q := fun q => by obtain ⟨m, hm⟩ := HD.out; rw [hm]; rfl
        have y1 : wr.cell? ⟨b, off + i, none⟩ = some (.int .i64 (l.getD i 0)) := by rw [hcell]; exact hc
        have y2 : wr.cell? ⟨b1, off1 + i, none⟩ = some (.int .i64 (k.getD i 0)) := by rw [hcell]; exact hcc1
        have hk2 : (0 : Int) ≤ (i : Int) := by omega
        have hk3 : (i : Int) < (n : Int) := by omega
        have hal := alike_take (i := i) (by have := HR.out.1; omega) (by have := HR.out.1; have := HR.out.2.1; omega) HT.out
        have HA := Aside.mk hal
        generalize l.getD i 0 = x at *
        generalize k.getD i 0 = y at *
        clear hcell hc hcc1 hal
        go_upto_region 6 with fail
        by_cases hxy : x = y
        · subst hxy
          go_quiet (fail)
          go_wp2
          go_roundw
          case rel => exact ⟨i + 1, by omega, by go_num, HD.out.more _, ⟨HA.out.2 rfl⟩⟩
          case measure => simp [intOf]; omega
        · have hne : R = false := by
            rw [HX.out, decide_eq_false]
            intro e
            exact hxy (HA.out.1 (by rw [e]))
          have hb1 : (x != y) = true := by simp [hxy]
          have HN := Aside.mk hne
          clear hxy hne
          go_quiet (fail)
          go_wp2
          go_ret
          exact ⟨by rw [HN.out]; rfl, HD.out.more _⟩
      · have hyes : R = true := by
          rw [HX.out, decide_eq_true]
          have h1 := HT.out
          rwa [List.take_of_length_le (by have := HR.out.1; omega), List.take_of_length_le (by have := HR.out.2.1; omega)] at h1
        have HN := Aside.mk hyes
        clear hyes
        go_wp2
        go_ret
        exact ⟨by rw [HN.out]; rfl, HD.out⟩
  · have hne : decide (l = k) = false := by
      rw [decide_eq_false]
      intro e
      rw [e] at hl
      omega
    rw [hne]
    have hnm2 : ((n : Int) != (m : Int)) = true := by simp; omega
    have hnm3 : (n != m) = true := by simp [hnm]
    clear hne hl hk hR hS
    go_enter Tryd.func20, Tryd.ntmps20
    go_wp2
    go_ret
    exact ⟨rfl, DrewOf.refl _⟩

theorem Rd.drewOf {w wr : World} {A : Option Addr} {n : Nat} {f : Nat → Value} (h : Rd w A n f) (hd : DrewOf w wr) : Rd wr A n f := by obtain ⟨m, rfl⟩ := hd; exact h.drewN m
theorem DrewOf.trans {a b c : World} (h : DrewOf a b) (h2 : DrewOf b c) : DrewOf a c := by
  obtain ⟨m, rfl⟩ := h2; exact h.more m
theorem gen_closure (A B : Option Addr) (n c m d hm : Nat) (l k : List Int) (w : World) (hl : n = l.length) (hn : n ≤ 1000) (hR : Rd w A n (fun i => .int .i64 (l.getD i 0)))
    (hk : m = k.length) (hm2 : m ≤ 1000) (hS : Rd w B m (fun i => .int .i64 (k.getD i 0))) (hc : w.cell? ⟨hm, 0, none⟩ = some (.slice B m d)) :
    Calls Tryd.prog 19 #[.slice A n c, .pointer (some ⟨hm, 0, none⟩)] w fun e w' => e = .returned (.bool (decide (l = k))) ∧ DrewOf w w' := by
  have HE := Aside.mk (sl_equal A B n c m d l k w hl (by omega) hR hk (by omega) hS)
  clear hl hR hk hS hn hm2
  go_enter Tryd.func19, Tryd.ntmps19
  go_wp2_with (go_at_call 20; refine HE.out.mono ?_; rintro e w1 ⟨rfl, hd⟩)
  go_ret
  exact ⟨rfl, hd⟩
/-- The polynomials of a list, none of which is k. -/
def NoneIs (w : World) (n : Nat) (vs : Nat → Value) (k : List Int) : Prop :=
  ∀ j, j < n → ∃ A m c l, vs j = .slice A m c ∧ m = l.length ∧ m ≤ 1000 ∧ Rd w A m (fun i => .int .i64 (l.getD i 0)) ∧ l ≠ k
set_option maxHeartbeats 400000 in
theorem sl_indexFunc (A B : Option Addr) (n c m d hm : Nat) (vs : Nat → Value) (k : List Int) (w : World) (hn : n ≤ 1000) (hR : Rd w A n vs) (hV : NoneIs w n vs k)
    (hk : m = k.length) (hm2 : m ≤ 1000) (hS : Rd w B m (fun i => .int .i64 (k.getD i 0))) (hc : w.cell? ⟨hm, 0, none⟩ = some (.slice B m d)) :
    Calls Tryd.prog 30 #[.slice A n c, .func (.func 19) #[] #[.pointer (some ⟨hm, 0, none⟩)]] w fun e w' => e = .returned (.int .i64 (-1)) ∧ DrewOf w w' := by
  have HA := Aside.mk (And.intro hR (And.intro hV (And.intro hk (And.intro hm2 (And.intro hS hc)))))
  clear hR hV hk hm2 hS hc
  go_enter Tryd.func30, Tryd.ntmps30
  go_wp2
  go_loopw [8] (fun s8 wr => ∃ i : Nat, i ≤ n ∧ s8 = .int .i64 (i : Int) ∧ DrewOf w wr) (fun s8 _ => n - (intOf s8).toNat)
  case atStart => exact ⟨0, by omega, rfl, DrewOf.refl _⟩
  case round =>
    obtain ⟨i, hi, rfl, hD⟩ := hrel
    have HD := Aside.mk hD
    clear hD
    have hi1 : IntKind.i64.wrap ((i : Int) + 1) = ((i + 1 : Nat) : Int) := by rw [IntKind.wrap_i64]; omega
    by_cases hlt : i < n
    · obtain ⟨b, off, rfl, hb, hcell⟩ := HA.out.1 i hlt
      obtain ⟨A1, m1, c1, l1, hv, h1⟩ := HA.out.2.1 i hlt
      have y1 : wr.cell? ⟨b, off + i, none⟩ = some (.slice A1 m1 c1) := by
        obtain ⟨q, hq⟩ := HD.out
        rw [hq, ← hv]; exact hcell
      have hi2 : (0 : Int) ≤ (i : Int) := by omega
      have hi3 : (i : Int) < (n : Int) := by omega
      have hcd : wr.cell? ⟨hm, 0, none⟩ = some (.slice B m d) := by
        obtain ⟨q, hq⟩ := HD.out
        rw [hq]; exact HA.out.2.2.2.2.2
      have HC := Aside.mk (gen_closure A1 B m1 c1 m d hm l1 k wr h1.1 h1.2.1 (h1.2.2.1.drewOf HD.out) HA.out.2.2.1 HA.out.2.2.2.1 (HA.out.2.2.2.2.1.drewOf HD.out) hcd)
      have HN := Aside.mk (decide_eq_false h1.2.2.2)
      clear hcell hv h1 hcd
      go_wp2_with (go_at_call 19; refine HC.out.mono ?_; rw [HN.out]; rintro e w1 ⟨rfl, hd⟩; have HD2 := Aside.mk hd; clear hd)
      go_roundw
      case rel => exact ⟨i + 1, by omega, rfl, HD.out.trans HD2.out⟩
      case measure => simp [intOf]; omega
    · go_wp2
      go_ret
      exact ⟨rfl, HD.out⟩
theorem sl_containsFunc (A B : Option Addr) (n c m d hm : Nat) (vs : Nat → Value) (k : List Int) (w : World) (hn : n ≤ 1000) (hR : Rd w A n vs) (hV : NoneIs w n vs k)
    (hk : m = k.length) (hm2 : m ≤ 1000) (hS : Rd w B m (fun i => .int .i64 (k.getD i 0))) (hc : w.cell? ⟨hm, 0, none⟩ = some (.slice B m d)) :
    Calls Tryd.prog 18 #[.slice A n c, .func (.func 19) #[] #[.pointer (some ⟨hm, 0, none⟩)]] w fun e w' => e = .returned (.bool false) ∧ DrewOf w w' := by
  have HI := Aside.mk (sl_indexFunc A B n c m d hm vs k w hn hR hV hk hm2 hS hc)
  clear hR hV hk hm2 hS hc hn
  go_enter Tryd.func18, Tryd.ntmps18
  go_wp2_with (go_at_call 30; refine HI.out.mono ?_; rintro e w1 ⟨rfl, hd⟩)
  go_ret
  exact ⟨rfl, hd⟩

/-! the generator -/
def mkN (j : Nat) : Nat := Gf.minN (Gf.pw (2 * j + 1))
def mkL (j : Nat) : List Nat := Poly.fall 14 (mkN j)
def genN : Nat → Nat
  | 0 => 1
  | t + 1 => Poly.clmul (genN t) (mkN t)
theorem mk_inj : ∀ i, i < 8 → ∀ j, j < 8 → mkN i = mkN j → i = j := by decide +kernel
theorem mk_lt : ∀ i, i < 8 → mkN i < 16384 ∧ mkN i ≠ 0 := by decide +kernel
theorem gen_lt : ∀ i, i ≤ 8 → genN i < 2 ^ 105 ∧ genN i ≠ 0 := by decide +kernel
theorem gen_deg : ∀ i, i < 8 → (genN i).log2 + (mkN i).log2 ≤ 16384 := by decide +kernel
theorem gen_mul {i : Nat} (h : i < 8) : mulR (genN i) (mkN i) = some (genN (i + 1)) := by
  unfold mulR
  rw [if_neg (by have := gen_deg i h; omega)]
  rfl
theorem gen_lim {i : Nat} (h : i ≤ 8) : genN i < 2 ^ Poly.lim := Nat.lt_of_lt_of_le (gen_lt i h).1 (Nat.pow_le_pow_right (by omega) (by rw [Poly.lim_eq]; omega))
theorem bits_mk {i : Nat} (h : i < 8) : Poly.bitsOf (Poly.ints (mkL i)) = mkN i := by
  unfold mkL
  rw [Poly.bitsOf_fall (by rw [Poly.lim_eq]; omega)]
  exact Nat.mod_eq_of_lt (mk_lt i h).1
theorem bits_gen {i : Nat} (h : i ≤ 8) : Poly.bitsOf (Poly.ints (listP (genN i))) = genN i := by
  unfold listP
  rw [Poly.bitsOf_fall (Nat.le_refl _)]
  exact Nat.mod_eq_of_lt (gen_lim h)
theorem mkL_inj {i j : Nat} (hi : i < 8) (hj : j < 8) (h : Poly.ints (mkL i) = Poly.ints (mkL j)) : i = j :=
  mk_inj i hi j hj (by rw [← bits_mk hi, ← bits_mk hj, h])
theorem gen_zero : listP (genN 0) = [0] := by
  show Poly.fall Poly.lim 1 = [0]
  rw [Poly.fall_more (m := 1) (by rw [Poly.lim_eq]; omega) (by omega)]
  rfl
theorem mkL_len (i : Nat) : (mkL i).length ≤ 14 := Poly.fall_len _ _
theorem infoPoly : (Tryd.prog.info? 57).map (fun i => (i.zero, i.size, i.bytes)) = some (some (.slice none 0 0), 1, 24) := by kernel_rfl
def GenPost [Host] (w : World) (f p P : Nat) (e : Ending) (w' : World) : Prop :=
  ∃ v q, e = .returned (.tuple #[v, .bool true]) ∧ Fld w' f q ∧ p ≤ q ∧ q ≤ p + 1600 ∧ w.grownBy w' (some f) ∧ Row w' w.heap.size 3 1 v (listP P).length (intsV (Poly.ints (listP P)))
/-- The polynomials seen so far. -/
def SeenAt (w : World) (b : Nat) (v : Value) (i : Nat) : Prop :=
  ∃ vs : Nat → Value, Row w b 57 1 v i ((List.range i).map vs) ∧ ∀ j, j < i → Row w b 3 1 (vs j) (mkL j).length (intsV (Poly.ints (mkL j)))
theorem Row.far {w w' : World} {b : Nat} {e : TypeId} {v : Value} {n : Nat} {xs : List Value} (h : Row w b e 1 v n xs) {row : Option Nat} (hg : w.grownBy w' row) (hr : ∀ r, row = some r → r < b) : Row w' b e 1 v n xs := by
  refine h.kept hg ?_
  cases hv : v.ownBlock with
  | none => exact .inl rfl
  | some k => exact .inr fun e => by have := hr k e.symm; have := (h.blk k hv).1; omega
theorem SeenAt.far {w w' : World} {b i : Nat} {v : Value} (h : SeenAt w b v i) {row : Option Nat} (hg : w.grownBy w' row) (hr : ∀ r, row = some r → r < b) : SeenAt w' b v i := by
  obtain ⟨vs, h1, h2⟩ := h
  exact ⟨vs, h1.far hg hr, fun j hj => (h2 j hj).far hg hr⟩
theorem SeenAt.below {w w' : World} {b i : Nat} {v : Value} (h : SeenAt w b v i) (hb : Below w.heap.size w w') : SeenAt w' b v i := by
  obtain ⟨vs, h1, h2⟩ := h
  exact ⟨vs, h1.below hb, fun j hj => (h2 j hj).below hb⟩
/-- Two rows of other types lie in other blocks. -/
theorem Row.other {w : World} {b b' : Nat} {e e' : TypeId} {v v' : Value} {n n' s s' : Nat} {xs xs' : List Value} (h : Row w b e s v n xs) (h' : Row w b' e' s' v' n' xs') (hne : e ≠ e') : v.ownBlock = none ∨ v.ownBlock ≠ v'.ownBlock := by
  cases hv : v.ownBlock with
  | none => exact .inl rfl
  | some k =>
    refine .inr fun e => ?_
    obtain ⟨_, _, cur, fr, h1⟩ := h.blk k hv
    obtain ⟨_, _, cur', fr', h2⟩ := h'.blk k e.symm
    rw [h1] at h2
    simp only [Option.some.injEq, Obj.cells.injEq] at h2
    exact hne h2.2.1
theorem Fld.seen [Host] {w w' : World} {b f q n : Nat} {v : Value} {xs : List Value} (h : Fld w f q) (hs : Row w b 57 1 v n xs) (hg : w.grownBy w' v.ownBlock) : Fld w' f q := by
  have hf : some f ≠ v.ownBlock := by
    intro e
    obtain ⟨_, _, cur, fr, h1⟩ := hs.blk f e.symm
    have h2 : ∃ c fr', w.heap[f]? = some (.cells c 52 fr') := by
      rcases h with h | ⟨ge, gl, h⟩
      · exact ⟨_, _, h⟩
      · exact ⟨_, _, h.fb⟩
    obtain ⟨c, fr', h2⟩ := h2
    rw [h1] at h2
    simp only [Option.some.injEq, Obj.cells.injEq] at h2
    exact absurd h2.2.1 (by decide)
  rcases h with h | ⟨ge, gl, h⟩
  · exact .inl (FB.kept h hg hf)
  · refine .inr ⟨ge, gl, h.kept hg hf ?_ ?_⟩
    · have := Row.other h.ex hs (by decide)
      simpa [Value.ownBlock] using this
    · have := Row.other h.lg hs (by decide)
      simpa [Value.ownBlock] using this
theorem arN_odd {i : Nat} (h : i < 8) : arN ((2 * i + 1 : Nat) : Int) = 2 * i + 1 := by rw [arN_nat]; omega
set_option maxRecDepth 100000 in
set_option maxHeartbeats 2000000 in
theorem poly_generator [Host] (f p t : Nat) (w : World) (hp : p ≤ 100000) (hF : Fld w f p) (ht : t ≤ 8) (h0 : 0 < t) :
    Calls Tryd.prog 13 #[.pointer (some ⟨f, 5, none⟩), .int .i64 (t : Int)] w (GenPost w f p (genN t)) := by
  have hmf : ∀ (fn : Fn) (first cap : Array Value) (w : World), (Instr.makeFunc fn first cap).run Tryd.prog w = .ok (.func fn first cap) w := fun _ _ _ _ => rfl
  have hfl := hF.lt
  have ht1 : ¬ (t : Int) < 1 := by omega
  have ht8 : ¬ (8 : Int) < (t : Int) := by omega
  have HH := Aside.mk (And.intro hp (And.intro hF hfl))
  clear hp hF hfl
  obtain ⟨t2, ht2⟩ : ∃ t2, t2 = 2 * t := ⟨_, rfl⟩
  have w2 : IntKind.i64.wrap (2 * (t : Int)) = (t2 : Int) := by rw [IntKind.wrap_i64]; omega
  have HT := Aside.mk (And.intro ht2 (And.intro ht h0))
  clear ht2 ht h0
  go_enter Tryd.func13, Tryd.ntmps13
  go_wp2_with fail
  go_loopw [6, 7, 8] (fun s6 s7 s8 wr => ∃ i q k : Nat, s8 = .int .i64 (k : Int) ∧ i ≤ t ∧ Aside (k = 2 * i + 1) ∧ SeenAt wr w.heap.size s6 i ∧ Row wr w.heap.size 3 1 s7 (listP (genN i)).length (intsV (Poly.ints (listP (genN i)))) ∧ Fld wr f q ∧ p ≤ q ∧ q ≤ p + 200 * i ∧ w.grownBy wr (some f)) (fun _ _ s8 _ => t2 - (intOf s8).toNat)
  case atStart =>
    refine ⟨0, p, 1, rfl, by omega, ⟨rfl⟩, ⟨fun _ => undef, Row.nil _ _ _ _, fun j hj => by omega⟩, ?_, HH.out.2.1.below ((Below.refl _ _).alloc (Nat.le_refl _) _), Nat.le_refl _, by omega, World.grownBy_alloc _ _ _⟩
    rw [gen_zero]
    exact Row.lit w w.heap.size 3 1 #[.int .i64 0] 1 (Nat.le_refl _) (by decide) rfl
  case round =>
    obtain ⟨i, q, k, rfl, hit, HK, hsn, hout, hF, hq1, hq2, hg⟩ := hrel
    obtain ⟨A6, c6, rfl⟩ : ∃ A6 c6, u6 = .slice A6 i c6 := by obtain ⟨vs, h1, _⟩ := hsn; obtain ⟨A, c, e, _⟩ := h1.slice; exact ⟨A, c, e⟩
    obtain ⟨A7, c7, rfl⟩ : ∃ A7 c7, u7 = .slice A7 (listP (genN i)).length c7 := by obtain ⟨A, c, e, _⟩ := hout.slice; exact ⟨A, c, e⟩
    have HR := Aside.mk (And.intro hsn (And.intro hout (And.intro hF (And.intro hq1 (And.intro hq2 hg)))))
    clear hsn hout hF hq1 hq2 hg
    by_cases hlt : i < t
    · have hk2 : (k : Int) < (t2 : Int) := by have := HK.out; have := HT.out; omega
      have hwk : IntKind.i64.wrap ((k : Int) + 2) = ((k + 2 : Nat) : Int) := by have := HK.out; have := HT.out; rw [IntKind.wrap_i64]; omega
      have hi8 : i < 8 := by have := HT.out; omega
      have HE : Aside (Calls Tryd.prog 26 #[.pointer (some ⟨f, 5, none⟩), .int .i64 (k : Int)] wr (ExpPost wr f q (fun _ _ => True) (Gf.pw (2 * i + 1)))) := ⟨by
        refine (gf_exp f q k wr HR.out.2.2.1 (by omega) (by have := HK.out; omega)).mono ?_
        rintro e w1 ⟨rfl, ⟨ge, gl, hM⟩, hg⟩
        rw [HK.out, arN_odd hi8]
        exact ⟨rfl, ge, gl, trivial, hM, hg⟩⟩
      have HMN := Aside.mk (poly_minimal f q k (Gf.pw (2 * i + 1)) wr (fun _ _ => True) (by have := HR.out.2.2.2.2.1; have := HH.out.1; omega) HR.out.2.2.1.lt (Gf.pw_pos _) (Gf.pw_lt _) HE.out)
      have HI8 := Aside.mk (And.intro hi8 hlt)
      clear HE hi8 hlt
      have HM2 : Aside (∀ e w', MinPost wr f q (fun _ _ => True) (Gf.minN (Gf.pw (2 * i + 1))) e w' → ∃ A1 c1, e = .returned (.slice A1 (mkL i).length c1) ∧ Aside (Row w' wr.heap.size 3 1 (.slice A1 (mkL i).length c1) (mkL i).length (intsV (Poly.ints (mkL i))) ∧ SeenAt w' w.heap.size (.slice A6 i c6) i ∧ Row w' w.heap.size 3 1 (.slice A7 (listP (genN i)).length c7) (listP (genN i)).length (intsV (Poly.ints (listP (genN i)))) ∧ (∃ q1, Fld w' f q1 ∧ p ≤ q1 ∧ q1 ≤ p + 200 * (i + 1)) ∧ w.grownBy w' (some f) ∧ wr.heap.size ≤ w'.heap.size)) := ⟨by
        rintro e w' ⟨v, ge, gl, q1, rfl, _, hM, hq1, hq2, hg, hr⟩
        obtain ⟨A1, c1, rfl, _⟩ := hr.slice
        have hfw := HH.out.2.2
        exact ⟨A1, c1, rfl, hr, HR.out.1.far hg (by intro r hr; injection hr with hr; omega), HR.out.2.1.far hg (by intro r hr; injection hr with hr; omega), ⟨q1, .inr ⟨ge, gl, hM⟩, by have := HR.out; omega, by have := HR.out.2.2.2.2.1; omega⟩, World.grownBy.trans HR.out.2.2.2.2.2 hg, hg.size⟩⟩
      go_upto_region 9 with (go_at_call 17; refine HMN.out.mono ?_; intro e w1 h1; obtain ⟨A1, c1, rfl, HM1⟩ := HM2.out e w1 h1; clear h1)
      obtain ⟨hr1, hs1, ho1, ⟨q1, hF1, hq11, hq12⟩, hg1, hsz1⟩ := HM1.out
      have bA := (Below.refl w1.heap.size w1).alloc (Nat.le_refl _) (.cells #[.slice A1 (mkL i).length c1] 57)
      have hcm : (w1.alloc (.cells #[.slice A1 (mkL i).length c1] 57)).cell? ⟨w1.heap.size, 0, none⟩ = some (.slice A1 (mkL i).length c1) := cell_of_row _ _ 0 _ _ _ (heap_alloc_new w1 _)
      have hsA : w1.heap.size < (w1.alloc (.cells #[.slice A1 (mkL i).length c1] 57)).heap.size := by simp
      have HW2 := Aside.mk (And.intro (hr1.below bA) (And.intro (hs1.below bA) (And.intro (ho1.below bA) (And.intro (hF1.below bA) (And.intro (World.grownBy.trans hg1 (World.grownBy_alloc w1 (.cells #[.slice A1 (mkL i).length c1] 57) (some f))) (And.intro hcm (And.intro hsA (And.intro hq11 hq12))))))))
      have hlt6 : ∀ b, (Value.slice A6 i c6).ownBlock = some b → b < w1.heap.size := fun b hb => by obtain ⟨vs, h1, _⟩ := hs1; exact (h1.blk b hb).2.1
      have HL6 := Aside.mk hlt6
      have HWS := Aside.mk (Nat.le_trans hg1.size (Nat.le_of_lt hsA))
      clear hr1 hs1 ho1 hF1 hg1 hq11 hq12 bA hsA hlt6 hsz1 HM1
      generalize w1.alloc (.cells #[.slice A1 (mkL i).length c1] 57) = W2 at *
      generalize w1.heap.size = hb at *
      have HCF : Aside (Calls Tryd.prog 18 #[.slice A6 i c6, .func (.func 19) #[] #[.pointer (some ⟨hb, 0, none⟩)]] W2 fun e w' => e = .returned (.bool false) ∧ DrewOf W2 w') := ⟨by
        obtain ⟨vs, h1, h2⟩ := HW2.out.2.1
        have hi8 := HI8.out.1
        obtain ⟨A1', c1', e1, h3, _, _, h4⟩ := HW2.out.1.readInts
        injection e1 with e1 _ e2
        subst e1; subst e2
        refine sl_containsFunc A6 A1 i c6 (mkL i).length c1 hb vs (Poly.ints (mkL i)) W2 (by omega) ((Rd.of_row h1).congr fun j hj => ?_) (fun j hj => ?_) h3 (by have := mkL_len i; omega) h4 HW2.out.2.2.2.2.2.1
        · simp [List.getD_eq_getElem?_getD, hj]
        · obtain ⟨A, c, e, hl, _, _, hr⟩ := (h2 j hj).readInts
          exact ⟨A, _, c, Poly.ints (mkL j), e, hl, by have := mkL_len j; omega, hr, fun e => by have := mkL_inj (by omega) hi8 e; omega⟩⟩
      obtain ⟨vs, hv1, hv2⟩ := HW2.out.2.1
      have HV := Aside.mk (And.intro hv1 hv2)
      clear hv1 hv2
      have HAP : Aside (∀ W3, DrewOf W2 W3 → ∀ v4 w4, Row w4 w.heap.size 57 1 v4 (i + 1) ((List.range i).map vs ++ [.slice A1 (mkL i).length c1]) → W3.grownBy w4 (Value.slice A6 i c6).ownBlock →
          w4.cell? ⟨hb, 0, none⟩ = some (.slice A1 (mkL i).length c1) ∧ Aside (SeenAt w4 w.heap.size v4 (i + 1) ∧ Fld w4 f q1 ∧ w.grownBy w4 (some f) ∧ Row w4 w.heap.size 3 1 (.slice A1 (mkL i).length c1) (mkL i).length (intsV (Poly.ints (mkL i))) ∧ Row w4 w.heap.size 3 1 (.slice A7 (listP (genN i)).length c7) (listP (genN i)).length (intsV (Poly.ints (listP (genN i)))))) := ⟨by
        intro W3 hd v4 w4 hr4 hg4
        obtain ⟨m, rfl⟩ := hd
        have hs3 : Row (W2.drewN m) w.heap.size 57 1 (.slice A6 i c6) i ((List.range i).map vs) := HV.out.1.drewN m
        have hk : ∀ {b n : Nat} {v : Value} {xs : List Value}, Row W2 b 3 1 v n xs → Row w4 b 3 1 v n xs := fun h => (h.drewN m).kept hg4 (Row.other (h.drewN m) hs3 (by decide))
        have hrm : Row W2 w.heap.size 3 1 (.slice A1 (mkL i).length c1) (mkL i).length (intsV (Poly.ints (mkL i))) := HW2.out.1.mono HR.out.2.2.2.2.2.size
        refine ⟨?_, ⟨fun j => if j = i then .slice A1 (mkL i).length c1 else vs j, ?_, fun j hj => ?_⟩, ?_, ?_, hk hrm, hk HW2.out.2.2.1⟩
        · have hne : some hb ≠ (Value.slice A6 i c6).ownBlock := fun e => by have := HL6.out hb e.symm; omega
          have := hg4.block hb HW2.out.2.2.2.2.2.2.1 hne
          simp only [World.cell?, this]
          exact HW2.out.2.2.2.2.2.1
        · have e : (List.range (i + 1)).map (fun j => if j = i then Value.slice A1 (mkL i).length c1 else vs j) = (List.range i).map vs ++ [.slice A1 (mkL i).length c1] := by
            rw [List.range_succ, List.map_append]
            congr 1
            · apply List.map_congr_left
              intro j hj
              rw [if_neg (by have := List.mem_range.1 hj; omega)]
            · simp
          rw [e]
          exact hr4
        · by_cases hji : j = i
          · subst hji
            simp only [if_true]
            exact hk hrm
          · simp only [if_neg hji]
            exact hk (HV.out.2 j (by omega))
        · have hF3 : Fld (W2.drewN m) f q1 := HW2.out.2.2.2.1.below ⟨rfl, rfl, rfl, Nat.le_refl _, fun _ _ => rfl⟩
          exact hF3.seen hs3 hg4
        · refine ⟨hg4.os.trans HW2.out.2.2.2.2.1.os, hg4.tape.trans HW2.out.2.2.2.2.1.tape, hg4.output.trans HW2.out.2.2.2.2.1.output, Nat.le_trans HW2.out.2.2.2.2.1.size hg4.size, fun k hk hne => ?_⟩
          have h1 := HW2.out.2.2.2.2.1.block k hk hne
          rw [← h1]
          refine hg4.block k (Nat.lt_of_lt_of_le hk HW2.out.2.2.2.2.1.size) fun e => ?_
          have := (HV.out.1.blk k e.symm).1
          omega⟩
      have HML : Aside (∀ w4, Row w4 w.heap.size 3 1 (.slice A1 (mkL i).length c1) (mkL i).length (intsV (Poly.ints (mkL i))) → Row w4 w.heap.size 3 1 (.slice A7 (listP (genN i)).length c7) (listP (genN i)).length (intsV (Poly.ints (listP (genN i)))) →
          Calls Tryd.prog 21 #[.slice A7 (listP (genN i)).length c7, .slice A1 (mkL i).length c1] w4 (PairOf w4 (some (genN (i + 1))))) := ⟨fun w4 h1 h2 => by
        have := lmul (.slice A7 (listP (genN i)).length c7) (.slice A1 (mkL i).length c1) (Poly.ints (listP (genN i))) (Poly.ints (mkL i)) w4 (Row.lrd h2 (listP_short _)) (Row.lrd h1 (by have := mkL_len i; omega))
        rw [bits_gen (by have := HI8.out.1; omega), bits_mk HI8.out.1, gen_mul HI8.out.1] at this
        exact this⟩
      go_wp2_with (first | (go_at_call 18; refine HCF.out.mono ?_; rintro e w3 ⟨rfl, hd⟩; have hcm3 : w3.cell? ⟨hb, 0, none⟩ = some (.slice A1 (mkL i).length c1) := (by obtain ⟨m, rfl⟩ := hd; exact hcm); have HD := Aside.mk hd; clear hd hcm) | (at_builtin; refine wpList_append_one (w0 := w3) w.heap.size rfl _ _ 64 57 1 24 (.slice none 0 0) rfl Tryd.underlying64 infoPoly rfl (by decide) (.slice A6 i c6) i ((List.range i).map vs) #[.slice A1 (mkL i).length c1] rfl rfl rfl (by obtain ⟨m, hm⟩ := HD.out; rw [hm]; exact HV.out.1.drewN m) (by simp [Value.oneCell']) (Below.refl _ _) (by obtain ⟨m, hm⟩ := HD.out; rw [hm]; exact HWS.out) (by have := HI8.out; omega) (by have := HI8.out; simp only [maxLen]; omega) ?_; intro v4 w4 hr4 hb4 hg4 hat4; obtain ⟨hc4, HS4⟩ := HAP.out w3 HD.out v4 w4 hr4 hg4; clear hr4 hb4 hg4 hat4 hcm3) | (go_at_call 21; refine (HML.out _ HS4.out.2.2.2.1 HS4.out.2.2.2.2).mono ?_; rintro e w5 ⟨v5, rfl, hr5, hb5⟩; have H5 := Aside.mk (And.intro hr5 hb5); clear hr5 hb5))
      go_roundw
      case rel =>
        obtain ⟨hs4, hF4, hg4, hm4, ho4⟩ := HS4.out
        obtain ⟨hr5, hb5⟩ := H5.out
        refine ⟨i + 1, q1, k + 2, rfl, HI8.out.2, ⟨by have := HK.out; omega⟩, hs4.below hb5, hr5.mono hg4.size, hF4.below hb5, ?_, ?_, World.grownBy.trans hg4 (grownBy_of_below hb5 _)⟩
        · exact HW2.out.2.2.2.2.2.2.2.1
        · exact HW2.out.2.2.2.2.2.2.2.2
      case measure => have := HK.out; have := HT.out; simp [intOf]; omega
    · have hk2 : ¬ (k : Int) < (t2 : Int) := by have := HK.out; have := HT.out; omega
      have hit2 : i = t := by omega
      have HI := Aside.mk hit2
      clear hit2 hlt hit
      go_wp2
      go_ret2
      obtain ⟨hs, ho, hF, h1, h2, hg⟩ := HR.out
      rw [HI.out] at ho
      exact ⟨_, q, rfl, hF, h1, by have := HI.out; have := HT.out; omega, hg, by rw [← HI.out]; exact HR.out.2.1⟩
end Go.Proofs.YtkdfbganhohbfaaDoor
