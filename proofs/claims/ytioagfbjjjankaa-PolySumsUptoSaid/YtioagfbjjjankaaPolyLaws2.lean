/-
  The statements of the polynomials: products, remainders, sums.
-/
import Derived.Test.YtioagfbjjjankaaPolyLaws
namespace Go.Proofs.Ytioagfbjjjankaa
open Go.RowKit

/-- Lists that are read, whatever is called. -/
structure Sx (w : World) (L : List (Value × List Int)) (W : World) : Prop where
  bel : Below w.heap.size w W
  has : ∀ x ∈ L, LRd W x.1 x.2
section
variable {w W W' : World} {L : List (Value × List Int)}
theorem Sx.step (h : Sx w L W) (hb : Below W.heap.size W W') : Sx w L W' := ⟨h.bel.trans (hb.mono h.bel.size), fun x hx => (h.has x hx).below hb⟩
theorem Sx.add {v : Value} {l : List Int} (h : Sx w L W) (hb : Below W.heap.size W W') (hl : LRd W' v l) : Sx w ((v, l) :: L) W' :=
  ⟨(h.step hb).bel, fun x hx => by
    rcases List.mem_cons.1 hx with rfl | hx
    · exact hl
    · exact (h.step hb).has x hx⟩
theorem LRd.short {v : Value} {l : List Int} (h : LRd W v l) : l.length ≤ 17592186043904 := by
  obtain ⟨A, n, c, _, h1, h2, _⟩ := h
  omega
theorem Sx.copied {v : Value} {l : List Int} (h : Sx w L W) (hm : (v, l) ∈ L) : Calls Try.prog 11 #[v] W fun e W' => ∃ v', e = .returned v' ∧ Sx w ((v', l) :: L) W' :=
  (law_copied v l W (h.has _ hm)).mono fun _ _ ⟨v', h1, h2, h3⟩ => ⟨v', h1, h.add h3 (Row.lrd h2 (h.has _ hm).short)⟩
theorem Sx.of {v : Value} {l : List Int} (h : Sx w L W) (hm : (v, l) ∈ L) : Calls Try.prog 15 #[v] W fun e W' => ∃ v', e = .returned v' ∧ Sx w ((v', Poly.ints (listP (Poly.bitsOf l))) :: L) W' :=
  (lof v l W (h.has _ hm)).mono fun _ _ ⟨v', h1, h2, h3⟩ => ⟨v', h1, h.add h3 (Row.lrd h2 (listP_short _))⟩
theorem Sx.plus {v u : Value} {l k : List Int} (h : Sx w L W) (hm : (v, l) ∈ L) (hk : (u, k) ∈ L) : Calls Try.prog 16 #[v, u] W fun e W' => ∃ v', e = .returned v' ∧ Sx w ((v', Poly.ints (listP (Poly.bitsOf l ^^^ Poly.bitsOf k))) :: L) W' :=
  (ladd v u l k W (h.has _ hm) (h.has _ hk)).mono fun _ _ ⟨v', h1, h2, h3⟩ => ⟨v', h1, h.add h3 (Row.lrd h2 (listP_short _))⟩
def Tup (w : World) (L : List (Value × List Int)) (r : Option Nat) (e : Ending) (W' : World) : Prop := ∃ v', e = .returned (.tuple #[v', .bool r.isSome]) ∧ Sx w ((v', Poly.ints (optL r)) :: L) W'
theorem Sx.pair {r : Option Nat} {e : Ending} (h : Sx w L W) (hp : PairOf W r e W') : Tup w L r e W' := by
  obtain ⟨v', h1, h2, h3⟩ := hp
  exact ⟨v', h1, h.add h3 (Row.lrd h2 (optL_short _))⟩
theorem Sx.mul {v u : Value} {l k : List Int} (h : Sx w L W) (hm : (v, l) ∈ L) (hk : (u, k) ∈ L) : Calls Try.prog 12 #[v, u] W (Tup w L (mulR (Poly.bitsOf l) (Poly.bitsOf k))) :=
  (lmul v u l k W (h.has _ hm) (h.has _ hk)).mono fun _ _ hp => h.pair hp
theorem Sx.mod {v u : Value} {l k : List Int} (h : Sx w L W) (hm : (v, l) ∈ L) (hk : (u, k) ∈ L) : Calls Try.prog 19 #[v, u] W (Tup w L (modR (Poly.bitsOf l) (Poly.bitsOf k))) :=
  (lmod v u l k W (h.has _ hm) (h.has _ hk)).mono fun _ _ hp => h.pair hp
theorem Sx.rmul {v u : Value} {l k : List Int} (h : Sx w L W) (hm : (v, l) ∈ L) (hk : (u, k) ∈ L) : Calls Try.prog 13 #[v, u] W (Tup w L (mulR (Poly.bitsOf l) (Poly.bitsOf k))) :=
  (lrmul v u l k W (h.has _ hm) (h.has _ hk)).mono fun _ _ hp => h.pair hp
theorem Sx.rmod {v u : Value} {l k : List Int} (h : Sx w L W) (hm : (v, l) ∈ L) (hk : (u, k) ∈ L) : Calls Try.prog 20 #[v, u] W (Tup w L (modR (Poly.bitsOf l) (Poly.bitsOf k))) :=
  (lrmod v u l k W (h.has _ hm) (h.has _ hk)).mono fun _ _ hp => h.pair hp
theorem Sx.same {v u : Value} {l : List Int} (h : Sx w L W) (hm : (v, l) ∈ L) (hk : (u, l) ∈ L) : Calls Try.prog 14 #[v, u] W fun e W' => e = .returned (.bool true) ∧ Sx w L W' :=
  (lsame_yes v u l W (h.has _ hm) (h.has _ hk)).mono fun _ _ ⟨h1, h2⟩ => ⟨h1, h.step h2⟩
theorem Sx.speaks (h : Sx w L W) : Calls Try.prog 10 #[] W fun e W' => e = .returned (.bool true) ∧ Sx w L W' :=
  (poly_speaks W).mono fun _ _ ⟨h1, h2⟩ => ⟨h1, h.step h2⟩
end

set_option maxRecDepth 100000 in
set_option maxHeartbeats 1600000 in
theorem polyProducts_walk (A : Option Addr) (n c : Nat) (l : List Int) (B : Option Addr) (m d : Nat) (k : List Int) (w : World)
    (hx : l.length = n ∧ n ≤ c ∧ c ≤ maxLen ∧ n * 8 ≤ 140737488351232 ∧ (∀ x ∈ l, (Lit.int .i64 x).wf = true) ∧ Rd w A n (fun i => .int .i64 (l.getD i 0)))
    (hy : k.length = m ∧ m ≤ d ∧ d ≤ maxLen ∧ m * 8 ≤ 140737488351232 ∧ (∀ x ∈ k, (Lit.int .i64 x).wf = true) ∧ Rd w B m (fun i => .int .i64 (k.getD i 0))) :
    Calls Try.prog 3 #[.slice A n c, .slice B m d] w fun e w' => e = .returned (.bool true) ∧ Below w.heap.size w w' := by
  have S0 : Sx w [(.slice A n c, l), (.slice B m d, k)] w := ⟨Below.refl _ _, fun x hxx => by
    rcases List.mem_cons.1 hxx with rfl | hxx
    · exact ⟨A, n, c, rfl, hx.1.symm, by omega, hx.2.2.2.2.2⟩
    · rw [List.mem_singleton] at hxx
      subst hxx
      exact ⟨B, m, d, rfl, hy.1.symm, by omega, hy.2.2.2.2.2⟩⟩
  have S := Aside.mk S0
  clear S0 hx hy
  go_enter Try.func3, Try.ntmps3
  go_upto_region 3 with (go_at_call 10; refine (S.out.speaks).mono ?_; rintro e w1 ⟨rfl, h⟩; clear S; have S := Aside.mk h; clear h)
  have C1 := Aside.mk (S.out.copied (v := .slice A n c) (l := l) (by simp))
  go_upto_region 4 with (first | (obtain ⟨HI⟩ := C1; go_at_call 11; refine HI.mono ?_; clear HI; rintro e w2 ⟨v2, rfl, h⟩; clear S; have S := Aside.mk h; clear h; have C2 := Aside.mk (S.out.copied (v := .slice B m d) (l := k) (by simp))) | (obtain ⟨HI⟩ := C2; go_at_call 11; refine HI.mono ?_; clear HI; rintro e w3 ⟨v3, rfl, h⟩; clear S; have S := Aside.mk h; clear h))
  obtain ⟨r, hr⟩ : ∃ r, r = mulR (Poly.bitsOf l) (Poly.bitsOf k) := ⟨_, rfl⟩
  have HR := Aside.mk hr
  clear hr
  go_upto_region 6 with (first | (go_at_call 12; refine (S.out.mul (l := l) (k := k) (by simp) (by simp)).mono ?_; rw [← HR.out]; rintro e w4 ⟨v4, rfl, h⟩; clear S; have S := Aside.mk h; clear h) | (go_at_call 13; refine (S.out.rmul (l := l) (k := k) (by simp) (by simp)).mono ?_; rw [← HR.out]; rintro e w5 ⟨v5, rfl, h⟩; clear S; have S := Aside.mk h; clear h))
  have E1 := Aside.mk (S.out.same (v := v4) (u := v5) (l := Poly.ints (optL r)) (by simp) (by simp))
  clear HR
  go_wp2_with (first | (obtain ⟨HI⟩ := E1; go_at_call 14; refine HI.mono ?_; clear HI; rintro e w6 ⟨rfl, h⟩; have E2 := Aside.mk (h.same (v := v2) (u := .slice A n c) (l := l) (by simp) (by simp)); clear h) | (obtain ⟨HI⟩ := E2; go_at_call 14; refine HI.mono ?_; clear HI; rintro e w7 ⟨rfl, h⟩; have E3 := Aside.mk (h.same (v := v3) (u := .slice B m d) (l := k) (by simp) (by simp)); clear h) | (obtain ⟨HI⟩ := E3; go_at_call 14; refine HI.mono ?_; clear HI; rintro e w8 ⟨rfl, h⟩; have S9 := Aside.mk h.bel; clear h))
  go_ret
  exact ⟨rfl, S9.out⟩

set_option maxRecDepth 100000 in
set_option maxHeartbeats 1600000 in
theorem polyRemainders_walk (A : Option Addr) (n c : Nat) (l : List Int) (B : Option Addr) (m d : Nat) (k : List Int) (w : World)
    (hx : l.length = n ∧ n ≤ c ∧ c ≤ maxLen ∧ n * 8 ≤ 140737488351232 ∧ (∀ x ∈ l, (Lit.int .i64 x).wf = true) ∧ Rd w A n (fun i => .int .i64 (l.getD i 0)))
    (hy : k.length = m ∧ m ≤ d ∧ d ≤ maxLen ∧ m * 8 ≤ 140737488351232 ∧ (∀ x ∈ k, (Lit.int .i64 x).wf = true) ∧ Rd w B m (fun i => .int .i64 (k.getD i 0))) :
    Calls Try.prog 6 #[.slice A n c, .slice B m d] w fun e w' => e = .returned (.bool true) ∧ Below w.heap.size w w' := by
  have S0 : Sx w [(.slice A n c, l), (.slice B m d, k)] w := ⟨Below.refl _ _, fun x hxx => by
    rcases List.mem_cons.1 hxx with rfl | hxx
    · exact ⟨A, n, c, rfl, hx.1.symm, by omega, hx.2.2.2.2.2⟩
    · rw [List.mem_singleton] at hxx
      subst hxx
      exact ⟨B, m, d, rfl, hy.1.symm, by omega, hy.2.2.2.2.2⟩⟩
  have S := Aside.mk S0
  clear S0 hx hy
  go_enter Try.func6, Try.ntmps6
  go_upto_region 3 with (go_at_call 10; refine (S.out.speaks).mono ?_; rintro e w1 ⟨rfl, h⟩; clear S; have S := Aside.mk h; clear h)
  have C1 := Aside.mk (S.out.copied (v := .slice A n c) (l := l) (by simp))
  go_upto_region 4 with (first | (obtain ⟨HI⟩ := C1; go_at_call 11; refine HI.mono ?_; clear HI; rintro e w2 ⟨v2, rfl, h⟩; clear S; have S := Aside.mk h; clear h; have C2 := Aside.mk (S.out.copied (v := .slice B m d) (l := k) (by simp))) | (obtain ⟨HI⟩ := C2; go_at_call 11; refine HI.mono ?_; clear HI; rintro e w3 ⟨v3, rfl, h⟩; clear S; have S := Aside.mk h; clear h))
  obtain ⟨r, hr⟩ : ∃ r, r = modR (Poly.bitsOf l) (Poly.bitsOf k) := ⟨_, rfl⟩
  have HR := Aside.mk hr
  clear hr
  go_upto_region 6 with (first | (go_at_call 19; refine (S.out.mod (l := l) (k := k) (by simp) (by simp)).mono ?_; rw [← HR.out]; rintro e w4 ⟨v4, rfl, h⟩; clear S; have S := Aside.mk h; clear h) | (go_at_call 20; refine (S.out.rmod (l := l) (k := k) (by simp) (by simp)).mono ?_; rw [← HR.out]; rintro e w5 ⟨v5, rfl, h⟩; clear S; have S := Aside.mk h; clear h))
  have E1 := Aside.mk (S.out.same (v := v4) (u := v5) (l := Poly.ints (optL r)) (by simp) (by simp))
  clear HR
  go_wp2_with (first | (obtain ⟨HI⟩ := E1; go_at_call 14; refine HI.mono ?_; clear HI; rintro e w6 ⟨rfl, h⟩; have E2 := Aside.mk (h.same (v := v2) (u := .slice A n c) (l := l) (by simp) (by simp)); clear h) | (obtain ⟨HI⟩ := E2; go_at_call 14; refine HI.mono ?_; clear HI; rintro e w7 ⟨rfl, h⟩; have E3 := Aside.mk (h.same (v := v3) (u := .slice B m d) (l := k) (by simp) (by simp)); clear h) | (obtain ⟨HI⟩ := E3; go_at_call 14; refine HI.mono ?_; clear HI; rintro e w8 ⟨rfl, h⟩; have S9 := Aside.mk h.bel; clear h))
  go_ret
  exact ⟨rfl, S9.out⟩

end Go.Proofs.Ytioagfbjjjankaa
