/-
  The polynomial of every list of exponents, and sums; the lists stay, and what is answered is new.
-/
import Derived.Test.YtioagfbjjjankaaPolyLaws3
namespace Go.Proofs.Ytioagfbjjjankaa
open Go.RowKit

theorem LRd.old {w w' : World} {v : Value} {l : List Int} (h : LRd w v l) {B : Nat} (hB : w.heap.size ≤ B) (hb : Below B w w') : LRd w' v l := by
  obtain ⟨A, n, c, h1, h2, h3, h4⟩ := h
  exact ⟨A, n, c, h1, h2, h3, h4.below hB hb⟩
theorem Sx.old {w W W' : World} {L : List (Value × List Int)} (h : Sx w L W) (hb : Below W.heap.size W W') : Sx w L W' := h.step hb

theorem lbits (v : Value) (l : List Int) (w : World) (h : LRd w v l) : Calls Try.prog 18 #[v] w (BitsOf w (Poly.bitsOf l)) := by
  obtain ⟨A, n, c, rfl, hl, hn, hR⟩ := h
  exact ref_bits A n c l w hl (by omega) hR

section
variable {P : Program} {ops : Array Oper} {o : Oper} {a : Act} {K : Act → World → Prop} {Q : Exit → Act → World → Prop} {rest : List Oper}
/-- append(s, x...) behind a guard that says yes. -/
theorem wpList_append_want {W w0 : World} (base : Nat) (hgd : Region.wanted o (yielded ops a.tmps) = true) (s x : Operand) (t e : TypeId) (size bytes : Nat) (z : Value)
    (ho : o.op = .call { callee := .builtin .append, args := #[s, x], argTypes := #[t, t] })
    (ht : P.underlying t = some (.slice e)) (hinfo : (P.info? e).map (fun i => (i.zero, i.size, i.bytes)) = some (some z, size, bytes)) (hzs : z.cells.size = size) (hsz : 0 < size)
    (v : Value) (n : Nat) (xs : List Value) (y : Value) (m : Nat) (ys : List Value) (hs : a.eval s = v) (hx : a.eval x = y)
    (HR : Row W base e size v n xs) (HS : Src W size y m ys) (h1 : ∀ u ∈ ys, u.oneCell' = true) (HB : Below base w0 W) (hbase : base ≤ W.heap.size) (hl : (n + m) * bytes ≤ 140737488355328) (hm : n + m ≤ maxLen)
    (h : ∀ v1 w1, Row w1 base e size v1 (n + m) (xs ++ ys) → Below base w0 w1 → W.grownBy w1 v.ownBlock → (v1.ownBlock = v.ownBlock ∨ v1.ownBlock = some W.heap.size) → wpList P ops Q rest (a.put o.dst v1) w1) :
    wpList P ops Q (o :: rest) a W := by
  obtain ⟨v1, w1, hr, h2, h3, h4⟩ := run_append_row (P := P) W base t o.type e size bytes z ht hinfo hzs hsz v n xs HR y m ys HS h1 hm hl hbase
  refine wpList_step fun K hK => ?_
  rw [if_pos hgd]
  unfold Oper.wp execOp
  simp only [ho, resolve, invoke, builtin, Sem.run_bind, Sem.run_pure, Result.andThen_ok, List.map_toArray, List.map_cons, List.map_nil, hs, hx, hr]
  exact hK _ _ (h v1 w1 h2 (HB.grown h3 hbase (fun k hk => (HR.blk k hk).1)) h3 h4)
end

/-- What the loop over the polynomial's cells keeps. -/
def SumI (w w3 w4 : World) (L0 : List (Value × List Int)) (vo : Value) (N : Nat) (vs : Value) (M : Nat) (zs : List Value) (W : World) : Prop :=
  Below w3.heap.size w3 W ∧ Row W w4.heap.size 3 1 vs M zs ∧ (∃ xs, Row W w3.heap.size 3 1 vo N xs) ∧ Sx w L0 w3 ∧ (∀ g, vo.ownBlock = some g → w3.heap.size ≤ g ∧ g < w4.heap.size)
theorem SumI.step {w w3 w4 W : World} {L0 : List (Value × List Int)} {vo vs : Value} {N M : Nat} {zs : List Value} (h : SumI w w3 w4 L0 vo N vs M zs W) {g off cap : Nat} (hv : vo = .slice (some ⟨g, off, none⟩) N cap) (i : Nat) (hi : i < N) (x : Value) :
    SumI w w3 w4 L0 vo N vs M zs (W.setCell ⟨g, off + i, none⟩ x) := by
  obtain ⟨h1, h2, ⟨xs, h3⟩, h4, h5⟩ := h
  have hb := h5 g (by rw [hv]; rfl)
  have hs := h3.store hv i (by omega) x
  refine ⟨h1.setCell (p := ⟨g, off + i, none⟩) hb.1 x, h2.kept hs.2 ?_, ⟨_, hs.1⟩, h4, h5⟩
  cases hq : vs.ownBlock with
  | none => exact .inl rfl
  | some q => exact .inr fun hqg => by have := (h2.blk q hq).1; injection hqg with hqg; omega
theorem SumI.sx {w w3 w4 W : World} {L0 : List (Value × List Int)} {vo vs : Value} {N M : Nat} {l : List Int} (h : SumI w w3 w4 L0 vo N vs M (intsV l) W) (hM : M ≤ 17592186043904) : Sx w ((vs, l) :: L0) W :=
  (h.2.2.2.1.old h.1).add (Below.refl _ _) (Row.lrd h.2.1 hM)

set_option maxRecDepth 100000 in
set_option maxHeartbeats 6400000 in
theorem polySums_walk (XA : Option Addr) (n c : Nat) (l : List Int) (XB : Option Addr) (m d : Nat) (k : List Int) (w : World)
    (hx : l.length = n ∧ n ≤ c ∧ c ≤ maxLen ∧ n * 8 ≤ 140737488351232 ∧ (∀ x ∈ l, (Lit.int .i64 x).wf = true) ∧ Rd w XA n (fun i => .int .i64 (l.getD i 0)))
    (hy : k.length = m ∧ m ≤ d ∧ d ≤ maxLen ∧ m * 8 ≤ 140737488351232 ∧ (∀ x ∈ k, (Lit.int .i64 x).wf = true) ∧ Rd w XB m (fun i => .int .i64 (k.getD i 0)))
    (hln : l.length ≤ 1048576) (hkm : k.length ≤ 1048576) :
    Calls Try.prog 5 #[.slice XA n c, .slice XB m d] w fun e w' => e = .returned (.bool true) ∧ Below w.heap.size w w' := by
  have S0 : Sx w [(.slice XA n c, l), (.slice XB m d, k)] w := ⟨Below.refl _ _, fun x hxx => by
    rcases List.mem_cons.1 hxx with rfl | hxx
    · exact ⟨XA, n, c, rfl, hx.1.symm, by omega, hx.2.2.2.2.2⟩
    · rw [List.mem_singleton] at hxx
      subst hxx
      exact ⟨XB, m, d, rfl, hy.1.symm, by omega, hy.2.2.2.2.2⟩⟩
  have S := Aside.mk S0
  have hnn : n ≤ 1048576 := by omega
  have hmm : m ≤ 1048576 := by omega
  have HNM := Aside.mk (And.intro hx.1 hy.1)
  have HRA := Aside.mk (And.intro hx.2.2.2.2.2 hy.2.2.2.2.2)
  clear S0 hx hy hln hkm
  go_enter Try.func5, Try.ntmps5
  go_upto_region 3 with (go_at_call 10; refine (S.out.speaks).mono ?_; rintro e w1 ⟨rfl, h⟩; clear S; have S := Aside.mk h; clear h)
  have C1 := Aside.mk (S.out.copied (v := .slice XA n c) (l := l) (by simp))
  go_upto_region 4 with (first | (obtain ⟨HI⟩ := C1; go_at_call 11; refine HI.mono ?_; clear HI; rintro e w2 ⟨v2, rfl, h⟩; clear S; have S := Aside.mk h; clear h; have C2 := Aside.mk (S.out.copied (v := .slice XB m d) (l := k) (by simp))) | (obtain ⟨HI⟩ := C2; go_at_call 11; refine HI.mono ?_; clear HI; rintro e w3 ⟨v3, rfl, h⟩; clear S; have S := Aside.mk h; clear h))
  -- the polynomial, and the sum
  go_upto_region 6 with (first | (go_at_call 15; refine (lof v2 l _ (S.out.has (v2, l) (by simp))).mono ?_; rintro e w4 ⟨vo, rfl, hro, hbo⟩; have S4 := Aside.mk (S.out.step hbo)) | (go_at_call 16; refine (ladd v2 v3 l k _ (S4.out.has (v2, l) (by simp)) (S4.out.has (v3, k) (by simp))).mono ?_; rintro e w5 ⟨vs, rfl, hrs, hbs⟩))
  have hro5 := hro.below hbs
  have hso := hbo.size
  have hvo := fun g (hg : vo.ownBlock = some g) => And.intro (hro.blk g hg).1 (hro.blk g hg).2.1
  have HS3 := Aside.mk hvo
  clear hvo
  have H5 := Aside.mk (And.intro hro5 (And.intro hrs (And.intro (hbo.trans (hbs.mono hso)) hso)))
  have S5 := Aside.mk ((S4.out.step hbs).add (Below.refl _ _) (Row.lrd hro5 (listP_short _)))
  have S6 := Aside.mk (S5.out.add (Below.refl _ _) (Row.lrd hrs (listP_short _)))
  clear S4 S5 hro hro5 hrs hbo hbs hso
  go_cut [38] (fun s38 wx => s38 = .bool false ∧ Below w5.heap.size w5 wx)
  case first =>
    have B1 := Aside.mk (lbits (.slice XA n c) l _ (S6.out.has (.slice XA n c, l) (by simp)))
    have hsz5 : w.heap.size ≤ w5.heap.size := S6.out.bel.size
    go_wp2_with (first | (obtain ⟨HI⟩ := B1; go_at_call 18; refine HI.mono ?_; clear HI; rintro e w6 ⟨g6, hg6, rfl, hr6, hb6⟩; have L1 := Aside.mk (ref_list_lim _ g6 _ _ hr6); clear hr6) | (obtain ⟨HI⟩ := L1; go_at_call 17; refine HI.mono ?_; clear HI; rintro e w7 ⟨v7, rfl, hr7, hb7⟩; have hb7' := hb6.trans (hb7.mono hb6.size); have S7 := Aside.mk ((S6.out.step hb7').add (Below.refl _ _) (Row.lrd hr7 (listP_short _))); have E1 := Aside.mk (And.intro hb7' (lsame_yes vo v7 (Poly.ints (listP (Poly.bitsOf l))) _ (S7.out.has (vo, Poly.ints (listP (Poly.bitsOf l))) (by simp)) (S7.out.has (v7, Poly.ints (listP (Poly.bitsOf l))) (by simp)))); clear hr7 hb7 hb6 hb7') | (obtain ⟨HI⟩ := E1; go_at_call 14; refine HI.2.mono ?_; rintro e w8 ⟨rfl, hb8⟩; have S8 := Aside.mk (And.intro (HI.1.trans (hb8.mono HI.1.size)) (S7.out.step hb8)); clear HI hb8; have hsz8 := S8.out.1.size; have T1 := Aside.mk True.intro) | (obtain ⟨TT⟩ := T1; at_builtin; refine wpList_append_want (w0 := w5) w5.heap.size rfl _ _ 22 3 1 8 (.int .i64 0) rfl Try.underlying22 infoInt rfl (by decide) (.slice (some ⟨w8.heap.size, 0, none⟩) 0 0) 0 [] (.slice XA n c) n _ rfl rfl (Row.lit w8 w5.heap.size 3 1 #[] 0 hsz8 (by decide) rfl) (Src.of_rd (Rd.below HRA.out.1 (Nat.le_refl _) (S8.out.2.bel.alloc S8.out.2.bel.size _))) (by simp [Value.oneCell']) (S8.out.1.alloc hsz8 _) (by simp; omega) (by omega) (by simp only [maxLen]; omega) ?_; intro v9 w9 hr9 hb9 hg9 hat9; clear hg9 hat9; have hsz9 := hb9.size; have T2 := Aside.mk (S6.out.bel.trans (hb9.mono hsz5))) | (obtain ⟨TT⟩ := T2; at_builtin; refine wpList_append_want (w0 := w5) w5.heap.size rfl _ _ 22 3 1 8 (.int .i64 0) rfl Try.underlying22 infoInt rfl (by decide) v9 (0 + n) _ (.slice XB m d) m _ rfl rfl hr9 (Src.of_rd (Rd.below HRA.out.2 (Nat.le_refl _) TT)) (by simp [Value.oneCell']) hb9 hsz9 (by omega) (by simp only [maxLen]; omega) ?_; intro v10 w10 hr10 hb10 hg10 hat10; clear hg10 hat10; have hll : Row w10 w5.heap.size 3 1 v10 (0 + n + m) (intsV (l ++ k)) := (by rw [← HNM.out.1, ← HNM.out.2, List.nil_append, range_getD_ints, range_getD_ints, ← intsV_append] at hr10; rw [← HNM.out.1, ← HNM.out.2]; exact hr10); have B3 := Aside.mk (And.intro hb10 (lbits v10 (l ++ k) _ (Row.lrd hll (by omega)))); have S10 := Aside.mk (S6.out.step hb10); clear hr9 hr10 hb9 hb10 hll TT) | (obtain ⟨HI⟩ := B3; go_at_call 18; refine HI.2.mono ?_; rintro e w11 ⟨g11, hg11, rfl, hr11, hb11⟩; have L3 := Aside.mk (And.intro (HI.1.trans (hb11.mono HI.1.size)) (ref_list_lim _ g11 _ _ hr11)); clear hr11 hb11 HI) | (obtain ⟨HI⟩ := L3; go_at_call 17; refine HI.2.mono ?_; rintro e w12 ⟨v12, rfl, hr12, hb12⟩; have hb13 := HI.1.trans (hb12.mono HI.1.size); rw [Poly.bitsOf_append] at hr12; have S12 := Aside.mk ((S6.out.step hb13).add (Below.refl _ _) (Row.lrd hr12 (listP_short _))); have E3 := Aside.mk (And.intro hb13 (lsame_yes vs v12 (Poly.ints (listP (Poly.bitsOf l ^^^ Poly.bitsOf k))) _ (S12.out.has (vs, Poly.ints (listP (Poly.bitsOf l ^^^ Poly.bitsOf k))) (by simp)) (S12.out.has (v12, Poly.ints (listP (Poly.bitsOf l ^^^ Poly.bitsOf k))) (by simp)))); clear hr12 hb12 HI hb13) | (obtain ⟨HI⟩ := E3; go_at_call 14; refine HI.2.mono ?_; rintro e w14 ⟨rfl, hb14⟩; have H14 := Aside.mk (HI.1.trans (hb14.mono HI.1.size)); clear HI hb14))
    go_meet
    exact ⟨rfl, H14.out⟩
  case rest =>
    obtain ⟨hc, hbc⟩ := hcut
    subst hc
    have hI : SumI w w3 w4 [(v3, k), (v2, l), (.slice XA n c, l), (.slice XB m d, k)] vo _ vs _ (intsV (Poly.ints (listP (Poly.bitsOf l ^^^ Poly.bitsOf k)))) wc :=
      ⟨H5.out.2.2.1.trans (hbc.mono H5.out.2.2.1.size), H5.out.2.1.below hbc, ⟨_, H5.out.1.below hbc⟩, S.out, HS3.out⟩
    clear S6 H5 HS3 hbc S
    obtain ⟨hN, hN2⟩ := And.intro (listP_short (Poly.bitsOf l)) (listP_short (Poly.bitsOf l ^^^ Poly.bitsOf k))
    generalize (listP (Poly.bitsOf l ^^^ Poly.bitsOf k)).length = M at *
    generalize (listP (Poly.bitsOf l)).length = N at *
    obtain ⟨A, cp, rfl, hcp⟩ := hI.2.2.1.choose_spec.slice
    have HI0 := Aside.mk hI
    have HN2 := Aside.mk hN2
    clear hI hN2
    go_wp2
    go_loopw [9] (fun s9 wz => ∃ i : Nat, i ≤ N ∧ s9 = .int .i64 i ∧ SumI w w3 w4 [(v3, k), (v2, l), (.slice XA n c, l), (.slice XB m d, k)] (.slice A N cp) N vs M (intsV (Poly.ints (listP (Poly.bitsOf l ^^^ Poly.bitsOf k)))) wz) (fun s9 _ => N - (intOf s9).toNat)
    case atStart => exact ⟨0, by omega, rfl, HI0.out⟩
    case round =>
      obtain ⟨i, hi, rfl, hIr⟩ := hrel
      clear HI0
      have hi1 : IntKind.i64.wrap ((i : Int) + 1) = (i : Int) + 1 := by rw [IntKind.wrap_i64]; omega
      by_cases hlt : i < N
      · obtain ⟨xs, hrw⟩ := hIr.2.2.1
        obtain ⟨g, off, cp', hv, hgb, _, _, _⟩ := hrw.form (by omega)
        injection hv with hv _ _
        subst hv
        obtain ⟨y1, y2⟩ := hrw.at_ rfl i hlt
        have HH := Aside.mk (hIr.step rfl i hlt (.int .i64 (-3)))
        clear hIr hrw
        go_wp2
        go_roundw
        case measure => simp [intOf]; omega
        case rel => exact ⟨i + 1, by omega, by go_num, HH.out⟩
      · have SS := Aside.mk (hIr.sx HN2.out)
        clear hIr
        have E1 := Aside.mk (SS.out.same (v := v2) (u := .slice XA n c) (l := l) (by simp) (by simp))
        go_wp2_with (first
          | (obtain ⟨HI⟩ := E1; go_at_call 14; refine HI.mono ?_; clear HI; rintro e w6 ⟨rfl, h⟩; have E2 := Aside.mk (h.same (v := v3) (u := .slice XB m d) (l := k) (by simp) (by simp)); clear h)
          | (obtain ⟨HI⟩ := E2; go_at_call 14; refine HI.mono ?_; clear HI; rintro e w7 ⟨rfl, h⟩; have E3 := Aside.mk h; clear h)
          | (obtain ⟨HI⟩ := E3; go_at_call 16; refine (ladd v2 v3 l k _ (HI.has (v2, l) (by simp)) (HI.has (v3, k) (by simp))).mono ?_; rintro e w8 ⟨vq, rfl, hrq, hbq⟩; have S8 := (HI.step hbq).add (Below.refl _ _) (Row.lrd hrq (listP_short _)); clear HI; have E4 := Aside.mk (S8.same (v := vq) (u := vs) (l := Poly.ints (listP (Poly.bitsOf l ^^^ Poly.bitsOf k))) (by simp) (by simp)); clear S8 hrq hbq)
          | (obtain ⟨HI⟩ := E4; go_at_call 14; refine HI.mono ?_; clear HI; rintro e w9 ⟨rfl, h⟩; have S9 := Aside.mk h; clear h))
        go_ret
        exact ⟨rfl, S9.out.bel⟩
end Go.Proofs.Ytioagfbjjjankaa
