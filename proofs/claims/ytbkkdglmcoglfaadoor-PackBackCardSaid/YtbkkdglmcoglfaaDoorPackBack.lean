/-
  Nodes that are packed come out again, in order, and no page is too long.
-/
import Derived.Test.YtbkkdglmcoglfaaDoorPackUnpacks
import Derived.Test.YtbkkdglmcoglfaaDoorPackBackLaw
namespace Go.Proofs.YtbkkdglmcoglfaaDoor
open Go.RowKit

/-- How it stands behind the i-th key. -/
structure PB (w : World) (g : Nat) (z : Int) (i : Nat) (s6 : Value) (P : List (Nat × List ByteArray)) (j : Nat) (kh : List ByteArray) (m : Nat) (gv : Int) (wr : World) : Prop where
  row : Row wr w.heap.size 9 1 s6 P.length (strsV (textsK P))
  pk : Pk wr g z gv (catK j kh)
  rp : RowP z.toNat 0 P j
  gk : GoodKs j kh
  sz : (catK j kh).size ≤ z.toNat
  hm : m = j + kh.length
  bel : Below w.heap.size w wr
  ap : s6.ownBlock ≠ some g
  gv0 : 0 ≤ gv ∧ gv ≤ i
  pl : P.length ≤ i
  mi : m ≤ i
theorem PB.skip {w wr wd : World} {g : Nat} {z : Int} {i : Nat} {s6 : Value} {P : List (Nat × List ByteArray)} {j : Nat} {kh : List ByteArray} {m : Nat} {gv : Int} (h : PB w g z i s6 P j kh m gv wr) (hb : Below wr.heap.size wr wd) : PB w g z (i + 1) s6 P j kh m gv wd :=
  ⟨h.row.below hb, below_blk h.pk hb, h.rp, h.gk, h.sz, h.hm, h.bel.trans (hb.mono h.bel.size), h.ap, by have := h.gv0; omega, by have := h.pl; omega, by have := h.mi; omega⟩
/-- The text goes behind the others. -/
theorem PB.fits {w wr wd wa : World} {g : Nat} {z : Int} {i : Nat} {s6 : Value} {P : List (Nat × List ByteArray)} {j : Nat} {kh : List ByteArray} {m : Nat} {gv : Int} (h : PB w g z i s6 P j kh m gv wr) (hb : Below wr.heap.size wr wd) (hg0 : w.heap.size ≤ g) {k : ByteArray} (hgd : goodK m k = true)
    (hz : ((catK j kh).size : Int) + ((rowK m k).size : Int) ≤ z) (hp : Pk wa g z gv (catK j kh ++ rowK m k)) (hg : wd.grownBy wa (some g)) : PB w g z (i + 1) s6 P j (kh ++ [k]) (m + 1) gv wa := by
  have hm := h.hm
  have e : catK j (kh ++ [k]) = catK j kh ++ rowK m k := by rw [catK_snoc, hm]
  have hpl := (show Pk wd g z gv (catK j kh) from below_blk h.pk hb).lt
  refine ⟨?_, by rw [e]; exact hp, h.rp, GoodKs.snoc kh h.gk (by rw [← hm]; exact hgd), ?_, by rw [List.length_append]; simp only [List.length_cons, List.length_nil]; omega, below_of_grown (h.bel.trans (hb.mono h.bel.size)) hg0 hpl hg, h.ap, by have := h.gv0; omega, by have := h.pl; omega, by have := h.mi; omega⟩
  · exact (h.row.below hb).kept hg (.inr h.ap)
  · rw [e, ByteArray.size_append]; omega
theorem ne_nil_of_size {j : Nat} {kh : List ByteArray} (h : 0 < (catK j kh).size) : kh ≠ [] := by
  rintro rfl
  exact absurd h (Nat.lt_irrefl 0)
/-- The page that is full goes out. -/
theorem PB.full {w wr wa w1 : World} {g : Nat} {z : Int} {i : Nat} {s6 v1 : Value} {P : List (Nat × List ByteArray)} {j : Nat} {kh : List ByteArray} {m : Nat} {gv : Int} (h : PB w g z i s6 P j kh m gv wr) {k : ByteArray} (hgd : goodK m k = true)
    (hz : ((rowK m k).size : Int) ≤ z) (hf : z < ((catK j kh).size : Int) + ((rowK m k).size : Int)) (hp : Pk wa g z (gv + 1) (rowK m k)) (hr1 : Row w1 w.heap.size 9 1 v1 (P.length + 1) (strsV (textsK P) ++ (#[.string (catK j kh)] : Array Value).toList)) (hb1 : Below w.heap.size w w1)
    (hg1 : wa.grownBy w1 s6.ownBlock) (hat : v1.ownBlock = s6.ownBlock ∨ ∃ b, v1.ownBlock = some b ∧ wa.heap.size ≤ b) : PB w g z (i + 1) v1 (P ++ [(j, kh)]) m [k] (m + 1) (gv + 1) w1 := by
  have hm := h.hm
  have e : catK m [k] = rowK m k := by simp only [catK, app_emptyK]
  have hne : kh ≠ [] := ne_nil_of_size (j := j) (by omega)
  refine ⟨?_, ?_, ?_, ⟨hgd, trivial⟩, by rw [e]; omega, rfl, hb1, ?_, by have := h.gv0; omega, by rw [List.length_append]; simp only [List.length_cons, List.length_nil]; have := h.pl; omega, by have := h.mi; omega⟩
  · rw [List.length_append]
    have : strsV (textsK (P ++ [(j, kh)])) = strsV (textsK P) ++ [.string (catK j kh)] := by simp [strsV, textsK]
    rw [this]; exact hr1
  · rw [e]
    exact (hg1.block g hp.lt (fun hh => h.ap hh.symm)).trans hp
  · rw [hm]; exact RowP.snoc h.rp hne h.gk h.sz
  · intro hh
    rcases hat with e1 | ⟨b, e1, hb⟩
    · exact h.ap (e1.symm.trans hh)
    · rw [e1] at hh; cases hh; have := hp.lt; omega

theorem textsK_get (P : List (Nat × List ByteArray)) (t : Nat) (h : t < P.length) : (textsK P).getD t ByteArray.empty = catK P[t].1 P[t].2 := by simp [textsK, h]
theorem RowP.le {z : Nat} : ∀ {P : List (Nat × List ByteArray)} {j n : Nat}, RowP z j P n → j ≤ n
  | [], _, _, h => Nat.le_of_eq h
  | p :: P, j, n, h => by have := RowP.le h.2.2.2.2; omega
/-- The pages, when all is packed. -/
structure PE (w : World) (z : Int) (s6 : Value) (P : List (Nat × List ByteArray)) (m : Nat) (wr : World) : Prop where
  row : Row wr w.heap.size 9 1 s6 P.length (strsV (textsK P))
  rp : RowP z.toNat 0 P m
  bel : Below w.heap.size w wr
theorem PE.more {w wr w1 : World} {g : Nat} {z : Int} {i : Nat} {s6 v1 : Value} {P : List (Nat × List ByteArray)} {j : Nat} {kh : List ByteArray} {m : Nat} {gv : Int} (h : PB w g z i s6 P j kh m gv wr) (hne : kh ≠ [])
    (hr1 : Row w1 w.heap.size 9 1 v1 (P.length + 1) (strsV (textsK P) ++ (#[.string (catK j kh)] : Array Value).toList)) (hb1 : Below w.heap.size w w1) : PE w z v1 (P ++ [(j, kh)]) m w1 := by
  refine ⟨?_, by rw [h.hm]; exact RowP.snoc h.rp hne h.gk h.sz, hb1⟩
  rw [List.length_append]
  have : strsV (textsK (P ++ [(j, kh)])) = strsV (textsK P) ++ [.string (catK j kh)] := by simp [strsV, textsK]
  rw [this]; exact hr1

set_option maxRecDepth 20000 in
set_option maxHeartbeats 8000000 in
theorem packBack_walk (n0 : Int) (A : Option Addr) (len cap : Nat) (x : List ByteArray) (w : World) (_hn : (Lit.int .i64 n0).wf = true)
    (hx : x.length = len ∧ len ≤ cap ∧ cap ≤ maxLen ∧ len * 16 ≤ 140737488351232 ∧ (∀ s ∈ x, s.size ≤ 140737488351232) ∧ Rd w A len (fun i => .string (x.getD i ByteArray.empty))) (hnib : Nib w) :
    Calls Tryd.prog 4 #[.int .i64 n0, .slice A len cap] w fun e w' => e = .returned (.bool true) ∧ Below w.heap.size w w' := by
  obtain ⟨hlen, hcap, hmax, h16, _, hrd⟩ := hx
  unfold maxLen at hmax
  obtain ⟨z, hz40, hz2048, hz3⟩ : ∃ z : Int, 40 ≤ z ∧ z ≤ 2048 ∧ ((n0 < 40 ∧ z = 64) ∨ (40 ≤ n0 ∧ 2048 < n0 ∧ z = 64) ∨ (40 ≤ n0 ∧ n0 ≤ 2048 ∧ z = n0)) := by
    by_cases h1 : n0 < 40
    · exact ⟨64, by omega, by omega, .inl ⟨h1, rfl⟩⟩
    · by_cases h2 : 2048 < n0
      · exact ⟨64, by omega, by omega, .inr (.inl ⟨by omega, h2, rfl⟩)⟩
      · exact ⟨n0, by omega, by omega, .inr (.inr ⟨by omega, by omega, rfl⟩)⟩
  have HN := Aside.mk hnib
  have HRD := Aside.mk hrd
  have HL := Aside.mk hlen
  clear hnib hrd hlen _hn
  go_enter Tryd.func4, Tryd.ntmps4
  go_upto_region 3 with (go_at_call 5; refine (pack_speaks _).mono ?_; rintro e w1 ⟨rfl, hb1⟩)
  have HB1 := Aside.mk hb1
  clear hb1
  go_cut [29] (fun s29 wx => s29 = .bool (decide (n0 < 40) || decide (2048 < n0)) ∧ w1 = wx)
  case first =>
    clear HN HRD HL HB1
    rcases hz3 with ⟨h1, h2⟩ | ⟨h1, h2, h3⟩ | ⟨h1, h2, h3⟩
    · clear h2
      go_wp2
      go_meet
      exact ⟨by simp [h1], rfl⟩
    · clear h3
      go_wp2
      go_meet
      exact ⟨by simp [h2], rfl⟩
    · clear h3
      go_wp2
      go_meet
      exact ⟨by first | (simp; done) | (simp; omega), rfl⟩
  case rest =>
    obtain ⟨rfl, rfl⟩ := hcut
    obtain ⟨b, hb, hbz⟩ : ∃ b, b = (decide (n0 < 40) || decide (2048 < n0)) ∧ ((b = true ∧ z = 64) ∨ (b = false ∧ z = n0)) := by
      refine ⟨_, rfl, ?_⟩
      rcases hz3 with ⟨h1, h2⟩ | ⟨h1, h2, h3⟩ | ⟨h1, h2, h3⟩
      · exact .inl ⟨by simp [h1], h2⟩
      · exact .inl ⟨by simp [h2], h3⟩
      · exact .inr ⟨by simp only [Bool.or_eq_false_iff, decide_eq_false_iff_not]; omega, h3⟩
    rw [← hb]
    clear hz3 hb
    go_upto_if 29 with fail
    go_cut [0] (fun s0 wx => s0 = .int .i64 z ∧ w1 = wx)
    case first =>
      rcases hbz with ⟨rfl, h⟩ | ⟨rfl, h⟩
      · have HZ := Aside.mk h
        clear h
        go_wp2
        go_meet
        exact ⟨by rw [HZ.out], rfl⟩
      · have HZ := Aside.mk h
        clear h
        go_wp2
        go_meet
        exact ⟨by rw [HZ.out], rfl⟩
    case rest =>
      obtain ⟨rfl, rfl⟩ := hcut
      clear hbz
      go_upto_region 6 with (go_at_call 8; refine (pack_new z _).mono ?_; rintro e w2 ⟨rfl, p0, hb2⟩)
      have hp0 := p0.eq (z' := z) (by omega) rfl rfl
      have hgs : w.heap.size ≤ w1.heap.size := HB1.out.size
      have hPB0 : PB w w1.heap.size z 0 (.slice none 0 0) [] 0 [] 0 0 w2 := ⟨Row.nil _ _ _ _, hp0, rfl, trivial, Nat.zero_le _, rfl, below_more HB1.out HB1.out.size hb2, by simp [Value.ownBlock], by omega, Nat.le_refl _, Nat.le_refl _⟩
      have HP0 := Aside.mk hPB0
      have HG := Aside.mk hgs
      clear p0 hp0 hb2 hPB0 hgs HB1
      generalize w1.heap.size = g at *
      go_wp2
      go_loopw [6, 7, 8] (fun s6 s7 s8 wr => ∃ (i : Nat) (P : List (Nat × List ByteArray)) (j : Nat) (kh : List ByteArray) (m : Nat) (gv : Int), i ≤ len ∧ s8 = .int .i64 i ∧ s7 = .int .i64 m ∧ PB w g z i s6 P j kh m gv wr) (fun _ _ s8 _ => len - (intOf s8).toNat)
      case atStart => exact ⟨0, [], 0, [], 0, 0, Nat.zero_le _, rfl, rfl, HP0.out⟩
      case round =>
        obtain ⟨i, P, j, kh, m, gv, hi, rfl, rfl, hP⟩ := hrel
        have HP := Aside.mk hP
        clear hP HP0
        by_cases hlt : i < len
        · obtain ⟨b, off, rfl, hblt, hcell⟩ := HRD.out i hlt
          have hc2 := (HP.out.bel.cell (p := ⟨b, off + i, none⟩) hblt).trans hcell
          change wr.cell? _ = some (Value.string (x.getD i ByteArray.empty)) at hc2
          generalize x.getD i ByteArray.empty = k at *
          clear hcell
          have hE : ∀ W, Nib W → Calls Tryd.prog 9 #[nodeV m false false k ⟨#[]⟩] W fun e w' => e = .returned (.tuple #[.string (rowK m k), .bool (goodK m k)]) ∧ Below W.heap.size W w' := fun W h => node_encode m false false k ⟨#[]⟩ W h
          have HE := Aside.mk hE
          clear hE
          have hmi := HP.out.mi
          have hnw : IntKind.i64.wrap ((m : Int) + 1) = ((m + 1 : Nat) : Int) := by rw [IntKind.wrap_i64]; omega
          have HNW := Aside.mk hnw
          clear hnw
          cases hgd : goodK m k
          · rw [hgd] at HE
            clear hgd
            generalize rowK m k = E at *
            go_wp2_with (go_at_call 9; refine (HE.out _ (HN.out.below HP.out.bel)).mono ?_; rintro e w3 ⟨rfl, hb3⟩)
            go_roundw
            case rel => exact ⟨i + 1, P, j, kh, m, gv, by omega, by go_num, rfl, HP.out.skip hb3⟩
            case measure => simp [intOf]; omega
          · have HGD := Aside.mk hgd
            have hez := rowK_size hgd
            rw [hgd] at HE
            clear hgd
            by_cases hlong : z < ((rowK m k).size : Int)
            · clear hez
              generalize rowK m k = E at *
              go_wp2_with (go_at_call 9; refine (HE.out _ (HN.out.below HP.out.bel)).mono ?_; rintro e w3 ⟨rfl, hb3⟩)
              go_roundw
              case rel => exact ⟨i + 1, P, j, kh, m, gv, by omega, by go_num, rfl, HP.out.skip hb3⟩
              case measure => simp [intOf]; omega
            · have hshort : ((rowK m k).size : Int) ≤ z := by omega
              have hne : (rowK m k).toList.isEmpty = false := by
                rw [toList_empty, decide_eq_false_iff_not]; omega
              clear hlong
              by_cases hfit : ((catK j kh).size : Int) + ((rowK m k).size : Int) ≤ z
              · have hnw := HNW.out
                have HF := Aside.mk hfit
                have HNE := Aside.mk hne
                clear hfit hne hez
                go_wp2_with (first | (go_at_call 9; refine (HE.out _ (HN.out.below HP.out.bel)).mono ?_; rintro e w3 ⟨rfl, hb3⟩; have HB3 := Aside.mk hb3; clear hb3) | (go_at_call 10; refine (pack_add_fits g z gv (catK j kh) (rowK m k) _ (below_blk HP.out.pk HB3.out) HNE.out HF.out hz2048).mono ?_; rintro e w4 ⟨rfl, hp4, hg4⟩; have hQ : Aside (PB w g z (i + 1) u6 P j (kh ++ [k]) (m + 1) gv w4) := ⟨HP.out.fits HB3.out HG.out HGD.out HF.out hp4 hg4⟩; clear hp4 hg4))
                go_roundw
                case rel => exact ⟨i + 1, P, j, kh ++ [k], m + 1, gv, by omega, by go_num, by go_num, hQ.out⟩
                case measure => simp [intOf]; omega
              · have hnw := HNW.out
                have hfu : z < ((catK j kh).size : Int) + ((rowK m k).size : Int) := by omega
                have HF := Aside.mk hfu
                have HNE := Aside.mk hne
                have hgv := HP.out.gv0
                have hpl := HP.out.pl
                have hsz := HP.out.sz
                have HGV := Aside.mk hgv
                have HSH := Aside.mk hshort
                have HSZ : Aside ((catK j kh).size ≤ 2048) := ⟨by omega⟩
                clear hfu hfit hne hez hgv hsz
                go_wp2_with (first | (go_at_call 9; refine (HE.out _ (HN.out.below HP.out.bel)).mono ?_; rintro e w3 ⟨rfl, hb3⟩; have HB3 := Aside.mk hb3; clear hb3) | (go_at_call 10; refine (pack_add_full g z gv (catK j kh) (rowK m k) _ (below_blk HP.out.pk HB3.out) HNE.out HSH.out hz2048 HF.out HGV.out.1 (by have := HGV.out; omega) HSZ.out).mono ?_; rintro e w4 ⟨rfl, hp4, hg4⟩; have hQ : Aside (Row w4 w.heap.size 9 1 u6 P.length (strsV (textsK P)) ∧ Pk w4 g z (gv + 1) (rowK m k) ∧ Below w.heap.size w w4) := ⟨(HP.out.row.below HB3.out).kept hg4 (.inr HP.out.ap), hp4, below_of_grown (below_more HP.out.bel HP.out.bel.size HB3.out) HG.out (show Pk w3 g z gv (catK j kh) from below_blk HP.out.pk HB3.out).lt hg4⟩; clear hp4 hg4) | (at_builtin; go_loud (refine wpList_append_one_at (w0 := w) w.heap.size rfl _ _ 35 9 1 16 (.string ByteArray.empty) rfl Tryd.underlying35 infoStr rfl (by decide) u6 P.length (strsV (textsK P)) #[.string (catK j kh)] rfl rfl _ rfl rfl hQ.out.1 (by simp [Value.oneCell']) hQ.out.2.2 hQ.out.2.2.size (by omega) (by simp only [maxLen]; omega) ?_); intro v1 w5 hr1 hb1 hg1 hat1; have hS : Aside (PB w g z (i + 1) v1 (P ++ [(j, kh)]) m [k] (m + 1) (gv + 1) w5) := ⟨HP.out.full HGD.out HSH.out HF.out hQ.out.2.1 hr1 hb1 hg1 hat1⟩; clear hr1 hb1 hg1 hat1 hQ))
                go_roundw
                case rel => exact ⟨i + 1, P ++ [(j, kh)], m, [k], m + 1, gv + 1, by omega, by go_num, by go_num, hS.out⟩
                case measure => simp [intOf]; omega
        · obtain rfl : i = len := by omega
          clear HRD hlt hi
          have hm43 : m ≤ 8796093022208 := by have := HP.out.mi; omega
          rcases Nat.eq_zero_or_pos (catK j kh).size with h0 | h0
          · have hemp : (catK j kh).toList.isEmpty = true := by rw [toList_empty, decide_eq_true h0]
            have HE : Aside (PE w z u6 P m wr) := ⟨by
              have hk : kh = [] := by
                have := catK_length HP.out.gk
                exact List.eq_nil_of_length_eq_zero (by omega)
              have hm : m = j := by rw [HP.out.hm, hk]; rfl
              rw [hm]
              exact ⟨HP.out.row, HP.out.rp, HP.out.bel⟩⟩
            have HEM := Aside.mk hemp
            clear h0 hemp
            go_upto_region 22 with (go_at_call 11; refine (pack_flush_none g z gv (catK j kh) _ HP.out.pk HEM.out).mono ?_; rintro e w4 ⟨rfl, rfl⟩)
            generalize hw5 : wr = w5 at *
            clear hw5
            obtain ⟨A6, c6, rfl, hc6⟩ := HE.out.row.slice
            have hPL := HE.out.row.max
            unfold maxLen at hPL
            obtain ⟨PL, hpl⟩ : ∃ PL, PL = P.length := ⟨_, rfl⟩
            have HRW := Aside.mk HE.out.row
            rw [← hpl] at hPL HRW ⊢
            have HPL := Aside.mk hpl
            clear hpl
            go_wp2
            go_loopw [16, 17] (fun s16 s17 wq => ∃ (t : Nat) (q : Nat), t ≤ PL ∧ s17 = .int .i64 t ∧ s16 = .int .i64 q ∧ RowP z.toNat q (P.drop t) m ∧ Below w5.heap.size w5 wq) (fun _ s17 _ => PL - (intOf s17).toNat)
            case atStart => exact ⟨0, 0, Nat.zero_le _, rfl, rfl, HE.out.rp, Below.refl _ _⟩
            case round =>
              obtain ⟨t, q, ht, rfl, rfl, hrp, hbq⟩ := hrel
              by_cases htl : t < PL
              · have htP : t < P.length := by rw [← HPL.out]; exact htl
                rw [List.drop_eq_getElem_cons htP] at hrp
                obtain ⟨e1, hne, hgk, hsz, hrp2⟩ := hrp
                obtain ⟨A9, c9, hv, hq1, hq2, hq3, hRd⟩ := (HRW.out.below hbq).readStrs
                injection hv with hv hv1 hv2
                subst hv
                clear hq1 hq2 hq3 hv1 hv2
                obtain ⟨b, off, e6, hblt, hcell⟩ := hRd t htl
                subst e6
                have hcl : wr.cell? ⟨b, off + t, none⟩ = some (.string (catK q P[t].2)) := by
                  rw [hcell]
                  show some (Value.string ((textsK P).getD t ByteArray.empty)) = _
                  rw [textsK_get P t htP, e1]
                clear hcell hRd e1
                generalize P[t].2 = ks at *
                obtain ⟨L, hL1, hL2, hL3⟩ := unpack_page q ks hgk
                have hun : ∀ W, Nib W → Calls Tryd.prog 6 #[.string (catK q ks)] W (UnpPost 33 W (L, 0)) := fun W h => by
                  rw [← hL1]; exact pack_unpack (catK q ks) W (by omega) h
                have HUN := Aside.mk hun
                have HL3 : Aside (∀ (i : Nat) (x : NodeT × Int), L[i]? = some x → x.1.q = ((q + i : Nat) : Int)) := ⟨fun i x hx => by
                  obtain ⟨hi, rfl⟩ := List.getElem?_eq_some_iff.1 hx
                  exact hL3 i hi⟩
                have hqm := hrp2.le
                have HL2 := Aside.mk hL2
                have HRP := Aside.mk hrp2
                have HBQ := Aside.mk (below_more HE.out.bel HE.out.bel.size hbq)
                have HBQ2 := Aside.mk hbq
                have hLne : 0 < L.length := by
                  rw [hL2]
                  exact List.length_pos_iff.2 hne
                have hszi : ((catK q ks).size : Int) ≤ z := by omega
                clear hL1 hL3 hL2 hun hgk hne hrp2 htP hbq hsz
                generalize catK q ks = page at *
                go_upto_region 27 with (go_at_call 6; refine (HUN.out _ (HN.out.below HBQ.out)).mono ?_; rintro e w6 ⟨v1, v2, rfl, hr1, hr2, hb6⟩)
                have hcl6 := (hb6.cell (p := ⟨b, off + t, none⟩) hblt).trans hcl
                have HR1 := Aside.mk hr1
                have HB6 : Aside (Below w.heap.size w w6 ∧ Below w5.heap.size w5 w6) := ⟨below_more HBQ.out HBQ.out.size hb6, below_more HBQ2.out HBQ2.out.size hb6⟩
                obtain ⟨A7, c7, rfl, hc7⟩ := hr1.slice
                have hlm := hr1.max
                unfold maxLen at hlm
                clear hr1 hr2 hb6 hcl HUN
                generalize hln : L.length = ln at *
                have HLN := Aside.mk hln
                clear hln
                have hln0 : ((ln : Int) == 0) = false := by simp; omega
                have hln1 : ¬ (ln : Int) = 0 := by omega
                go_wp2
                go_loop [16, 21] (fun s16 s21 => ∃ c : Nat, c ≤ ln ∧ s21 = .int .i64 c ∧ s16 = .int .i64 ((q + c : Nat) : Int)) (fun _ s21 => ln - (intOf s21).toNat)
                case atStart => exact ⟨0, Nat.zero_le _, rfl, rfl⟩
                case round =>
                  obtain ⟨c, hc, rfl, rfl⟩ := hrel
                  by_cases hcl2 : c < ln
                  · have hcL : c < L.length := by rw [HLN.out]; exact hcl2
                    have hR := HR1.out
                    rw [← HLN.out] at hR
                    obtain ⟨g1, o1, k1, e1, hg1, x0, hrest⟩ := nodes_at hR c hcL
                    injection e1 with e1 _ _
                    subst e1
                    rw [HL3.out c _ (List.getElem?_eq_getElem hcL)] at x0
                    have hqc : q + c ≤ 9000000000000000000 := by have := HL2.out; omega
                    clear hrest hR hcL
                    have hnw : IntKind.i64.wrap (((q + c : Nat) : Int) + 1) = ((q + (c + 1) : Nat) : Int) := by rw [IntKind.wrap_i64]; omega
                    generalize ((q + c : Nat) : Int) = qc at *
                    go_wp2
                    go_round
                    case rel => exact ⟨c + 1, by omega, by go_num, rfl⟩
                    case measure => simp [intOf]; omega
                  · obtain rfl : c = ln := by omega
                    go_wp2
                    go_roundw
                    case rel => exact ⟨t + 1, q + ks.length, by omega, by go_num, by rw [← HL2.out], HRP.out, HB6.out.2⟩
                    case measure => simp [intOf]; omega
              · obtain rfl : t = PL := by omega
                rw [HPL.out, List.drop_length] at hrp
                obtain rfl : q = m := hrp
                have HBQ := Aside.mk (below_more HE.out.bel HE.out.bel.size hbq)
                clear hbq
                go_wp2
                go_ret
                exact ⟨by first | rfl | simp, HBQ.out⟩
          · have hemp : (catK j kh).toList.isEmpty = false := by rw [toList_empty, decide_eq_false_iff_not]; omega
            have HEM := Aside.mk hemp
            have HNE := Aside.mk (ne_nil_of_size h0)
            have hgv := HP.out.gv0
            have hpl := HP.out.pl
            have HGV := Aside.mk hgv
            clear h0 hemp hgv
            go_upto_region 22 with (first | (go_at_call 11; refine (pack_flush g z gv (catK j kh) _ HP.out.pk HEM.out HGV.out.1 (by have := HGV.out; omega)).mono ?_; rintro e w4 ⟨rfl, hp4, hg4⟩; have hQ : Aside (Row w4 w.heap.size 9 1 u6 P.length (strsV (textsK P)) ∧ Below w.heap.size w w4) := ⟨HP.out.row.kept hg4 (.inr HP.out.ap), below_of_grown HP.out.bel HG.out HP.out.pk.lt hg4⟩; clear hp4 hg4) | (at_builtin; refine wpList_append_one_at (w0 := w) w.heap.size rfl _ _ 35 9 1 16 (.string ByteArray.empty) rfl Tryd.underlying35 infoStr rfl (by decide) u6 P.length (strsV (textsK P)) #[.string (catK j kh)] rfl rfl _ rfl rfl hQ.out.1 (by simp [Value.oneCell']) hQ.out.2 hQ.out.2.size (by omega) (by simp only [maxLen]; omega) ?_; intro v1 w5 hr1 hb1 hg1 hat1; have HE : Aside (PE w z v1 (P ++ [(j, kh)]) m w5) := ⟨PE.more HP.out HNE.out hr1 hb1⟩; clear hr1 hb1 hg1 hat1 hQ))
            obtain ⟨A6, c6, rfl, hc6⟩ := HE.out.row.slice
            have hPL := HE.out.row.max
            unfold maxLen at hPL
            obtain ⟨PL, hpl⟩ : ∃ PL, PL = (P ++ [(j, kh)]).length := ⟨_, rfl⟩
            have HRW := Aside.mk HE.out.row
            rw [← hpl] at hPL HRW ⊢
            have HPL := Aside.mk hpl
            clear hpl
            go_wp2
            go_loopw [16, 17] (fun s16 s17 wq => ∃ (t : Nat) (q : Nat), t ≤ PL ∧ s17 = .int .i64 t ∧ s16 = .int .i64 q ∧ RowP z.toNat q ((P ++ [(j, kh)]).drop t) m ∧ Below w5.heap.size w5 wq) (fun _ s17 _ => PL - (intOf s17).toNat)
            case atStart => exact ⟨0, 0, Nat.zero_le _, rfl, rfl, HE.out.rp, Below.refl _ _⟩
            case round =>
              obtain ⟨t, q, ht, rfl, rfl, hrp, hbq⟩ := hrel
              by_cases htl : t < PL
              · have htP : t < (P ++ [(j, kh)]).length := by rw [← HPL.out]; exact htl
                rw [List.drop_eq_getElem_cons htP] at hrp
                obtain ⟨e1, hne, hgk, hsz, hrp2⟩ := hrp
                obtain ⟨A9, c9, hv, hq1, hq2, hq3, hRd⟩ := (HRW.out.below hbq).readStrs
                injection hv with hv hv1 hv2
                subst hv
                clear hq1 hq2 hq3 hv1 hv2
                obtain ⟨b, off, e6, hblt, hcell⟩ := hRd t htl
                subst e6
                have hcl : wr.cell? ⟨b, off + t, none⟩ = some (.string (catK q (P ++ [(j, kh)])[t].2)) := by
                  rw [hcell]
                  show some (Value.string ((textsK (P ++ [(j, kh)])).getD t ByteArray.empty)) = _
                  rw [textsK_get (P ++ [(j, kh)]) t htP, e1]
                clear hcell hRd e1
                generalize (P ++ [(j, kh)])[t].2 = ks at *
                obtain ⟨L, hL1, hL2, hL3⟩ := unpack_page q ks hgk
                have hun : ∀ W, Nib W → Calls Tryd.prog 6 #[.string (catK q ks)] W (UnpPost 33 W (L, 0)) := fun W h => by
                  rw [← hL1]; exact pack_unpack (catK q ks) W (by omega) h
                have HUN := Aside.mk hun
                have HL3 : Aside (∀ (i : Nat) (x : NodeT × Int), L[i]? = some x → x.1.q = ((q + i : Nat) : Int)) := ⟨fun i x hx => by
                  obtain ⟨hi, rfl⟩ := List.getElem?_eq_some_iff.1 hx
                  exact hL3 i hi⟩
                have hqm := hrp2.le
                have HL2 := Aside.mk hL2
                have HRP := Aside.mk hrp2
                have HBQ := Aside.mk (below_more HE.out.bel HE.out.bel.size hbq)
                have HBQ2 := Aside.mk hbq
                have hLne : 0 < L.length := by
                  rw [hL2]
                  exact List.length_pos_iff.2 hne
                have hszi : ((catK q ks).size : Int) ≤ z := by omega
                clear hL1 hL3 hL2 hun hgk hne hrp2 htP hbq hsz
                generalize catK q ks = page at *
                go_upto_region 27 with (go_at_call 6; refine (HUN.out _ (HN.out.below HBQ.out)).mono ?_; rintro e w6 ⟨v1, v2, rfl, hr1, hr2, hb6⟩)
                have hcl6 := (hb6.cell (p := ⟨b, off + t, none⟩) hblt).trans hcl
                have HR1 := Aside.mk hr1
                have HB6 : Aside (Below w.heap.size w w6 ∧ Below w5.heap.size w5 w6) := ⟨below_more HBQ.out HBQ.out.size hb6, below_more HBQ2.out HBQ2.out.size hb6⟩
                obtain ⟨A7, c7, rfl, hc7⟩ := hr1.slice
                have hlm := hr1.max
                unfold maxLen at hlm
                clear hr1 hr2 hb6 hcl HUN
                generalize hln : L.length = ln at *
                have HLN := Aside.mk hln
                clear hln
                have hln0 : ((ln : Int) == 0) = false := by simp; omega
                have hln1 : ¬ (ln : Int) = 0 := by omega
                go_wp2
                go_loop [16, 21] (fun s16 s21 => ∃ c : Nat, c ≤ ln ∧ s21 = .int .i64 c ∧ s16 = .int .i64 ((q + c : Nat) : Int)) (fun _ s21 => ln - (intOf s21).toNat)
                case atStart => exact ⟨0, Nat.zero_le _, rfl, rfl⟩
                case round =>
                  obtain ⟨c, hc, rfl, rfl⟩ := hrel
                  by_cases hcl2 : c < ln
                  · have hcL : c < L.length := by rw [HLN.out]; exact hcl2
                    have hR := HR1.out
                    rw [← HLN.out] at hR
                    obtain ⟨g1, o1, k1, e1, hg1, x0, hrest⟩ := nodes_at hR c hcL
                    injection e1 with e1 _ _
                    subst e1
                    rw [HL3.out c _ (List.getElem?_eq_getElem hcL)] at x0
                    have hqc : q + c ≤ 9000000000000000000 := by have := HL2.out; omega
                    clear hrest hR hcL
                    have hnw : IntKind.i64.wrap (((q + c : Nat) : Int) + 1) = ((q + (c + 1) : Nat) : Int) := by rw [IntKind.wrap_i64]; omega
                    generalize ((q + c : Nat) : Int) = qc at *
                    go_wp2
                    go_round
                    case rel => exact ⟨c + 1, by omega, by go_num, rfl⟩
                    case measure => simp [intOf]; omega
                  · obtain rfl : c = ln := by omega
                    go_wp2
                    go_roundw
                    case rel => exact ⟨t + 1, q + ks.length, by omega, by go_num, by rw [← HL2.out], HRP.out, HB6.out.2⟩
                    case measure => simp [intOf]; omega
              · obtain rfl : t = PL := by omega
                rw [HPL.out, List.drop_length] at hrp
                obtain rfl : q = m := hrp
                have HBQ := Aside.mk (below_more HE.out.bel HE.out.bel.size hbq)
                clear hbq
                go_wp2
                go_ret
                exact ⟨by first | rfl | simp, HBQ.out⟩
end Go.Proofs.YtbkkdglmcoglfaaDoor
