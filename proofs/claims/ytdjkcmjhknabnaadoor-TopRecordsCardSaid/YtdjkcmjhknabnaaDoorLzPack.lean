/-
  A text packed: the function packF of it.
-/
import Derived.Test.YtdjkcmjhknabnaaDoorLzWalks
import Derived.Test.YtdjkcmjhknabnaaDoorLzKey
import Derived.Maps.OwnOps
import Derived.Maps.OwnSet
import Derived.Maps.Views
import Derived.DeepKeys4
import Derived.Laws.Cover3
namespace Go.Proofs.YtdjkcmjhknabnaaDoor
open Go.RowKit Go.Maps

theorem zeroInt (w : World) : (zeroValue 3).run Tryd.prog w = .ok (.int .i64 0) w := by kernel_rfl
theorem isKey (x : List UInt8) : WideAt.IsKeyLit (.string x) := True.intro
theorem conv_three (w : World) (x : ByteArray) (hx : x.size = 3) : ∃ W1 c, (convert 9 42 (.string x)).run Tryd.prog w = .ok (.slice (some ⟨w.heap.size, 0, none⟩) 3 c) W1 ∧ w.grownBy W1 none ∧ w.heap.size < W1.heap.size ∧
    (∀ j, j < 3 → W1.cell? ⟨w.heap.size, j, none⟩ = some (.int .u8 ((x.data.toList.getD j 0).toNat : Int))) := by
  refine ⟨Lib.bytesWorld w 5 x, grownCap w 3 0 5, ?_, grownBy_ofString w _ x none, by rw [Lib.bytesWorld_size]; omega, fun j hj => Lib.bytesWorld_cell w _ x j (by omega)⟩
  have := Lib.run_convert_string_bytes (P := Tryd.prog) w 9 42 5 x Tryd.underlying9 Tryd.underlying42 Tryd.underlying5
  rw [hx] at this
  exact this
theorem key_bytes (s : ByteArray) (p p3 : Nat) (h : p3 = p + 3) (hs : p3 ≤ s.size) : keyAt s.data.toList p = [(s.extract p p3).data.toList.getD 0 0, (s.extract p p3).data.toList.getD 1 0, (s.extract p p3).data.toList.getD 2 0] := by
  rw [extract_toArray, h, show p + 3 - p = 3 by omega]
  show (s.data.toList.drop p).take 3 = [((s.data.toList.drop p).take 3).getD 0 0, ((s.data.toList.drop p).take 3).getD 1 0, ((s.data.toList.drop p).take 3).getD 2 0]
  have hl := data_len s
  generalize s.data.toList = t at *
  rw [List.drop_eq_getElem_cons (i := p) (by omega), List.drop_eq_getElem_cons (i := p + 1) (by omega), List.drop_eq_getElem_cons (i := p + 1 + 1) (by omega)]
  rfl
/-- What the map holds, as a function. -/
def SeenD (D : DataW Unit) (f : List UInt8 → Option Nat) : Prop :=
  IsMap D ∧ ∀ k : List UInt8, has D (.string k) = (f k).isSome ∧ ∀ z, D.atKey (.string k) z = match f k with | some c => .lit (.int .i64 (c : Int)) | none => z
theorem seenD0 : SeenD (.map []) (fun _ => none) := ⟨isMap_empty, fun _ => ⟨rfl, fun _ => rfl⟩⟩
theorem SeenD.put {D : DataW Unit} {f : List UInt8 → Option Nat} (h : SeenD D f) (k : List UInt8) (i : Nat) : SeenD (D.put (.string k) (.lit (.int .i64 (i : Int)))) (seenAt f k i) := by
  refine ⟨h.1.put _ _, fun x => ?_⟩
  unfold seenAt
  by_cases hx : x = k
  · subst hx
    rw [if_pos rfl]
    exact ⟨has_put_same h.1 (isKey x) _, fun z => atKey_put_same h.1 (isKey x) _ _⟩
  · rw [if_neg hx]
    have hne : Lit.string x ≠ Lit.string k := fun e => hx (by injection e)
    exact ⟨(has_put_other hne _).trans (h.2 x).1, fun z => (atKey_put_other hne _ _).trans ((h.2 x).2 z)⟩
/-- The world at a place of the text. -/
structure LoopAt (s : ByteArray) (g gm : Nat) (σ : PS) (D : DataW Unit) (n : Nat) (w : World) : Prop where
  pk : Pk g gm s σ.plain σ.out w
  map : w.ownsMap Tryd.prog 52 (plainElem Tryd.prog 3) gm n D
  inv : Inv s.data.toList σ
  few : n ≤ σ.place
  seen : SeenD D σ.seen
  run : runP s.data.toList σ = runP s.data.toList ps0
theorem map_below {P : Program} {k : TypeId} {R : Value → Option (DataW Unit × List MemPlace)} {w w' : World} {B b n : Nat} {D : DataW Unit} (h : w.ownsMap P k R b n D) (hb : Below B w w') (hlt : b < B) : w'.ownsMap P k R b n D := by
  obtain ⟨es, clock, h1, F, hs, hD⟩ := h
  exact ⟨es, clock, (hb.block b hlt).trans h1, F, hs, hD⟩
theorem LoopAt.next {s : ByteArray} {g gm n n' : Nat} {σ σ' : PS} {D D' : DataW Unit} {w w' : World} (h : LoopAt s g gm σ D n w) (hp : σ.place < s.size) (hσ : step s.data.toList σ = σ')
    (pk : Pk g gm s σ'.plain σ'.out w') (map : w'.ownsMap Tryd.prog 52 (plainElem Tryd.prog 3) gm n' D') (few : n' ≤ σ'.place) (seen : SeenD D' σ'.seen) : LoopAt s g gm σ' D' n' w' :=
  ⟨pk, map, hσ ▸ inv_step h.inv (by rw [data_len]; exact hp), few, seen, by rw [← hσ, ← runP_step (by rw [data_len]; exact hp)]; exact h.run⟩
theorem step_end {t : List UInt8} {σ : PS} (h : t.length < σ.place + 3) : step t σ = { σ with place := σ.place + 1 } := by unfold step; rw [if_pos h]
theorem step_none {t : List UInt8} {σ : PS} (h : ¬ t.length < σ.place + 3) (hf : σ.seen (keyAt t σ.place) = none) : step t σ = ⟨σ.place + 1, σ.plain, σ.out, seenAt σ.seen (keyAt t σ.place) σ.place⟩ := by unfold step; rw [if_neg h, hf]
theorem step_short {t : List UInt8} {σ : PS} {o : Nat} (h : ¬ t.length < σ.place + 3) (hf : σ.seen (keyAt t σ.place) = some o) (hw : σ.place - o ≤ 65536) (h3 : ¬ 3 ≤ common 130 (t.drop o) (t.drop σ.place)) :
    step t σ = ⟨σ.place + max (common 130 (t.drop o) (t.drop σ.place)) 1, σ.plain, σ.out, seenAt σ.seen (keyAt t σ.place) σ.place⟩ := by
  unfold step; rw [if_neg h, hf]; simp only []; rw [if_pos hw, if_neg h3]
theorem step_copy {t : List UInt8} {σ : PS} {o : Nat} (h : ¬ t.length < σ.place + 3) (hf : σ.seen (keyAt t σ.place) = some o) (hw : σ.place - o ≤ 65536) (h3 : 3 ≤ common 130 (t.drop o) (t.drop σ.place)) :
    step t σ = ⟨σ.place + common 130 (t.drop o) (t.drop σ.place), σ.place + common 130 (t.drop o) (t.drop σ.place), σ.out ++ litsTo t σ.plain σ.place ++ copyTok (common 130 (t.drop o) (t.drop σ.place)) (σ.place - o - 1), seenAt σ.seen (keyAt t σ.place) σ.place⟩ := by
  unfold step; rw [if_neg h, hf]; simp only []; rw [if_pos hw, if_pos h3]
set_option maxRecDepth 20000 in
set_option maxHeartbeats 1000000 in
theorem lz_pack (s : ByteArray) (w : World) (hs : s.size ≤ 140737488351232) :
    Calls Tryd.prog 6 #[.string s] w fun e w' => e = .returned (.string ⟨(packF s.data.toList).toArray⟩) ∧ Below w.heap.size w w' := by
  obtain ⟨R, hR⟩ : ∃ R, R = packF s.data.toList := ⟨_, rfl⟩
  rw [← hR]
  have HR := Aside.mk hR
  clear hR
  have hmm := @run_makeMap Tryd.prog
  go_enter Tryd.func6, Tryd.ntmps6
  by_cases hbig : 65536 < s.size
  · have hbig2 : (65536 : Int) < (s.size : Int) := by omega
    go_wp2
    go_ret
    exact ⟨by rw [HR.out]; unfold packF; rw [if_pos (by rw [data_len]; exact hbig)]; rfl, Below.refl _ _⟩
  · have hbig2 : ¬ (65536 : Int) < (s.size : Int) := by omega
    go_upto_region 5 with fail
    obtain ⟨g, hg⟩ : ∃ g, g = w.heap.size + 1 := ⟨_, rfl⟩
    obtain ⟨gm, hgm⟩ : ∃ gm, gm = w.heap.size := ⟨_, rfl⟩
    have hP0 : Pk g gm s 0 [] ((w.alloc (.map #[] 0)).alloc (.cells #[.string s, .pointer none, .slice none 0 0, .int .i64 0, .map (some w.heap.size)] 51)) :=
      ⟨.pointer none, .slice none 0 0, .inl rfl, by rw [hg, hgm]; exact (by simpa using heap_alloc_new (w.alloc (.map #[] 0)) _), World.ownsRow_nil _ _ _ _, fun _ => rfl⟩
    have hM0 : ((w.alloc (.map #[] 0)).alloc (.cells #[.string s, .pointer none, .slice none 0 0, .int .i64 0, .map (some w.heap.size)] 51)).ownsMap (H := Unit) Tryd.prog 52 (plainElem Tryd.prog 3) gm 0 (.map []) := by
      rw [hgm]; exact (World.ownsMap_made w _ _ _).alloc _
    have hb0 : Below w.heap.size w ((w.alloc (.map #[] 0)).alloc (.cells #[.string s, .pointer none, .slice none 0 0, .int .i64 0, .map (some w.heap.size)] 51)) :=
      ((Below.refl _ _).alloc (Nat.le_refl _) _).alloc (by simp) _
    rw [← hgm] at hP0 hM0 hb0
    rw [← hg, ← hgm]
    generalize (w.alloc (.map #[] 0)).alloc (.cells #[.string s, .pointer none, .slice none 0 0, .int .i64 0, .map (some gm)] 51) = w0 at *
    have HG := Aside.mk (And.intro hg (And.intro hgm HR.out))
    have H0 := Aside.mk (And.intro hP0 (And.intro hM0 hb0))
    clear hg hgm HR hmm hP0 hM0 hb0 hs
    have hs6 : s.size ≤ 65536 := by omega
    have hln : s.data.toList.length = s.size := data_len s
    have HS := Aside.mk (And.intro hs6 hln)
    clear hbig hbig2 hs6 hln
    go_wp2
    go_loopw [5] (fun s5 wr => ∃ (σ : PS) (D : DataW Unit) (n : Nat), s5 = .int .i64 (σ.place : Int) ∧ LoopAt s g gm σ D n wr ∧ Below gm w wr) (fun s5 _ => s.size - (intOf s5).toNat)
    case atStart => exact ⟨ps0, .map [], 0, rfl, ⟨H0.out.1, H0.out.2.1, inv0 _, Nat.le_refl _, seenD0, rfl⟩, H0.out.2.2⟩
    case round =>
      obtain ⟨σ, D, n, rfl, HL, hb⟩ := hrel
      have HLA := Aside.mk (And.intro HL hb)
      have hpl := HL.inv.len
      rw [HS.out.2] at hpl
      have hs6 := HS.out.1
      clear hb
      by_cases hend : σ.place < s.size
      · have hend2 : (σ.place : Int) < (s.size : Int) := by omega
        obtain ⟨p, hp⟩ : ∃ p, p = σ.place := ⟨_, rfl⟩
        obtain ⟨p3, hp3⟩ : ∃ p3, p3 = p + 3 := ⟨_, rfl⟩
        rw [← hp] at hend2 hend ⊢
        have wp3 : IntKind.i64.wrap ((p : Int) + 3) = (p3 : Int) := by rw [IntKind.wrap_i64]; omega
        have hx0 : (0 : Int) ≤ (p : Int) := by omega
        have hx1 : (p : Int) ≤ (p3 : Int) := by omega
        have hes : (s.extract p p3).size = min p3 s.size - p := by simp
        have HP := Aside.mk (And.intro hp (And.intro hp3 hend))
        by_cases h3 : p3 ≤ s.size
        · have h32 : (p3 : Int) ≤ (s.size : Int) := by omega
          obtain ⟨W1, c1, e1, g1, l1, k1⟩ := conv_three wr (s.extract p p3) (by rw [hes]; omega)
          have e2 := fun (W : World) (a : Option Addr) (c : Nat) => run_arrayAt (P := Tryd.prog) W 52 5 3 a 3 c Tryd.underlying52 (Nat.le_refl 3)
          have HL1 := Aside.mk (HL.pk.kept g1 (by simp))
          have HM1 := Aside.mk (HL.map.kept g1 (by simp))
          have m0 := k1 0 (by decide)
          have m1 := k1 1 (by decide)
          have m2 := k1 2 (by decide)
          have HW1 := Aside.mk (And.intro g1 l1)
          have hky := key_bytes s p p3 hp3 h3
          have hbe : Below gm w W1 := HLA.out.2.trans (below_of_grownBy g1 (by have := HL.map.lt; omega) (by simp))
          clear hp hp3 hes hend h3 k1 g1 l1 HL hpl hs6
          generalize ((s.extract p p3).data.toList.getD 0 0) = b0 at *
          generalize ((s.extract p p3).data.toList.getD 1 0) = b1 at *
          generalize ((s.extract p p3).data.toList.getD 2 0) = b2 at *
          have HKY := Aside.mk (And.intro hky hbe)
          clear hky hbe
          go_upto_region 9 with fail
          go_upto_region 10 with fail
          have hp2 := HL1.out.alloc (.cells #[.int .u8 (b0.toNat : Int), .int .u8 (b1.toNat : Int), .int .u8 (b2.toNat : Int)] 52)
          have hm2 := HM1.out.alloc (.cells #[.int .u8 (b0.toNat : Int), .int .u8 (b1.toNat : Int), .int .u8 (b2.toNat : Int)] 52)
          have hb2 := HKY.out.2.alloc (by have := HM1.out.lt; omega) (.cells #[.int .u8 (b0.toNat : Int), .int .u8 (b1.toNat : Int), .int .u8 (b2.toNat : Int)] 52)
          have hn2 : (W1.alloc (.cells #[.int .u8 (b0.toNat : Int), .int .u8 (b1.toNat : Int), .int .u8 (b2.toNat : Int)] 52)).heap[W1.heap.size]? = some (.cells #[.int .u8 (b0.toNat : Int), .int .u8 (b1.toNat : Int), .int .u8 (b2.toNat : Int)] 52) := heap_alloc_new W1 _
          have hkg : g < W1.heap.size := HL1.out.lt
          have hkm : gm < W1.heap.size := HM1.out.lt
          clear m0 m1 m2 HW1 HL1 HM1 e1 e2
          generalize W1.alloc (.cells #[.int .u8 (b0.toNat : Int), .int .u8 (b1.toNat : Int), .int .u8 (b2.toNat : Int)] 52) = W2 at *
          generalize W1.heap.size = kb at *
          have n0 := cell_of_row W2 kb 0 _ _ _ hn2
          have n1 := cell_of_row W2 kb 1 _ _ _ hn2
          have n2 := cell_of_row W2 kb 2 _ _ _ hn2
          have n4 := hp2.cell4
          obtain ⟨v, ps, hrun, hv⟩ := hm2.drew.look_ok keyedThree Tryd.underlying46 (zeroInt _) (plainElem_int Tryd.underlying3 (by decide)) (key_three b0 b1 b2)
          obtain ⟨c, rfl, hc, hwc⟩ := plainElem_int_inv Tryd.underlying3 hv
          have hseen := HLA.out.1.seen.2 [b0, b1, b2]
          have hm2' := Aside.mk hm2
          have HM2 := Aside.mk (And.intro hp2 (And.intro hm2 (And.intro hb2 (And.intro hn2 (And.intro hkg hkm)))))
          clear hp2 hm2 hb2 hn2 hkg hkm hv hwc
          rw [hseen.1] at hrun
          rw [hseen.2] at hc
          generalize hfind : σ.seen [b0, b1, b2] = oo at *
          generalize hth : oo.isSome = th at *
          have HC := Aside.mk (And.intro hc (And.intro hfind hth))
          clear hc hseen hfind hth
          have hwf : (Lit.int .i64 (p : Int)).wf = true := by
            have e1 : IntKind.i64.min = -9223372036854775808 := rfl
            have e2 : IntKind.i64.max = 9223372036854775807 := rfl
            have := HS.out.1
            have := HP.out.2.2
            simp only [Lit.wf, e1, e2, Bool.and_eq_true, decide_eq_true_eq]
            omega
          obtain ⟨W3, hup, hm3, hg3⟩ := (hm2'.out.drew.drew).update keyedThree Tryd.underlying46 (by have := HLA.out.1.few; have := HP.out; have := HS.out.1; unfold maxLen; omega) (key_three b0 b1 b2) (plainElem_int Tryd.underlying3 hwf)
          have HU := Aside.mk (And.intro hm3 hg3)
          clear hm3 hg3 hwf
          go_region
          all_goals go_upto_region 11 with fail
          all_goals clear hrun
          all_goals go_region
          all_goals go_upto_region 12 with fail
          have hsz2 : gm ≤ W2.heap.size := Nat.le_of_lt HM2.out.2.1.lt
          have hgmg : gm < g := by have := HG.out; omega
          have hp3w : Pk g gm s σ.plain σ.out W3 := (HM2.out.1.drew.drew).kept HU.out.2 (fun r hr => by injection hr with hr; omega)
          have hb3 : Below gm w W3 := (HM2.out.2.2.1.drew.drew).trans (below_of_grownBy HU.out.2 hsz2 (fun r hr => by injection hr with hr; omega))
          have HU3 := Aside.mk (And.intro hp3w (And.intro HU.out.1 (And.intro hb3 hgmg)))
          have HSD := Aside.mk (HLA.out.1.seen.put [b0, b1, b2] p)
          have hk1 : IntKind.i64.wrap ((p : Int) + 1) = ((p + 1 : Nat) : Int) := by have := HS.out.1; have := HP.out.2.2; rw [IntKind.wrap_i64]; omega
          have HLE := Aside.mk (show ¬ s.data.toList.length < σ.place + 3 by rw [HS.out.2]; have := HP.out; omega)
          clear HU hsz2 hp3w hb3 hgmg HM2 hm2' hup n0 n1 n2 n4
          cases oo with
          | none =>
            obtain rfl : th = false := HC.out.2.2.symm
            go_wp2
            go_roundw
            case rel =>
              refine ⟨⟨p + 1, σ.plain, σ.out, seenAt σ.seen [b0, b1, b2] p⟩, _, n + 1, rfl, HLA.out.1.next (by have := HP.out; omega) ?_ HU3.out.1 HU3.out.2.1 ?_ HSD.out, HU3.out.2.2.1⟩
              · rw [step_none HLE.out (by rw [← HP.out.1, HKY.out.1]; exact HC.out.2.1), ← HP.out.1, HKY.out.1]
              · have := HLA.out.1.few
                have := HP.out.1
                show n + 1 ≤ p + 1
                omega
            case measure => have := HP.out.2.2; simp [intOf]; omega
          | some o =>
            obtain rfl : th = true := HC.out.2.2.symm
            obtain rfl : c = (o : Int) := by have := HC.out.1; simp only [Prod.mk.injEq, DataW.lit.injEq, Lit.int.injEq, true_and] at this; exact this.1.symm
            have hop : o < p := by rw [HP.out.1]; exact HLA.out.1.inv.old _ _ HC.out.2.1
            obtain ⟨d1, hd1⟩ : ∃ d, d = p - o := ⟨_, rfl⟩
            have w5 : IntKind.i64.wrap ((p : Int) - (o : Int)) = (d1 : Int) := by have := HS.out.1; have := HP.out.2.2; rw [IntKind.wrap_i64]; omega
            have hle : (d1 : Int) ≤ 65536 := by have := HS.out.1; have := HP.out.2.2; omega
            have HD := Aside.mk (And.intro hop hd1)
            clear hop hd1
            obtain ⟨q, hq⟩ : ∃ q, q = common 130 (s.data.toList.drop o) (s.data.toList.drop p) := ⟨_, rfl⟩
            have hqq := Aside.mk (common_le 130 (s.data.toList.drop o) (s.data.toList.drop p))
            have HQ := Aside.mk hq
            clear hq
            go_upto_region 14 with (go_at_call 17; refine (lz_same g gm σ.plain s σ.out o p _ HU3.out.1 (Nat.le_of_lt HD.out.1) HS.out.1 (Nat.le_of_lt HP.out.2.2)).mono ?_; rw [← HQ.out]; rintro e W4 ⟨rfl, hdr⟩)
            obtain ⟨mm, hmm⟩ : ∃ mm, mm = max q 1 := ⟨_, rfl⟩
            have hp4 : Pk g gm s σ.plain σ.out W4 := by obtain ⟨m, rfl⟩ := hdr; exact HU3.out.1
            have hb4 : Below gm w W4 := hdr.below HU3.out.2.2.1
            have hm4 := HU3.out.2.1.kept (grownBy_of_below hdr.same none) (by simp)
            have H4 := Aside.mk (And.intro hp4 (And.intro hb4 hm4))
            clear hp4 hb4 hm4 hdr
            have hq130 : q ≤ 130 := by rw [HQ.out]; exact hqq.out.1
            have hqs : p + q ≤ s.size := by have := hqq.out.2.2; rw [← HQ.out, List.length_drop, HS.out.2] at this; have := HP.out.2.2; omega
            have hpm : IntKind.i64.wrap ((p : Int) + (mm : Int)) = ((p + mm : Nat) : Int) := by have := HS.out.1; rw [IntKind.wrap_i64]; omega
            have hfk : σ.seen (keyAt s.data.toList σ.place) = some o := by rw [← HP.out.1, HKY.out.1]; exact HC.out.2.1
            have hpo : σ.place - o ≤ 65536 := by have := HS.out.1; have := HP.out; omega
            have HFK := Aside.mk (And.intro hfk (And.intro hpo (And.intro hq130 hqs)))
            clear hfk hpo
            by_cases h3 : 3 ≤ q
            · have h32 : (3 : Int) ≤ (q : Int) := by omega
              have hmq : mm = q := by omega
              obtain ⟨q1, hq1⟩ : ∃ x, x = q - 3 := ⟨_, rfl⟩
              obtain ⟨q2, hq2⟩ : ∃ x, x = q + 125 := ⟨_, rfl⟩
              obtain ⟨d, hd⟩ : ∃ x, x = d1 - 1 := ⟨_, rfl⟩
              have w6 : IntKind.i64.wrap ((q : Int) - 3) = (q1 : Int) := by rw [IntKind.wrap_i64]; omega
              have w7 : IntKind.i64.wrap ((q1 : Int) + 128) = (q2 : Int) := by rw [IntKind.wrap_i64]; omega
              have hd0 : 0 < d1 := by have := HD.out; omega
              have w8 : IntKind.i64.wrap ((d1 : Int) - 1) = (d : Int) := by rw [IntKind.wrap_i64]; omega
              have hdl : d < 65536 := by omega
              obtain ⟨x0, hx0'⟩ : ∃ x, x = UInt8.ofNat q2 := ⟨_, rfl⟩
              obtain ⟨x1, hx1'⟩ : ∃ x, x = UInt8.ofNat (d % 256) := ⟨_, rfl⟩
              obtain ⟨x2, hx2'⟩ : ∃ x, x = UInt8.ofNat (d / 256) := ⟨_, rfl⟩
              have w9 : IntKind.u8.wrap (q2 : Int) = (x0.toNat : Int) := by rw [IntKind.wrap_u8, hx0', toNat_of _ (by omega)]; omega
              have w10 : IntKind.u8.wrap (d : Int) = (x1.toNat : Int) := by rw [IntKind.wrap_u8, hx1', toNat_of _ (by omega)]; omega
              have w11 : IntKind.u8.wrap ((d : Int) / 256) = (x2.toNat : Int) := by rw [IntKind.wrap_u8, hx2', toNat_of _ (by omega)]; omega
              have hpq : IntKind.i64.wrap ((p : Int) + (q : Int)) = ((p + q : Nat) : Int) := by rw [← hmq]; exact hpm
              have HX := Aside.mk (And.intro hq2 (And.intro hd (And.intro hx0' (And.intro hx1' (And.intro hx2' (And.intro hmq h3))))))
              clear hq1 hq2 hd hd0 hdl hx0' hx1' hx2' hq130 hqs hmm hmq h3
              go_upto_region 16 with (go_at_call 18; refine (lz_literals g gm σ.plain p s σ.out _ H4.out.1 (by rw [HP.out.1]; exact HLA.out.1.inv.le) HS.out.1 (Nat.le_of_lt HP.out.2.2) (by have := HLA.out.1.inv; have h1 := this.short; have h2 := this.le; have h3 := this.len; rw [HS.out.2] at h3; have := HS.out.1; omega)).mono ?_; rintro e W5 ⟨rfl, hp5, hb5⟩)
              have hg5 := hp5.lt
              have H5 := Aside.mk (And.intro hp5 hb5)
              clear hp5 hb5
              have HLN : Aside ((σ.out ++ litsTo s.data.toList σ.plain p).length ≤ 1073741824) := ⟨by
                have h0 := lits_le (t := s.data.toList) (a := σ.plain) (b := p)
                have := HLA.out.1.inv; have h1 := this.short; have h2 := this.le; have h3 := this.len; rw [HS.out.2] at h3; have := HS.out.1; have := HP.out
                rw [List.length_append]
                omega⟩
              have HCL : Aside (∀ j u, (bytesV [x0, x1, x2])[j]? = some u → (W5.alloc (.cells #[.int .u8 (x0.toNat : Int), .int .u8 (x1.toNat : Int), .int .u8 (x2.toNat : Int)] 5)).cell? ((⟨W5.heap.size, 0, none⟩ : Addr).add j) = some u) := ⟨by
                intro j u hj
                rw [add_plain, cell_of_row _ W5.heap.size (0 + j) _ _ _ (heap_alloc_new W5 _), Nat.zero_add]
                simpa [bytesV] using hj⟩
              have HNE : Aside (W5.heap.size ≠ g ∧ W5.heap.size < (W5.alloc (.cells #[.int .u8 (x0.toNat : Int), .int .u8 (x1.toNat : Int), .int .u8 (x2.toNat : Int)] 5)).heap.size) := ⟨by omega, by simp⟩
              clear hg5
              go_upto_region 17 with (go_at_call 19; refine (bld_write g gm p s (σ.out ++ litsTo s.data.toList σ.plain p) W5.heap.size [x0, x1, x2] _ (H5.out.1.alloc _) HLN.out (show 3 ≤ 1073741824 by decide) (by simp) HNE.out.1 HCL.out HNE.out.2 3 3 rfl).mono ?_; rintro e W6 ⟨⟨r, rfl⟩, hp6, hb6⟩)
              have z3 := hp6.cell3
              have z4 := hp6.free3
              have HW := Aside.mk (And.intro hp6 (((H4.out.2.1.trans (H5.out.2.mono (by have := HU3.out.2.2.2; omega))).alloc (by have := HU3.out.2.2.2; have := H5.out.1.lt; omega) _).trans (hb6.mono (by have := HU3.out.2.2.2; omega))))
              have HM6 := Aside.mk (map_below (((map_below H4.out.2.2 H5.out.2 HU3.out.2.2.2)).alloc (.cells #[.int .u8 (x0.toNat : Int), .int .u8 (x1.toNat : Int), .int .u8 (x2.toNat : Int)] 5)) hb6 HU3.out.2.2.2)
              clear hp6 hb6
              have hmax : (1 : Int) < (q : Int) := by omega
              have hmax2 : ¬ (q : Int) < 1 := by omega
              have hmax3 : (1 : Int) ≤ (q : Int) := by omega
              clear hpm
              go_wp2
              go_roundw
              case rel =>
                refine ⟨⟨p + q, p + q, σ.out ++ litsTo s.data.toList σ.plain p ++ [x0, x1, x2], seenAt σ.seen [b0, b1, b2] p⟩, _, n + 1, rfl, HLA.out.1.next (by have := HP.out; omega) ?_ (HW.out.1.setPlain (p + q)) (HM6.out.kept (grownBy_setCell _ _ _) (by have := HU3.out.2.2.2; simp; omega)) ?_ HSD.out, HW.out.2.setCell (p := ⟨g, 3, none⟩) (Nat.le_of_lt HU3.out.2.2.2) _⟩
                · obtain ⟨e1, e2, e3, e4, e5, e6, e7⟩ := HX.out
                  rw [step_copy HLE.out HFK.out.1 HFK.out.2.1 (by rw [← HP.out.1, ← HQ.out]; exact e7), ← HP.out.1, HKY.out.1, ← HQ.out]
                  unfold copyTok
                  rw [e3, e4, e5, e1, e2, HD.out.2]
                · have := HLA.out.1.few
                  have := HP.out.1
                  show n + 1 ≤ p + q
                  omega
              case measure => have := HP.out.2.2; simp [intOf]; omega
            · have h32 : ¬ (3 : Int) ≤ (q : Int) := by omega
              have hmm2 := Aside.mk hmm
              have hq3 := Aside.mk h3
              have hfin : Aside (p + mm = p + max q 1) := ⟨by rw [hmm]⟩
              have HFIN : ∃ (σ' : PS) (D' : DataW Unit) (n' : Nat), Value.int .i64 ((p + mm : Nat) : Int) = .int .i64 (σ'.place : Int) ∧ LoopAt s g gm σ' D' n' W4 ∧ Below gm w W4 := by
                refine ⟨⟨p + mm, σ.plain, σ.out, seenAt σ.seen [b0, b1, b2] p⟩, _, n + 1, rfl, HLA.out.1.next (by have := HP.out; omega) ?_ H4.out.1 H4.out.2.2 ?_ HSD.out, H4.out.2.1⟩
                · rw [step_short HLE.out HFK.out.1 HFK.out.2.1 (by rw [← HP.out.1, ← HQ.out]; exact h3), ← HP.out.1, HKY.out.1, ← HQ.out, hmm]
                · have := HLA.out.1.few
                  have := HP.out.1
                  show n + 1 ≤ p + mm
                  omega
              have HF := Aside.mk HFIN
              clear HFIN hfin hq130 hqs
              by_cases hq0 : q ≤ 1
              · obtain rfl : mm = 1 := by omega
                rcases Nat.lt_or_ge q 1 with hq1 | hq1
                · obtain rfl : q = 0 := by omega
                  clear hmm h3 hq0 hq1
                  go_wp2
                  go_roundw
                  case rel => exact HF.out
                  case measure => have := HP.out.2.2; simp [intOf]; omega
                · obtain rfl : q = 1 := by omega
                  clear hmm h3 hq0 hq1
                  go_wp2
                  go_roundw
                  case rel => exact HF.out
                  case measure => have := HP.out.2.2; simp [intOf]; omega
              · obtain rfl : q = 2 := by omega
                obtain rfl : mm = 2 := by omega
                have hpm2 : IntKind.i64.wrap ((p : Int) + 2) = ((p + 2 : Nat) : Int) := by have := HS.out.1; have := HP.out.2.2; rw [IntKind.wrap_i64]; omega
                clear hmm h3 hq0 hpm
                go_wp2
                go_roundw
                case rel => exact HF.out
                case measure => have := HP.out.2.2; simp [intOf]; omega
        · have h32 : ¬ (p3 : Int) ≤ (s.size : Int) := by omega
          have hk1 : IntKind.i64.wrap ((p : Int) + 1) = ((p + 1 : Nat) : Int) := by rw [IntKind.wrap_i64]; omega
          have hst : s.data.toList.length < σ.place + 3 := by rw [HS.out.2]; omega
          have HF : Aside (∃ (σ' : PS) (D' : DataW Unit) (n' : Nat), Value.int .i64 ((p + 1 : Nat) : Int) = .int .i64 (σ'.place : Int) ∧ LoopAt s g gm σ' D' n' wr ∧ Below gm w wr) :=
            ⟨⟨⟨p + 1, σ.plain, σ.out, σ.seen⟩, D, n, rfl, HL.next (by omega) (by rw [step_end hst, ← hp]) HL.pk HL.map (by have := HL.few; show n ≤ p + 1; omega) HL.seen, HLA.out.2⟩⟩
          clear hp hp3 hes hend h3 HL hpl hs6 hst
          go_wp2
          go_roundw
          case rel => exact HF.out
          case measure => have := HP.out.2.2; simp [intOf]; omega
      · have hend2 : ¬ (σ.place : Int) < (s.size : Int) := by omega
        have hpe : σ.place = s.size := by omega
        have hinv := HL.inv
        have hrun := HL.run
        rw [runP_end (by rw [HS.out.2]; exact hend)] at hrun
        have HE := Aside.mk (And.intro hpe (And.intro hinv hrun))
        clear hpe hinv hrun hend HL hpl hs6
        go_upto_region 20 with (go_at_call 18; refine (lz_literals g gm σ.plain s.size s σ.out _ HLA.out.1.pk (by have := HE.out.1; have := HE.out.2.1.le; omega) HS.out.1 (Nat.le_refl _) (by have := HE.out.2.1; have h1 := this.short; have h2 := this.le; have := HS.out.1; have := HE.out.1; omega)).mono ?_; rintro e W5 ⟨rfl, hp5, hb5⟩)
        obtain ⟨L, hL⟩ : ∃ L, L = σ.out ++ litsTo s.data.toList σ.plain s.size := ⟨_, rfl⟩
        rw [← hL] at hp5
        have H5 := Aside.mk (And.intro hp5 (And.intro hb5 hL))
        clear hp5 hb5 hL
        have hLb : L.length ≤ 1000000 := by
          have h0 := lits_le (t := s.data.toList) (a := σ.plain) (b := s.size)
          have := HE.out.2.1; have h1 := this.short; have h2 := this.le; have := HS.out.1; have := HE.out.1
          rw [H5.out.2.2, List.length_append]
          omega
        have hLb2 : ¬ 9223372036854775807 < 1 + L.length := by omega
        have HLB := Aside.mk hLb
        clear hLb
        go_upto_region 21 with (go_at_call 20; refine (bld_string g gm s.size s L _ H5.out.1).mono ?_; rintro e W6 ⟨rfl, hb6⟩)
        have hsz1 : ((⟨#[1]⟩ : ByteArray) ++ ⟨L.toArray⟩).size = L.length + 1 := by rw [ByteArray.size_append]; show 1 + L.toArray.size = _; rw [List.size_toArray]; omega
        have hv1 : ((⟨#[1]⟩ : ByteArray) ++ ⟨L.toArray⟩) = ⟨(1 :: L).toArray⟩ := by apply ByteArray.ext; simp
        have hsz0 : ((⟨#[0]⟩ : ByteArray) ++ s).size = s.size + 1 := by rw [ByteArray.size_append]; show 1 + s.size = _; omega
        have hv0 : ((⟨#[0]⟩ : ByteArray) ++ s) = ⟨(0 :: s.data.toList).toArray⟩ := by apply ByteArray.ext; simp
        have hpk : packO s.data.toList = 1 :: L := by unfold packO; rw [← HE.out.2.2, HS.out.2, H5.out.2.2]
        have HV := Aside.mk (And.intro hv1 (And.intro hv0 hpk))
        have hfin : Below w.heap.size w W6 := by rw [← HG.out.2.1]; exact HLA.out.2.trans ((H5.out.2.1.trans hb6).mono (by have := HG.out; omega))
        have HB := Aside.mk hfin
        clear hv1 hv0 hpk hfin hb6 hLb2
        generalize ((⟨#[1]⟩ : ByteArray) ++ ⟨L.toArray⟩) = O1 at *
        generalize ((⟨#[0]⟩ : ByteArray) ++ s) = O0 at *
        by_cases hlt : L.length < s.size
        · have hl2 : (O1.size : Int) < (O0.size : Int) := by omega
          have HO := Aside.mk (And.intro hsz1 hsz0)
          clear hsz1 hsz0
          go_wp2
          go_ret
          refine ⟨(?_ : Ending.returned (Value.string O1) = _), HB.out⟩
          rw [HG.out.2.2]
          unfold packF
          rw [if_neg (by rw [HS.out.2]; have := HS.out.1; omega), if_pos (by rw [HV.out.2.2, HS.out.2, List.length_cons]; omega), HV.out.2.2]
          rw [HV.out.1]
        · have hl2 : ¬ (O1.size : Int) < (O0.size : Int) := by omega
          have HO := Aside.mk (And.intro hsz1 hsz0)
          clear hsz1 hsz0
          go_wp2
          go_ret
          refine ⟨(?_ : Ending.returned (Value.string O0) = _), HB.out⟩
          rw [HG.out.2.2]
          unfold packF
          rw [if_neg (by rw [HS.out.2]; have := HS.out.1; omega), if_neg (by rw [HV.out.2.2, HS.out.2, List.length_cons]; omega)]
          rw [HV.out.2.1]
end Go.Proofs.YtdjkcmjhknabnaaDoor
