/-
  A chunk without turned bits is decoded.
-/
import Derived.Test.YtkgacnenmflegaaGreatDoorMg14
namespace Go.Proofs.YtkgacnenmflegaaGreatDoor
open Go.RowKit

theorem CAny.c1 {k t n : Nat} {w : World} (h : CAny k t n w) : w.cell? ⟨k, 1, none⟩ = some (.int .i64 (n : Int)) := by
  rcases h with h | ⟨g, q, h⟩
  · exact CF.c1 h
  · exact h.code.c1
theorem bch_parity_rdy (k t n : Nat) (W : World) (ht8 : t ≤ 8) (ht1 : 1 ≤ t) (h : CAny k t n W) :
    Calls Tryz.prog 58 #[.pointer (some ⟨k, 0, none⟩)] W fun e w' => e = .returned (.int .i64 (lowN8 t : Int)) ∧ ∃ g q, Aside (BReady w' k t n g (lowG t) q ∧ W.grownBy w' (some k)) := by
  rcases h with h | ⟨g, q, h⟩
  · refine (bch_parity k t n W ht8 ht1 h).mono ?_
    rintro e w' ⟨rfl, ⟨g, q, h1⟩, h2⟩
    exact ⟨rfl, g, q, ⟨h1, h2⟩⟩
  · refine (bch_parity_at k t n g q (lowG t) W h).mono ?_
    rintro e w' ⟨rfl, hb⟩
    exact ⟨rfl, g, q, ⟨h.below hb, grownBy_of_below hb (some k)⟩⟩
/-- What is left of a chunk and its parity. -/
def remL (t : Nat) (data par : ByteArray) : List UInt8 := xorL (divD (lowG t) (List.replicate (lowN8 t) 0) data.data.toList) (cleanL t par.data.toList)
/-- While a chunk is decoded. -/
structure DecAt (w : World) (k t n g q h hp cp : Nat) (r p : List UInt8) (W : World) : Prop where
  rdy : BReady W k t n g (lowG t) q
  rr : Row W w.heap.size 5 1 (.slice (some ⟨h, 0, none⟩) (lowN8 t) (lowN8 t)) (lowN8 t) (bytesV r)
  rp : Row W w.heap.size 5 1 (.slice (some ⟨hp, 0, none⟩) (lowN8 t) cp) (lowN8 t) (bytesV p)
  chg : Chg (· = k) (fun _ => True) w W
  ne : h ≠ g ∧ h ≠ hp ∧ w.heap.size ≤ h
theorem DecAt.put {w : World} {k t n g q h hp cp : Nat} {r p : List UInt8} {W : World} (H : DecAt w k t n g q h hp cp r p W) (i : Nat) (hi : i < lowN8 t) (x : UInt8) :
    DecAt w k t n g q h hp cp (r.set i x) p (W.setCell ⟨h, i, none⟩ (.int .u8 (x.toNat : Int))).drew := by
  have hs := H.rr.store rfl i (by omega) (.int .u8 (x.toNat : Int))
  rw [Nat.zero_add] at hs
  have hset : (bytesV r).set i (.int .u8 (x.toNat : Int)) = bytesV (r.set i x) := by simp [bytesV, List.map_set]
  rw [hset] at hs
  refine ⟨⟨(H.rdy.code.bytes H.rr hs.2).drew, (H.rdy.low.kept hs.2 (.inr ?_)).drew⟩, hs.1.drew, (H.rp.kept hs.2 (.inr ?_)).drew, ?_, H.ne⟩
  · simp only [Value.ownBlock, ne_eq, Option.some.injEq]; exact fun e => H.ne.1 e.symm
  · simp only [Value.ownBlock, ne_eq, Option.some.injEq]; exact fun e => H.ne.2.1 e.symm
  · have h2 := H.chg
    exact ⟨hs.2.os.trans h2.os, hs.2.tape.trans h2.tape, hs.2.output.trans h2.output, Nat.le_trans h2.size hs.2.size, fun b hb hx => (hs.2.block b (Nat.lt_of_lt_of_le hb h2.size) (fun e => by have := H.ne.2.2; injection e with e; omega)).trans (h2.block b hb hx), fun _ => trivial⟩
def DecPost (w : World) (k t n : Nat) (d : ByteArray) (p : ByteArray) (cnt : Int) (e : Ending) (w' : World) : Prop :=
  e = .returned (.tuple #[.string d, .string p, .int .i64 cnt, .bool true]) ∧ CAny k t n w' ∧ Chg (· = k) (fun _ => True) w w'
set_option maxRecDepth 20000 in
set_option maxHeartbeats 8000000 in
theorem bch_decode_clean (k t n : Nat) (data par : ByteArray) (w : World) (ht1 : 1 ≤ t) (ht8 : t ≤ 8) (h : CAny k t n w) (hd : data.size = n) (hn : n ≤ 256) (hp : par.size = lowN8 t) (hz : synZ (remL t data par) (degN t) (2 * t) = true) :
    Calls Tryz.prog 66 #[.pointer (some ⟨k, 0, none⟩), .string data, .string par] w (DecPost w k t n data ⟨(cleanL t par.data.toList).toArray⟩ 0) := by
  have HPA := Aside.mk (bch_parity_rdy k t n w ht8 ht1 h)
  have c1 := h.c1
  have hkl : k < w.heap.size := by obtain ⟨cs, fr, hb⟩ := h.blk; exact (Array.getElem?_eq_some_iff.1 hb).1
  have g1 : (data.size : Int) = (n : Int) := by omega
  have g2 : (par.size : Int) = (lowN8 t : Int) := by omega
  have HT := Aside.mk (And.intro ht1 (And.intro ht8 (And.intro hd (And.intro hn (And.intro hp hz)))))
  clear h hd hn hp hz ht1 ht8
  go_enter Tryz.func66, Tryz.ntmps66
  go_upto_region 3 with (go_at_call 58; refine HPA.out.mono ?_; rintro e w1 ⟨rfl, g, q, H1⟩)
  have kb := Lib.run_convert_string_bytes (P := Tryz.prog) w1 9 73 5 data Tryz.underlying9 Tryz.underlying73 Tryz.underlying5
  have hbw := below_ofString (Below.refl w1.heap.size w1) (Nat.le_refl _) 5 data
  obtain ⟨wA, hwA⟩ : ∃ wA, wA = Lib.bytesWorld w1 5 data := ⟨_, rfl⟩
  rw [← hwA] at kb hbw
  obtain ⟨cA, hcA⟩ : ∃ cA, cA = grownCap w1 data.size 0 5 := ⟨_, rfl⟩
  rw [← hcA] at kb
  have HA := Aside.mk (And.intro (H1.out.1.below hbw) hbw)
  have HCL : Aside (Calls Tryz.prog 112 #[.pointer (some ⟨k, 0, none⟩), .string par] wA (CleanPost wA t par)) := ⟨bch_clean k t n g q (lowG t) par wA HA.out.1 HT.out.2.2.2.2.1 HT.out.1 HT.out.2.1⟩
  have HDV : Aside (∀ W, Below wA.heap.size wA W → Calls Tryz.prog 106 #[.pointer (some ⟨k, 0, none⟩), .string data] W (DivPost W t (lowG t) data)) := ⟨fun W hW => bch_divide k t n g q (lowG t) data W HT.out.2.1 HT.out.1 (HA.out.1.below hW) (by have := HT.out; omega)⟩
  clear c1 hbw hwA hcA
  go_upto_region 4 with (go_at_call 112; refine HCL.out.mono ?_; rintro e w2 ⟨hp, cp, rfl, hrp, hb2⟩; have H2 := Aside.mk (And.intro hrp hb2); clear hrp hb2)
  go_upto_region 5 with (go_at_call 106; refine (HDV.out w2 H2.out.2).mono ?_; rintro e w3 ⟨h, rfl, hrr, hb3⟩; have H3 := Aside.mk (And.intro hrr hb3); clear hrr hb3)
  obtain ⟨r0, hr0⟩ : ∃ r0, r0 = divD (lowG t) (List.replicate (lowN8 t) 0) data.data.toList := ⟨_, rfl⟩
  obtain ⟨p0, hp0⟩ : ∃ p0, p0 = cleanL t par.data.toList := ⟨_, rfl⟩
  have hrem : remL t data par = xorL r0 p0 := by rw [hr0, hp0]; rfl
  have hr0l : r0.length = lowN8 t := by
    rw [hr0, divD_len _ (by rw [lowG_len]; simp)]
    simp
  have hp0l : p0.length = lowN8 t := by
    rw [hp0, cleanL_len, ← HT.out.2.2.2.2.1]
    simp
  have hD : DecAt w k t n g q h hp cp r0 p0 w3 := by
    obtain ⟨hR1, hg1⟩ := H1.out
    obtain ⟨hRA, hbA⟩ := HA.out
    obtain ⟨hrp, hb2⟩ := H2.out
    obtain ⟨hrr, hb3⟩ := H3.out
    rw [← hr0] at hrr
    rw [← hp0] at hrp
    have hgl := (hR1.low.blk g rfl).2.1
    have s1 := hg1.size
    have s2 := hbA.size
    have s3 := hb2.size
    have hhl := (hrr.blk h rfl).1
    have hpl := (hrp.blk hp rfl).2.1
    refine ⟨(hRA.below hb2).below hb3, hrr.mono (by omega), (hrp.below hb3).mono (by omega), ?_, by omega, by omega, by omega⟩
    have c1 : Chg (· = k) (fun _ => True) w w1 := Chg.of_grown hg1 rfl fun _ => trivial
    exact ((c1.trans (Chg.of_below hbA fun _ => trivial)).trans (Chg.of_below hb2 fun _ => trivial)).trans (Chg.of_below hb3 fun _ => trivial)
  have HD0 : Aside (DecAt w k t n g q h hp cp (xorTo r0 p0 0) p0 w3) := ⟨by unfold xorTo; simpa [xorL] using hD⟩
  have HL := Aside.mk (And.intro hr0l (And.intro hp0l (And.intro hrem hp0)))
  have hL14 : lowN8 t ≤ 14 := by have h1 := (degN_le t (by have := HT.out; omega) HT.out.1).2; have := HT.out; unfold lowN8; omega
  obtain ⟨L, hL⟩ : ∃ L, L = lowN8 t := ⟨_, rfl⟩
  clear hr0 hp0 hrem hr0l hp0l hD H2 H3 HA HDV HCL
  rw [← hL]
  have HLL := Aside.mk hL
  rw [← hL] at hL14
  clear hL
  go_wp2_with fail
  go_loopw [13, 50] (fun _ s50 wr => ∃ i : Nat, i ≤ L ∧ s50 = .int .i64 (i : Int) ∧ Aside (DecAt w k t n g q h hp cp (xorTo r0 p0 i) p0 wr)) (fun _ s50 _ => L - (intOf s50).toNat)
  case atStart => exact ⟨0, Nat.zero_le _, rfl, HD0⟩
  case round =>
    obtain ⟨i, hi, rfl, HI⟩ := hrel
    by_cases hlt : i < L
    · have i0 : (i : Int) < (L : Int) := by omega
      have i1 : (0 : Int) ≤ (i : Int) := by omega
      have j1 : IntKind.i64.wrap ((i : Int) + 1) = ((i + 1 : Nat) : Int) := by rw [IntKind.wrap_i64]; omega
      have hlt2 : i < lowN8 t := by rw [← HLL.out]; exact hlt
      obtain ⟨y0, z0⟩ := HI.out.rr.at_ rfl i hlt2
      obtain ⟨y1, z1⟩ := HI.out.rp.at_ rfl i hlt2
      have hxl := xorTo_len (r := r0) (l := p0) (by rw [HL.out.1, HL.out.2.1]) (k := i) (by rw [HL.out.1]; omega)
      rw [Nat.zero_add, bytesV_at (by rw [hxl, HL.out.1]; exact hlt2), xorTo_at (by rw [HL.out.1, HL.out.2.1]) (by rw [HL.out.1]; exact hlt2)] at y0
      rw [Nat.zero_add, bytesV_at (by rw [HL.out.2.1]; exact hlt2)] at y1
      rw [Nat.zero_add] at z0
      obtain ⟨a0, ha0⟩ : ∃ a0, a0 = (r0.getD i 0).toNat := ⟨_, rfl⟩
      obtain ⟨b0, hb0⟩ : ∃ b0, b0 = (p0.getD i 0).toNat := ⟨_, rfl⟩
      rw [← ha0] at y0
      rw [← hb0] at y1
      obtain ⟨zn, hzn⟩ : ∃ z, z = (r0.getD i 0 ^^^ p0.getD i 0).toNat := ⟨_, rfl⟩
      have hx8 : bits .xor .u8 (a0 : Int) (b0 : Int) = (zn : Int) := by rw [ha0, hb0, u8_xorN (UInt8.toNat_lt _) (UInt8.toNat_lt _), hzn, UInt8.toNat_xor]
      have hput := HI.out.put i hlt2 (r0.getD i 0 ^^^ p0.getD i 0)
      rw [xorTo_set (by rw [HL.out.1, HL.out.2.1]) (by rw [HL.out.1]; exact hlt2), ← hzn] at hput
      have HF := Aside.mk (And.intro hput hlt)
      clear ha0 hb0 hzn hput hxl z1 hlt hlt2
      go_upto_region 8 with fail
      go_region
      all_goals
        go_wp2
        go_roundw
        case rel => exact ⟨i + 1, HF.out.2, rfl, ⟨HF.out.1⟩⟩
        case measure => have := HF.out.2; simp [intOf]; omega
    · have i0 : ¬ (i : Int) < (L : Int) := by omega
      obtain rfl : i = L := by omega
      have hx := HI.out
      rw [HLL.out, show lowN8 t = r0.length from HL.out.1.symm, xorTo_all (by rw [HL.out.1, HL.out.2.1]), ← HL.out.2.2.1] at hx
      have HX := Aside.mk hx
      have HSY : Aside (Calls Tryz.prog 113 #[.pointer (some ⟨k, 0, none⟩), .slice (some ⟨h, 0, none⟩) i i] wr fun e w' => ∃ o, e = .returned (.tuple #[.slice (some ⟨o, 0, none⟩) (2 * t) (2 * t), .bool true]) ∧ (∃ r xs, Aside (SynAt wr k t n g q h (lowN8 t) o (2 * t) (lowG t) r xs w.heap.size w'))) := ⟨by
        have hh := bch_syndromes wr k t n g q h (lowN8 t) (lowG t) (remL t data par) w.heap.size HX.out.rdy HX.out.rr HT.out.1 HT.out.2.1
        rw [← HLL.out] at hh
        refine hh.mono ?_
        rintro e w' ⟨o, rfl, ho, hsy⟩
        rw [HT.out.2.2.2.2.2]
        exact ⟨o, rfl, _, _, ⟨by rw [← HLL.out]; exact hsy⟩⟩⟩
      clear hx hlt hi
      go_upto_region 12 with (go_at_call 113; refine HSY.out.mono ?_; rintro e w5 ⟨o, rfl, r5, xs5, H5⟩)
      have hrp := HX.out.rp
      obtain ⟨kcs, kfr, hkb⟩ : ∃ cs fr, wr.heap[k]? = some (.cells cs 231 fr) := by obtain ⟨_, _, _, _, _, _, hb⟩ := HX.out.rdy.code.blk; exact ⟨_, _, hb⟩
      have hrp5 := hrp.keptT H5.out.chg (fun q cs ty fr h1 h2 => by
        subst h2
        rw [hkb] at h1
        simp only [Option.some.injEq, Obj.cells.injEq] at h1
        rw [← h1.2.1]
        decide)
      rw [← HLL.out] at hrp5
      have hcv1 : (convert 73 9 (.slice (some ⟨hp, 0, none⟩) i cp)).run Tryz.prog w5.drew = .ok (.string ⟨p0.toArray⟩) w5.drew := hrp5.drew.toString (P := Tryz.prog) Tryz.underlying73 Tryz.underlying5 Tryz.underlying9
      rw [HL.out.2.2.2] at hcv1
      have HZ : Aside (DecPost w k t n data ⟨(cleanL t par.data.toList).toArray⟩ 0 (.returned (.tuple #[.string data, .string ⟨(cleanL t par.data.toList).toArray⟩, .int .i64 0, .bool true])) w5.drew) := ⟨⟨rfl, .inr ⟨g, q, H5.out.drew.rdy⟩, HX.out.chg.trans (H5.out.drew.chg)⟩⟩
      clear hrp hrp5 hkb
      go_region
      all_goals
        go_wp2
        refine bodyPost_ret (v := .tuple #[.string data, .string ⟨(cleanL t par.data.toList).toArray⟩, .int .i64 0, .bool true]) (by simp [results, Tryz.results66, go_sem]) rfl HZ.out
end Go.Proofs.YtkgacnenmflegaaGreatDoor
