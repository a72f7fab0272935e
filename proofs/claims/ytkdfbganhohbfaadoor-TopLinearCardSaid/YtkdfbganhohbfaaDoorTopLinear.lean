/-
  Chunks that are added bit by bit have parities that are added likewise.
-/
import Derived.Test.YtkdfbganhohbfaaDoorBchEncode
import Derived.Test.YtkdfbganhohbfaaDoorRelTail
import Derived.Test.YtkdfbganhohbfaaDoorRelG
import Derived.Test.YtkdfbganhohbfaaDoorCrcWalks
namespace Go.Proofs.YtkdfbganhohbfaaDoor
open Go.RowKit

/-- The bits added so far. -/
structure LinAt (w : World) (g k : Nat) (l : List UInt8) (wr : World) : Prop where
  row : Row wr w.heap.size 5 1 (.slice (some ⟨g, 0, none⟩) k k) k (bytesV l)
  new : w.heap.size ≤ g
  bel : Below w.heap.size w wr
  nib : Nib wr
/-- A ready code beside them. -/
structure LinR (w : World) (g k c t : Nat) (sl l : List UInt8) (wr : World) : Prop where
  code : ∃ g' q, BReady wr c t k g' l q
  lin : LinAt w g k sl wr
theorem LinR.below {w wr w' : World} {g k c t : Nat} {sl l : List UInt8} (h : LinR w g k c t sl l wr) (hn : Nib w) (hb : Below wr.heap.size wr w') : LinR w g k c t sl l w' := by
  obtain ⟨g', q, hR⟩ := h.code
  have hbl : Below w.heap.size w w' := h.lin.bel.trans (hb.mono h.lin.bel.size)
  exact ⟨⟨g', q, hR.below hb⟩, ⟨h.lin.row.below hb, h.lin.new, hbl, hn.below hbl⟩⟩
theorem LinR.enc {w wr : World} {g k c t : Nat} {sl l : List UInt8} (h : LinR w g k c t sl l wr) (hn : Nib w) (ht8 : t ≤ 8) (ht1 : 1 ≤ t) (hk : k ≤ 256) (s : ByteArray) (hs : s.size = k) :
    Calls Tryd.prog 6 #[.pointer (some ⟨c, 0, none⟩), .string s] wr fun e w' => e = .returned (.tuple #[.string (encD t l s), .int .i64 0]) ∧ Aside (LinR w g k c t sl l w') := by
  obtain ⟨g', q, hR⟩ := h.code
  refine (bch_encode_at c t k g' q l s wr ht8 ht1 hR hs hk).mono ?_
  rintro e w' ⟨rfl, hb⟩
  exact ⟨rfl, ⟨h.below hn hb⟩⟩
theorem LinR.parity {w wr : World} {g k c t : Nat} {sl l : List UInt8} (h : LinR w g k c t sl l wr) (hn : Nib w) :
    Calls Tryd.prog 7 #[.pointer (some ⟨c, 0, none⟩)] wr fun e w' => e = .returned (.int .i64 (lowN8 t : Int)) ∧ Aside (LinR w g k c t sl l w') := by
  obtain ⟨g', q, hR⟩ := h.code
  refine (bch_parity_at c t k g' q l wr hR).mono ?_
  rintro e w' ⟨rfl, hb⟩
  exact ⟨rfl, ⟨h.below hn hb⟩⟩
theorem LinR.text {w wr : World} {g k c t : Nat} {sl l : List UInt8} (h : LinR w g k c t sl l wr) (m : Nat) :
    (convert 24 9 (.slice (some ⟨g, 0, none⟩) k k)).run Tryd.prog (wr.drewN m) = .ok (.string ⟨sl.toArray⟩) (wr.drewN m) :=
  Row.toString (P := Tryd.prog) Tryd.underlying24 Tryd.underlying5 Tryd.underlying9 (h.lin.row.drewN m)
theorem encD_size {t : Nat} {l : List UInt8} (h : l.length = lowN8 t) (s : ByteArray) : (encD t l s).size = lowN8 t := by
  rw [← data_len]
  show (divD l (List.replicate (lowN8 t) 0) s.data.toList).length = _
  rw [divD_len _ (by simpa using h), List.length_replicate]
theorem encD_xor {t : Nat} {l : List UInt8} (h : l.length = lowN8 t) (a b s : ByteArray) (hab : a.data.toList.length = b.data.toList.length) (hs : s.data.toList = xorL a.data.toList b.data.toList) :
    (encD t l s).data.toList = xorL (encD t l a).data.toList (encD t l b).data.toList := by
  show divD l (List.replicate (lowN8 t) 0) s.data.toList = xorL (divD l (List.replicate (lowN8 t) 0) a.data.toList) (divD l (List.replicate (lowN8 t) 0) b.data.toList)
  rw [hs, ← divD_xor a.data.toList b.data.toList (by simpa using h) rfl hab, xorL_zero]
theorem xor_at (p q r : ByteArray) (L : Nat) (hp : p.size = L) (hq : q.size = L) (hr : r.size = L) (h : r.data.toList = xorL p.data.toList q.data.toList) (i : Nat) (hi : i < L) :
    p[i] ^^^ q[i] = r[i] := by
  have h1 : r.data.toList[i]? = (xorL p.data.toList q.data.toList)[i]? := by rw [h]
  have ep : p.data.toList[i]? = some p[i] := by rw [List.getElem?_eq_getElem (by rw [data_len]; omega)]; rfl
  have eq : q.data.toList[i]? = some q[i] := by rw [List.getElem?_eq_getElem (by rw [data_len]; omega)]; rfl
  have er : r.data.toList[i]? = some r[i] := by rw [List.getElem?_eq_getElem (by rw [data_len]; omega)]; rfl
  rw [er] at h1
  simp only [xorL, List.getElem?_zipWith, ep, eq] at h1
  simpa using h1.symm
theorem sums_zero (a b : List UInt8) (k : Nat) (ha : a.length = k) (hb : b.length = k) : Crc.sum a ^^^ Crc.sum b ^^^ Crc.sum (xorL a b) = Crc.sum (List.replicate k 0) := by
  rw [Crc.sum_three a b (xorL a b) (by omega) (by simp [xorL]; omega)]
  congr 1
  apply List.ext_getElem?
  intro i
  simp only [Crc.xorL, xorL, List.getElem?_zipWith, List.getElem?_replicate]
  by_cases h : i < k
  · rw [List.getElem?_eq_getElem (show i < a.length by omega), List.getElem?_eq_getElem (show i < b.length by omega), if_pos h]
    simp
  · rw [List.getElem?_eq_none (show a.length ≤ i by omega), if_neg h]
/-- The text of a row of noughts. -/
theorem zeros_text {W : World} {b i : Nat} (h : W.heap[b]? = some (.cells (madeCells #[.int .u8 0] i) 5 (0, 0))) (hi : i ≤ 1000000) :
    (convert 24 9 (.slice (some ⟨b, 0, none⟩) i i)).run Tryd.prog W = .ok (.string ⟨(List.replicate i (0 : UInt8)).toArray⟩) W := by
  have hl := madeCells_list (.int .u8 0) i
  have hs : (madeCells #[.int .u8 0] i).size = i := by rw [← Array.length_toList, hl, List.length_replicate]
  have hr : Row W 0 5 1 (.slice (some ⟨b, 0, none⟩) i i) i (bytesV (List.replicate i 0)) := by
    rw [← bytesV_zeros]
    refine ⟨by simp, .inr ⟨b, 0, i, _, _, rfl, Nat.zero_le _, h, Nat.le_refl _, by simp only [maxLen]; omega, by omega, fun j hj => by omega, ?_⟩⟩
    rw [hl]; simp
  exact hr.toString (P := Tryd.prog) Tryd.underlying24 Tryd.underlying5 Tryd.underlying9
theorem low_le {t : Nat} (h8 : t ≤ 8) (h1 : 1 ≤ t) : lowN8 t ≤ 14 := by
  have := (degN_le t (by omega) h1).2
  unfold lowN8
  omega
set_option maxRecDepth 100000 in
set_option maxHeartbeats 2000000 in
theorem topLinear_walk (t0 : Int) (a0 b0 : ByteArray) (w : World) (_h1 : (Lit.int .i64 t0).wf = true) (ha0 : a0.size ≤ 140737488351232) (hb0 : b0.size ≤ 140737488351232) (hnib : Nib w) :
    Calls Tryd.prog 3 #[.int .i64 t0, .string a0, .string b0] w fun e w' => e = .returned (.bool true) ∧ Below w.heap.size w w' := by
  have HN := Aside.mk hnib
  have HAB := Aside.mk (And.intro ha0 hb0)
  clear hnib ha0 hb0
  go_enter Tryd.func3, Tryd.ntmps3
  go_upto_region 1 with fail
  go_cut [7] (fun s7 wx => ∃ n : Nat, s7 = .int .i64 (n : Int) ∧ n ≤ 256 ∧ n ≤ a0.size ∧ n ≤ b0.size ∧ w = wx)
  case first =>
    go_wp2
    all_goals
      go_meet
      first
      | exact ⟨256, rfl, by omega, by omega, by omega, rfl⟩
      | exact ⟨a0.size, rfl, by omega, by omega, by omega, rfl⟩
      | exact ⟨b0.size, rfl, by omega, by omega, by omega, rfl⟩
      | trace_state
  case rest =>
  obtain ⟨n, rfl, hn, hna, hnb, rfl⟩ := hcut
  have h9 := nine_sum
  obtain ⟨bad, hbad⟩ : ∃ bad, bad = decide (t0 < 1 ∨ 8 < t0 ∨ n < 1) := ⟨_, rfl⟩
  have HBD := Aside.mk hbad
  have HNN := Aside.mk (And.intro hn (And.intro hna hnb))
  clear hbad hn hna hnb
  apply_assumption
  go_upto_region 4 with (go_at_call 4; refine (crc_sum _ _ (by decide) HN.out).mono ?_; rintro e w' ⟨rfl, rfl⟩)
  clear h9
  go_cut [35] (fun s35 wx => s35 = .bool bad ∧ w = wx)
  case first =>
    by_cases h1 : t0 < 1
    · go_wp2
      go_meet
      exact ⟨by rw [HBD.out]; simp [h1], rfl⟩
    · by_cases h2 : 8 < t0
      · go_wp2
        go_meet
        exact ⟨by rw [HBD.out]; simp [h2], rfl⟩
      · by_cases h3 : (n : Int) < 1
        · go_wp2
          go_meet
          exact ⟨by rw [HBD.out]; simp; omega, rfl⟩
        · go_wp2
          go_meet
          exact ⟨by rw [HBD.out]; simp; omega, rfl⟩
  case rest =>
  obtain ⟨rfl, rfl⟩ := hcut
  apply_assumption
  go_cut [0, 1, 2, 7] (fun s0 s1 s2 s7 wx => ∃ t k : Nat, ∃ a b : ByteArray, s0 = .int .i64 (t : Int) ∧ s1 = .string a ∧ s2 = .string b ∧ s7 = .int .i64 (k : Int) ∧ 1 ≤ t ∧ t ≤ 8 ∧ 1 ≤ k ∧ k ≤ 256 ∧ k ≤ a.size ∧ k ≤ b.size ∧ w = wx)
  case first =>
    cases bad with
    | true =>
      go_wp2
      go_meet
      exact ⟨2, 3, ⟨#[97, 98, 99]⟩, ⟨#[120, 121, 122]⟩, rfl, rfl, rfl, rfl, by omega, by omega, by omega, by omega, by decide, by decide, rfl⟩
    | false =>
      have hn := of_decide_eq_false HBD.out.symm
      have HT := Aside.mk (show 1 ≤ t0 ∧ t0 ≤ 8 ∧ 1 ≤ n by omega)
      clear hn
      go_wp2
      go_meet
      exact ⟨t0.toNat, n, a0, b0, by have := HT.out; rw [Int.toNat_of_nonneg (by omega)], rfl, rfl, rfl, by have := HT.out; omega, by have := HT.out; omega, HT.out.2.2, HNN.out.1, HNN.out.2.1, HNN.out.2.2, rfl⟩
  case rest =>
  obtain ⟨t, k, a1, b1, rfl, rfl, rfl, rfl, ht1, ht8, hk1, hk, hka, hkb, rfl⟩ := hcut
  have hka2 : (k : Int) ≤ (a1.size : Int) := by omega
  have hkb2 : (k : Int) ≤ (b1.size : Int) := by omega
  have hk0 : (0 : Int) ≤ (k : Int) := by omega
  have HT := Aside.mk (And.intro ht1 (And.intro ht8 (And.intro hk1 hk)))
  have HK := Aside.mk (And.intro hka hkb)
  clear HBD HNN ht1 ht8 hk1 hk hka hkb HAB _h1
  apply_assumption
  go_upto_region 7 with fail
  go_cut [1, 2] (fun s1 s2 wx => ∃ a b : ByteArray, ∃ q : Nat, s1 = .string a ∧ s2 = .string b ∧ a.size = k ∧ b.size = k ∧ w.drewN q = wx)
  case first =>
    go_quiet (fail)
    simp only [Exit.then]
    apply_assumption
    go_meet
    exact ⟨_, _, nq, rfl, rfl, by rw [ByteArray.size_extract]; have := HK.out; omega, by rw [ByteArray.size_extract]; have := HK.out; omega, rfl⟩
  case rest =>
  obtain ⟨a, b, q, rfl, rfl, hsa, hsb, hwc⟩ := hcut
  have HW : Aside (Nib wc ∧ Below w.heap.size w wc) := ⟨by subst hwc; exact HN.out.drewN q, by subst hwc; exact ⟨rfl, rfl, rfl, Nat.le_refl _, fun _ _ => rfl⟩⟩
  have HS := Aside.mk (And.intro hsa hsb)
  have hmk := make_bytes k (by have := HT.out; omega)
  clear hwc hsa hsb hka2 hkb2 HK
  apply_assumption
  go_upto_region 10 with fail
  obtain ⟨al, hal⟩ : ∃ al, al = a.data.toList := ⟨_, rfl⟩
  obtain ⟨bl, hbl⟩ : ∃ bl, bl = b.data.toList := ⟨_, rfl⟩
  have hl : al.length = k ∧ bl.length = k := by rw [hal, hbl, data_len, data_len]; exact HS.out
  have HAL := Aside.mk (And.intro hal (And.intro hbl hl))
  clear hal hbl hl hmk
  have hz := Row.zeros wc wc.heap.size 5 (.int .u8 0) k (Nat.le_refl _) (by have := HT.out; simp only [maxLen]; omega)
  have hzb := (Below.refl wc.heap.size wc).alloc (Nat.le_refl _) (.cells (madeCells #[.int .u8 0] k) 5)
  have e0 : bytesV (List.replicate k 0) = List.replicate k (.int .u8 0) := by simp [bytesV]
  rw [← e0] at hz
  obtain ⟨g, hg⟩ : ∃ g, g = wc.heap.size := ⟨_, rfl⟩
  have H1 : Aside (LinAt w g k (List.replicate k 0) (wc.alloc (.cells (madeCells #[.int .u8 0] k) 5))) := ⟨by
    rw [hg]
    exact ⟨hz.mono HW.out.2.size, HW.out.2.size, HW.out.2.trans (hzb.mono HW.out.2.size), HW.out.1.below hzb⟩⟩
  rw [← hg]
  generalize wc.alloc (.cells (madeCells #[.int .u8 0] k) 5) = w1 at *
  clear hz hzb e0 hg HW
  go_loopw [9] (fun s9 wr => ∃ i : Nat, s9 = .int .i64 (i : Int) ∧ i ≤ k ∧ Aside (LinAt w g k (xorL (al.take i) (bl.take i) ++ List.replicate (k - i) 0) wr)) (fun s9 _ => k - (intOf s9).toNat)
  case atStart => exact ⟨0, rfl, Nat.zero_le _, ⟨by simpa [xorL] using H1.out⟩⟩
  case round =>
    obtain ⟨i, rfl, hik, HI⟩ := hrel
    by_cases hlt : i < k
    · have hal := HAL.out.1
      have hbl := HAL.out.2.1
      have hi256 : i < 256 := by have := HT.out; omega
      have hia : i < a.size := by rw [HS.out.1]; exact hlt
      have hib : i < b.size := by rw [HS.out.2]; exact hlt
      have hne : (xorL (al.take i) (bl.take i) ++ List.replicate (k - i) 0).set i (a[i] ^^^ b[i]) = xorL (al.take (i + 1)) (bl.take (i + 1)) ++ List.replicate (k - (i + 1)) 0 := by
        have h3l : (xorL (al.take i) (bl.take i)).length = i := by simp [xorL]; have := HAL.out.2.2; omega
        rw [List.set_append_right _ _ (by omega), h3l, Nat.sub_self, hal, hbl, take_snoc a i hia, take_snoc b i hib]
        have h1 : (a.data.toList.take i).length = (b.data.toList.take i).length := by simp; omega
        unfold xorL
        rw [List.zipWith_append h1, List.append_assoc]
        congr 1
        rw [show k - i = (k - (i + 1)) + 1 by omega, List.replicate_succ]
        rfl
      have HNe := Aside.mk hne
      have hll : i < (xorL (al.take i) (bl.take i) ++ List.replicate (k - i) 0).length := by
        have := HAL.out.2.2
        simp [xorL]; omega
      obtain ⟨hc1, hf1⟩ := HI.out.row.byteAt i hll
      have hset := HI.out.row.byteSet i hll (a[i] ^^^ b[i])
      rw [UInt8.toNat_xor] at hset
      have hx1 := u8_xor_nat _ _ a[i].toNat_lt b[i].toNat_lt
      have hk0 : (0 : Int) ≤ (i : Int) := by omega
      have hk1 : (i : Int) < (k : Int) := by omega
      have hk2 : (i : Int) < (a.size : Int) := by omega
      have hk3 : (i : Int) < (b.size : Int) := by omega
      have HSet := Aside.mk hset
      clear hset hne hal hbl
      go_wp2_with fail
      go_region
      go_wp2_with fail
      go_roundw
      case rel =>
        refine ⟨i + 1, by go_num, by omega, ⟨?_⟩⟩
        have H := HI.out
        have hs := HSet.out
        rw [HNe.out] at hs
        exact ⟨hs.1.drew, H.new, (H.bel.trans hs.2).drew, HN.out.below (H.bel.trans hs.2).drew⟩
      case measure => simp [intOf]; omega
    · obtain rfl : i = k := by omega
      obtain ⟨sl, hsl⟩ : ∃ sl, sl = xorL al bl := ⟨_, rfl⟩
      have HL : Aside (LinAt w g i sl wr) := ⟨by
        have h := HI.out
        rw [Nat.sub_self, List.replicate_zero, List.append_nil, List.take_of_length_le (by have := HAL.out.2.2; omega), List.take_of_length_le (by have := HAL.out.2.2; omega), ← hsl] at h
        exact h⟩
      have hsll : sl.length = i := by rw [hsl, xorL_len (by have := HAL.out.2.2; omega)]; exact HAL.out.2.2.1
      obtain ⟨sx, hsx⟩ : ∃ sx : ByteArray, sx = ⟨sl.toArray⟩ := ⟨_, rfl⟩
      have hsxl : sx.data.toList = sl := by rw [hsx]
      have HSX := Aside.mk (And.intro hsl (And.intro hsll (And.intro hsx hsxl)))
      clear HI hsl hsll hsx hsxl hlt
      have hsz : sx.size = i := by rw [← data_len, HSX.out.2.2.2]; exact HSX.out.2.1
      have HSZ := Aside.mk hsz
      clear hsz
      go_upto_region 14 with (go_at_call 5; refine (bch_new t i wr HT.out.2.1 HT.out.1 HT.out.2.2.1 HT.out.2.2.2).mono ?_; rintro e w2 ⟨rfl, HBN⟩)
      have HE1 : Aside (Calls Tryd.prog 6 #[.pointer (some ⟨wr.heap.size, 0, none⟩), .string a] w2 fun e w3 => ∃ l, e = .returned (.tuple #[.string (encD t l a), .int .i64 0]) ∧ Aside (l.length = lowN8 t ∧ LinR w g i wr.heap.size t sl l w3)) := ⟨by
        refine (bch_encode wr.heap.size t i a w2 HT.out.2.1 HT.out.1 HBN.out.1 HS.out.1 HT.out.2.2.2).mono ?_
        rintro e w3 ⟨g', l, q, rfl, hR, hg⟩
        have H := HL.out
        have hlt : g < wr.heap.size := (H.row.blk g rfl).2.1
        have hsz := Nat.le_trans H.bel.size HBN.out.2.size
        have hbl : Below w.heap.size w w3 := (H.bel.trans (HBN.out.2.mono H.bel.size)).grown hg hsz (fun k hk => by injection hk with hk; have := H.bel.size; omega)
        exact ⟨l, rfl, ⟨hR.len, ⟨⟨g', q, hR⟩, ⟨(H.row.below HBN.out.2).kept hg (Or.inr (by simp only [Value.ownBlock]; intro h; injection h with h; omega)), H.new, hbl, HN.out.below hbl⟩⟩⟩⟩⟩
      generalize wr.heap.size = c at *
      clear HL HBN
      go_upto_region 17 with (obtain ⟨HI⟩ := HE1; go_at_call 6; refine HI.mono ?_; rintro e w3 ⟨l, rfl, HQ⟩; clear HI)
      have HE2 := Aside.mk (HQ.out.2.enc HN.out HT.out.2.1 HT.out.1 HT.out.2.2.2 b HS.out.2)
      go_upto_region 18 with (obtain ⟨HI⟩ := HE2; go_at_call 6; refine HI.mono ?_; rintro e w4 ⟨rfl, HR4⟩; clear HI)
      have HE3 := Aside.mk (HR4.out.enc HN.out HT.out.2.1 HT.out.1 HT.out.2.2.2 sx HSZ.out)
      have hcv := HR4.out.text 0
      rw [← HSX.out.2.2.1] at hcv
      change (convert 24 9 (.slice (some ⟨g, 0, none⟩) i i)).run Tryd.prog w4 = .ok (.string sx) w4 at hcv
      go_upto_region 19 with (obtain ⟨HI⟩ := HE3; go_at_call 6; refine HI.mono ?_; rintro e w5 ⟨rfl, HR5⟩; clear HI)
      clear hcv HR4
      have hll := HQ.out.1
      have hxx := encD_xor hll a b sx (by rw [← HAL.out.1, ← HAL.out.2.1]; have := HAL.out.2.2; omega) (by rw [HSX.out.2.2.2, HSX.out.1, HAL.out.1, HAL.out.2.1])
      have hp := encD_size hll a
      have hq := encD_size hll b
      have hr := encD_size hll sx
      have hlow := low_le HT.out.2.1 HT.out.1
      have HP := Aside.mk (HR5.out.parity HN.out)
      generalize encD t l a = pa at *
      generalize encD t l b = pb at *
      generalize encD t l sx = pc at *
      generalize lowN8 t = L at *
      have HX : Aside (∀ j, (hj : j < L) → bits .xor .u8 (pa[j].toNat : Int) (pb[j].toNat : Int) = (pc[j].toNat : Int)) := ⟨fun j hj => by
        have h := xor_at pa pb pc L hp hq hr hxx j hj
        rw [u8_xor_nat _ _ pa[j].toNat_lt pb[j].toNat_lt, ← UInt8.toNat_xor, h]⟩
      have HPZ := Aside.mk (And.intro hp (And.intro hq hr))
      clear hxx hll
      go_upto_region 21 with (obtain ⟨HI⟩ := HP; go_at_call 7; refine HI.mono ?_; rintro e w6 ⟨rfl, HR6⟩; clear HI)
      clear HR5 HQ
      go_upto_region 22 with fail
      go_loopw [18] (fun s18 wx => ∃ j : Nat, s18 = .int .i64 (j : Int) ∧ j ≤ L ∧ Aside (LinR w g i c t sl l wx)) (fun s18 _ => L - (intOf s18).toNat)
      case atStart => exact ⟨0, rfl, Nat.zero_le _, HR6⟩
      case round =>
        obtain ⟨j, rfl, hjL, HJ⟩ := hrel
        by_cases hlt : j < L
        · have hj0 : (0 : Int) ≤ (j : Int) := by omega
          have hj1 : (j : Int) < (L : Int) := by omega
          have hj2 : (j : Int) < (pa.size : Int) := by omega
          have hj3 : (j : Int) < (pb.size : Int) := by omega
          have hj4 : (j : Int) < (pc.size : Int) := by omega
          have hx := HX.out j hlt
          go_wp2_with fail
          go_region
          go_wp2_with fail
          go_roundw
          case rel => exact ⟨j + 1, by go_num, by omega, ⟨HJ.out.below HN.out ⟨rfl, rfl, rfl, Nat.le_refl _, fun _ _ => rfl⟩⟩⟩
          case measure => simp [intOf]; omega
        · obtain rfl : j = L := by omega
          have hjs : ¬ (j : Int) < (pa.size : Int) := by omega
          have HJS := Aside.mk hjs
          have hzs := sums_zero al bl i HAL.out.2.2.1 HAL.out.2.2.2
          have h1 : (a.size : Nat) ≤ 9223372036854775807 := by have := HS.out; have := HT.out; omega
          have h2 : (b.size : Nat) ≤ 9223372036854775807 := by have := HS.out; have := HT.out; omega
          have h3 : (sx.size : Nat) ≤ 9223372036854775807 := by have := HSZ.out; have := HT.out; omega
          have hq1 := xor32 (Crc.sum_lt al) (Crc.sum_lt bl)
          have hq2 := xor32 (Crc.xor_lt32 (Crc.sum_lt al) (Crc.sum_lt bl)) (Crc.sum_lt sl)
          rw [HSX.out.1, hzs, ← HSX.out.1] at hq2
          have HSM := Aside.mk (And.intro h1 (And.intro h2 h3))
          clear h1 h2 h3 hzs
          have hS1 : ∀ W, Nib W → Calls Tryd.prog 4 #[.string a] W fun e w' => e = .returned (.int .u32 (Crc.sum al : Nat)) ∧ W = w' := fun W h => by rw [HAL.out.1]; exact crc_sum a W HSM.out.1 h
          have hS2 : ∀ W, Nib W → Calls Tryd.prog 4 #[.string b] W fun e w' => e = .returned (.int .u32 (Crc.sum bl : Nat)) ∧ W = w' := fun W h => by rw [HAL.out.2.1]; exact crc_sum b W HSM.out.2.1 h
          have hS3 : ∀ W, Nib W → Calls Tryd.prog 4 #[.string sx] W fun e w' => e = .returned (.int .u32 (Crc.sum sl : Nat)) ∧ W = w' := fun W h => by rw [← HSX.out.2.2.2]; exact crc_sum sx W HSM.out.2.2 h
          have hS4 : ∀ W, Nib W → Calls Tryd.prog 4 #[.string ⟨(List.replicate i (0 : UInt8)).toArray⟩] W fun e w' => e = .returned (.int .u32 (Crc.sum (List.replicate i (0 : UInt8)) : Nat)) ∧ W = w' := fun W h => crc_sum ⟨(List.replicate i (0 : UInt8)).toArray⟩ W (by rw [← data_len]; simp; have := HT.out; omega) h
          have HSS := Aside.mk (And.intro hS1 (And.intro hS2 (And.intro hS3 hS4)))
          have HQ12 := Aside.mk (And.intro hq1 hq2)
          clear hS1 hS2 hS3 hS4 hq1 hq2
          obtain ⟨z1, hz1⟩ : ∃ z, z = Crc.sum al := ⟨_, rfl⟩
          obtain ⟨z2, hz2⟩ : ∃ z, z = Crc.sum bl := ⟨_, rfl⟩
          obtain ⟨z3, hz3⟩ : ∃ z, z = Crc.sum sl := ⟨_, rfl⟩
          obtain ⟨z4, hz4⟩ : ∃ z, z = Crc.sum (List.replicate i (0 : UInt8)) := ⟨_, rfl⟩
          rw [← hz1, ← hz2, ← hz3, ← hz4] at HSS HQ12
          clear hz1 hz2 hz3 hz4
          obtain ⟨nz, hnz⟩ : ∃ nz : ByteArray, nz = ⟨(List.replicate i (0 : UInt8)).toArray⟩ := ⟨_, rfl⟩
          rw [← hnz] at HSS
          have HNZ := Aside.mk hnz
          clear hnz
          have hmk := make_bytes i (by have := HT.out; omega)
          have hi0 : (i : Int) ≤ 256 := by have := HT.out; omega
          go_upto_region 26 with fail
          refine wp_region_relG (by kernel_rfl) (by kernel_rfl) (rel_small (by kernel_rfl)) (tailV [(6, .val (.bool true)), (134, .val (.string a)), (135, .val (.int .u32 (z1 : Nat))), (136, .val (.string b)), (137, .val (.int .u32 (z2 : Nat))), (138, .val (.int .u32 ((z1 ^^^ z2 : Nat) : Int))), (139, .val (.slice (some ⟨g, 0, none⟩) i i)), (140, .val (.string sx)), (141, .val (.int .u32 (z3 : Nat))), (142, .val (.int .u32 (z4 : Nat))), (143, .val (.int .i64 i)), (144, .row (madeCells #[.int .u8 0] i) 5 i), (145, .val (.string nz)), (146, .val (.int .u32 (z4 : Nat))), (147, .val (.bool true))]) (tailV_stable _) ⟨?_, ?_, ?_, ?_, ?_, ?_, ?_, ?_, ?_, ?_, ?_, ?_, ?_, ?_, ?_, trivial⟩ ?_
          · -- 134 := move t1
            intro f W hW hold hd K hK
            refine .inl ⟨wanted_free rfl _, ?_⟩
            dsimp only [bare]
            have ze1 : f 1 = .string a := hold 1 rfl
            have HK : ∀ v W', Below W.heap.size W W' → tailV _ 134 v W' → K { tmps := #[f 0, f 1, f 2, f 3, f 4, f 5, f 6, f 7, f 8, f 9, f 10, f 11, f 12, f 13, f 14, f 15, f 16, f 17, f 18, f 19, f 20, f 21, f 22, f 23, f 24, f 25, f 26, f 27, f 28, f 29, f 30, f 31, f 32, f 33, f 34, f 35, f 36, f 37, f 38, f 39, f 40, f 41, f 42, f 43, f 44, f 45, f 46, f 47, f 48, f 49, f 50, f 51, f 52, f 53, f 54, f 55, f 56, f 57, f 58, f 59, f 60, f 61, f 62, f 63, f 64, f 65, f 66, f 67, f 68, f 69, f 70, f 71, f 72, f 73, f 74, f 75, f 76, f 77, f 78, f 79, f 80, f 81, f 82, f 83, f 84, f 85, f 86, f 87, f 88, f 89, f 90, f 91, f 92, f 93, f 94, f 95, f 96, f 97, f 98, f 99, f 100, f 101, f 102, f 103, f 104, f 105, f 106, f 107, f 108, f 109, f 110, f 111, f 112, f 113, f 114, f 115, f 116, f 117, f 118, f 119, f 120, f 121, f 122, f 123, f 124, f 125, f 126, f 127, f 128, f 129, f 130, f 131, f 132, f 133, v, f 135, f 136, f 137, f 138, f 139, f 140, f 141, f 142, f 143, f 144, f 145, f 146, f 147], defers := [] } W' := hK
            change wpList _ #[_] _ [_] { tmps := #[f 0, f 1, f 2, f 3, f 4, f 5, f 6, f 7, f 8, f 9, f 10, f 11, f 12, f 13, f 14, f 15, f 16, f 17, f 18, f 19, f 20, f 21, f 22, f 23, f 24, f 25, f 26, f 27, f 28, f 29, f 30, f 31, f 32, f 33, f 34, f 35, f 36, f 37, f 38, f 39, f 40, f 41, f 42, f 43, f 44, f 45, f 46, f 47, f 48, f 49, f 50, f 51, f 52, f 53, f 54, f 55, f 56, f 57, f 58, f 59, f 60, f 61, f 62, f 63, f 64, f 65, f 66, f 67, f 68, f 69, f 70, f 71, f 72, f 73, f 74, f 75, f 76, f 77, f 78, f 79, f 80, f 81, f 82, f 83, f 84, f 85, f 86, f 87, f 88, f 89, f 90, f 91, f 92, f 93, f 94, f 95, f 96, f 97, f 98, f 99, f 100, f 101, f 102, f 103, f 104, f 105, f 106, f 107, f 108, f 109, f 110, f 111, f 112, f 113, f 114, f 115, f 116, f 117, f 118, f 119, f 120, f 121, f 122, f 123, f 124, f 125, f 126, f 127, f 128, f 129, f 130, f 131, f 132, f 133, f 134, f 135, f 136, f 137, f 138, f 139, f 140, f 141, f 142, f 143, f 144, f 145, f 146, f 147], defers := [] } W
            clear hK hd hold
            simp only [ze1] at HK ⊢
            clear ze1
            have HK := Aside.mk HK
            go_wp2
            exact HK.out _ _ (Below.refl _ _) rfl
          · -- 135 := CALL f4 chert/crc.Sum [t134] : [9]
            intro f W hW hold hd K hK
            refine .inl ⟨wanted_free rfl _, ?_⟩
            dsimp only [bare]
            have ze134 : f 134 = .string a := hd 134 rfl rfl
            have HK : ∀ v W', Below W.heap.size W W' → tailV _ 135 v W' → K { tmps := #[f 0, f 1, f 2, f 3, f 4, f 5, f 6, f 7, f 8, f 9, f 10, f 11, f 12, f 13, f 14, f 15, f 16, f 17, f 18, f 19, f 20, f 21, f 22, f 23, f 24, f 25, f 26, f 27, f 28, f 29, f 30, f 31, f 32, f 33, f 34, f 35, f 36, f 37, f 38, f 39, f 40, f 41, f 42, f 43, f 44, f 45, f 46, f 47, f 48, f 49, f 50, f 51, f 52, f 53, f 54, f 55, f 56, f 57, f 58, f 59, f 60, f 61, f 62, f 63, f 64, f 65, f 66, f 67, f 68, f 69, f 70, f 71, f 72, f 73, f 74, f 75, f 76, f 77, f 78, f 79, f 80, f 81, f 82, f 83, f 84, f 85, f 86, f 87, f 88, f 89, f 90, f 91, f 92, f 93, f 94, f 95, f 96, f 97, f 98, f 99, f 100, f 101, f 102, f 103, f 104, f 105, f 106, f 107, f 108, f 109, f 110, f 111, f 112, f 113, f 114, f 115, f 116, f 117, f 118, f 119, f 120, f 121, f 122, f 123, f 124, f 125, f 126, f 127, f 128, f 129, f 130, f 131, f 132, f 133, f 134, v, f 136, f 137, f 138, f 139, f 140, f 141, f 142, f 143, f 144, f 145, f 146, f 147], defers := [] } W' := hK
            change wpList _ #[_] _ [_] { tmps := #[f 0, f 1, f 2, f 3, f 4, f 5, f 6, f 7, f 8, f 9, f 10, f 11, f 12, f 13, f 14, f 15, f 16, f 17, f 18, f 19, f 20, f 21, f 22, f 23, f 24, f 25, f 26, f 27, f 28, f 29, f 30, f 31, f 32, f 33, f 34, f 35, f 36, f 37, f 38, f 39, f 40, f 41, f 42, f 43, f 44, f 45, f 46, f 47, f 48, f 49, f 50, f 51, f 52, f 53, f 54, f 55, f 56, f 57, f 58, f 59, f 60, f 61, f 62, f 63, f 64, f 65, f 66, f 67, f 68, f 69, f 70, f 71, f 72, f 73, f 74, f 75, f 76, f 77, f 78, f 79, f 80, f 81, f 82, f 83, f 84, f 85, f 86, f 87, f 88, f 89, f 90, f 91, f 92, f 93, f 94, f 95, f 96, f 97, f 98, f 99, f 100, f 101, f 102, f 103, f 104, f 105, f 106, f 107, f 108, f 109, f 110, f 111, f 112, f 113, f 114, f 115, f 116, f 117, f 118, f 119, f 120, f 121, f 122, f 123, f 124, f 125, f 126, f 127, f 128, f 129, f 130, f 131, f 132, f 133, f 134, f 135, f 136, f 137, f 138, f 139, f 140, f 141, f 142, f 143, f 144, f 145, f 146, f 147], defers := [] } W
            clear hK hd hold
            simp only [ze134] at HK ⊢
            clear ze134
            have HK := Aside.mk HK
            go_wp2_with (go_at_call 4; refine (HSS.out.1 W ((HJ.out.below HN.out hW).lin.nib)).mono ?_; rintro e w2 ⟨rfl, rfl⟩)
            exact HK.out _ _ (Below.refl _ _) rfl
          · -- 136 := move t2
            intro f W hW hold hd K hK
            refine .inl ⟨wanted_free rfl _, ?_⟩
            dsimp only [bare]
            have ze2 : f 2 = .string b := hold 2 rfl
            have HK : ∀ v W', Below W.heap.size W W' → tailV _ 136 v W' → K { tmps := #[f 0, f 1, f 2, f 3, f 4, f 5, f 6, f 7, f 8, f 9, f 10, f 11, f 12, f 13, f 14, f 15, f 16, f 17, f 18, f 19, f 20, f 21, f 22, f 23, f 24, f 25, f 26, f 27, f 28, f 29, f 30, f 31, f 32, f 33, f 34, f 35, f 36, f 37, f 38, f 39, f 40, f 41, f 42, f 43, f 44, f 45, f 46, f 47, f 48, f 49, f 50, f 51, f 52, f 53, f 54, f 55, f 56, f 57, f 58, f 59, f 60, f 61, f 62, f 63, f 64, f 65, f 66, f 67, f 68, f 69, f 70, f 71, f 72, f 73, f 74, f 75, f 76, f 77, f 78, f 79, f 80, f 81, f 82, f 83, f 84, f 85, f 86, f 87, f 88, f 89, f 90, f 91, f 92, f 93, f 94, f 95, f 96, f 97, f 98, f 99, f 100, f 101, f 102, f 103, f 104, f 105, f 106, f 107, f 108, f 109, f 110, f 111, f 112, f 113, f 114, f 115, f 116, f 117, f 118, f 119, f 120, f 121, f 122, f 123, f 124, f 125, f 126, f 127, f 128, f 129, f 130, f 131, f 132, f 133, f 134, f 135, v, f 137, f 138, f 139, f 140, f 141, f 142, f 143, f 144, f 145, f 146, f 147], defers := [] } W' := hK
            change wpList _ #[_] _ [_] { tmps := #[f 0, f 1, f 2, f 3, f 4, f 5, f 6, f 7, f 8, f 9, f 10, f 11, f 12, f 13, f 14, f 15, f 16, f 17, f 18, f 19, f 20, f 21, f 22, f 23, f 24, f 25, f 26, f 27, f 28, f 29, f 30, f 31, f 32, f 33, f 34, f 35, f 36, f 37, f 38, f 39, f 40, f 41, f 42, f 43, f 44, f 45, f 46, f 47, f 48, f 49, f 50, f 51, f 52, f 53, f 54, f 55, f 56, f 57, f 58, f 59, f 60, f 61, f 62, f 63, f 64, f 65, f 66, f 67, f 68, f 69, f 70, f 71, f 72, f 73, f 74, f 75, f 76, f 77, f 78, f 79, f 80, f 81, f 82, f 83, f 84, f 85, f 86, f 87, f 88, f 89, f 90, f 91, f 92, f 93, f 94, f 95, f 96, f 97, f 98, f 99, f 100, f 101, f 102, f 103, f 104, f 105, f 106, f 107, f 108, f 109, f 110, f 111, f 112, f 113, f 114, f 115, f 116, f 117, f 118, f 119, f 120, f 121, f 122, f 123, f 124, f 125, f 126, f 127, f 128, f 129, f 130, f 131, f 132, f 133, f 134, f 135, f 136, f 137, f 138, f 139, f 140, f 141, f 142, f 143, f 144, f 145, f 146, f 147], defers := [] } W
            clear hK hd hold
            simp only [ze2] at HK ⊢
            clear ze2
            have HK := Aside.mk HK
            go_wp2
            exact HK.out _ _ (Below.refl _ _) rfl
          · -- 137 := CALL f4 chert/crc.Sum [t136] : [9]
            intro f W hW hold hd K hK
            refine .inl ⟨wanted_free rfl _, ?_⟩
            dsimp only [bare]
            have ze136 : f 136 = .string b := hd 136 rfl rfl
            have HK : ∀ v W', Below W.heap.size W W' → tailV _ 137 v W' → K { tmps := #[f 0, f 1, f 2, f 3, f 4, f 5, f 6, f 7, f 8, f 9, f 10, f 11, f 12, f 13, f 14, f 15, f 16, f 17, f 18, f 19, f 20, f 21, f 22, f 23, f 24, f 25, f 26, f 27, f 28, f 29, f 30, f 31, f 32, f 33, f 34, f 35, f 36, f 37, f 38, f 39, f 40, f 41, f 42, f 43, f 44, f 45, f 46, f 47, f 48, f 49, f 50, f 51, f 52, f 53, f 54, f 55, f 56, f 57, f 58, f 59, f 60, f 61, f 62, f 63, f 64, f 65, f 66, f 67, f 68, f 69, f 70, f 71, f 72, f 73, f 74, f 75, f 76, f 77, f 78, f 79, f 80, f 81, f 82, f 83, f 84, f 85, f 86, f 87, f 88, f 89, f 90, f 91, f 92, f 93, f 94, f 95, f 96, f 97, f 98, f 99, f 100, f 101, f 102, f 103, f 104, f 105, f 106, f 107, f 108, f 109, f 110, f 111, f 112, f 113, f 114, f 115, f 116, f 117, f 118, f 119, f 120, f 121, f 122, f 123, f 124, f 125, f 126, f 127, f 128, f 129, f 130, f 131, f 132, f 133, f 134, f 135, f 136, v, f 138, f 139, f 140, f 141, f 142, f 143, f 144, f 145, f 146, f 147], defers := [] } W' := hK
            change wpList _ #[_] _ [_] { tmps := #[f 0, f 1, f 2, f 3, f 4, f 5, f 6, f 7, f 8, f 9, f 10, f 11, f 12, f 13, f 14, f 15, f 16, f 17, f 18, f 19, f 20, f 21, f 22, f 23, f 24, f 25, f 26, f 27, f 28, f 29, f 30, f 31, f 32, f 33, f 34, f 35, f 36, f 37, f 38, f 39, f 40, f 41, f 42, f 43, f 44, f 45, f 46, f 47, f 48, f 49, f 50, f 51, f 52, f 53, f 54, f 55, f 56, f 57, f 58, f 59, f 60, f 61, f 62, f 63, f 64, f 65, f 66, f 67, f 68, f 69, f 70, f 71, f 72, f 73, f 74, f 75, f 76, f 77, f 78, f 79, f 80, f 81, f 82, f 83, f 84, f 85, f 86, f 87, f 88, f 89, f 90, f 91, f 92, f 93, f 94, f 95, f 96, f 97, f 98, f 99, f 100, f 101, f 102, f 103, f 104, f 105, f 106, f 107, f 108, f 109, f 110, f 111, f 112, f 113, f 114, f 115, f 116, f 117, f 118, f 119, f 120, f 121, f 122, f 123, f 124, f 125, f 126, f 127, f 128, f 129, f 130, f 131, f 132, f 133, f 134, f 135, f 136, f 137, f 138, f 139, f 140, f 141, f 142, f 143, f 144, f 145, f 146, f 147], defers := [] } W
            clear hK hd hold
            simp only [ze136] at HK ⊢
            clear ze136
            have HK := Aside.mk HK
            go_wp2_with (go_at_call 4; refine (HSS.out.2.1 W ((HJ.out.below HN.out hW).lin.nib)).mono ?_; rintro e w2 ⟨rfl, rfl⟩)
            exact HK.out _ _ (Below.refl _ _) rfl
          · -- 138 := binOp xor 22 t135 t137 22
            intro f W hW hold hd K hK
            refine .inl ⟨wanted_free rfl _, ?_⟩
            dsimp only [bare]
            have ze135 : f 135 = .int .u32 (z1 : Nat) := hd 135 rfl rfl
            have ze137 : f 137 = .int .u32 (z2 : Nat) := hd 137 rfl rfl
            have HK : ∀ v W', Below W.heap.size W W' → tailV _ 138 v W' → K { tmps := #[f 0, f 1, f 2, f 3, f 4, f 5, f 6, f 7, f 8, f 9, f 10, f 11, f 12, f 13, f 14, f 15, f 16, f 17, f 18, f 19, f 20, f 21, f 22, f 23, f 24, f 25, f 26, f 27, f 28, f 29, f 30, f 31, f 32, f 33, f 34, f 35, f 36, f 37, f 38, f 39, f 40, f 41, f 42, f 43, f 44, f 45, f 46, f 47, f 48, f 49, f 50, f 51, f 52, f 53, f 54, f 55, f 56, f 57, f 58, f 59, f 60, f 61, f 62, f 63, f 64, f 65, f 66, f 67, f 68, f 69, f 70, f 71, f 72, f 73, f 74, f 75, f 76, f 77, f 78, f 79, f 80, f 81, f 82, f 83, f 84, f 85, f 86, f 87, f 88, f 89, f 90, f 91, f 92, f 93, f 94, f 95, f 96, f 97, f 98, f 99, f 100, f 101, f 102, f 103, f 104, f 105, f 106, f 107, f 108, f 109, f 110, f 111, f 112, f 113, f 114, f 115, f 116, f 117, f 118, f 119, f 120, f 121, f 122, f 123, f 124, f 125, f 126, f 127, f 128, f 129, f 130, f 131, f 132, f 133, f 134, f 135, f 136, f 137, v, f 139, f 140, f 141, f 142, f 143, f 144, f 145, f 146, f 147], defers := [] } W' := hK
            change wpList _ #[_] _ [_] { tmps := #[f 0, f 1, f 2, f 3, f 4, f 5, f 6, f 7, f 8, f 9, f 10, f 11, f 12, f 13, f 14, f 15, f 16, f 17, f 18, f 19, f 20, f 21, f 22, f 23, f 24, f 25, f 26, f 27, f 28, f 29, f 30, f 31, f 32, f 33, f 34, f 35, f 36, f 37, f 38, f 39, f 40, f 41, f 42, f 43, f 44, f 45, f 46, f 47, f 48, f 49, f 50, f 51, f 52, f 53, f 54, f 55, f 56, f 57, f 58, f 59, f 60, f 61, f 62, f 63, f 64, f 65, f 66, f 67, f 68, f 69, f 70, f 71, f 72, f 73, f 74, f 75, f 76, f 77, f 78, f 79, f 80, f 81, f 82, f 83, f 84, f 85, f 86, f 87, f 88, f 89, f 90, f 91, f 92, f 93, f 94, f 95, f 96, f 97, f 98, f 99, f 100, f 101, f 102, f 103, f 104, f 105, f 106, f 107, f 108, f 109, f 110, f 111, f 112, f 113, f 114, f 115, f 116, f 117, f 118, f 119, f 120, f 121, f 122, f 123, f 124, f 125, f 126, f 127, f 128, f 129, f 130, f 131, f 132, f 133, f 134, f 135, f 136, f 137, f 138, f 139, f 140, f 141, f 142, f 143, f 144, f 145, f 146, f 147], defers := [] } W
            clear hK hd hold
            simp only [ze135, ze137] at HK ⊢
            clear ze135 ze137
            have HK := Aside.mk HK
            have hq1 := HQ12.out.1
            go_wp2
            exact HK.out _ _ (Below.refl _ _) rfl
          · -- 139 := move t8
            intro f W hW hold hd K hK
            refine .inl ⟨wanted_free rfl _, ?_⟩
            dsimp only [bare]
            have ze8 : f 8 = .slice (some ⟨g, 0, none⟩) i i := hold 8 rfl
            have HK : ∀ v W', Below W.heap.size W W' → tailV _ 139 v W' → K { tmps := #[f 0, f 1, f 2, f 3, f 4, f 5, f 6, f 7, f 8, f 9, f 10, f 11, f 12, f 13, f 14, f 15, f 16, f 17, f 18, f 19, f 20, f 21, f 22, f 23, f 24, f 25, f 26, f 27, f 28, f 29, f 30, f 31, f 32, f 33, f 34, f 35, f 36, f 37, f 38, f 39, f 40, f 41, f 42, f 43, f 44, f 45, f 46, f 47, f 48, f 49, f 50, f 51, f 52, f 53, f 54, f 55, f 56, f 57, f 58, f 59, f 60, f 61, f 62, f 63, f 64, f 65, f 66, f 67, f 68, f 69, f 70, f 71, f 72, f 73, f 74, f 75, f 76, f 77, f 78, f 79, f 80, f 81, f 82, f 83, f 84, f 85, f 86, f 87, f 88, f 89, f 90, f 91, f 92, f 93, f 94, f 95, f 96, f 97, f 98, f 99, f 100, f 101, f 102, f 103, f 104, f 105, f 106, f 107, f 108, f 109, f 110, f 111, f 112, f 113, f 114, f 115, f 116, f 117, f 118, f 119, f 120, f 121, f 122, f 123, f 124, f 125, f 126, f 127, f 128, f 129, f 130, f 131, f 132, f 133, f 134, f 135, f 136, f 137, f 138, v, f 140, f 141, f 142, f 143, f 144, f 145, f 146, f 147], defers := [] } W' := hK
            change wpList _ #[_] _ [_] { tmps := #[f 0, f 1, f 2, f 3, f 4, f 5, f 6, f 7, f 8, f 9, f 10, f 11, f 12, f 13, f 14, f 15, f 16, f 17, f 18, f 19, f 20, f 21, f 22, f 23, f 24, f 25, f 26, f 27, f 28, f 29, f 30, f 31, f 32, f 33, f 34, f 35, f 36, f 37, f 38, f 39, f 40, f 41, f 42, f 43, f 44, f 45, f 46, f 47, f 48, f 49, f 50, f 51, f 52, f 53, f 54, f 55, f 56, f 57, f 58, f 59, f 60, f 61, f 62, f 63, f 64, f 65, f 66, f 67, f 68, f 69, f 70, f 71, f 72, f 73, f 74, f 75, f 76, f 77, f 78, f 79, f 80, f 81, f 82, f 83, f 84, f 85, f 86, f 87, f 88, f 89, f 90, f 91, f 92, f 93, f 94, f 95, f 96, f 97, f 98, f 99, f 100, f 101, f 102, f 103, f 104, f 105, f 106, f 107, f 108, f 109, f 110, f 111, f 112, f 113, f 114, f 115, f 116, f 117, f 118, f 119, f 120, f 121, f 122, f 123, f 124, f 125, f 126, f 127, f 128, f 129, f 130, f 131, f 132, f 133, f 134, f 135, f 136, f 137, f 138, f 139, f 140, f 141, f 142, f 143, f 144, f 145, f 146, f 147], defers := [] } W
            clear hK hd hold
            simp only [ze8] at HK ⊢
            clear ze8
            have HK := Aside.mk HK
            go_wp2
            exact HK.out _ _ (Below.refl _ _) rfl
          · -- 140 := convert 24 9 t139
            intro f W hW hold hd K hK
            refine .inl ⟨wanted_free rfl _, ?_⟩
            dsimp only [bare]
            have ze139 : f 139 = .slice (some ⟨g, 0, none⟩) i i := hd 139 rfl rfl
            have HK : ∀ v W', Below W.heap.size W W' → tailV _ 140 v W' → K { tmps := #[f 0, f 1, f 2, f 3, f 4, f 5, f 6, f 7, f 8, f 9, f 10, f 11, f 12, f 13, f 14, f 15, f 16, f 17, f 18, f 19, f 20, f 21, f 22, f 23, f 24, f 25, f 26, f 27, f 28, f 29, f 30, f 31, f 32, f 33, f 34, f 35, f 36, f 37, f 38, f 39, f 40, f 41, f 42, f 43, f 44, f 45, f 46, f 47, f 48, f 49, f 50, f 51, f 52, f 53, f 54, f 55, f 56, f 57, f 58, f 59, f 60, f 61, f 62, f 63, f 64, f 65, f 66, f 67, f 68, f 69, f 70, f 71, f 72, f 73, f 74, f 75, f 76, f 77, f 78, f 79, f 80, f 81, f 82, f 83, f 84, f 85, f 86, f 87, f 88, f 89, f 90, f 91, f 92, f 93, f 94, f 95, f 96, f 97, f 98, f 99, f 100, f 101, f 102, f 103, f 104, f 105, f 106, f 107, f 108, f 109, f 110, f 111, f 112, f 113, f 114, f 115, f 116, f 117, f 118, f 119, f 120, f 121, f 122, f 123, f 124, f 125, f 126, f 127, f 128, f 129, f 130, f 131, f 132, f 133, f 134, f 135, f 136, f 137, f 138, f 139, v, f 141, f 142, f 143, f 144, f 145, f 146, f 147], defers := [] } W' := hK
            change wpList _ #[_] _ [_] { tmps := #[f 0, f 1, f 2, f 3, f 4, f 5, f 6, f 7, f 8, f 9, f 10, f 11, f 12, f 13, f 14, f 15, f 16, f 17, f 18, f 19, f 20, f 21, f 22, f 23, f 24, f 25, f 26, f 27, f 28, f 29, f 30, f 31, f 32, f 33, f 34, f 35, f 36, f 37, f 38, f 39, f 40, f 41, f 42, f 43, f 44, f 45, f 46, f 47, f 48, f 49, f 50, f 51, f 52, f 53, f 54, f 55, f 56, f 57, f 58, f 59, f 60, f 61, f 62, f 63, f 64, f 65, f 66, f 67, f 68, f 69, f 70, f 71, f 72, f 73, f 74, f 75, f 76, f 77, f 78, f 79, f 80, f 81, f 82, f 83, f 84, f 85, f 86, f 87, f 88, f 89, f 90, f 91, f 92, f 93, f 94, f 95, f 96, f 97, f 98, f 99, f 100, f 101, f 102, f 103, f 104, f 105, f 106, f 107, f 108, f 109, f 110, f 111, f 112, f 113, f 114, f 115, f 116, f 117, f 118, f 119, f 120, f 121, f 122, f 123, f 124, f 125, f 126, f 127, f 128, f 129, f 130, f 131, f 132, f 133, f 134, f 135, f 136, f 137, f 138, f 139, f 140, f 141, f 142, f 143, f 144, f 145, f 146, f 147], defers := [] } W
            clear hK hd hold
            simp only [ze139] at HK ⊢
            clear ze139
            have HK := Aside.mk HK
            have hcv := (HJ.out.below HN.out hW).text 0; rw [← HSX.out.2.2.1] at hcv; change (convert 24 9 (.slice (some ⟨g, 0, none⟩) i i)).run Tryd.prog W = .ok (.string sx) W at hcv
            go_wp2
            exact HK.out _ _ (Below.refl _ _) rfl
          · -- 141 := CALL f4 chert/crc.Sum [t140] : [9]
            intro f W hW hold hd K hK
            refine .inl ⟨wanted_free rfl _, ?_⟩
            dsimp only [bare]
            have ze140 : f 140 = .string sx := hd 140 rfl rfl
            have HK : ∀ v W', Below W.heap.size W W' → tailV _ 141 v W' → K { tmps := #[f 0, f 1, f 2, f 3, f 4, f 5, f 6, f 7, f 8, f 9, f 10, f 11, f 12, f 13, f 14, f 15, f 16, f 17, f 18, f 19, f 20, f 21, f 22, f 23, f 24, f 25, f 26, f 27, f 28, f 29, f 30, f 31, f 32, f 33, f 34, f 35, f 36, f 37, f 38, f 39, f 40, f 41, f 42, f 43, f 44, f 45, f 46, f 47, f 48, f 49, f 50, f 51, f 52, f 53, f 54, f 55, f 56, f 57, f 58, f 59, f 60, f 61, f 62, f 63, f 64, f 65, f 66, f 67, f 68, f 69, f 70, f 71, f 72, f 73, f 74, f 75, f 76, f 77, f 78, f 79, f 80, f 81, f 82, f 83, f 84, f 85, f 86, f 87, f 88, f 89, f 90, f 91, f 92, f 93, f 94, f 95, f 96, f 97, f 98, f 99, f 100, f 101, f 102, f 103, f 104, f 105, f 106, f 107, f 108, f 109, f 110, f 111, f 112, f 113, f 114, f 115, f 116, f 117, f 118, f 119, f 120, f 121, f 122, f 123, f 124, f 125, f 126, f 127, f 128, f 129, f 130, f 131, f 132, f 133, f 134, f 135, f 136, f 137, f 138, f 139, f 140, v, f 142, f 143, f 144, f 145, f 146, f 147], defers := [] } W' := hK
            change wpList _ #[_] _ [_] { tmps := #[f 0, f 1, f 2, f 3, f 4, f 5, f 6, f 7, f 8, f 9, f 10, f 11, f 12, f 13, f 14, f 15, f 16, f 17, f 18, f 19, f 20, f 21, f 22, f 23, f 24, f 25, f 26, f 27, f 28, f 29, f 30, f 31, f 32, f 33, f 34, f 35, f 36, f 37, f 38, f 39, f 40, f 41, f 42, f 43, f 44, f 45, f 46, f 47, f 48, f 49, f 50, f 51, f 52, f 53, f 54, f 55, f 56, f 57, f 58, f 59, f 60, f 61, f 62, f 63, f 64, f 65, f 66, f 67, f 68, f 69, f 70, f 71, f 72, f 73, f 74, f 75, f 76, f 77, f 78, f 79, f 80, f 81, f 82, f 83, f 84, f 85, f 86, f 87, f 88, f 89, f 90, f 91, f 92, f 93, f 94, f 95, f 96, f 97, f 98, f 99, f 100, f 101, f 102, f 103, f 104, f 105, f 106, f 107, f 108, f 109, f 110, f 111, f 112, f 113, f 114, f 115, f 116, f 117, f 118, f 119, f 120, f 121, f 122, f 123, f 124, f 125, f 126, f 127, f 128, f 129, f 130, f 131, f 132, f 133, f 134, f 135, f 136, f 137, f 138, f 139, f 140, f 141, f 142, f 143, f 144, f 145, f 146, f 147], defers := [] } W
            clear hK hd hold
            simp only [ze140] at HK ⊢
            clear ze140
            have HK := Aside.mk HK
            go_wp2_with (go_at_call 4; refine (HSS.out.2.2.1 W ((HJ.out.below HN.out hW).lin.nib)).mono ?_; rintro e w2 ⟨rfl, rfl⟩)
            exact HK.out _ _ (Below.refl _ _) rfl
          · -- 142 := binOp xor 22 t138 t141 22
            intro f W hW hold hd K hK
            refine .inl ⟨wanted_free rfl _, ?_⟩
            dsimp only [bare]
            have ze138 : f 138 = .int .u32 ((z1 ^^^ z2 : Nat) : Int) := hd 138 rfl rfl
            have ze141 : f 141 = .int .u32 (z3 : Nat) := hd 141 rfl rfl
            have HK : ∀ v W', Below W.heap.size W W' → tailV _ 142 v W' → K { tmps := #[f 0, f 1, f 2, f 3, f 4, f 5, f 6, f 7, f 8, f 9, f 10, f 11, f 12, f 13, f 14, f 15, f 16, f 17, f 18, f 19, f 20, f 21, f 22, f 23, f 24, f 25, f 26, f 27, f 28, f 29, f 30, f 31, f 32, f 33, f 34, f 35, f 36, f 37, f 38, f 39, f 40, f 41, f 42, f 43, f 44, f 45, f 46, f 47, f 48, f 49, f 50, f 51, f 52, f 53, f 54, f 55, f 56, f 57, f 58, f 59, f 60, f 61, f 62, f 63, f 64, f 65, f 66, f 67, f 68, f 69, f 70, f 71, f 72, f 73, f 74, f 75, f 76, f 77, f 78, f 79, f 80, f 81, f 82, f 83, f 84, f 85, f 86, f 87, f 88, f 89, f 90, f 91, f 92, f 93, f 94, f 95, f 96, f 97, f 98, f 99, f 100, f 101, f 102, f 103, f 104, f 105, f 106, f 107, f 108, f 109, f 110, f 111, f 112, f 113, f 114, f 115, f 116, f 117, f 118, f 119, f 120, f 121, f 122, f 123, f 124, f 125, f 126, f 127, f 128, f 129, f 130, f 131, f 132, f 133, f 134, f 135, f 136, f 137, f 138, f 139, f 140, f 141, v, f 143, f 144, f 145, f 146, f 147], defers := [] } W' := hK
            change wpList _ #[_] _ [_] { tmps := #[f 0, f 1, f 2, f 3, f 4, f 5, f 6, f 7, f 8, f 9, f 10, f 11, f 12, f 13, f 14, f 15, f 16, f 17, f 18, f 19, f 20, f 21, f 22, f 23, f 24, f 25, f 26, f 27, f 28, f 29, f 30, f 31, f 32, f 33, f 34, f 35, f 36, f 37, f 38, f 39, f 40, f 41, f 42, f 43, f 44, f 45, f 46, f 47, f 48, f 49, f 50, f 51, f 52, f 53, f 54, f 55, f 56, f 57, f 58, f 59, f 60, f 61, f 62, f 63, f 64, f 65, f 66, f 67, f 68, f 69, f 70, f 71, f 72, f 73, f 74, f 75, f 76, f 77, f 78, f 79, f 80, f 81, f 82, f 83, f 84, f 85, f 86, f 87, f 88, f 89, f 90, f 91, f 92, f 93, f 94, f 95, f 96, f 97, f 98, f 99, f 100, f 101, f 102, f 103, f 104, f 105, f 106, f 107, f 108, f 109, f 110, f 111, f 112, f 113, f 114, f 115, f 116, f 117, f 118, f 119, f 120, f 121, f 122, f 123, f 124, f 125, f 126, f 127, f 128, f 129, f 130, f 131, f 132, f 133, f 134, f 135, f 136, f 137, f 138, f 139, f 140, f 141, f 142, f 143, f 144, f 145, f 146, f 147], defers := [] } W
            clear hK hd hold
            simp only [ze138, ze141] at HK ⊢
            clear ze138 ze141
            have HK := Aside.mk HK
            have hq2 := HQ12.out.2
            go_wp2
            exact HK.out _ _ (Below.refl _ _) rfl
          · -- 143 := move t7
            intro f W hW hold hd K hK
            refine .inl ⟨wanted_free rfl _, ?_⟩
            dsimp only [bare]
            have ze7 : f 7 = .int .i64 i := hold 7 rfl
            have HK : ∀ v W', Below W.heap.size W W' → tailV _ 143 v W' → K { tmps := #[f 0, f 1, f 2, f 3, f 4, f 5, f 6, f 7, f 8, f 9, f 10, f 11, f 12, f 13, f 14, f 15, f 16, f 17, f 18, f 19, f 20, f 21, f 22, f 23, f 24, f 25, f 26, f 27, f 28, f 29, f 30, f 31, f 32, f 33, f 34, f 35, f 36, f 37, f 38, f 39, f 40, f 41, f 42, f 43, f 44, f 45, f 46, f 47, f 48, f 49, f 50, f 51, f 52, f 53, f 54, f 55, f 56, f 57, f 58, f 59, f 60, f 61, f 62, f 63, f 64, f 65, f 66, f 67, f 68, f 69, f 70, f 71, f 72, f 73, f 74, f 75, f 76, f 77, f 78, f 79, f 80, f 81, f 82, f 83, f 84, f 85, f 86, f 87, f 88, f 89, f 90, f 91, f 92, f 93, f 94, f 95, f 96, f 97, f 98, f 99, f 100, f 101, f 102, f 103, f 104, f 105, f 106, f 107, f 108, f 109, f 110, f 111, f 112, f 113, f 114, f 115, f 116, f 117, f 118, f 119, f 120, f 121, f 122, f 123, f 124, f 125, f 126, f 127, f 128, f 129, f 130, f 131, f 132, f 133, f 134, f 135, f 136, f 137, f 138, f 139, f 140, f 141, f 142, v, f 144, f 145, f 146, f 147], defers := [] } W' := hK
            change wpList _ #[_] _ [_] { tmps := #[f 0, f 1, f 2, f 3, f 4, f 5, f 6, f 7, f 8, f 9, f 10, f 11, f 12, f 13, f 14, f 15, f 16, f 17, f 18, f 19, f 20, f 21, f 22, f 23, f 24, f 25, f 26, f 27, f 28, f 29, f 30, f 31, f 32, f 33, f 34, f 35, f 36, f 37, f 38, f 39, f 40, f 41, f 42, f 43, f 44, f 45, f 46, f 47, f 48, f 49, f 50, f 51, f 52, f 53, f 54, f 55, f 56, f 57, f 58, f 59, f 60, f 61, f 62, f 63, f 64, f 65, f 66, f 67, f 68, f 69, f 70, f 71, f 72, f 73, f 74, f 75, f 76, f 77, f 78, f 79, f 80, f 81, f 82, f 83, f 84, f 85, f 86, f 87, f 88, f 89, f 90, f 91, f 92, f 93, f 94, f 95, f 96, f 97, f 98, f 99, f 100, f 101, f 102, f 103, f 104, f 105, f 106, f 107, f 108, f 109, f 110, f 111, f 112, f 113, f 114, f 115, f 116, f 117, f 118, f 119, f 120, f 121, f 122, f 123, f 124, f 125, f 126, f 127, f 128, f 129, f 130, f 131, f 132, f 133, f 134, f 135, f 136, f 137, f 138, f 139, f 140, f 141, f 142, f 143, f 144, f 145, f 146, f 147], defers := [] } W
            clear hK hd hold
            simp only [ze7] at HK ⊢
            clear ze7
            have HK := Aside.mk HK
            go_wp2
            exact HK.out _ _ (Below.refl _ _) rfl
          · -- 144 := makeSlice 24 t143 t143
            intro f W hW hold hd K hK
            refine .inl ⟨wanted_free rfl _, ?_⟩
            dsimp only [bare]
            have ze143 : f 143 = .int .i64 i := hd 143 rfl rfl
            have HK : ∀ v W', Below W.heap.size W W' → tailV _ 144 v W' → K { tmps := #[f 0, f 1, f 2, f 3, f 4, f 5, f 6, f 7, f 8, f 9, f 10, f 11, f 12, f 13, f 14, f 15, f 16, f 17, f 18, f 19, f 20, f 21, f 22, f 23, f 24, f 25, f 26, f 27, f 28, f 29, f 30, f 31, f 32, f 33, f 34, f 35, f 36, f 37, f 38, f 39, f 40, f 41, f 42, f 43, f 44, f 45, f 46, f 47, f 48, f 49, f 50, f 51, f 52, f 53, f 54, f 55, f 56, f 57, f 58, f 59, f 60, f 61, f 62, f 63, f 64, f 65, f 66, f 67, f 68, f 69, f 70, f 71, f 72, f 73, f 74, f 75, f 76, f 77, f 78, f 79, f 80, f 81, f 82, f 83, f 84, f 85, f 86, f 87, f 88, f 89, f 90, f 91, f 92, f 93, f 94, f 95, f 96, f 97, f 98, f 99, f 100, f 101, f 102, f 103, f 104, f 105, f 106, f 107, f 108, f 109, f 110, f 111, f 112, f 113, f 114, f 115, f 116, f 117, f 118, f 119, f 120, f 121, f 122, f 123, f 124, f 125, f 126, f 127, f 128, f 129, f 130, f 131, f 132, f 133, f 134, f 135, f 136, f 137, f 138, f 139, f 140, f 141, f 142, f 143, v, f 145, f 146, f 147], defers := [] } W' := hK
            change wpList _ #[_] _ [_] { tmps := #[f 0, f 1, f 2, f 3, f 4, f 5, f 6, f 7, f 8, f 9, f 10, f 11, f 12, f 13, f 14, f 15, f 16, f 17, f 18, f 19, f 20, f 21, f 22, f 23, f 24, f 25, f 26, f 27, f 28, f 29, f 30, f 31, f 32, f 33, f 34, f 35, f 36, f 37, f 38, f 39, f 40, f 41, f 42, f 43, f 44, f 45, f 46, f 47, f 48, f 49, f 50, f 51, f 52, f 53, f 54, f 55, f 56, f 57, f 58, f 59, f 60, f 61, f 62, f 63, f 64, f 65, f 66, f 67, f 68, f 69, f 70, f 71, f 72, f 73, f 74, f 75, f 76, f 77, f 78, f 79, f 80, f 81, f 82, f 83, f 84, f 85, f 86, f 87, f 88, f 89, f 90, f 91, f 92, f 93, f 94, f 95, f 96, f 97, f 98, f 99, f 100, f 101, f 102, f 103, f 104, f 105, f 106, f 107, f 108, f 109, f 110, f 111, f 112, f 113, f 114, f 115, f 116, f 117, f 118, f 119, f 120, f 121, f 122, f 123, f 124, f 125, f 126, f 127, f 128, f 129, f 130, f 131, f 132, f 133, f 134, f 135, f 136, f 137, f 138, f 139, f 140, f 141, f 142, f 143, f 144, f 145, f 146, f 147], defers := [] } W
            clear hK hd hold
            simp only [ze143] at HK ⊢
            clear ze143
            have HK := Aside.mk HK
            go_wp2
            exact HK.out _ _ ((Below.refl _ _).alloc (Nat.le_refl _) _) ⟨_, rfl, heap_alloc_new _ _⟩
          · -- 145 := convert 24 9 t144
            intro f W hW hold hd K hK
            refine .inl ⟨wanted_free rfl _, ?_⟩
            dsimp only [bare]
            obtain ⟨b144, ze144, r144⟩ : ∃ bb, f 144 = .slice (some ⟨bb, 0, none⟩) i i ∧ W.heap[bb]? = some (.cells (madeCells #[.int .u8 0] i) 5 (0, 0)) := hd 144 rfl rfl
            have HK : ∀ v W', Below W.heap.size W W' → tailV _ 145 v W' → K { tmps := #[f 0, f 1, f 2, f 3, f 4, f 5, f 6, f 7, f 8, f 9, f 10, f 11, f 12, f 13, f 14, f 15, f 16, f 17, f 18, f 19, f 20, f 21, f 22, f 23, f 24, f 25, f 26, f 27, f 28, f 29, f 30, f 31, f 32, f 33, f 34, f 35, f 36, f 37, f 38, f 39, f 40, f 41, f 42, f 43, f 44, f 45, f 46, f 47, f 48, f 49, f 50, f 51, f 52, f 53, f 54, f 55, f 56, f 57, f 58, f 59, f 60, f 61, f 62, f 63, f 64, f 65, f 66, f 67, f 68, f 69, f 70, f 71, f 72, f 73, f 74, f 75, f 76, f 77, f 78, f 79, f 80, f 81, f 82, f 83, f 84, f 85, f 86, f 87, f 88, f 89, f 90, f 91, f 92, f 93, f 94, f 95, f 96, f 97, f 98, f 99, f 100, f 101, f 102, f 103, f 104, f 105, f 106, f 107, f 108, f 109, f 110, f 111, f 112, f 113, f 114, f 115, f 116, f 117, f 118, f 119, f 120, f 121, f 122, f 123, f 124, f 125, f 126, f 127, f 128, f 129, f 130, f 131, f 132, f 133, f 134, f 135, f 136, f 137, f 138, f 139, f 140, f 141, f 142, f 143, f 144, v, f 146, f 147], defers := [] } W' := hK
            change wpList _ #[_] _ [_] { tmps := #[f 0, f 1, f 2, f 3, f 4, f 5, f 6, f 7, f 8, f 9, f 10, f 11, f 12, f 13, f 14, f 15, f 16, f 17, f 18, f 19, f 20, f 21, f 22, f 23, f 24, f 25, f 26, f 27, f 28, f 29, f 30, f 31, f 32, f 33, f 34, f 35, f 36, f 37, f 38, f 39, f 40, f 41, f 42, f 43, f 44, f 45, f 46, f 47, f 48, f 49, f 50, f 51, f 52, f 53, f 54, f 55, f 56, f 57, f 58, f 59, f 60, f 61, f 62, f 63, f 64, f 65, f 66, f 67, f 68, f 69, f 70, f 71, f 72, f 73, f 74, f 75, f 76, f 77, f 78, f 79, f 80, f 81, f 82, f 83, f 84, f 85, f 86, f 87, f 88, f 89, f 90, f 91, f 92, f 93, f 94, f 95, f 96, f 97, f 98, f 99, f 100, f 101, f 102, f 103, f 104, f 105, f 106, f 107, f 108, f 109, f 110, f 111, f 112, f 113, f 114, f 115, f 116, f 117, f 118, f 119, f 120, f 121, f 122, f 123, f 124, f 125, f 126, f 127, f 128, f 129, f 130, f 131, f 132, f 133, f 134, f 135, f 136, f 137, f 138, f 139, f 140, f 141, f 142, f 143, f 144, f 145, f 146, f 147], defers := [] } W
            clear hK hd hold
            simp only [ze144] at HK ⊢
            clear ze144
            have HK := Aside.mk HK
            have hcv := zeros_text r144 (by have := HT.out; omega); rw [← HNZ.out] at hcv
            go_wp2
            exact HK.out _ _ (Below.refl _ _) rfl
          · -- 146 := CALL f4 chert/crc.Sum [t145] : [9]
            intro f W hW hold hd K hK
            refine .inl ⟨wanted_free rfl _, ?_⟩
            dsimp only [bare]
            have ze145 : f 145 = .string nz := hd 145 rfl rfl
            have HK : ∀ v W', Below W.heap.size W W' → tailV _ 146 v W' → K { tmps := #[f 0, f 1, f 2, f 3, f 4, f 5, f 6, f 7, f 8, f 9, f 10, f 11, f 12, f 13, f 14, f 15, f 16, f 17, f 18, f 19, f 20, f 21, f 22, f 23, f 24, f 25, f 26, f 27, f 28, f 29, f 30, f 31, f 32, f 33, f 34, f 35, f 36, f 37, f 38, f 39, f 40, f 41, f 42, f 43, f 44, f 45, f 46, f 47, f 48, f 49, f 50, f 51, f 52, f 53, f 54, f 55, f 56, f 57, f 58, f 59, f 60, f 61, f 62, f 63, f 64, f 65, f 66, f 67, f 68, f 69, f 70, f 71, f 72, f 73, f 74, f 75, f 76, f 77, f 78, f 79, f 80, f 81, f 82, f 83, f 84, f 85, f 86, f 87, f 88, f 89, f 90, f 91, f 92, f 93, f 94, f 95, f 96, f 97, f 98, f 99, f 100, f 101, f 102, f 103, f 104, f 105, f 106, f 107, f 108, f 109, f 110, f 111, f 112, f 113, f 114, f 115, f 116, f 117, f 118, f 119, f 120, f 121, f 122, f 123, f 124, f 125, f 126, f 127, f 128, f 129, f 130, f 131, f 132, f 133, f 134, f 135, f 136, f 137, f 138, f 139, f 140, f 141, f 142, f 143, f 144, f 145, v, f 147], defers := [] } W' := hK
            change wpList _ #[_] _ [_] { tmps := #[f 0, f 1, f 2, f 3, f 4, f 5, f 6, f 7, f 8, f 9, f 10, f 11, f 12, f 13, f 14, f 15, f 16, f 17, f 18, f 19, f 20, f 21, f 22, f 23, f 24, f 25, f 26, f 27, f 28, f 29, f 30, f 31, f 32, f 33, f 34, f 35, f 36, f 37, f 38, f 39, f 40, f 41, f 42, f 43, f 44, f 45, f 46, f 47, f 48, f 49, f 50, f 51, f 52, f 53, f 54, f 55, f 56, f 57, f 58, f 59, f 60, f 61, f 62, f 63, f 64, f 65, f 66, f 67, f 68, f 69, f 70, f 71, f 72, f 73, f 74, f 75, f 76, f 77, f 78, f 79, f 80, f 81, f 82, f 83, f 84, f 85, f 86, f 87, f 88, f 89, f 90, f 91, f 92, f 93, f 94, f 95, f 96, f 97, f 98, f 99, f 100, f 101, f 102, f 103, f 104, f 105, f 106, f 107, f 108, f 109, f 110, f 111, f 112, f 113, f 114, f 115, f 116, f 117, f 118, f 119, f 120, f 121, f 122, f 123, f 124, f 125, f 126, f 127, f 128, f 129, f 130, f 131, f 132, f 133, f 134, f 135, f 136, f 137, f 138, f 139, f 140, f 141, f 142, f 143, f 144, f 145, f 146, f 147], defers := [] } W
            clear hK hd hold
            simp only [ze145] at HK ⊢
            clear ze145
            have HK := Aside.mk HK
            go_wp2_with (go_at_call 4; refine (HSS.out.2.2.2 W ((HJ.out.below HN.out hW).lin.nib)).mono ?_; rintro e w2 ⟨rfl, rfl⟩)
            exact HK.out _ _ (Below.refl _ _) rfl
          · -- 147 := binOp eql 22 t142 t146 22
            intro f W hW hold hd K hK
            refine .inl ⟨wanted_free rfl _, ?_⟩
            dsimp only [bare]
            have ze142 : f 142 = .int .u32 (z4 : Nat) := hd 142 rfl rfl
            have ze146 : f 146 = .int .u32 (z4 : Nat) := hd 146 rfl rfl
            have HK : ∀ v W', Below W.heap.size W W' → tailV _ 147 v W' → K { tmps := #[f 0, f 1, f 2, f 3, f 4, f 5, f 6, f 7, f 8, f 9, f 10, f 11, f 12, f 13, f 14, f 15, f 16, f 17, f 18, f 19, f 20, f 21, f 22, f 23, f 24, f 25, f 26, f 27, f 28, f 29, f 30, f 31, f 32, f 33, f 34, f 35, f 36, f 37, f 38, f 39, f 40, f 41, f 42, f 43, f 44, f 45, f 46, f 47, f 48, f 49, f 50, f 51, f 52, f 53, f 54, f 55, f 56, f 57, f 58, f 59, f 60, f 61, f 62, f 63, f 64, f 65, f 66, f 67, f 68, f 69, f 70, f 71, f 72, f 73, f 74, f 75, f 76, f 77, f 78, f 79, f 80, f 81, f 82, f 83, f 84, f 85, f 86, f 87, f 88, f 89, f 90, f 91, f 92, f 93, f 94, f 95, f 96, f 97, f 98, f 99, f 100, f 101, f 102, f 103, f 104, f 105, f 106, f 107, f 108, f 109, f 110, f 111, f 112, f 113, f 114, f 115, f 116, f 117, f 118, f 119, f 120, f 121, f 122, f 123, f 124, f 125, f 126, f 127, f 128, f 129, f 130, f 131, f 132, f 133, f 134, f 135, f 136, f 137, f 138, f 139, f 140, f 141, f 142, f 143, f 144, f 145, f 146, v], defers := [] } W' := hK
            change wpList _ #[_] _ [_] { tmps := #[f 0, f 1, f 2, f 3, f 4, f 5, f 6, f 7, f 8, f 9, f 10, f 11, f 12, f 13, f 14, f 15, f 16, f 17, f 18, f 19, f 20, f 21, f 22, f 23, f 24, f 25, f 26, f 27, f 28, f 29, f 30, f 31, f 32, f 33, f 34, f 35, f 36, f 37, f 38, f 39, f 40, f 41, f 42, f 43, f 44, f 45, f 46, f 47, f 48, f 49, f 50, f 51, f 52, f 53, f 54, f 55, f 56, f 57, f 58, f 59, f 60, f 61, f 62, f 63, f 64, f 65, f 66, f 67, f 68, f 69, f 70, f 71, f 72, f 73, f 74, f 75, f 76, f 77, f 78, f 79, f 80, f 81, f 82, f 83, f 84, f 85, f 86, f 87, f 88, f 89, f 90, f 91, f 92, f 93, f 94, f 95, f 96, f 97, f 98, f 99, f 100, f 101, f 102, f 103, f 104, f 105, f 106, f 107, f 108, f 109, f 110, f 111, f 112, f 113, f 114, f 115, f 116, f 117, f 118, f 119, f 120, f 121, f 122, f 123, f 124, f 125, f 126, f 127, f 128, f 129, f 130, f 131, f 132, f 133, f 134, f 135, f 136, f 137, f 138, f 139, f 140, f 141, f 142, f 143, f 144, f 145, f 146, f 147], defers := [] } W
            clear hK hd hold
            simp only [ze142, ze146] at HK ⊢
            clear ze142 ze146
            have HK := Aside.mk HK
            go_wp2
            exact HK.out _ _ (Below.refl _ _) rfl
          · -- 6 := assign t147
            intro f W hW hold hd K hK
            refine .inl ⟨wanted_free rfl _, ?_⟩
            dsimp only [bare]
            have ze147 : f 147 = .bool true := hd 147 rfl rfl
            have HK : ∀ v W', Below W.heap.size W W' → tailV _ 6 v W' → K { tmps := #[f 0, f 1, f 2, f 3, f 4, f 5, v, f 7, f 8, f 9, f 10, f 11, f 12, f 13, f 14, f 15, f 16, f 17, f 18, f 19, f 20, f 21, f 22, f 23, f 24, f 25, f 26, f 27, f 28, f 29, f 30, f 31, f 32, f 33, f 34, f 35, f 36, f 37, f 38, f 39, f 40, f 41, f 42, f 43, f 44, f 45, f 46, f 47, f 48, f 49, f 50, f 51, f 52, f 53, f 54, f 55, f 56, f 57, f 58, f 59, f 60, f 61, f 62, f 63, f 64, f 65, f 66, f 67, f 68, f 69, f 70, f 71, f 72, f 73, f 74, f 75, f 76, f 77, f 78, f 79, f 80, f 81, f 82, f 83, f 84, f 85, f 86, f 87, f 88, f 89, f 90, f 91, f 92, f 93, f 94, f 95, f 96, f 97, f 98, f 99, f 100, f 101, f 102, f 103, f 104, f 105, f 106, f 107, f 108, f 109, f 110, f 111, f 112, f 113, f 114, f 115, f 116, f 117, f 118, f 119, f 120, f 121, f 122, f 123, f 124, f 125, f 126, f 127, f 128, f 129, f 130, f 131, f 132, f 133, f 134, f 135, f 136, f 137, f 138, f 139, f 140, f 141, f 142, f 143, f 144, f 145, f 146, f 147], defers := [] } W' := hK
            change wpList _ #[_] _ [_] { tmps := #[f 0, f 1, f 2, f 3, f 4, f 5, f 6, f 7, f 8, f 9, f 10, f 11, f 12, f 13, f 14, f 15, f 16, f 17, f 18, f 19, f 20, f 21, f 22, f 23, f 24, f 25, f 26, f 27, f 28, f 29, f 30, f 31, f 32, f 33, f 34, f 35, f 36, f 37, f 38, f 39, f 40, f 41, f 42, f 43, f 44, f 45, f 46, f 47, f 48, f 49, f 50, f 51, f 52, f 53, f 54, f 55, f 56, f 57, f 58, f 59, f 60, f 61, f 62, f 63, f 64, f 65, f 66, f 67, f 68, f 69, f 70, f 71, f 72, f 73, f 74, f 75, f 76, f 77, f 78, f 79, f 80, f 81, f 82, f 83, f 84, f 85, f 86, f 87, f 88, f 89, f 90, f 91, f 92, f 93, f 94, f 95, f 96, f 97, f 98, f 99, f 100, f 101, f 102, f 103, f 104, f 105, f 106, f 107, f 108, f 109, f 110, f 111, f 112, f 113, f 114, f 115, f 116, f 117, f 118, f 119, f 120, f 121, f 122, f 123, f 124, f 125, f 126, f 127, f 128, f 129, f 130, f 131, f 132, f 133, f 134, f 135, f 136, f 137, f 138, f 139, f 140, f 141, f 142, f 143, f 144, f 145, f 146, f 147], defers := [] } W
            clear hK hd hold
            simp only [ze147] at HK ⊢
            clear ze147
            have HK := Aside.mk HK
            go_wp2
            exact HK.out _ _ (Below.refl _ _) rfl
          · intro f W hW hold hd aa ha
            replace ha : aa = { tmps := #[f 0, f 1, f 2, f 3, f 4, f 5, f 6, f 7, f 8, f 9, f 10, f 11, f 12, f 13, f 14, f 15, f 16, f 17, f 18, f 19, f 20, f 21, f 22, f 23, f 24, f 25, f 26, f 27, f 28, f 29, f 30, f 31, f 32, f 33, f 34, f 35, f 36, f 37, f 38, f 39, f 40, f 41, f 42, f 43, f 44, f 45, f 46, f 47, f 48, f 49, f 50, f 51, f 52, f 53, f 54, f 55, f 56, f 57, f 58, f 59, f 60, f 61, f 62, f 63, f 64, f 65, f 66, f 67, f 68, f 69, f 70, f 71, f 72, f 73, f 74, f 75, f 76, f 77, f 78, f 79, f 80, f 81, f 82, f 83, f 84, f 85, f 86, f 87, f 88, f 89, f 90, f 91, f 92, f 93, f 94, f 95, f 96, f 97, f 98, f 99, f 100, f 101, f 102, f 103, f 104, f 105, f 106, f 107, f 108, f 109, f 110, f 111, f 112, f 113, f 114, f 115, f 116, f 117, f 118, f 119, f 120, f 121, f 122, f 123, f 124, f 125, f 126, f 127, f 128, f 129, f 130, f 131, f 132, f 133, f 134, f 135, f 136, f 137, f 138, f 139, f 140, f 141, f 142, f 143, f 144, f 145, f 146, f 147], defers := [] } := ha
            have ze1 : f 1 = .string a := hold 1 rfl
            have ze2 : f 2 = .string b := hold 2 rfl
            have ze6 : f 6 = .bool true := hd 6 rfl
            have ze7 : f 7 = .int .i64 i := hold 7 rfl
            have ze8 : f 8 = .slice (some ⟨g, 0, none⟩) i i := hold 8 rfl
            have ze134 : f 134 = .string a := hd 134 rfl
            have ze135 : f 135 = .int .u32 (z1 : Nat) := hd 135 rfl
            have ze136 : f 136 = .string b := hd 136 rfl
            have ze137 : f 137 = .int .u32 (z2 : Nat) := hd 137 rfl
            have ze138 : f 138 = .int .u32 ((z1 ^^^ z2 : Nat) : Int) := hd 138 rfl
            have ze139 : f 139 = .slice (some ⟨g, 0, none⟩) i i := hd 139 rfl
            have ze140 : f 140 = .string sx := hd 140 rfl
            have ze141 : f 141 = .int .u32 (z3 : Nat) := hd 141 rfl
            have ze142 : f 142 = .int .u32 (z4 : Nat) := hd 142 rfl
            have ze143 : f 143 = .int .i64 i := hd 143 rfl
            obtain ⟨b144, ze144, r144⟩ : ∃ bb, f 144 = .slice (some ⟨bb, 0, none⟩) i i ∧ W.heap[bb]? = some (.cells (madeCells #[.int .u8 0] i) 5 (0, 0)) := hd 144 rfl
            have ze145 : f 145 = .string nz := hd 145 rfl
            have ze146 : f 146 = .int .u32 (z4 : Nat) := hd 146 rfl
            have ze147 : f 147 = .bool true := hd 147 rfl
            simp only [ze1, ze2, ze6, ze7, ze8, ze134, ze135, ze136, ze137, ze138, ze139, ze140, ze141, ze142, ze143, ze144, ze145, ze146, ze147] at ha
            subst ha
            clear hold hd ze1 ze2 ze6 ze7 ze8 ze134 ze135 ze136 ze137 ze138 ze139 ze140 ze141 ze142 ze143 ze144 ze145 ze146 ze147
            have hb26 := (HJ.out.below HN.out hW).lin.bel
            go_wp2
            go_ret
            exact ⟨rfl, hb26⟩

end Go.Proofs.YtkdfbganhohbfaaDoor
