/-
  What is read of a page that was written, that is lost, that is as erased.
  A new chip: all its blocks are erased.
  A chip for a geometry of one chunk a page; a pager over it.
  The members of a group; the document's plan; eight pages.
  The small geometry; a chip and a pager for it.
  TopPairBack: what lies in memory while it runs.
  TopPairBack: the chip's pages, and the texts that bring each other back.
-/
import Derived.Test.YtkgacnenmflegaaGreatDoorMg16
import Derived.Test.YtkgacnenmflegaaGreatDoorMg3
import Derived.Test.YtkgacnenmflegaaGreatDoorMaParXor
namespace Go.Proofs.YtkgacnenmflegaaGreatDoor
open Go.RowKit

/-! ### A chunk with its own parity -/
theorem bits_tail {low : List UInt8} {n : Nat} (y : UInt8) (hz : ∀ i, n ≤ i → bitB low i = false) : ∀ (k : Nat) {r : List UInt8}, low.length = r.length → (∀ i, n ≤ i → bitB r i = false) → ∀ i, n ≤ i → bitB (bitsD low y r k) i = false
  | 0, _, _, hr => hr
  | k + 1, r, h, hr => by
    have h1 := stepB_len h (bitAt y k)
    exact bits_tail y hz k (r := stepB low r (bitAt y k)) (by rw [h1, h]) (step_tail h hz hr)
theorem div_tail {low : List UInt8} {n : Nat} (hz : ∀ i, n ≤ i → bitB low i = false) : ∀ (d : List UInt8) {r : List UInt8}, low.length = r.length → (∀ i, n ≤ i → bitB r i = false) → ∀ i, n ≤ i → bitB (divD low r d) i = false
  | [], _, _, hr => hr
  | y :: d, r, h, hr => by
    rw [divD_cons]
    have hb : byteD low y r = bitsD low y r 8 := by unfold byteD; rfl
    have h2 := bits_tail y hz 8 h hr
    rw [← hb] at h2
    exact div_tail hz d (r := byteD low y r) (by rw [byteD_len y h, h]) h2
theorem or_bits : ∀ n, n < 256 → ∀ k, k < 8 → ∀ j, j < 8 → (UInt8.ofNat (n ||| 128 / 2 ^ k)).toNat.testBit (7 - j) = (n.testBit (7 - j) || decide (j = k)) := by decide +kernel
theorem bitB_setB {t : Nat} {l : List UInt8} (hl : l.length = lowN8 t) {e : Nat} (he : e < degN t) (hd : degN t ≤ 8 * lowN8 t) (i : Nat) : bitB (setB t l e) i = (bitB l i || decide (i = degN t - 1 - e)) := by
  unfold setB
  obtain ⟨p, hp⟩ : ∃ p, p = degN t - 1 - e := ⟨_, rfl⟩
  rw [← hp, bitB_set (by rw [hl]; omega)]
  by_cases h : i / 8 = p / 8
  · rw [if_pos h]
    unfold bitU
    rw [or_bits _ (UInt8.toNat_lt _) _ (Nat.mod_lt _ (by omega)) _ (Nat.mod_lt _ (by omega))]
    unfold bitB
    rw [h]
    congr 1
    rw [decide_eq_decide]
    omega
  · rw [if_neg h]
    have : ¬ i = p := fun e => h (by rw [e])
    simp [this]
theorem foldB_bits {t : Nat} (hd : degN t ≤ 8 * lowN8 t) : ∀ (r : List Nat) {l : List UInt8}, l.length = lowN8 t → (∀ e ∈ r, e < degN t) → ∀ i, bitB (r.foldl (setB t) l) i = (bitB l i || r.any fun e => decide (i = degN t - 1 - e))
  | [], l, _, _, i => by simp
  | e :: r, l, hl, he, i => by
    rw [List.foldl_cons, foldB_bits hd r (by rw [setB_len, hl]) (fun x hx => he x (by simp [hx])), bitB_setB hl (he e (by simp)) hd, List.any_cons, Bool.or_assoc]
theorem lowG_bits {t : Nat} (h1 : 1 ≤ t) (h8 : t ≤ 8) (i : Nat) : bitB (lowG t) i = (((listP (genN t)).drop 1).any fun e => decide (i = degN t - 1 - e)) := by
  obtain ⟨h2, h3, h4⟩ := low_deg h1 h8
  unfold lowG
  rw [foldB_bits h3 _ (by simp) (fun e he => ?_), bitB_zeros, Bool.false_or]
  obtain ⟨j, hj, rfl⟩ := List.mem_iff_getElem.1 he
  rw [List.getElem_drop]
  rw [List.length_drop] at hj
  have := gen_tail (t := t) (i := j) h8 (by omega)
  rw [List.getD_eq_getElem?_getD, List.getElem?_eq_getElem (by omega)] at this
  simpa [Nat.add_comm] using this
theorem lowG_tail {t : Nat} (h1 : 1 ≤ t) (h8 : t ≤ 8) (i : Nat) (hi : degN t ≤ i) : bitB (lowG t) i = false := by
  rw [lowG_bits h1 h8]
  rw [List.any_eq_false]
  intro e _
  have := (low_deg h1 h8).2.1
  have hd : 1 ≤ degN t := by have := deg_all t (by omega) h1; omega
  simp
  omega
theorem enc_tail {t : Nat} (h1 : 1 ≤ t) (h8 : t ≤ 8) (d : ByteArray) (i : Nat) (hi : degN t ≤ i) : bitB (divD (lowG t) (List.replicate (lowN8 t) 0) d.data.toList) i = false :=
  div_tail (lowG_tail h1 h8) _ (by rw [lowG_len]; simp) (fun j _ => bitB_zeros _ j) i hi
theorem enc_len (t : Nat) (d : ByteArray) : (divD (lowG t) (List.replicate (lowN8 t) 0) d.data.toList).length = lowN8 t := by
  rw [divD_len _ (by rw [lowG_len]; simp)]
  simp
theorem remL_own {t : Nat} (h1 : 1 ≤ t) (h8 : t ≤ 8) (d : ByteArray) (i : Nat) : bitB (remL t d (encD t (lowG t) d)) i = false := by
  have e : (encD t (lowG t) d).data.toList = divD (lowG t) (List.replicate (lowN8 t) 0) d.data.toList := by simp [encD]
  unfold remL
  rw [e, clean_same h1 h8 (enc_len t d) (enc_tail h1 h8 d), bitB_xor _ rfl, Bool.xor_self]
theorem synZ_zero {r : List UInt8} (h : ∀ i, bitB r i = false) (d k : Nat) : synZ r d k = true := by
  unfold synZ
  rw [List.all_eq_true]
  intro j _
  rw [vrow_zero d fun i _ => h i]
  rfl
theorem synZ_own {t : Nat} (h1 : 1 ≤ t) (h8 : t ≤ 8) (d : ByteArray) : synZ (remL t d (encD t (lowG t) d)) (degN t) (2 * t) = true := synZ_zero (remL_own h1 h8 d) _ _
/-! ### Noughts alone -/
theorem leftL_zeros : ∀ n, leftL (List.replicate n 0) = (List.replicate n 0, 0)
  | 0 => rfl
  | n + 1 => by rw [List.replicate_succ]; simp only [leftL, leftL_zeros n]; rfl
theorem bitAt_zero (k : Nat) : bitAt 0 k = 0 := by unfold bitAt; simp
theorem bitsD_zeros (low : List UInt8) (n : Nat) : ∀ k, bitsD low 0 (List.replicate n 0) k = List.replicate n 0
  | 0 => rfl
  | k + 1 => by
    rw [bitsD, bitAt_zero]
    have : stepB low (List.replicate n 0) 0 = List.replicate n 0 := by unfold stepB; rw [leftL_zeros]; simp
    rw [this, bitsD_zeros low n k]
theorem divD_zeros (low : List UInt8) (n : Nat) : ∀ m, divD low (List.replicate n 0) (List.replicate m 0) = List.replicate n 0
  | 0 => rfl
  | m + 1 => by
    rw [List.replicate_succ, divD_cons]
    have hb : byteD low 0 (List.replicate n 0) = bitsD low 0 (List.replicate n 0) 8 := by unfold byteD; rfl
    rw [hb, bitsD_zeros, divD_zeros low n m]
theorem encD_zeros (t n : Nat) : encD t (lowG t) (fillB 0 n) = fillB 0 (lowN8 t) := by
  unfold encD fillB
  simp only []
  rw [divD_zeros]
theorem sum_zeros : ∀ m, m < 253 → 12 ≤ m → Crc.sum (List.replicate m 0) ≠ 0 := by decide +kernel
theorem le4_zero {c : Nat} (hc : c < 4294967296) (h : le4 c = [0, 0, 0, 0]) : c = 0 := by
  unfold le4 at h
  simp only [List.cons.injEq, and_true] at h
  obtain ⟨h0, h1, h2, h3⟩ := h
  have e0 := congrArg UInt8.toNat h0
  have e1 := congrArg UInt8.toNat h1
  have e2 := congrArg UInt8.toNat h2
  have e3 := congrArg UInt8.toNat h3
  simp at e0 e1 e2 e3
  omega
theorem opens_zeros {n : Nat} (h1 : 16 ≤ n) (h2 : n ≤ 256) : opens (fillB 0 n) = false := by
  unfold opens
  rw [fillB_size]
  rw [decide_eq_false_iff_not]
  rintro ⟨_, h⟩
  have e : (fillB 0 n).data.toList = List.replicate n 0 := by simp [fillB]
  rw [e] at h
  rw [List.drop_replicate, List.take_replicate, show n - (n - 4) = 4 by omega, show min (n - 4) n = n - 4 by omega] at h
  exact sum_zeros (n - 4) (by omega) (by omega) (le4_zero (Crc.sum_lt _) h.symm)
/-! ### A text -/
/-- A payload, filled up. -/
def padP (n : Nat) (pl : ByteArray) : ByteArray := pl ++ fillB 0 (n - 7 - pl.size)
theorem body_list (n : Nat) (pl : ByteArray) : (bodyP n pl).data.toList = ([0, 0, 0] ++ (padP n pl).data.toList) ++ le4 (Crc.sum ([0, 0, 0] ++ (padP n pl).data.toList)) := by
  unfold bodyP
  rw [sealed_list, concat_list, concat_list]
  unfold padP
  rw [concat_list]
  simp
theorem opens_body (n : Nat) (pl : ByteArray) : opens (bodyP n pl) = true := by
  unfold opens
  have hs : (bodyP n pl).size = ([0, 0, 0] ++ (padP n pl).data.toList).length + 4 := by
    rw [← data_len, body_list, List.length_append]
    rfl
  rw [hs, body_list, Nat.add_sub_cancel, List.drop_left, List.take_left]
  simp
theorem ext_list (s : ByteArray) (a b : Nat) : (s.extract a b).data.toList = (s.data.toList.drop a).take (b - a) := by
  simp [ByteArray.extract, ByteArray.copySlice]
theorem openText_body (n : Nat) (pl : ByteArray) : (openText (bodyP n pl)).data.toList = [0, 0, 0] ++ (padP n pl).data.toList := by
  unfold openText
  rw [opens_body, if_pos rfl]
  have hs : (bodyP n pl).size = ([0, 0, 0] ++ (padP n pl).data.toList).length + 4 := by
    rw [← data_len, body_list, List.length_append]
    rfl
  rw [hs, Nat.add_sub_cancel, ext_list, body_list]
  simp
theorem isP_body (n : Nat) (pl : ByteArray) : isP (bodyP n pl) = true := by
  unfold isP Lib.hasPrefix
  rw [openText_body]
  simp
theorem sayP_body (n : Nat) (pl : ByteArray) : sayP (bodyP n pl) = padP n pl := by
  unfold sayP Lib.trimPrefix
  have h := isP_body n pl
  unfold isP at h
  rw [if_pos h, openText_body]
  simp
theorem noL_app (a b : List UInt8) : noL (a ++ b) = noL a + noL b := by
  unfold noL
  rw [List.foldl_append]
  have h : ∀ (l : List UInt8) (c : Nat), l.foldl (fun a x => a + no8 x) c = c + l.foldl (fun a x => a + no8 x) 0 := by
    intro l
    induction l with
    | nil => intro c; simp
    | cons x l ih => intro c; rw [List.foldl_cons, List.foldl_cons, ih, ih (0 + no8 x)]; omega
  exact h b _
theorem no8_all : no8 255 = 0 ∧ no8 0 = 8 := by decide +kernel
theorem noL_rep (x : UInt8) : ∀ n, noL (List.replicate n x) = n * no8 x
  | 0 => by simp [noL]
  | n + 1 => by rw [List.replicate_succ', noL_snoc, noL_rep x n, Nat.add_mul]; omega
theorem noL_body (n : Nat) (pl : ByteArray) : 24 ≤ noL (bodyP n pl).data.toList := by
  rw [body_list, noL_app, noL_app, show ([0, 0, 0] : List UInt8) = List.replicate 3 0 from rfl, noL_rep, no8_all.2]
  omega
/-! ### Reading -/
theorem rawP_list (t n : Nat) (pl : ByteArray) : (rawP t n pl).data.toList = (bodyP n pl).data.toList ++ (encD t (lowG t) (bodyP n pl)).data.toList := by
  unfold rawP withP
  rw [concat_list]
theorem withP_cut {t n : Nat} {d : ByteArray} (hd : d.size = n) : (withP t d).extract 0 n = d ∧ (withP t d).extract n (withP t d).size = encD t (lowG t) d ∧ (withP t d).size = n + lowN8 t := by
  have hl : d.data.toList.length = n := by rw [← hd]; simp
  have hs : (withP t d).size = n + lowN8 t := by unfold withP; rw [ByteArray.size_append, encD_size, hd]
  refine ⟨?_, ?_, hs⟩
  · apply ByteArray.ext
    apply Array.ext'
    rw [ext_list]
    unfold withP
    rw [concat_list]
    simp [hl]
  · apply ByteArray.ext
    apply Array.ext'
    rw [ext_list, hs]
    unfold withP
    rw [concat_list, List.drop_left' hl]
    have : (encD t (lowG t) d).data.toList.length = lowN8 t := by rw [data_len]; exact encD_size t d
    rw [List.take_of_length_le (by omega)]
section
variable {w : World} {L : PLoc} {S : ChS}
theorem raw_le (h : PgrAt w L S) : S.raw ≤ 300 := by
  have h1 := (degN_le L.t (by have := h.ht8; omega) h.ht1).2
  have h2 := h.ht8
  have h3 := h.raw
  have h4 := h.hn2
  unfold lowN8 at h3
  omega
/-- A chunk with its own parity lies there. -/
theorem page_read_code (h : PgrAt w L S) (hn : Nib w) (hgl : 0 < L.lo) (b q : Nat) (hb : b < S.nb) (hq : q < S.np) (ho : S.off = false) (hrd : S.rd b ≤ 1000000) (hmo : S.most < 1) (hst : (S.pg b q).st < 3) (d : ByteArray) (hd : d.size = L.n) (hv : (S.pg b q).view S.raw = withP L.t d) (hno : ¬ noL (withP L.t d).data.toList ≤ L.t) :
    Calls Tryz.prog 26 #[.pointer (some ⟨L.p, 0, none⟩), .int .i64 (b : Int), .int .i64 (q : Int)] w (FoundPost w L (S.read b) (foundV (opens d && isP d) (sayP d) 0)) := by
  obtain ⟨h1, h2, h3⟩ := withP_cut (t := L.t) hd
  refine page_read w L S (S.read b) h hn hgl b q (withP L.t d) d ⟨(cleanL L.t (encD L.t (lowG L.t) d).data.toList).toArray⟩ 0 (by omega) _ _ rfl rfl h3 hd rfl rfl rfl (fun W hW => ?_) hno (fun W hW => ?_)
  · have := nand_read hW b q hb hq ho hrd (by have := raw_le h; omega) hmo hst
    rwa [hv] at this
  · rw [h1, h2]
    exact bch_decode_clean L.k L.t L.n d (encD L.t (lowG L.t) d) W h.ht1 h.ht8 hW hd h.hn2 (encD_size _ _) (synZ_own h.ht1 h.ht8 d)
theorem page_read_written (h : PgrAt w L S) (hn : Nib w) (hgl : 0 < L.lo) (b q : Nat) (hb : b < S.nb) (hq : q < S.np) (ho : S.off = false) (hrd : S.rd b ≤ 1000000) (hmo : S.most < 1) (pl : ByteArray) (hpl : pl.size + 7 ≤ L.n) (hst : (S.pg b q).st = 1) (hdt : (S.pg b q).data = rawP L.t L.n pl) :
    Calls Tryz.prog 26 #[.pointer (some ⟨L.p, 0, none⟩), .int .i64 (b : Int), .int .i64 (q : Int)] w (FoundPost w L (S.read b) (.agg #[.int .i64 1, .string (padP L.n pl), .int .i64 0])) := by
  have hv : (S.pg b q).view S.raw = withP L.t (bodyP L.n pl) := by
    unfold PgS.view
    rw [if_neg (by omega), if_neg (by omega), hdt]
    rfl
  have := page_read_code h hn hgl b q hb hq ho hrd hmo (by omega) (bodyP L.n pl) (bodyP_size hpl) hv (by
    have h1 := noL_body L.n pl
    have h2 := rawP_list L.t L.n pl
    have h3 := h.ht8
    have e : (withP L.t (bodyP L.n pl)).data.toList = (rawP L.t L.n pl).data.toList := rfl
    rw [e, h2, noL_app]
    omega)
  rw [opens_body, isP_body, sayP_body] at this
  exact this
theorem page_read_lost (h : PgrAt w L S) (hn : Nib w) (hgl : 0 < L.lo) (b q : Nat) (hb : b < S.nb) (hq : q < S.np) (ho : S.off = false) (hrd : S.rd b ≤ 1000000) (hmo : S.most < 1) (hst : (S.pg b q).st = 2) :
    Calls Tryz.prog 26 #[.pointer (some ⟨L.p, 0, none⟩), .int .i64 (b : Int), .int .i64 (q : Int)] w (FoundPost w L (S.read b) (.agg #[.int .i64 2, .string ⟨#[]⟩, .int .i64 0])) := by
  have hz : withP L.t (fillB 0 L.n) = fillB 0 (L.n + lowN8 L.t) := by
    apply ByteArray.ext
    apply Array.ext'
    unfold withP
    rw [concat_list, encD_zeros]
    simp [fillB, List.replicate_append_replicate]
  have hv : (S.pg b q).view S.raw = withP L.t (fillB 0 L.n) := by
    unfold PgS.view
    rw [if_neg (by omega), if_pos hst, hz, h.raw]
  have := page_read_code h hn hgl b q hb hq ho hrd hmo (by omega) (fillB 0 L.n) (fillB_size _ _) hv (by
    have h3 := h.ht8
    have h4 := h.hn1
    rw [hz]
    have e : (fillB 0 (L.n + lowN8 L.t)).data.toList = List.replicate (L.n + lowN8 L.t) 0 := by simp [fillB]
    rw [e, noL_rep, no8_all.2]
    omega)
  rw [opens_zeros h.hn1 h.hn2] at this
  exact this
theorem page_read_none (h : PgrAt w L S) (b q : Nat) (hb : b < S.nb) (hq : q < S.np) (ho : S.off = false) (hrd : S.rd b ≤ 1000000) (hmo : S.most < 1) (hst : (S.pg b q).st = 0) :
    Calls Tryz.prog 26 #[.pointer (some ⟨L.p, 0, none⟩), .int .i64 (b : Int), .int .i64 (q : Int)] w (FoundPost w L (S.read b) emptyV) := by
  have hv : (S.pg b q).view S.raw = fillB 255 S.raw := by unfold PgS.view; rw [if_pos hst]
  refine page_read_empty w L S (S.read b) h b q (fillB 255 S.raw) (by rw [fillB_size]; exact h.raw) rfl rfl rfl (fun W hW => ?_) ?_
  · have := nand_read hW b q hb hq ho hrd (by have := raw_le h; omega) hmo (by omega)
    rwa [hv] at this
  · have e : (fillB 255 S.raw).data.toList = List.replicate S.raw 255 := by simp [fillB]
    rw [e, noL_rep, no8_all.1]
    omega
/-- A page is written, the power stays, nothing is torn. -/
theorem page_put (h : PgrAt w L S) (hn : Nib w) (b q : Nat) (hb : b < S.nb) (hq : q < S.np) (hnp : S.np ≤ 64) (ho : S.off = false) (hw : S.wo b = false) (hf : S.fresh b q) (hl : S.left = 0) (hc : S.chg ≤ 1000000) (pl : ByteArray) (hpl : pl.size + 7 ≤ L.n) :
    Calls Tryz.prog 22 #[.pointer (some ⟨L.p, 0, none⟩), .int .i64 (b : Int), .int .i64 (q : Int), .string pl] w (WritePost w L (S.tick0.setPg b q ((S.pg b q).put (rawP L.t L.n pl))) 0) := by
  refine page_write w L S h hn b q pl hpl _ 0 rfl rfl rfl fun W hW => ?_
  refine nand_program hW b q hb hq hnp _ ?_ ho hw hf S.tick0 rfl rfl rfl fun V hV => nand_torn0 hV hc hl
  rw [h.raw]
  exact (withP_cut (t := L.t) (bodyP_size hpl)).2.2
end
end Go.Proofs.YtkgacnenmflegaaGreatDoor
namespace Go.Proofs.YtkgacnenmflegaaGreatDoor
open Go.RowKit

def chip0 (nb np raw : Nat) : ChS := ⟨nb, np, raw, fun _ _ => ⟨0, ByteArray.empty, false⟩, fun _ => 0, fun _ => 0, fun _ => false, 0, 0, 0, 0, 0, false, 0⟩
theorem infoPage : (Tryz.prog.info? 159).map (fun i => (i.zero, i.size, i.bytes)) = some (some (.agg #[.int .i64 0, .string ByteArray.empty, .bool false]), 3, 32) := by kernel_rfl
theorem infoBlock : (Tryz.prog.info? 162).map (fun i => (i.zero, i.size, i.bytes)) = some (some (.agg #[.slice none 0 0, .int .i64 0, .int .i64 0, .bool false]), 4, 48) := by kernel_rfl
theorem zeroBlock : (Value.agg #[.slice none 0 0, .int .i64 0, .int .i64 0, .bool false]).cells.size = 4 := by kernel_rfl
theorem make_pages (m : Nat) (h : m ≤ 64) (W : World) :
    (Instr.makeSlice 160 (.int .i64 (m : Int)) (.int .i64 (m : Int))).run Tryz.prog W = .ok (.slice (some ⟨W.heap.size, 0, none⟩) m m) (W.alloc (.cells (rows 3 (fun _ j => pgF ⟨0, ByteArray.empty, false⟩ j) m).toArray 159)) := by
  obtain ⟨i, hi, hzz⟩ := Option.map_eq_some_iff.1 infoPage
  simp only [Prod.mk.injEq] at hzz
  obtain ⟨hz, hs, hb⟩ := hzz
  have hr := run_make (P := Tryz.prog) W 160 159 i _ Tryz.underlying160 hi hz .i64 .i64 (m : Int) (m : Int) (by omega) (Int.le_refl _) (by rw [hb]; omega) (by omega)
  rw [hr, hs, Int.toNat_natCast]
  have e : madeCells (Value.agg #[.int .i64 0, .string ByteArray.empty, .bool false]).cells (m * 3) = (rows 3 (fun _ j => pgF ⟨0, ByteArray.empty, false⟩ j) m).toArray := by
    apply Array.ext
    · simp [madeCells, rows]
    · intro k h1 h2
      have h3 : k % 3 < 3 := Nat.mod_lt _ (by omega)
      have ec : (Value.agg #[.int .i64 0, .string ByteArray.empty, .bool false]).cells = #[.int .i64 0, .string ByteArray.empty, .bool false] := by kernel_rfl
      simp only [madeCells, rows, Array.getElem_map, Array.getElem_range, List.getElem_toArray, List.getElem_map, List.getElem_range, ec]
      show (#[Value.int .i64 0, .string ByteArray.empty, .bool false] : Array Value)[k % 3]! = pgF ⟨0, ByteArray.empty, false⟩ (k % 3)
      rcases (show k % 3 = 0 ∨ k % 3 = 1 ∨ k % 3 = 2 by omega) with h | h | h <;> rw [h] <;> rfl
  rw [e]
/-- While the blocks are made. -/
structure NewAt (w0 w : World) (c k np raw : Nat) (v : Value) (pb : Nat → Nat) : Prop where
  cb : w.heap[c]? = some (.cells #[v, .int .i64 (raw : Int), .int .i64 0, .int .i64 0, .int .i64 0, .int .i64 0, .int .i64 0, .bool false, .int .i64 0] 150 (0, 0))
  br : Row w (c + 1) 162 4 v k (blksL pb (chip0 k np raw))
  pc : ∀ b, b < k → w.heap[pb b]? = some (.cells (pgsL (chip0 k np raw) b).toArray 159 (0, 0))
  inj : ∀ i j, i < k → j < k → pb i = pb j → i = j
  rp : ∀ b, b < k → c < pb b ∧ pb b < w.heap.size
  lt : c < w.heap.size
  bel : Below c w0 w
theorem grownBy_setCell' (w : World) (f i : Nat) (v : Value) : w.grownBy (w.setCell ⟨f, i, none⟩ v) (some f) :=
  ⟨rfl, rfl, rfl, by simp [World.setCell], fun k _ hk => Below.heap_setCell _ _ _ _ (fun e => hk (by simp [e]))⟩
theorem heap_alloc_lt (w : World) (o : Obj) {r : Nat} (h : r < w.heap.size) : (w.alloc o).heap[r]? = w.heap[r]? := ((Below.refl w.heap.size w).alloc (Nat.le_refl _) o).block r h
theorem rows_succ4 (f : Nat → Nat → Value) (n : Nat) : rows 4 f (n + 1) = rows 4 f n ++ [f n 0, f n 1, f n 2, f n 3] := by
  unfold rows
  rw [show (n + 1) * 4 = n * 4 + 1 + 1 + 1 + 1 by omega, List.range_succ, List.range_succ, List.range_succ, List.range_succ]
  simp only [List.map_append, List.map_cons, List.map_nil, List.append_assoc, List.cons_append, List.nil_append]
  have e0 : n * 4 / 4 = n ∧ n * 4 % 4 = 0 := by omega
  have e1 : (n * 4 + 1) / 4 = n ∧ (n * 4 + 1) % 4 = 1 := by omega
  have e2 : (n * 4 + 1 + 1) / 4 = n ∧ (n * 4 + 1 + 1) % 4 = 2 := by omega
  have e3 : (n * 4 + 1 + 1 + 1) / 4 = n ∧ (n * 4 + 1 + 1 + 1) % 4 = 3 := by omega
  rw [e0.1, e0.2, e1.1, e1.2, e2.1, e2.2, e3.1, e3.2]
theorem NewAt.step {w0 wr : World} {c k np raw : Nat} {A1 A3 : Option Addr} {n1 c1 n3 c3 : Nat} {pb : Nat → Nat} {Pg : Array Value} {w1 : World} (h : NewAt w0 wr c k np raw (.slice A1 n1 c1) pb)
    (hP : Pg = (rows 3 (fun _ j => pgF ⟨0, ByteArray.empty, false⟩ j) np).toArray)
    (hr : Row w1 (c + 1) 162 4 (.slice A3 n3 c3) (k + 1) (blksL pb (chip0 k np raw) ++ [.slice (some ⟨wr.heap.size, 0, none⟩) np np, .int .i64 0, .int .i64 0, .bool false]))
    (hb : Below (c + 1) wr w1) (hg : ((wr.alloc (.cells Pg 159)).alloc (.cells #[.slice (some ⟨wr.heap.size, 0, none⟩) np np, .int .i64 0, .int .i64 0, .bool false] 162)).drew.grownBy w1 (Value.slice A1 n1 c1).ownBlock) :
    NewAt w0 (w1.setCell ⟨c, 0, none⟩ (.slice A3 n3 c3)) c (k + 1) np raw (.slice A3 n3 c3) (fun b => if b = k then wr.heap.size else pb b) := by
  have hs := grownBy_setCell' w1 c 0 (.slice A3 n3 c3)
  have hlt := h.lt
  have hsz : wr.heap.size + 1 + 1 ≤ w1.heap.size := by have := hg.size; simpa using this
  have hnew : ∀ q, q ≤ wr.heap.size → (Value.slice A1 n1 c1).ownBlock ≠ some q → w1.heap[q]? = ((wr.alloc (.cells Pg 159)).alloc (.cells #[.slice (some ⟨wr.heap.size, 0, none⟩) np np, .int .i64 0, .int .i64 0, .bool false] 162)).heap[q]? := fun q hq hne => hg.block q (by simp; omega) (fun e => hne e.symm)
  have hown : ∀ q, (Value.slice A1 n1 c1).ownBlock = some q → q < wr.heap.size ∧ ∃ cur fr, wr.heap[q]? = some (.cells cur 162 fr) := fun q hq => (h.br.blk q hq).2
  have e1 : blksL pb (chip0 k np raw) ++ [.slice (some ⟨wr.heap.size, 0, none⟩) np np, .int .i64 0, .int .i64 0, .bool false] = blksL (fun b => if b = k then wr.heap.size else pb b) (chip0 (k + 1) np raw) := by
    have ee : blksL (fun b => if b = k then wr.heap.size else pb b) (chip0 (k + 1) np raw) = rows 4 (fun b j => blF (.slice (some ⟨if b = k then wr.heap.size else pb b, 0, none⟩) np np) 0 0 false j) (k + 1) := rfl
    rw [ee, rows_succ4]
    congr 1
    · refine rows_congr fun i j hi _ => ?_
      have hi : i < k := hi
      rw [if_neg (by omega)]
      rfl
    · simp [blF]
  have hcne : ∀ q, c < q → w1.heap[q]? = (w1.setCell ⟨c, 0, none⟩ (.slice A3 n3 c3)).heap[q]? := fun q hq => (Below.heap_setCell _ _ _ _ (by show q ≠ c; omega)).symm
  refine ⟨?_, ?_, fun b hbk => ?_, fun i j hi hj e => ?_, fun b hbk => ?_, ?_, ?_⟩
  · have := (hb.block c (Nat.lt_succ_self c)).trans h.cb
    simp [World.setCell, Array.getElem?_modify, this]
  · rw [← e1]
    exact hr.kept hs (.inr fun e => by have := (hr.blk _ e).1; omega)
  · have e2 : (pgsL (chip0 (k + 1) np raw) b).toArray = Pg := by rw [hP]; rfl
    rw [e2]
    by_cases hb2 : b = k
    · simp only [hb2, if_true]
      rw [← hcne _ hlt, hnew _ (Nat.le_refl _) (fun e => by have := (hown _ e).1; omega)]
      exact (heap_alloc_lt _ _ (by simp)).trans (heap_alloc_new wr _)
    · simp only [hb2, if_false]
      have h3 := h.rp b (by omega)
      have h4 := h.pc b (by omega)
      rw [← hcne _ h3.1, hnew _ (by omega) (fun e => by
        obtain ⟨_, cur, fr, h5⟩ := hown _ e
        rw [h4] at h5
        simp only [Option.some.injEq, Obj.cells.injEq] at h5
        exact absurd h5.2.1 (by decide))]
      have e3 : (pgsL (chip0 k np raw) b).toArray = Pg := by rw [hP]; rfl
      rw [e3] at h4
      exact (heap_alloc_lt _ _ (by simp; omega)).trans ((heap_alloc_lt _ _ h3.2).trans h4)
  · by_cases h1 : i = k <;> by_cases h2 : j = k
    · omega
    · simp only [h1, h2, if_true, if_false] at e
      have := (h.rp j (by omega)).2
      omega
    · simp only [h1, h2, if_true, if_false] at e
      have := (h.rp i (by omega)).2
      omega
    · simp only [h1, h2, if_false] at e
      exact h.inj i j (by omega) (by omega) e
  · have : (w1.setCell ⟨c, 0, none⟩ (.slice A3 n3 c3)).heap.size = w1.heap.size := by simp [World.setCell]
    rw [this]
    by_cases h1 : b = k
    · simp only [h1, if_true]; omega
    · simp only [h1, if_false]
      have := h.rp b (by omega)
      omega
  · have : (w1.setCell ⟨c, 0, none⟩ (.slice A3 n3 c3)).heap.size = w1.heap.size := by simp [World.setCell]
    omega
  · exact (h.bel.trans (hb.mono (by omega))).setCell (Nat.le_refl c) _
theorem NewAt.done {w0 w : World} {c k np raw : Nat} {v : Value} {pb : Nat → Nat} (h : NewAt w0 w c k np raw v pb) (hk : 0 < k) : ∃ bb bo cap, ChipAt w c w.heap.size c bb bo cap pb (chip0 k np raw) := by
  obtain ⟨g, off, cap, rfl, hg1, hg2, _, _⟩ := h.br.form hk
  exact ⟨g, off, cap, ⟨h.cb, h.br.mono (Nat.le_succ c), h.pc, h.inj, ⟨Nat.le_refl _, h.lt⟩, ⟨by omega, hg2⟩, fun b hb => ⟨Nat.le_of_lt (h.rp b hb).1, (h.rp b hb).2⟩⟩⟩
set_option maxRecDepth 20000 in
set_option maxHeartbeats 4000000 in
theorem nand_new (nb np raw : Nat) (w : World) (h1 : 1 ≤ nb) (h2 : nb ≤ 64) (h3 : 4 ≤ np) (h4 : np ≤ 64) (h5 : np % 4 = 0) (h6 : 1 ≤ raw) (h7 : raw ≤ 2048) :
    Calls Tryz.prog 56 #[.int .i64 (nb : Int), .int .i64 (np : Int), .int .i64 (raw : Int)] w fun e w' => e = .returned (.tuple #[.pointer (some ⟨w.heap.size, 0, none⟩), .int .i64 0]) ∧ ∃ v pb, NewAt w w' w.heap.size nb np raw v pb := by
  have g1 : ¬ (nb : Int) < 1 := by omega
  have g2 : ¬ (64 : Int) < (nb : Int) := by omega
  have g3 : ¬ (np : Int) < 4 := by omega
  have g4 : ¬ (64 : Int) < (np : Int) := by omega
  have g5 : (np : Int).tmod 4 = 0 := by rw [Int.tmod_eq_emod_of_nonneg (by omega)]; omega
  have g6 : ¬ (raw : Int) < 1 := by omega
  have g7 : ¬ (2048 : Int) < (raw : Int) := by omega
  have HN := Aside.mk (And.intro h1 (And.intro h2 h4))
  clear h1 h2 h3 h5 h6 h7
  go_enter Tryz.func56, Tryz.ntmps56
  go_upto_region 4 with fail
  clear g1 g2 g3 g4 g5 g6 g7
  obtain ⟨c, hc⟩ : ∃ c, c = w.heap.size := ⟨_, rfl⟩
  have H0 : Aside (NewAt w (w.alloc (.cells #[.slice none 0 0, .int .i64 (raw : Int), .int .i64 0, .int .i64 0, .int .i64 0, .int .i64 0, .int .i64 0, .bool false, .int .i64 0] 150)) c 0 np raw (.slice none 0 0) (fun _ => 0)) := ⟨⟨by rw [hc]; exact heap_alloc_new w _, Row.nil _ _ _ _, fun b hb => by omega, fun i j hi => by omega, fun b hb => by omega, by rw [hc]; simp, by rw [hc]; exact (Below.refl _ w).alloc (Nat.le_refl _) _⟩⟩
  rw [← hc]
  generalize w.alloc (.cells #[.slice none 0 0, .int .i64 (raw : Int), .int .i64 0, .int .i64 0, .int .i64 0, .int .i64 0, .int .i64 0, .bool false, .int .i64 0] 150) = w1 at *
  have HCC := Aside.mk hc
  clear hc
  go_wp2_with fail
  go_loopw [40] (fun s40 wr => ∃ k : Nat, k ≤ nb ∧ s40 = .int .i64 (k : Int) ∧ ∃ v pb, Aside (NewAt w wr c k np raw v pb)) (fun s40 _ => nb - (intOf s40).toNat)
  case atStart => exact ⟨0, by omega, rfl, _, _, H0⟩
  case round =>
    obtain ⟨k, hk, rfl, v, pb, HI⟩ := hrel
    have i1 : IntKind.i64.wrap ((k : Int) + 1) = ((k + 1 : Nat) : Int) := by have := HN.out; rw [IntKind.wrap_i64]; omega
    by_cases hlt : k < nb
    · have k1 : (k : Int) < (nb : Int) := by omega
      obtain ⟨A1, k2, rfl, hk2⟩ := HI.out.br.slice
      have c0 : wr.cell? ⟨c, 0, none⟩ = some (.slice A1 k k2) := cell_of_row wr c 0 _ _ _ HI.out.cb
      have f0 : wr.frozen? ⟨c, 0, none⟩ = false := by simp only [World.frozen?, HI.out.cb]; simp
      have hmk := make_pages np HN.out.2.2
      have hcl := HI.out.lt
      go_upto_region 6 with fail
      obtain ⟨Pg, hPg⟩ : ∃ P, P = (rows 3 (fun _ j => pgF ⟨0, ByteArray.empty, false⟩ j) np).toArray := ⟨_, rfl⟩
      rw [← hPg] at hmk
      have HPg := Aside.mk hPg
      clear hPg
      have hS : Src ((wr.alloc (.cells Pg 159)).alloc (.cells #[.slice (some ⟨wr.heap.size, 0, none⟩) np np, .int .i64 0, .int .i64 0, .bool false] 162)).drew 4 (.slice (some ⟨wr.heap.size + 1, 0, none⟩) 1 1) 1 [.slice (some ⟨wr.heap.size, 0, none⟩) np np, .int .i64 0, .int .i64 0, .bool false] := by
        refine ⟨rfl, .inr ⟨_, 1, rfl, fun j u hu => ?_⟩⟩
        have h0 := heap_alloc_new (wr.alloc (.cells Pg 159)) (.cells #[.slice (some ⟨wr.heap.size, 0, none⟩) np np, .int .i64 0, .int .i64 0, .bool false] 162)
        rw [World.size_alloc] at h0
        rw [add_plain, Nat.zero_add]
        refine (cell_of_row _ _ j _ _ _ h0).trans ?_
        simpa using hu
      have hR := ((HI.out.br.alloc (.cells Pg 159)).alloc (.cells #[.slice (some ⟨wr.heap.size, 0, none⟩) np np, .int .i64 0, .int .i64 0, .bool false] 162)).drew
      have hB : Below (c + 1) wr ((wr.alloc (.cells Pg 159)).alloc (.cells #[.slice (some ⟨wr.heap.size, 0, none⟩) np np, .int .i64 0, .int .i64 0, .bool false] 162)).drew := (((Below.refl _ wr).alloc (by omega) _).alloc (by simp; omega) _).drew
      have hsz : ((wr.alloc (.cells Pg 159)).alloc (.cells #[.slice (some ⟨wr.heap.size, 0, none⟩) np np, .int .i64 0, .int .i64 0, .bool false] 162)).drew.heap.size = wr.heap.size + 1 + 1 := by simp
      have hbs : c + 1 ≤ ((wr.alloc (.cells Pg 159)).alloc (.cells #[.slice (some ⟨wr.heap.size, 0, none⟩) np np, .int .i64 0, .int .i64 0, .bool false] 162)).drew.heap.size := by rw [hsz]; omega
      have h1c : ∀ u ∈ [Value.slice (some ⟨wr.heap.size, 0, none⟩) np np, .int .i64 0, .int .i64 0, .bool false], u.oneCell' = true := by simp [Value.oneCell']
      have hkl : (k + 1) * 48 ≤ 140737488355328 := by have := HN.out; omega
      have hkm : k + 1 ≤ maxLen := by have := HN.out; simp only [maxLen]; omega
      have HS := Aside.mk (And.intro hS (And.intro hR (And.intro hB (And.intro hbs (And.intro h1c (And.intro hkl hkm))))))
      clear hS hR hB hsz hbs h1c hkl hkm
      go_region_law (go_loud (refine step_append_row (w0 := wr) (c + 1) rfl _ _ 146 162 4 48 (.agg #[.slice none 0 0, .int .i64 0, .int .i64 0, .bool false]) rfl Tryz.underlying146 infoBlock zeroBlock (Nat.succ_pos 3) (.slice A1 k k2) k _ (.slice (some ⟨wr.heap.size + 1, 0, none⟩) 1 1) 1 _ rfl rfl HS.out.2.1 HS.out.1 HS.out.2.2.2.2.1 HS.out.2.2.1 HS.out.2.2.2.1 HS.out.2.2.2.2.2.1 HS.out.2.2.2.2.2.2 ?_); intro v1 w1 hr1 hb1 hg1 hat1; obtain ⟨A3, k3, rfl, hk3⟩ := hr1.slice; have hbk := (hb1.block c (Nat.lt_succ_self c)).trans HI.out.cb; have d0 := cell_of_row w1 c 0 _ _ _ hbk; have d1 : w1.frozen? ⟨c, 0, none⟩ = false := (by simp only [World.frozen?, hbk]; simp); have HC := Aside.mk (And.intro hr1 (And.intro hb1 hg1)); clear hr1 hb1 hg1 hat1 hbk)
      all_goals
        simp only [List.getElem?_cons_zero, List.getElem?_toArray] at d0
        go_wp2
        go_roundw
        case rel => exact ⟨k + 1, by omega, rfl, _, _, ⟨NewAt.step HI.out HPg.out HC.out.1 HC.out.2.1 HC.out.2.2⟩⟩
        case measure => simp [intOf]; omega
    · have k1 : ¬ (k : Int) < (nb : Int) := by omega
      obtain rfl : k = nb := by omega
      go_wp2
      go_ret2
      have hce := HCC.out
      have hI := HI.out
      rw [hce] at hI ⊢
      exact ⟨rfl, v, pb, hI⟩
end Go.Proofs.YtkgacnenmflegaaGreatDoor
namespace Go.Proofs.YtkgacnenmflegaaGreatDoor
open Go.RowKit

theorem rawI_one (n t : Nat) : rawI 1 (n : Int) (t : Int) = ((n + lowN8 t : Nat) : Int) := by
  unfold rawI
  simp
def ChipPost (w : World) (nb np n t : Nat) (e : Ending) (w' : World) : Prop :=
  ∃ c bb bo cap pb lo, e = .returned (.tuple #[.pointer (some ⟨c, 0, none⟩), .int .i64 0]) ∧ w.heap.size ≤ lo ∧ ChipAt w' lo w'.heap.size c bb bo cap pb (chip0 nb np (n + lowN8 t)) ∧ Below w.heap.size w w'
set_option maxRecDepth 20000 in
set_option maxHeartbeats 2000000 in
theorem page_chip (nb np n t : Nat) (w : World) (hg : goodP nb np 1 n t) :
    Calls Tryz.prog 19 #[geoV nb np 1 n t] w (ChipPost w nb np n t) := by
  have hb := (Below.refl w.heap.size w).alloc (Nat.le_refl _) (.cells #[.int .i64 (nb : Int), .int .i64 (np : Int), .int .i64 1, .int .i64 (n : Int), .int .i64 (t : Int)] 29)
  have hn := heap_alloc_new w (.cells #[.int .i64 (nb : Int), .int .i64 (np : Int), .int .i64 1, .int .i64 (n : Int), .int .i64 (t : Int)] 29)
  have H0 := Aside.mk (And.intro hb hn)
  have HG := Aside.mk hg
  obtain ⟨raw, hraw⟩ : ∃ raw, raw = n + lowN8 t := ⟨_, rfl⟩
  have hl8 : 1 ≤ raw ∧ raw ≤ 300 := by
    have h1 := raw_bounds hg
    obtain ⟨_, _, _, _, _, _, _, h7, h8, h9, h10⟩ := hg
    have h2 : lowN8 ((t : Int)).toNat = lowN8 t := by rw [Int.toNat_natCast]
    rw [h2] at h1
    omega
  have HR : Aside (∀ W, Calls Tryz.prog 21 #[.agg #[.int .i64 (nb : Int), .int .i64 (np : Int), .int .i64 1, .int .i64 (n : Int), .int .i64 (t : Int)]] W fun e w' => e = .returned (.tuple #[.int .i64 (raw : Int), .int .i64 (payI 1 n)]) ∧ Below W.heap.size W w') := ⟨fun W => by
    have := page_raw nb np 1 n t W HG.out
    rw [rawI_one, ← hraw] at this
    exact this⟩
  have HNW : Aside (∀ W, Calls Tryz.prog 56 #[.int .i64 (nb : Int), .int .i64 (np : Int), .int .i64 (raw : Int)] W fun e w' => e = .returned (.tuple #[.pointer (some ⟨W.heap.size, 0, none⟩), .int .i64 0]) ∧ ∃ v pb, NewAt W w' W.heap.size nb np raw v pb) := ⟨fun W => nand_new nb np raw W (by have := HG.out.1; omega) (by have := HG.out.2.1; omega) (by have := HG.out.2.2.1; omega) (by have := HG.out.2.2.2.1; omega) (by have := HG.out.2.2.2.2.1; omega) hl8.1 (by omega)⟩
  have HRW := Aside.mk hraw
  have c0 := cell_of_row _ _ 0 _ _ _ hn
  have c1 := cell_of_row _ _ 1 _ _ _ hn
  have c2 := cell_of_row _ _ 2 _ _ _ hn
  have c3 := cell_of_row _ _ 3 _ _ _ hn
  have c4 := cell_of_row _ _ 4 _ _ _ hn
  simp only [List.getElem?_cons_zero, List.getElem?_cons_succ, List.getElem?_toArray] at c0 c1 c2 c3 c4
  have hz : ¬ (raw : Int) = 0 := by omega
  have hz2 : ((raw : Int) == 0) = false := by simp; omega
  obtain ⟨g0, hg0⟩ : ∃ g0, g0 = w.heap.size := ⟨_, rfl⟩
  have HG0 := Aside.mk hg0
  clear hg hb hn hraw hl8 hg0
  go_enter Tryz.func19, Tryz.ntmps19
  go_upto_region 1 with fail
  have hg0 := HG0.out
  rw [← hg0] at H0 c0 c1 c2 c3 c4 ⊢
  generalize w.alloc (.cells #[.int .i64 (nb : Int), .int .i64 (np : Int), .int .i64 1, .int .i64 (n : Int), .int .i64 (t : Int)] 29) = w1 at *
  have HS1 : Aside (g0 ≤ w1.heap.size) := ⟨by rw [hg0]; exact H0.out.1.size⟩
  clear hg0
  go_upto_region 2 with (go_at_call 21; refine (HR.out w1).mono ?_; rintro e w2 ⟨rfl, hb2⟩; have hk2 := below_blk H0.out.2 hb2; have d0 := cell_of_row w2 g0 0 _ _ _ hk2; have d1 := cell_of_row w2 g0 1 _ _ _ hk2; have H2 := Aside.mk (H0.out.1.trans (hb2.mono HS1.out)); clear hb2 hk2)
  simp only [List.getElem?_cons_zero, List.getElem?_cons_succ, List.getElem?_toArray] at d0 d1
  clear c0 c1 c2 c3 c4
  go_wp2_with (go_at_call 56; refine (HNW.out w2).mono ?_; rintro e w3 ⟨rfl, v, pb, hnw⟩; have HN := Aside.mk hnw; clear hnw)
  go_ret2
  obtain ⟨bb, bo, cap, hc⟩ := HN.out.done (by have := HG.out.1; omega)
  rw [HRW.out] at hc
  have hs := H2.out.size
  have hg0 := HG0.out
  refine ⟨_, bb, bo, cap, pb, w2.heap.size, rfl, by omega, hc, ?_⟩
  have := H2.out.trans (HN.out.bel.mono (by omega))
  rwa [hg0] at this
def PagerPost (w : World) (c nb np n t : Nat) (e : Ending) (w' : World) : Prop :=
  ∃ p k, e = .returned (.tuple #[.pointer (some ⟨p, 0, none⟩), .int .i64 0]) ∧ w.heap.size ≤ p ∧ w.heap.size ≤ k ∧ w'.heap[p]? = some (.cells #[.pointer (some ⟨c, 0, none⟩), .pointer (some ⟨k, 0, none⟩), .int .i64 (nb : Int), .int .i64 (np : Int), .int .i64 1, .int .i64 (n : Int), .int .i64 (t : Int)] 132 (0, 0)) ∧ BNew w' k t n ∧ Below w.heap.size w w'
set_option maxRecDepth 20000 in
set_option maxHeartbeats 2000000 in
theorem page_new (c nb np n t : Nat) (w : World) (hg : goodP nb np 1 n t) :
    Calls Tryz.prog 20 #[.pointer (some ⟨c, 0, none⟩), geoV nb np 1 n t] w (PagerPost w c nb np n t) := by
  have hb := (Below.refl w.heap.size w).alloc (Nat.le_refl _) (.cells #[.int .i64 (nb : Int), .int .i64 (np : Int), .int .i64 1, .int .i64 (n : Int), .int .i64 (t : Int)] 29)
  have hn := heap_alloc_new w (.cells #[.int .i64 (nb : Int), .int .i64 (np : Int), .int .i64 1, .int .i64 (n : Int), .int .i64 (t : Int)] 29)
  have H0 := Aside.mk (And.intro hb hn)
  have HCO : Aside (∀ W, Calls Tryz.prog 57 #[.agg #[.int .i64 (nb : Int), .int .i64 (np : Int), .int .i64 1, .int .i64 (n : Int), .int .i64 (t : Int)]] W fun e w' => ∃ k, e = .returned (.pointer (some ⟨k, 0, none⟩)) ∧ Aside (W.heap.size ≤ k ∧ BNew w' k t n ∧ Below W.heap.size W w')) := ⟨fun W => by
    have := code_of nb np 1 n t W hg
    rwa [Int.toNat_natCast, Int.toNat_natCast] at this⟩
  have c0 := cell_of_row _ _ 0 _ _ _ hn
  have c1 := cell_of_row _ _ 1 _ _ _ hn
  have c2 := cell_of_row _ _ 2 _ _ _ hn
  have c3 := cell_of_row _ _ 3 _ _ _ hn
  have c4 := cell_of_row _ _ 4 _ _ _ hn
  simp only [List.getElem?_cons_zero, List.getElem?_cons_succ, List.getElem?_toArray] at c0 c1 c2 c3 c4
  obtain ⟨g0, hg0⟩ : ∃ g0, g0 = w.heap.size := ⟨_, rfl⟩
  have HG0 := Aside.mk hg0
  clear hg hb hn hg0
  go_enter Tryz.func20, Tryz.ntmps20
  go_upto_region 1 with fail
  have hg0 := HG0.out
  rw [← hg0] at H0 c0 c1 c2 c3 c4 ⊢
  generalize w.alloc (.cells #[.int .i64 (nb : Int), .int .i64 (np : Int), .int .i64 1, .int .i64 (n : Int), .int .i64 (t : Int)] 29) = w1 at *
  have HS1 : Aside (g0 ≤ w1.heap.size) := ⟨by rw [hg0]; exact H0.out.1.size⟩
  clear hg0
  go_upto_region 2 with (go_at_call 57; refine (HCO.out w1).mono ?_; rintro e w2 ⟨k, rfl, H2⟩)
  have hk2 := below_blk H0.out.2 H2.out.2.2
  have d0 := cell_of_row w2 g0 0 _ _ _ hk2
  have d1 := cell_of_row w2 g0 1 _ _ _ hk2
  have d2 := cell_of_row w2 g0 2 _ _ _ hk2
  have d3 := cell_of_row w2 g0 3 _ _ _ hk2
  have d4 := cell_of_row w2 g0 4 _ _ _ hk2
  simp only [List.getElem?_cons_zero, List.getElem?_cons_succ, List.getElem?_toArray] at d0 d1 d2 d3 d4
  clear c0 c1 c2 c3 c4 hk2
  have HF : Aside (∀ o, Below w2.heap.size w2 (w2.alloc o)) := ⟨fun o => (Below.refl _ _).alloc (Nat.le_refl _) o⟩
  go_wp2
  go_ret2
  have hs1 := H0.out.1.size
  have hs2 := H2.out.2.2.size
  have h1 := H2.out.1
  have hg0 := HG0.out
  refine ⟨w2.heap.size, k, rfl, by omega, by omega, heap_alloc_new w2 _, CF.below H2.out.2.1 (HF.out _), ?_⟩
  have hb1 := H0.out.1
  rw [hg0] at hb1
  exact (hb1.trans (H2.out.2.2.mono (by omega))).trans ((HF.out _).mono (by omega))
end Go.Proofs.YtkgacnenmflegaaGreatDoor
namespace Go.Proofs.YtkgacnenmflegaaGreatDoor
open Go.RowKit

def membL (l : List Int) (gr : Int) : List Int := l.filter fun p => grp p == gr
theorem memb_take {l : List Int} {gr : Int} {k : Nat} (hk : k < l.length) (h : grp (l.getD k 0) = gr) : membL (l.take (k + 1)) gr = membL (l.take k) gr ++ [l.getD k 0] := by
  rw [List.take_succ_eq_append_getElem hk]
  simp only [membL, List.filter_append]
  have : l.getD k 0 = l[k] := by simp [List.getD_eq_getElem?_getD, List.getElem?_eq_getElem hk]
  rw [this] at h ⊢
  simp [h]
theorem memb_skip {l : List Int} {gr : Int} {k : Nat} (hk : k < l.length) (h : ¬ grp (l.getD k 0) = gr) : membL (l.take (k + 1)) gr = membL (l.take k) gr := by
  rw [List.take_succ_eq_append_getElem hk]
  simp only [membL, List.filter_append]
  have : l.getD k 0 = l[k] := by simp [List.getD_eq_getElem?_getD, List.getElem?_eq_getElem hk]
  rw [this] at h
  simp [h]
theorem memb_len (l : List Int) (gr : Int) : (membL l gr).length ≤ l.length := List.length_filter_le ..

set_option maxHeartbeats 2000000 in
theorem plan_members (A : Option Addr) (n c : Nat) (l : List Int) (v2 : Value) (gr : Int) (w : World) (hl : n = l.length) (hn : n ≤ 1000) (hc : n ≤ c) (hcm : c ≤ 9223372036854775807) (hall : ∀ x ∈ l, x ≤ 9223372036854775805) (hR : Rd w A n (fun i => .int .i64 (l.getD i 0))) (hv2 : ∃ A2 n2 c2, v2 = .slice A2 n2 c2) :
    Calls Tryz.prog 29 #[.agg #[.slice A n c, v2], .int .i64 gr] w fun e w' => (∃ v, Row w' w.heap.size 3 1 v (membL l gr).length (intsV (membL l gr)) ∧ e = .returned v) ∧ Below w.heap.size w w' := by
  obtain ⟨A2, n2, c2, rfl⟩ := hv2
  have HR := Aside.mk hR
  have HA := Aside.mk hall
  have HL := Aside.mk hl
  clear hR hall hl
  go_enter Tryz.func29, Tryz.ntmps29
  go_wp2
  have hb0 := (Below.refl w.heap.size w).alloc (Nat.le_refl _) (.cells #[.slice A n c, .slice A2 n2 c2] 78)
  generalize w.alloc (.cells #[.slice A n c, .slice A2 n2 c2] 78) = W at *
  go_loopw [5, 11] (fun s5 s11 wr => ∃ (k : Nat), s11 = .int .i64 k ∧ k ≤ n ∧ Row wr w.heap.size 3 1 s5 (membL (l.take k) gr).length (intsV (membL (l.take k) gr)) ∧ Below w.heap.size w wr) (fun _ s11 _ => n - (intOf s11).toNat)
  case atStart => exact ⟨0, rfl, by omega, Row.nil _ _ _ _, hb0⟩
  case round =>
    obtain ⟨k, rfl, hk, hr, hb⟩ := hrel
    clear hb0
    by_cases hlt : k < n
    · obtain ⟨b, off, rfl, hcell⟩ := HR.out.cells hlt
      have hcr := hcell w.heap.size wr (Nat.le_refl _) hb
      clear hcell
      have hk1 : IntKind.i64.wrap ((k : Int) + 1) = (k : Int) + 1 := by rw [IntKind.wrap_i64]; omega
      have hkl : k < l.length := by rw [← HL.out]; exact hlt
      have hx : l.getD k 0 ≤ 9223372036854775805 := HA.out _ (by
        rw [List.getD_eq_getElem?_getD, List.getElem?_eq_getElem hkl]
        exact List.getElem_mem _)
      have H1 := Aside.mk (fun h => memb_take (gr := gr) hkl h)
      have H2 := Aside.mk (fun h => memb_skip (gr := gr) hkl h)
      have h3 := memb_len (l.take k) gr
      rw [List.length_take] at h3
      have h4 : (membL (l.take k) gr).length ≤ 1000 := by omega
      clear h3 hkl
      generalize l.getD k 0 = xk at *
      generalize hmm : membL (l.take k) gr = mm at *
      clear hmm
      by_cases hg : grp xk = gr
      · have H3 := Aside.mk (H1.out hg)
        have hbase := hb.size
        clear H1 H2
        go_wp2_with (first | (go_at_call 70; refine (parity_group xk _ hx).mono ?_; rintro e w5 ⟨rfl, rfl⟩) | (at_builtin; refine wpList_append_one (w0 := w) w.heap.size rfl _ _ 36 3 1 8 (.int .i64 0) rfl Tryz.underlying36 infoInt rfl (by decide) u5 mm.length _ #[.int .i64 xk] rfl rfl rfl hr (by simp [Value.oneCell']) hb hbase (by omega) (by simp only [maxLen]; omega) ?_; intro v1 w1 hr1 hb1 hg1 hat1))
        go_roundw
        case rel => exact ⟨k + 1, by go_num, by omega, by rw [H3.out, List.length_append, intsV_append]; exact hr1, hb1⟩
        case measure => simp [intOf]; omega
      · have H3 := Aside.mk (H2.out hg)
        have hgb : (grp xk == gr) = false := by simpa using hg
        clear H1 H2 hg
        go_wp2_with (first | (go_at_call 70; refine (parity_group xk _ hx).mono ?_; rintro e w5 ⟨rfl, rfl⟩))
        go_roundw
        case rel => exact ⟨k + 1, by go_num, by omega, by rw [H3.out]; exact hr, hb⟩
        case measure => simp [intOf]; omega
    · obtain rfl : k = n := by omega
      have ht : l.take k = l := by rw [HL.out]; exact List.take_length ..
      rw [ht] at hr
      clear ht
      go_wp2
      go_ret
      exact ⟨⟨_, hr, rfl⟩, hb⟩

/-- The last lower one of the first k pages. -/
def lowL : Nat → Int
  | 0 => -1
  | k + 1 => if upB k = true then lowL k else (k : Int)
theorem lowL_skip {k : Nat} (h : upB k = true) : lowL (k + 1) = lowL k := by rw [lowL, if_pos h]
theorem lowL_more {k : Nat} (h : upB k = false) : lowL (k + 1) = k := by rw [lowL, if_neg (by simp [h])]
theorem lowL_end {N : Nat} (h1 : 4 ≤ N) (h3 : N % 4 = 0) : lowL N = (N : Int) - 3 := by
  obtain ⟨m, rfl⟩ : ∃ m, N = m + 1 + 1 + 1 := ⟨N - 3, by omega⟩
  rw [lowL_skip (by unfold upB; simp; omega), lowL_skip (by unfold upB; simp; omega), lowL_more (by unfold upB; simp; omega)]
  omega

def RefEnd (N : Nat) (b : Bool) (base : Nat) (e : Ending) (w : World) : Prop :=
  ∃ v1 v2, Row w base 3 1 v1 (dataL b (N - 3)).length (intsV (dataL b (N - 3))) ∧ Row w base 3 1 v2 (parL b N).length (intsV (parL b N)) ∧ e = .returned (.tuple #[v1, v2, .bool true])

theorem data8 : dataL true 5 = [0, 1, 4] := by decide
theorem par8 : parL true 8 = [5] := by decide
theorem Rd.litInts (W : World) (l : List Int) (cs : Array Value) (n : Nat) (h : cs.toList = intsV l) (hn : n = l.length) : Rd (W.alloc (.cells cs 3)) (some ⟨W.heap.size, 0, none⟩) n (fun i => .int .i64 (l.getD i 0)) := by
  intro k hk
  refine ⟨W.heap.size, 0, rfl, by simp, ?_⟩
  rw [cell_of_row _ W.heap.size (0 + k) cs 3 (0, 0) (heap_alloc_new W _)]
  rw [Nat.zero_add, ← Array.getElem?_toList, h]
  simp [intsV, List.getD_eq_getElem?_getD, List.getElem?_eq_getElem (show k < l.length by omega)]
end Go.Proofs.YtkgacnenmflegaaGreatDoor
namespace Go.Proofs.YtkgacnenmflegaaGreatDoor
open Go.RowKit

set_option maxRecDepth 20000 in
set_option maxHeartbeats 1000000 in
theorem top_small (n : Int) (w : World) :
    Calls Tryz.prog 18 #[.int .i64 n] w fun e w' => ∃ a t : Nat, e = .returned (geoV 2 8 1 (a : Int) (t : Int)) ∧ 24 ≤ a ∧ a ≤ 32 ∧ 1 ≤ t ∧ t ≤ 3 ∧ Below w.heap.size w w' := by
  have h9 := Int.tmod_lt_of_pos n (show (0 : Int) < 9 by omega)
  have h9' := Int.lt_tmod_of_pos n (show (0 : Int) < 9 by omega)
  have h3 := Int.tmod_lt_of_pos n (show (0 : Int) < 3 by omega)
  have h3' := Int.lt_tmod_of_pos n (show (0 : Int) < 3 by omega)
  obtain ⟨p, hp⟩ : ∃ p, p = n.tmod 9 := ⟨_, rfl⟩
  obtain ⟨q, hq⟩ : ∃ q, q = n.tmod 3 := ⟨_, rfl⟩
  rw [← hp] at h9 h9'
  rw [← hq] at h3 h3'
  have w1 : IntKind.i64.wrap p = p := by rw [IntKind.wrap_i64]; omega
  have w2 : IntKind.i64.wrap (p + 9) = p + 9 := by rw [IntKind.wrap_i64]; omega
  have w3 : IntKind.i64.wrap q = q := by rw [IntKind.wrap_i64]; omega
  have w4 : IntKind.i64.wrap (q + 3) = q + 3 := by rw [IntKind.wrap_i64]; omega
  obtain ⟨a, ha⟩ : ∃ a : Nat, (a : Int) = 24 + n.tmod 9 % 9 := ⟨(24 + n.tmod 9 % 9).toNat, by omega⟩
  obtain ⟨t, ht⟩ : ∃ t : Nat, (t : Int) = 1 + n.tmod 3 % 3 := ⟨(1 + n.tmod 3 % 3).toNat, by omega⟩
  have HA : Aside ((a : Int) = 24 + n.tmod 9 % 9 ∧ (t : Int) = 1 + n.tmod 3 % 3 ∧ 24 ≤ a ∧ a ≤ 32 ∧ 1 ≤ t ∧ t ≤ 3) := ⟨by omega⟩
  clear ha ht
  have hb := (Below.refl w.heap.size w).alloc (Nat.le_refl _) (.cells #[.int .i64 2, .int .i64 8, .int .i64 1, .int .i64 (a : Int), .int .i64 (t : Int)] 29)
  have hc := heap_alloc_new w (.cells #[.int .i64 2, .int .i64 8, .int .i64 1, .int .i64 (a : Int), .int .i64 (t : Int)] 29)
  have c0 := cell_of_row _ _ 0 _ _ _ hc
  have c1 := cell_of_row _ _ 1 _ _ _ hc
  have c2 := cell_of_row _ _ 2 _ _ _ hc
  have c3 := cell_of_row _ _ 3 _ _ _ hc
  have c4 := cell_of_row _ _ 4 _ _ _ hc
  simp only [List.getElem?_cons_zero, List.getElem?_cons_succ, List.getElem?_toArray] at c0 c1 c2 c3 c4
  have HB := Aside.mk (And.intro hb (And.intro c0 (And.intro c1 (And.intro c2 (And.intro c3 c4)))))
  clear hb hc c0 c1 c2 c3 c4
  go_enter Tryz.func18, Tryz.ntmps18
  go_wp2

  obtain ⟨ha, ht, h24, h32, ht1, ht3⟩ := HA.out
  rw [← ha, ← ht]
  obtain ⟨hb, c0, c1, c2, c3, c4⟩ := HB.out
  generalize w.alloc (.cells #[.int .i64 2, .int .i64 8, .int .i64 1, .int .i64 (a : Int), .int .i64 (t : Int)] 29) = Wf at *
  exact bodyPost_ret (v := geoV 2 8 1 (a : Int) (t : Int)) (by simp [results, Tryz.results18, go_sem, c0, c1, c2, c3, c4]) rfl ⟨a, t, rfl, h24, h32, ht1, ht3, hb⟩
end Go.Proofs.YtkgacnenmflegaaGreatDoor
namespace Go.Proofs.YtkgacnenmflegaaGreatDoor
open Go.RowKit

theorem ChipAt.wide {w : World} {lo hi c bb bo cap : Nat} {pb : Nat → Nat} {S : ChS} (h : ChipAt w lo hi c bb bo cap pb S) {hi' : Nat} (hh : hi ≤ hi') : ChipAt w lo hi' c bb bo cap pb S :=
  ⟨h.cb, h.br, h.pc, h.inj, ⟨h.rc.1, Nat.lt_of_lt_of_le h.rc.2 hh⟩, ⟨h.rb.1, Nat.lt_of_lt_of_le h.rb.2 hh⟩, fun b hb => ⟨(h.rp b hb).1, Nat.lt_of_lt_of_le (h.rp b hb).2 hh⟩⟩
/-- The eight texts of the row. -/
def fullL (F : Nat → ByteArray) : List Value := (List.range 8).map fun i => .string (F i)
theorem fullL_at (F : Nat → ByteArray) {j : Nat} (h : j < 8) : (fullL F)[j]? = some (.string (F j)) := by
  unfold fullL
  rw [List.getElem?_map, List.getElem?_range h]
  rfl
theorem fullL_set (F : Nat → ByteArray) (j : Nat) (s : ByteArray) : (fullL F).set j (.string s) = fullL (fun i => if i = j then s else F i) := by
  apply List.ext_getElem?
  intro i
  by_cases h : i < 8
  · rw [List.getElem?_set, fullL_at _ h, fullL_at _ h]
    by_cases e : j = i
    · rw [if_pos e, if_pos (by simp [fullL]; omega), if_pos e.symm]
    · rw [if_neg e, if_neg (fun x => e x.symm)]
  · rw [List.getElem?_eq_none (by simp [fullL]; omega), List.getElem?_eq_none (by simp [fullL]; omega)]
def geoC (n t : Nat) : Obj := .cells #[.int .i64 2, .int .i64 8, .int .i64 1, .int .i64 (n : Int), .int .i64 (t : Int)] 29 (0, 0)
/-- Where all lies. -/
structure BLoc where
  n : Nat
  t : Nat
  g7 : Nat
  g14 : Nat
  b16 : Nat
  v1 : Value
  v2 : Value
  top : Nat
structure PB (w0 W : World) (L : PLoc) (S : ChS) (b : BLoc) (F : Nat → ByteArray) : Prop where
  bel : Below w0.heap.size w0 W
  geo : W.heap[b.g7]? = some (geoC b.n b.t)
  plan : PlanAt W b.g14 b.v1 b.v2
  r1 : Row W L.hi 3 1 b.v1 5 (intsV [0, 1, 2, 3, 4])
  r2 : Row W L.hi 3 1 b.v2 2 (intsV [5, 7])
  full : W.heap[b.b16]? = some (.cells (fullL F).toArray 9 (0, 0))
  pgr : PgrAt W L S
  lo0 : w0.heap.size ≤ L.lo
  i7 : w0.heap.size ≤ b.g7 ∧ b.g7 < L.lo
  i14 : L.hi ≤ b.g14 ∧ b.g14 < b.top
  i16 : L.hi ≤ b.b16 ∧ b.b16 < b.top
  o1 : ∀ q, b.v1.ownBlock = some q → q < b.top
  o2 : ∀ q, b.v2.ownBlock = some q → q < b.top
  topS : b.top ≤ W.heap.size
  eqs : L.n = b.n ∧ L.t = b.t ∧ 24 ≤ b.n ∧ b.n ≤ 32 ∧ L.lo ≤ L.hi
section
variable {w0 W W' : World} {L : PLoc} {S S' : ChS} {b : BLoc} {F : Nat → ByteArray}
theorem PB.below (h : PB w0 W L S b F) (hb : Below W.heap.size W W') : PB w0 W' L S b F :=
  ⟨h.bel.trans (hb.mono h.bel.size), below_blk h.geo hb, below_blk h.plan hb, h.r1.below hb, h.r2.below hb, below_blk h.full hb, h.pgr.below hb, h.lo0, h.i7, h.i14, h.i16, h.o1, h.o2, Nat.le_trans h.topS hb.size, h.eqs⟩
theorem PB.drew (h : PB w0 W L S b F) : PB w0 W.drew L S b F := h.below ⟨rfl, rfl, rfl, Nat.le_refl _, fun _ _ => rfl⟩
theorem PB.alloc (h : PB w0 W L S b F) (o : Obj) : PB w0 (W.alloc o) L S b F := h.below ((Below.refl _ _).alloc (Nat.le_refl _) o)
theorem PB.chip (h : PB w0 W L S b F) (hp : PgrAt W' L S') (hm : Mv L.lo L.hi W W') : PB w0 W' L S' b F := by
  have hn1 : ∀ q, L.hi ≤ q → ¬ InR L.lo L.hi q := fun q h1 h2 => by have := h2.2; omega
  refine ⟨h.bel.trans (hm.bel h.lo0 h.bel.size), hm.blk h.geo fun hx => by have := hx.1; have := h.i7; omega, hm.blk h.plan (hn1 _ h.i14.1), hm.row h.r1 fun q hq => hn1 q (h.r1.blk q hq).1, hm.row h.r2 fun q hq => hn1 q (h.r2.blk q hq).1, hm.blk h.full (hn1 _ h.i16.1), hp, h.lo0, h.i7, h.i14, h.i16, h.o1, h.o2, Nat.le_trans h.topS hm.size, h.eqs⟩
theorem PB.hi0 (h : PB w0 W L S b F) : w0.heap.size ≤ L.hi := Nat.le_trans h.lo0 h.eqs.2.2.2.2
/-- Blocks of texts are changed, none of ours but the row itself. -/
theorem PB.strs (h : PB w0 W L S b F) {X : Nat → Prop} {I : World → Prop} (hg : Chg X I W W') (hx : ∀ q, X q → L.hi ≤ q ∧ ∃ cs fr, W.heap[q]? = some (.cells cs 9 fr)) {F' : Nat → ByteArray} (hf : W'.heap[b.b16]? = some (.cells (fullL F').toArray 9 (0, 0))) : PB w0 W' L S b F' := by
  have hne : ∀ {q cs ty fr}, W.heap[q]? = some (.cells cs ty fr) → ty ≠ 9 → ¬ X q := fun {q cs ty fr} h1 h2 h3 => by
    obtain ⟨_, cs2, fr2, h4⟩ := hx q h3
    rw [h1] at h4
    simp only [Option.some.injEq, Obj.cells.injEq] at h4
    exact h2 h4.2.1
  have ht : ∀ q cs ty fr, W.heap[q]? = some (.cells cs ty fr) → X q → ty = 9 := fun q cs ty fr h1 h2 => by
    by_cases e : ty = 9
    · exact e
    · exact absurd h2 (hne h1 e)
  have hd : (3 : TypeId) ≠ 9 := by decide
  have hrk : ∀ {v : Value} {n : Nat} {xs : List Value}, Row W L.hi 3 1 v n xs → Row W' L.hi 3 1 v n xs := fun hr => hr.keptT hg fun q cs ty fr h1 h2 => by rw [ht q cs ty fr h1 h2]; decide
  have hb2 : Below w0.heap.size W W' := ⟨hg.os, hg.tape, hg.output, hg.size, fun q hq => hg.block q (Nat.lt_of_lt_of_le hq h.bel.size) fun hxq => by have := (hx q hxq).1; have := h.hi0; omega⟩
  exact ⟨h.bel.trans hb2, hg.blk h.geo (hne h.geo (by decide)), hg.blk h.plan (hne h.plan (by decide)), hrk h.r1, hrk h.r2, hf, h.pgr.keptT hg fun q cs ty fr h1 h2 => .inr (ht q cs ty fr h1 h2), h.lo0, h.i7, h.i14, h.i16, h.o1, h.o2, Nat.le_trans h.topS hg.size, h.eqs⟩
theorem PB.app (h : PB w0 W L S b F) {v : Value} (hv : ∀ q, v.ownBlock = some q → b.top ≤ q ∧ ∃ cs fr, W.heap[q]? = some (.cells cs 9 fr)) (hg : W.grownBy W' v.ownBlock) : PB w0 W' L S b F := by
  have hc : Chg (fun q => v.ownBlock = some q) (fun _ => True) W W' := ⟨hg.os, hg.tape, hg.output, hg.size, fun q hq hx => hg.block q hq fun e => hx e.symm, fun _ => trivial⟩
  exact h.strs hc (fun q hq => ⟨by have := (hv q hq).1; have := h.i16; omega, (hv q hq).2⟩) (hc.blk h.full fun hx => by have := (hv _ hx).1; have := h.i16; omega)
/-- A text is put into the row. -/
theorem PB.put (h : PB w0 W L S b F) (j : Nat) (s : ByteArray) : PB w0 (W.setCell ⟨b.b16, j, none⟩ (.string s)) L S b (fun i => if i = j then s else F i) := by
  have hc : Chg (· = b.b16) (fun _ => True) W (W.setCell ⟨b.b16, j, none⟩ (.string s)) := Chg.setCell ⟨b.b16, j, none⟩ _ rfl
  refine h.strs hc (fun q hq => ⟨by have := h.i16; omega, (fullL F).toArray, (0, 0), by rw [hq]; exact h.full⟩) ?_
  rw [← fullL_set]
  have := h.full
  simp [World.setCell, Array.getElem?_modify, this]
theorem PB.c16 (h : PB w0 W L S b F) {j : Nat} (hj : j < 8) : W.cell? ⟨b.b16, j, none⟩ = some (.string (F j)) := by
  have := cell_of_row W b.b16 j _ _ _ h.full
  rwa [List.getElem?_toArray, fullL_at F hj] at this
theorem PB.f16 (h : PB w0 W L S b F) (j : Nat) : W.frozen? ⟨b.b16, j, none⟩ = false := by
  have := h.full
  simp [World.frozen?, this]
theorem PB.geoC (h : PB w0 W L S b F) : W.cell? ⟨b.g7, 1, none⟩ = some (.int .i64 8) := cell_of_row W b.g7 1 _ _ _ h.geo
theorem PB.nib (h : PB w0 W L S b F) (hn : Nib w0) : Nib W := hn.below h.bel
end
end Go.Proofs.YtkgacnenmflegaaGreatDoor
namespace Go.Proofs.YtkgacnenmflegaaGreatDoor
open Go.RowKit

/-- What was written to block 0's pages. -/
structure Wr (S : ChS) (n t : Nat) (P : Nat → ByteArray) (done D : Nat → Bool) (k r : Nat) : Prop where
  nb : S.nb = 2
  np : S.np = 8
  off : S.off = false
  left : S.left = 0
  most : S.most = 0
  wo : S.wo 0 = false
  chg : S.chg ≤ k
  rd : S.rd 0 ≤ r
  un : ∀ j, j < 8 → done j = false → (S.pg 0 j).st = 0 ∧ (S.pg 0 j).tch = false
  gone : ∀ j, j < 8 → done j = true → D j = true → (S.pg 0 j).st = 2
  wr : ∀ j, j < 8 → done j = true → D j = false → (S.pg 0 j).st = 1 ∧ (S.pg 0 j).data = rawP t n (P j)
section
variable {S : ChS} {n t : Nat} {P : Nat → ByteArray} {done D : Nat → Bool} {k r : Nat}
theorem Wr.zero (raw : Nat) : Wr (chip0 2 8 raw) n t P (fun _ => false) (fun _ => false) 0 0 :=
  ⟨rfl, rfl, rfl, rfl, rfl, rfl, Nat.le_refl _, Nat.le_refl _, fun _ _ _ => ⟨rfl, rfl⟩, fun _ _ h => absurd h (by simp), fun _ _ h => absurd h (by simp)⟩
theorem Wr.fresh (h : Wr S n t P done D k r) (j : Nat) (hf : ∀ q, j ≤ q → q < 8 → done q = false) : S.fresh 0 j := fun q h1 h2 => h.un q (by rw [← h.np]; exact h2) (hf q h1 (by rw [← h.np]; exact h2))
theorem Wr.put (h : Wr S n t P done D k r) (j : Nat) (hj : D j = false) {d' : Nat → Bool} (hd : ∀ q, d' q = (done q || decide (q = j))) : Wr (S.tick0.setPg 0 j ((S.pg 0 j).put (rawP t n (P j)))) n t P d' D (k + 1) r := by
  have e : ∀ q, ((S.tick0.setPg 0 j ((S.pg 0 j).put (rawP t n (P j)))).pg 0 q) = if q = j then (S.pg 0 j).put (rawP t n (P j)) else S.pg 0 q := fun q => by
    show (if 0 = 0 ∧ q = j then _ else _) = _
    simp [ChS.tick0]
  refine ⟨h.nb, h.np, h.off, h.left, h.most, h.wo, by have := h.chg; show S.chg + 1 ≤ k + 1; omega, h.rd, fun q hq hn => ?_, fun q hq hn hD => ?_, fun q hq hn hD => ?_⟩
  all_goals
    rw [e]
    rw [hd] at hn
    by_cases hqj : q = j
  · simp [hqj] at hn
  · rw [if_neg hqj]; simp [hqj] at hn; exact h.un q hq hn
  · rw [hqj, hj] at hD; cases hD
  · rw [if_neg hqj]; simp [hqj] at hn; exact h.gone q hq hn hD
  · rw [if_pos hqj, hqj]; exact ⟨rfl, rfl⟩
  · rw [if_neg hqj]; simp [hqj] at hn; exact h.wr q hq hn hD
theorem Wr.read (h : Wr S n t P done D k r) : Wr (S.read 0) n t P done D k (r + 1) :=
  ⟨h.nb, h.np, h.off, h.left, h.most, h.wo, h.chg, by have := h.rd; show (if 0 = 0 then S.rd 0 + 1 else S.rd 0) ≤ r + 1; simp; omega, h.un, h.gone, h.wr⟩
theorem Wr.spoil (h : Wr S n t P done D k r) (j : Nat) (hj : j < 8) {D' : Nat → Bool} (hd : ∀ q, D' q = (D q || decide (q = j))) : Wr (S.spoil 0 j) n t P done D' k r := by
  unfold ChS.spoil
  by_cases hs : (S.pg 0 j).st = 1
  · rw [if_pos hs]
    have e : ∀ q, ((S.setPg 0 j { S.pg 0 j with st := 2 }).pg 0 q) = if q = j then { S.pg 0 j with st := 2 } else S.pg 0 q := fun q => by
      show (if 0 = 0 ∧ q = j then _ else _) = _
      simp
    refine ⟨h.nb, h.np, h.off, h.left, h.most, h.wo, h.chg, h.rd, fun q hq hn => ?_, fun q hq hn hD => ?_, fun q hq hn hD => ?_⟩
    all_goals
      rw [e]
      by_cases hqj : q = j
    · rw [hqj] at hn
      have := (h.un j hj hn).1
      omega
    · rw [if_neg hqj]; exact h.un q hq hn
    · rw [if_pos hqj]
    · rw [if_neg hqj]; rw [hd] at hD; simp [hqj] at hD; exact h.gone q hq hn hD
    · rw [hd] at hD; simp [hqj] at hD
    · rw [if_neg hqj]; rw [hd] at hD; simp [hqj] at hD; exact h.wr q hq hn hD
  · rw [if_neg hs]
    refine ⟨h.nb, h.np, h.off, h.left, h.most, h.wo, h.chg, h.rd, h.un, fun q hq hn hD => ?_, fun q hq hn hD => ?_⟩
    · rw [hd] at hD
      by_cases hqj : q = j
      · subst hqj
        cases hDq : D q
        · exact absurd (h.wr q hq hn hDq).1 hs
        · exact h.gone q hq hn hDq
      · simp [hqj] at hD; exact h.gone q hq hn hD
    · rw [hd] at hD
      simp only [Bool.or_eq_false_iff] at hD
      exact h.wr q hq hn hD.1
end
/-! ### The texts -/
/-- The text of page j, j < 5, as it is written. -/
def payB (x : List ByteArray) (m j : Nat) : ByteArray := if j < x.length then (x.getD j ByteArray.empty).extract 0 (min (x.getD j ByteArray.empty).size m) else ⟨#[]⟩
theorem payB_size (x : List ByteArray) (m j : Nat) : (payB x m j).size ≤ m := by
  unfold payB
  split
  · rw [ByteArray.size_extract]; omega
  · exact Nat.zero_le _
theorem padP_size {n : Nat} {pl : ByteArray} (h : pl.size + 7 ≤ n) : (padP n pl).size = n - 7 := by
  unfold padP
  rw [ByteArray.size_append, fillB_size]
  omega
theorem padP_full {n : Nat} {pl : ByteArray} (h : pl.size = n - 7) : padP n pl = pl := by
  unfold padP
  rw [h, Nat.sub_self]
  apply ByteArray.ext
  simp [fillB]
def grpL : Nat → List Nat
  | 0 => [0, 1, 4]
  | _ => [2, 3]
def parB : Nat → Nat
  | 0 => 5
  | _ => 7
/-- All the texts in full: five data pages and two parities. -/
def fullB (n : Nat) (x : List ByteArray) (j : Nat) : ByteArray :=
  if j = 5 then xorT (n - 7) (fun k => (((grpL 0).map fun i => padP n (payB x (n - 7) i)).getD k ByteArray.empty)) 3
  else if j = 7 then xorT (n - 7) (fun k => (((grpL 1).map fun i => padP n (payB x (n - 7) i)).getD k ByteArray.empty)) 2
  else padP n (payB x (n - 7) j)
/-- What is written. -/
def payF (n : Nat) (x : List ByteArray) (j : Nat) : ByteArray := if j < 5 then payB x (n - 7) j else fullB n x j
theorem fullB_size {n : Nat} (hn : 7 ≤ n) (x : List ByteArray) (j : Nat) : (fullB n x j).size = n - 7 := by
  unfold fullB
  split
  · exact xorT_size _ _ _
  · split
    · exact xorT_size _ _ _
    · exact padP_size (by have := payB_size x (n - 7) j; omega)
theorem payF_size {n : Nat} (hn : 7 ≤ n) (x : List ByteArray) (j : Nat) : (payF n x j).size + 7 ≤ n := by
  unfold payF
  split
  · have := payB_size x (n - 7) j; omega
  · rw [fullB_size hn]; omega
theorem payF_pad {n : Nat} (hn : 7 ≤ n) (x : List ByteArray) (j : Nat) : padP n (payF n x j) = fullB n x j := by
  unfold payF
  split
  · unfold fullB
    rw [if_neg (by omega), if_neg (by omega)]
  · exact padP_full (fullB_size hn x j)
theorem fullB5 (n : Nat) (x : List ByteArray) : fullB n x 5 = xorT (n - 7) (fun k => (((grpL 0).map fun i => padP n (payB x (n - 7) i)).getD k ByteArray.empty)) 3 := rfl
theorem fullB7 (n : Nat) (x : List ByteArray) : fullB n x 7 = xorT (n - 7) (fun k => (((grpL 1).map fun i => padP n (payB x (n - 7) i)).getD k ByteArray.empty)) 2 := rfl
theorem fullB_data (n : Nat) (x : List ByteArray) {j : Nat} (h : j < 5) : fullB n x j = padP n (payB x (n - 7) j) := by
  unfold fullB
  rw [if_neg (by omega), if_neg (by omega)]
/-- The group's xor is its parity. -/
theorem full_par {n : Nat} (x : List ByteArray) (g : Nat) (hg : g < 2) : xorT (n - 7) (fun k => (((grpL g).map (fullB n x)).getD k ByteArray.empty)) (grpL g).length = fullB n x (parB g) := by
  rcases (show g = 0 ∨ g = 1 by omega) with rfl | rfl
  · have e : (grpL 0).map (fullB n x) = (grpL 0).map fun i => padP n (payB x (n - 7) i) := List.map_congr_left fun i hi => fullB_data n x (by simp [grpL] at hi; omega)
    rw [e]
    exact (fullB5 n x).symm
  · have e : (grpL 1).map (fullB n x) = (grpL 1).map fun i => padP n (payB x (n - 7) i) := List.map_congr_left fun i hi => fullB_data n x (by simp [grpL] at hi; omega)
    rw [e]
    exact (fullB7 n x).symm
/-- The others of a group, the parity among them. -/
def restL (g : Nat) (D : Nat → Bool) : List Nat := (grpL g ++ [parB g]).filter fun j => !D j
theorem xorT_ext {m : Nat} {f g : Nat → ByteArray} {k l : Nat} (h : ∀ i, i < m → xb f i k = xb g i l) : xorT m f k = xorT m g l := by
  unfold xorT xbs
  congr 2
  exact List.map_congr_left fun i hi => h i (List.mem_range.1 hi)
theorem xorT_get {m : Nat} {f : Nat → ByteArray} {l i : Nat} (h : i < (xorT m f l).size) : (xorT m f l)[i] = xb f i l := by
  show (xbs m f l).toArray[i]'(by simpa [xorT_size, xbs_length] using h) = _
  simp [xbs]
theorem text_xor {m : Nat} {s : ByteArray} (h : s.size = m) {f : Nat → ByteArray} {k : Nat} (hx : ∀ i (hi : i < m), xb f i k = s[i]'(by omega)) : xorT m f k = s := by
  apply ByteArray.ext
  apply Array.ext
  · show (xorT m f k).size = s.size
    rw [xorT_size, h]
  · intro i h1 h2
    have h1' : i < (xorT m f k).size := h1
    have := xorT_get (m := m) (f := f) (l := k) h1'
    show (xorT m f k)[i] = s[i]
    rw [this]
    exact hx i (by rw [← h]; exact h2)
def byteN (s : ByteArray) (i : Nat) : UInt8 := if h : i < s.size then s[i] else 0
theorem byteN_of {s : ByteArray} {i : Nat} (h : i < s.size) : s[i] = byteN s i := by unfold byteN; rw [dif_pos h]
theorem xb_byteN (f : Nat → ByteArray) (i : Nat) : ∀ k, xb f i (k + 1) = xb f i k ^^^ byteN (f k) i := fun k => by
  rw [xb]
  unfold byteN
  split
  · rfl
  · simp
theorem xorT_byteN {m i : Nat} (h : i < m) (f : Nat → ByteArray) (k : Nat) : byteN (xorT m f k) i = xb f i k := by
  rw [← byteN_of (by rw [xorT_size]; exact h)]
  exact xorT_get _
theorem xb_nil (f : Nat → ByteArray) (i : Nat) : xb f i 0 = 0 := rfl
theorem xor_a (a b c : UInt8) : b ^^^ c ^^^ (a ^^^ b ^^^ c) = a := by
  calc b ^^^ c ^^^ (a ^^^ b ^^^ c) = (b ^^^ b) ^^^ (c ^^^ c) ^^^ a := by ac_rfl
    _ = a := by simp
theorem xor_b (a b c : UInt8) : a ^^^ c ^^^ (a ^^^ b ^^^ c) = b := by
  calc a ^^^ c ^^^ (a ^^^ b ^^^ c) = (a ^^^ a) ^^^ (c ^^^ c) ^^^ b := by ac_rfl
    _ = b := by simp
theorem xor_c (a b c : UInt8) : a ^^^ b ^^^ (a ^^^ b ^^^ c) = c := by
  calc a ^^^ b ^^^ (a ^^^ b ^^^ c) = (a ^^^ a) ^^^ (b ^^^ b) ^^^ c := by ac_rfl
    _ = c := by simp
theorem xor_d (a b : UInt8) : b ^^^ (a ^^^ b) = a := by
  calc b ^^^ (a ^^^ b) = (b ^^^ b) ^^^ a := by ac_rfl
    _ = a := by simp
theorem xor_e (a b : UInt8) : a ^^^ (a ^^^ b) = b := by
  calc a ^^^ (a ^^^ b) = (a ^^^ a) ^^^ b := by ac_rfl
    _ = b := by simp
set_option maxHeartbeats 1000000 in
/-- Of a group just one is lost: the others bring it back. -/
theorem brings_back {n : Nat} (hn : 7 ≤ n) (x : List ByteArray) (g : Nat) (hg : g < 2) (D : Nat → Bool) (j : Nat) (hj : j ∈ grpL g ++ [parB g]) (hD : ∀ q ∈ grpL g ++ [parB g], D q = decide (q = j)) :
    xorT (n - 7) (fun k => (((restL g D).map (fullB n x)).getD k ByteArray.empty)) (restL g D).length = fullB n x j := by
  have hp := full_par (n := n) x g hg
  refine text_xor (fullB_size hn x j) fun i hi => ?_
  rw [byteN_of]
  have hpb : byteN (fullB n x (parB g)) i = xb (fun k => (((grpL g).map (fullB n x)).getD k ByteArray.empty)) i (grpL g).length := by rw [← hp, xorT_byteN hi]
  have hr : restL g D = (grpL g ++ [parB g]).filter fun q => !decide (q = j) := by
    unfold restL
    exact List.filter_congr fun q hq => by rw [hD q hq]
  rw [hr]
  rcases (show g = 0 ∨ g = 1 by omega) with rfl | rfl
  · simp only [grpL, parB, List.length_cons, List.length_nil, List.map_cons, List.map_nil, xb_byteN, xb_nil] at hpb
    simp only [List.getD_cons_zero, List.getD_cons_succ] at hpb
    simp only [grpL, parB, List.cons_append, List.nil_append, List.mem_cons, List.not_mem_nil, or_false] at hj
    rcases hj with rfl | rfl | rfl | rfl
    all_goals
      simp only [grpL, parB, List.cons_append, List.nil_append, List.filter_cons, List.filter_nil]
      simp [xb_byteN, xb_nil, hpb, xor_a, xor_b, xor_c]
  · simp only [grpL, parB, List.length_cons, List.length_nil, List.map_cons, List.map_nil, xb_byteN, xb_nil] at hpb
    simp only [List.getD_cons_zero, List.getD_cons_succ] at hpb
    simp only [grpL, parB, List.cons_append, List.nil_append, List.mem_cons, List.not_mem_nil, or_false] at hj
    rcases hj with rfl | rfl | rfl
    all_goals
      simp only [grpL, parB, List.cons_append, List.nil_append, List.filter_cons, List.filter_nil]
      simp [xb_byteN, xb_nil, hpb, xor_d, xor_e]
end Go.Proofs.YtkgacnenmflegaaGreatDoor
