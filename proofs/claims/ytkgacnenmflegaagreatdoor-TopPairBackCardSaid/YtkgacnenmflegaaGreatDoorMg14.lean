/-
  A parity without its spare bits.
  The syndromes of a remainder.
-/
import Derived.Test.YtkgacnenmflegaaGreatDoorMg11
import Derived.Test.YtkgacnenmflegaaGreatDoorMg13
namespace Go.Proofs.YtkgacnenmflegaaGreatDoor
open Go.RowKit

/-- What stays of the last byte. -/
def maskN (t : Nat) : Nat := 256 - 2 ^ ((8 - degN t % 8) % 8)
def lastB (t : Nat) (x : UInt8) : UInt8 := UInt8.ofNat (x.toNat &&& maskN t)
def cleanL (t : Nat) (l : List UInt8) : List UInt8 := l.set (lowN8 t - 1) (lastB t (l.getD (lowN8 t - 1) 0))
theorem cleanL_len (t : Nat) (l : List UInt8) : (cleanL t l).length = l.length := by simp [cleanL]
theorem deg_all : ∀ t, t < 9 → 1 ≤ t → degN t = 13 * t := by decide +kernel
theorem mask_bits : ∀ n, n < 256 → ∀ k, k < 8 → ∀ j, j < 8 → (UInt8.ofNat (n &&& (256 - 2 ^ k))).toNat.testBit (7 - j) = (n.testBit (7 - j) && decide (j < 8 - k)) := by decide +kernel
theorem bitB_set {l : List UInt8} {q : Nat} (hq : q < l.length) (x : UInt8) (i : Nat) : bitB (l.set q x) i = if i / 8 = q then x.toNat.testBit (7 - i % 8) else bitB l i := by
  unfold bitB
  by_cases h : i / 8 = q
  · rw [if_pos h, h, List.getD_eq_getElem?_getD, List.getElem?_set, if_pos rfl, if_pos hq]
    rfl
  · rw [if_neg h, List.getD_eq_getElem?_getD, List.getElem?_set, if_neg (fun e => h e.symm), ← List.getD_eq_getElem?_getD]
theorem low_deg {t : Nat} (h1 : 1 ≤ t) (h8 : t ≤ 8) : 1 ≤ lowN8 t ∧ degN t ≤ 8 * lowN8 t ∧ 8 * (lowN8 t - 1) < degN t := by
  have := deg_all t (by omega) h1
  unfold lowN8
  omega
/-- The spare bits are gone, the others stay. -/
theorem bitB_clean {t : Nat} (h1 : 1 ≤ t) (h8 : t ≤ 8) {l : List UInt8} (hl : l.length = lowN8 t) {i : Nat} (hi : i < 8 * lowN8 t) : bitB (cleanL t l) i = (bitB l i && decide (i < degN t)) := by
  obtain ⟨h2, h3, h4⟩ := low_deg h1 h8
  unfold cleanL
  rw [bitB_set (by omega)]
  by_cases h : i / 8 = lowN8 t - 1
  · rw [if_pos h]
    have hb := mask_bits (l.getD (lowN8 t - 1) 0).toNat (UInt8.toNat_lt _) ((8 - degN t % 8) % 8) (Nat.mod_lt _ (by omega)) (i % 8) (Nat.mod_lt _ (by omega))
    unfold lastB maskN
    rw [hb]
    unfold bitB
    rw [h]
    congr 1
    rw [decide_eq_decide]
    omega
  · rw [if_neg h]
    have : i < degN t := by omega
    simp [this]
/-- What has no spare bits stays. -/
theorem clean_same {t : Nat} (h1 : 1 ≤ t) (h8 : t ≤ 8) {l : List UInt8} (hl : l.length = lowN8 t) (hz : ∀ i, degN t ≤ i → bitB l i = false) : cleanL t l = l := by
  refine bits_ext (cleanL_len t l) fun i hi => ?_
  rw [cleanL_len, hl] at hi
  rw [bitB_clean h1 h8 hl hi]
  by_cases h : i < degN t
  · simp [h]
  · simp [h, hz i (by omega)]
theorem u8_and {a b : Nat} (ha : a < 256) (hb : b < 256) : bits .and .u8 (a : Int) (b : Int) = ((a &&& b : Nat) : Int) := by
  have hx : a &&& b < 2 ^ 8 := Nat.and_lt_two_pow _ (by omega)
  show IntKind.u8.wrap ((BitVec.ofInt 8 (a : Int) &&& BitVec.ofInt 8 (b : Int)).toNat : Int) = _
  rw [BitVec.toNat_and, BitVec.toNat_ofInt, BitVec.toNat_ofInt]
  have e1 : ((a : Int) % ((2 ^ 8 : Nat) : Int)).toNat = a := by omega
  have e2 : ((b : Int) % ((2 ^ 8 : Nat) : Int)).toNat = b := by omega
  rw [e1, e2, IntKind.wrap_u8]
  omega
theorem lastB_val {t m : Nat} (hm : maskN t = m) (hlt : m < 256) (x : UInt8) : bits .and .u8 (x.toNat : Int) (m : Int) = ((lastB t x).toNat : Int) := by
  rw [u8_and x.toNat_lt hlt]
  unfold lastB
  rw [hm, UInt8.toNat_ofNat', Nat.mod_eq_of_lt]
  exact Nat.and_lt_two_pow (n := 8) _ (by omega)
def CleanPost (w : World) (t : Nat) (x : ByteArray) (e : Ending) (w' : World) : Prop :=
  ∃ h c, e = .returned (.slice (some ⟨h, 0, none⟩) (lowN8 t) c) ∧ Row w' w.heap.size 5 1 (.slice (some ⟨h, 0, none⟩) (lowN8 t) c) (lowN8 t) (bytesV (cleanL t x.data.toList)) ∧ Below w.heap.size w w'
set_option maxRecDepth 20000 in
set_option maxHeartbeats 8000000 in
theorem bch_clean (k t n g q : Nat) (l : List UInt8) (x : ByteArray) (w : World) (hR : BReady w k t n g l q) (hx : x.size = lowN8 t) (ht1 : 1 ≤ t) (ht8 : t ≤ 8) :
    Calls Tryz.prog 112 #[.pointer (some ⟨k, 0, none⟩), .string x] w (CleanPost w t x) := by
  have hld := low_deg ht1 ht8
  have hda := deg_all t (by omega) ht1
  have kb := Lib.run_convert_string_bytes (P := Tryz.prog) w 9 73 5 x Tryz.underlying9 Tryz.underlying73 Tryz.underlying5
  have hrw := Row.ofString w w.heap.size 5 x (Nat.le_refl _) (by omega)
  have hbw := below_ofString (Below.refl w.heap.size w) (Nat.le_refl _) 5 x
  generalize Lib.bytesWorld w 5 x = w1 at *
  generalize grownCap w x.size 0 5 = c at *
  have c11 := (hR.below hbw).code.c11
  obtain ⟨d, hd⟩ : ∃ d, d = degN t := ⟨_, rfl⟩
  obtain ⟨L, hL⟩ : ∃ L, L = lowN8 t := ⟨_, rfl⟩
  rw [← hd] at c11
  rw [hx, ← hL] at kb hrw
  have hlen : x.data.toList.length = L := by rw [hL, ← hx]; simp
  obtain ⟨y0, z0⟩ := hrw.at_ rfl (L - 1) (by omega)
  rw [Nat.zero_add] at y0 z0
  rw [bytesV_at (by omega)] at y0
  obtain ⟨L1, hL1⟩ : ∃ L1, L1 = L - 1 := ⟨_, rfl⟩
  have e5 : IntKind.i64.wrap ((L : Int) - 1) = (L1 : Int) := by rw [IntKind.wrap_i64]; omega
  have i0 : (0 : Int) ≤ (L1 : Int) := by omega
  have i1 : (L1 : Int) < (L : Int) := by omega
  rw [← hL1] at y0 z0
  have hst := hrw.store rfl L1 (by omega) (.int .u8 ((lastB t (x.data.toList.getD L1 0)).toNat : Int))
  rw [Nat.zero_add] at hst
  have hset : (bytesV x.data.toList).set L1 (.int .u8 ((lastB t (x.data.toList.getD L1 0)).toNat : Int)) = bytesV (cleanL t x.data.toList) := by
    unfold cleanL
    rw [← hL, ← hL1]
    simp only [bytesV, List.map_set]
  rw [hset] at hst
  have HS : Aside (∀ v : Int, v = ((lastB t (x.data.toList.getD L1 0)).toNat : Int) → CleanPost w t x (.returned (.slice (some ⟨w.heap.size, 0, none⟩) L c)) (w1.setCell ⟨w.heap.size, L1, none⟩ (.int .u8 v)).drew) := ⟨fun v hv => by
    subst hv
    refine ⟨w.heap.size, c, by rw [hL], ?_, (hbw.setCell (p := ⟨w.heap.size, L1, none⟩) (Nat.le_refl _) _).drew⟩
    rw [← hL]
    exact hst.1.drew⟩
  have HS0 : Aside (t = 8 → CleanPost w t x (.returned (.slice (some ⟨w.heap.size, 0, none⟩) L c)) w1) := ⟨fun h8 => by
    refine ⟨w.heap.size, c, by rw [hL], ?_, hbw⟩
    rw [← hL, clean_same ht1 ht8 (by rw [hlen, hL]) fun i hi => bitB_out (by rw [hlen, hL]; unfold lowN8; omega)]
    exact hrw⟩
  obtain ⟨y, hy⟩ : ∃ y, y = x.data.toList.getD L1 0 := ⟨_, rfl⟩
  rw [← hy] at y0 HS
  obtain ⟨m, hm⟩ : ∃ m, m = maskN t := ⟨_, rfl⟩
  have hcs : (d % 8 = 0 ∧ m = 255 ∧ t = 8) ∨ (d % 8 = 1 ∧ m = 128) ∨ (d % 8 = 2 ∧ m = 192) ∨ (d % 8 = 3 ∧ m = 224) ∨ (d % 8 = 4 ∧ m = 240) ∨ (d % 8 = 5 ∧ m = 248) ∨ (d % 8 = 6 ∧ m = 252) ∨ (d % 8 = 7 ∧ m = 254) := by
    rw [hm, hd]
    unfold maskN
    rw [hda]
    rcases (show t = 1 ∨ t = 2 ∨ t = 3 ∨ t = 4 ∨ t = 5 ∨ t = 6 ∨ t = 7 ∨ t = 8 by omega) with rfl | rfl | rfl | rfl | rfl | rfl | rfl | rfl <;> decide
  have HH := Aside.mk (And.intro hL (And.intro hy (And.intro hm (And.intro hlen (And.intro hrw (And.intro hbw (And.intro hL1 hset)))))))
  obtain ⟨nn, hnn⟩ : ∃ nn, nn = d % 8 := ⟨_, rfl⟩
  have e1 : (d : Int).tmod 8 = (nn : Int) := by rw [Int.tmod_eq_emod_of_nonneg (by omega)]; omega
  have e2 : IntKind.i64.wrap (nn : Int) = (nn : Int) := by rw [IntKind.wrap_i64]; omega
  rw [← hnn] at hcs
  have hdz : 0 ≤ (d : Int) := by omega
  clear hR hx ht1 ht8 hld hda hrw hbw hd hL hlen hL1 hst hset hy hm hnn
  rcases hcs with ⟨rfl, rfl, hte⟩ | ⟨rfl, rfl⟩ | ⟨rfl, rfl⟩ | ⟨rfl, rfl⟩ | ⟨rfl, rfl⟩ | ⟨rfl, rfl⟩ | ⟨rfl, rfl⟩ | ⟨rfl, rfl⟩
  · go_enter Tryz.func112, Tryz.ntmps112
    go_wp2
    go_ret
    exact HS0.out hte
  all_goals
    go_enter Tryz.func112, Tryz.ntmps112
    go_upto_region 4 with fail
    go_region
    all_goals
      go_wp2
      go_ret
      refine HS.out _ ?_
      have hab := lastB_val HH.out.2.2.1.symm (by decide) y
      simpa using hab
end Go.Proofs.YtkgacnenmflegaaGreatDoor
namespace Go.Proofs.YtkgacnenmflegaaGreatDoor
open Go.RowKit

/-- While the k-th syndrome is added up: v so far. -/
def synV (r : List UInt8) (d m k v : Nat) : List Int := (List.range m).map fun j => if j < k then ((vrow r (Gf.pw (j + 1)) d : Nat) : Int) else if j = k then (v : Int) else 0
def synL (r : List UInt8) (d m : Nat) : List Int := (List.range m).map fun j => ((vrow r (Gf.pw (j + 1)) d : Nat) : Int)
theorem synV_len (r : List UInt8) (d m k v : Nat) : (synV r d m k v).length = m := by simp [synV]
theorem synV_at {r : List UInt8} {d m k v : Nat} (h : k < m) : (synV r d m k v).getD k 0 = (v : Int) := by
  unfold synV
  rw [List.getD_eq_getElem?_getD, List.getElem?_map, List.getElem?_range h]
  simp
theorem synV_set {r : List UInt8} {d m k v u : Nat} (_h : k < m) : (synV r d m k v).set k (u : Int) = synV r d m k u := by
  apply List.ext_getElem
  · simp [synV]
  · intro i h1 h2
    rw [List.getElem_set]
    simp only [synV, List.getElem_map, List.getElem_range]
    by_cases hi : k = i
    · subst hi; simp
    · have hi2 : ¬ i = k := fun e => hi e.symm
      simp only [hi, hi2, if_false]
theorem synV_next {r : List UInt8} {d m k : Nat} : synV r d m k (vrow r (Gf.pw (k + 1)) d) = synV r d m (k + 1) 0 := by
  unfold synV
  refine List.map_congr_left fun j _ => ?_
  rcases Nat.lt_trichotomy j k with h | h | h
  · rw [if_pos h, if_pos (by omega)]
  · subst h; rw [if_neg (by omega), if_pos rfl, if_pos (by omega)]
  · rw [if_neg (by omega), if_neg (by omega), if_neg (by omega)]; split <;> rfl
theorem synV_done {r : List UInt8} {d m v : Nat} : synV r d m m v = synL r d m := by
  unfold synV synL
  refine List.map_congr_left fun j hj => ?_
  rw [if_pos (List.mem_range.1 hj)]
theorem synV_zero {r : List UInt8} {d m : Nat} : intsV (synV r d m 0 0) = List.replicate m (.int .i64 0) := by
  apply List.ext_getElem
  · simp [synV, intsV]
  · intro i h1 h2
    simp [synV, intsV]
/-- Are the first k all zero? -/
def synZ (r : List UInt8) (d k : Nat) : Bool := (List.range k).all fun j => vrow r (Gf.pw (j + 1)) d == 0
theorem synZ_succ (r : List UInt8) (d k : Nat) : synZ r d (k + 1) = (synZ r d k && (vrow r (Gf.pw (k + 1)) d == 0)) := by
  unfold synZ
  rw [List.range_succ, List.all_append]
  simp
/-- One bit more. -/
theorem vpart_step {r : List UInt8} {x d i : Nat} (hx : x < 8192) (hi : i < d) : Gf.mul (vrow r x (i + 1)) (Gf.pow x (d - (i + 1))) = Gf.mul (vrow r x i) (Gf.pow x (d - i)) ^^^ Gf.mul (bitB r i).toNat (Gf.pow x (d - 1 - i)) := by
  have e : d - i = 1 + (d - 1 - i) := by omega
  rw [show d - (i + 1) = d - 1 - i by omega, vrow, Gf.mul_xor_left _ (Gf.mul_lt _ (vrow_lt r hx i)) (bool_lt _), e, Gf.pow_add hx, Gf.pow_one hx, Gf.mul_assoc (vrow_lt r hx i) hx (Gf.pow_lt hx _)]
structure SynAt (w : World) (kb t n g q h c o m : Nat) (l r : List UInt8) (xs : List Int) (B : Nat) (W : World) : Prop where
  rdy : BReady W kb t n g l q
  rr : Row W B 5 1 (.slice (some ⟨h, 0, none⟩) (lowN8 t) c) (lowN8 t) (bytesV r)
  out : Row W w.heap.size 3 1 (.slice (some ⟨o, 0, none⟩) m m) m (intsV xs)
  chg : Chg (· = kb) (fun _ => True) w W
  ok : o ≠ kb
  os : ∃ cur fr, W.heap[o]? = some (.cells cur 3 fr) ∧ cur.size = m
theorem SynAt.drew {w : World} {kb t n g q h c o m : Nat} {l r : List UInt8} {xs : List Int} {B : Nat} {W : World} (H : SynAt w kb t n g q h c o m l r xs B W) : SynAt w kb t n g q h c o m l r xs B W.drew :=
  ⟨H.rdy.below ⟨rfl, rfl, rfl, Nat.le_refl _, fun _ _ => rfl⟩, H.rr.drew, H.out.drew, H.chg.trans ⟨rfl, rfl, rfl, Nat.le_refl _, fun _ _ _ => rfl, fun _ => trivial⟩, H.ok, H.os⟩
/-- One syndrome is written. -/
theorem SynAt.put {w : World} {kb t n g q h c o m : Nat} {l r : List UInt8} {xs : List Int} {B : Nat} {W W' : World} (H : SynAt w kb t n g q h c o m l r xs B W) (hm : m ≤ 16) (how : w.heap.size ≤ o) (hg : Chg (· = kb) (fun W => BReady W kb t n g l q) W W') (k : Nat) (hk : k < m) (v : Int) :
    W'.cell? ⟨o, k, none⟩ = W.cell? ⟨o, k, none⟩ ∧ W'.frozen? ⟨o, k, none⟩ = false ∧ SynAt w kb t n g q h c o m l r (xs.set k v) B (W'.setCell ⟨o, k, none⟩ (.int .i64 v)) := by
  have hgb : W.grownBy W' (some kb) := ⟨hg.os, hg.tape, hg.output, hg.size, fun q hq hne => hg.block q hq (fun e => hne (by rw [e]))⟩
  have hor := H.out.kept hgb (.inr (by simp only [Value.ownBlock, ne_eq, Option.some.injEq]; exact H.ok))
  obtain ⟨cur, fr, hcur, hcs⟩ := H.os
  have hcur' := hg.blk hcur (fun e => H.ok e)
  have hs := hor.store rfl k (by omega) (.int .i64 v)
  obtain ⟨_, hz⟩ := hor.at_ rfl k hk
  rw [Nat.zero_add] at hs hz
  have hset : (intsV xs).set k (.int .i64 v) = intsV (xs.set k v) := by simp [intsV, List.map_set]
  rw [hset] at hs
  have hch := Chg.setCell (X := (· = o)) (w := W') ⟨o, k, none⟩ (.int .i64 v) rfl
  have hsm : Small W' (· = o) := fun q cs ty fr' h1 h2 => by
    subst h2
    rw [hcur'] at h1
    simp only [Option.some.injEq, Obj.cells.injEq] at h1
    rw [← h1.1, ← h1.2.1]
    exact ⟨by decide, by decide, fun _ => by omega⟩
  have hrr := H.rr.kept hgb (.inr (by
    intro e
    have := H.rdy.code.off H.rr (by decide)
    exact this e))
  refine ⟨by unfold World.cell?; rw [hg.block o (Array.getElem?_eq_some_iff.1 hcur).1 (fun e => H.ok e)], hz, ⟨(hg.inv H.rdy).keptS hch hsm, hrr.keptT hch fun q cs ty fr' h1 h2 => (hsm q cs ty fr' h1 h2).2.1, hs.1, ?_, H.ok, ?_⟩⟩
  · have h2 := H.chg.trans (⟨hg.os, hg.tape, hg.output, hg.size, hg.block, fun _ => trivial⟩ : Chg (· = kb) (fun _ => True) W W')
    exact ⟨hch.os.trans h2.os, hch.tape.trans h2.tape, hch.output.trans h2.output, Nat.le_trans h2.size hch.size, fun q hq hx => (hch.block q (Nat.lt_of_lt_of_le hq h2.size) (fun e => by omega)).trans (h2.block q hq hx), fun _ => trivial⟩
  · exact ⟨cur.setIfInBounds k (.int .i64 v), fr, by simp [World.setCell, Array.getElem?_modify, hcur'], by simpa using hcs⟩
def SynPost (w : World) (kb t n g q h c : Nat) (l r : List UInt8) (B : Nat) (e : Ending) (w' : World) : Prop :=
  ∃ o, e = .returned (.tuple #[.slice (some ⟨o, 0, none⟩) (2 * t) (2 * t), .bool (synZ r (degN t) (2 * t))]) ∧ w.heap.size ≤ o ∧ SynAt w kb t n g q h c o (2 * t) l r (synL r (degN t) (2 * t)) B w'
theorem beqInt (a : Nat) : ((a : Int) == 0) = (a == 0) := by
  rw [Bool.eq_iff_iff]
  simp
theorem xorInt {a b : Nat} (ha : a < 1000000) (hb : b < 1000000) : bits .xor .i64 (a : Int) (b : Int) = ((a ^^^ b : Nat) : Int) := by
  have h1 : a ^^^ b < 2 ^ 20 := Nat.xor_lt_two_pow (by omega) (by omega)
  show IntKind.i64.wrap ((BitVec.ofInt 64 (a : Int) ^^^ BitVec.ofInt 64 (b : Int)).toNat : Int) = _
  rw [BitVec.toNat_xor, BitVec.toNat_ofInt, BitVec.toNat_ofInt]
  have e1 : ((a : Int) % ((2 ^ 64 : Nat) : Int)).toNat = a := by omega
  have e2 : ((b : Int) % ((2 ^ 64 : Nat) : Int)).toNat = b := by omega
  rw [e1, e2, IntKind.wrap_i64]
  omega
theorem makeInts (m : Nat) (h : m ≤ 1000000) (W : World) :
    (Instr.makeSlice 36 (.int .i64 (m : Int)) (.int .i64 (m : Int))).run Tryz.prog W = .ok (.slice (some ⟨W.heap.size, 0, none⟩) m m) (W.alloc (.cells (madeCells #[.int .i64 0] m) 3)) :=
  run_make_row' 36 3 (.int .i64 0) 8 Tryz.underlying36 infoInt rfl .i64 .i64 m (by omega) (by omega) W
set_option maxRecDepth 20000 in
set_option maxHeartbeats 8000000 in
theorem bch_syndromes (w : World) (kb t n g q h c : Nat) (l r : List UInt8) (B : Nat) (hR : BReady w kb t n g l q) (hr : Row w B 5 1 (.slice (some ⟨h, 0, none⟩) (lowN8 t) c) (lowN8 t) (bytesV r)) (ht1 : 1 ≤ t) (ht8 : t ≤ 8) :
    Calls Tryz.prog 113 #[.pointer (some ⟨kb, 0, none⟩), .slice (some ⟨h, 0, none⟩) (lowN8 t) c] w (SynPost w kb t n g q h c l r B) := by
  obtain ⟨m, hm⟩ : ∃ m, m = 2 * t := ⟨_, rfl⟩
  obtain ⟨d, hd⟩ : ∃ d, d = degN t := ⟨_, rfl⟩
  have hda := deg_all t (by omega) ht1
  obtain ⟨h21, h22, h23⟩ := low_deg ht1 ht8
  have c0 := hR.code.c0
  have c11 := hR.code.c11
  have hkl := hR.code.lt
  have e0 : IntKind.i64.wrap (2 * (t : Int)) = (m : Int) := by rw [IntKind.wrap_i64]; omega
  have hmk := makeInts m (by omega)
  have hz := Row.zeros w w.heap.size 3 (.int .i64 0) m (Nat.le_refl _) (by simp only [maxLen]; omega)
  rw [← synV_zero (r := r) (d := d)] at hz
  have hrl : r.length = lowN8 t := by have := hr.len; simpa [bytesV] using this
  have HT := Aside.mk (And.intro hm (And.intro hd (And.intro ht1 (And.intro ht8 (And.intro hda (And.intro h22 hrl))))))
  obtain ⟨o, ho⟩ : ∃ o, o = w.heap.size := ⟨_, rfl⟩
  have H0 : Aside (SynAt w kb t n g q h c o m l r (synV r d m 0 0) B (w.alloc (.cells (madeCells #[.int .i64 0] m) 3))) := ⟨by
    have hb := (Below.refl w.heap.size w).alloc (Nat.le_refl _) (.cells (madeCells #[.int .i64 0] m) 3)
    exact ⟨hR.below hb, hr.below hb, by rw [ho]; exact hz, Chg.of_below hb fun _ => trivial, by omega, ⟨_, _, by rw [ho]; exact heap_alloc_new w _, by simp [madeCells]⟩⟩⟩
  have HO := Aside.mk ho
  have HG : Aside (∀ (x : Int) W, BReady W kb t n g l q → 0 ≤ x → x ≤ 1000000 → Calls Tryz.prog 152 #[.pointer (some ⟨kb, 5, none⟩), .int .i64 x] W fun e w' => e = .returned (.int .i64 (Gf.pw x.toNat : Nat)) ∧ W.grownBy w' (some kb) ∧ (BReady W kb t n g l q → BReady w' kb t n g l q)) := ⟨fun x W hW h0 h1 => by
    letI := hst t n (.int .u32 1) (.int .i32 0) (.int .u32 0) (.int .i64 (degN t : Int)) (.slice (some ⟨g, 0, none⟩) (lowN8 t) (lowN8 t))
    refine (gf_exp kb q x W hW.code (by omega) (by omega)).mono ?_
    rintro e w' ⟨rfl, hM, hg⟩
    refine ⟨?_, hg, fun _ => ⟨.inr hM, hW.low.kept hg (.inr (hW.code.off hW.low (by decide)))⟩⟩
    have e1 : Gf.pw (arN x) = Gf.pw x.toNat := by
      unfold arN
      rw [show (x % 8191).toNat = x.toNat % 8191 by omega, Gf.pw_mod]
    rw [e1]⟩
  clear hR hr hda h21 h22 h23 hz hrl hm hd ho ht1 ht8
  go_enter Tryz.func113, Tryz.ntmps113
  go_upto_region 3 with fail
  have ho := HO.out
  rw [← ho]
  generalize w.alloc (.cells (madeCells #[.int .i64 0] m) 3) = w1 at *
  clear ho hmk c0 c11 e0
  go_wp2_with fail
  go_loopw [7, 8, 9, 18] (fun s7 _ _ s18 wr => ∃ k : Nat, k ≤ m ∧ s18 = .int .i64 (k : Int) ∧ s7 = .bool (synZ r d k) ∧ Aside (SynAt w kb t n g q h c o m l r (synV r d m k 0) B wr)) (fun _ _ _ s18 _ => m - (intOf s18).toNat)
  case atStart => exact ⟨0, by omega, rfl, rfl, H0⟩
  case round =>
    obtain ⟨k, hk, rfl, rfl, HI⟩ := hrel
    by_cases hlt : k < m
    · have i0 : (k : Int) < (m : Int) := by omega
      have c11 := HI.out.rdy.code.c11
      rw [← HT.out.2.1] at c11
      obtain ⟨k1, hk1⟩ : ∃ k1, k1 = k + 1 := ⟨_, rfl⟩
      obtain ⟨wo, hwo⟩ : ∃ wo : World, wo = wr := ⟨_, rfl⟩
      obtain ⟨z, hzz⟩ : ∃ z, z = synZ r d k := ⟨_, rfl⟩
      rw [← hzz]
      have HKK := Aside.mk (And.intro hk1 (And.intro hlt hzz))
      clear hwo hzz hk1
      go_wp2_with fail
      go_loopw [9, 25] (fun _ s25 wx => ∃ i : Nat, i ≤ d ∧ s25 = .int .i64 (i : Int) ∧ Aside (SynAt w kb t n g q h c o m l r (synV r d m k (Gf.mul (vrow r (Gf.pw (k + 1)) i) (Gf.pow (Gf.pw (k + 1)) (d - i)))) B wx)) (fun _ s25 _ => d - (intOf s25).toNat)
      case atStart => exact ⟨0, by omega, rfl, by rw [show vrow r (Gf.pw (k + 1)) 0 = 0 from rfl, Gf.mul_zero_left]; exact HI⟩
      case round =>
        obtain ⟨i, hi, rfl, HJ⟩ := hrel
        by_cases hid : i < d
        · obtain ⟨v0, hv0⟩ : ∃ v0, v0 = Gf.mul (vrow r (Gf.pw (k + 1)) i) (Gf.pow (Gf.pw (k + 1)) (d - i)) := ⟨_, rfl⟩
          rw [← hv0] at HJ
          have hstep := vpart_step (r := r) (Gf.pw_lt (k + 1)) hid
          rw [← hv0] at hstep
          obtain ⟨iq, hiq⟩ : ∃ iq, iq = i / 8 := ⟨_, rfl⟩
          obtain ⟨ir, hir⟩ : ∃ ir, ir = i % 8 := ⟨_, rfl⟩
          obtain ⟨sh, hsh⟩ : ∃ sh, sh = 7 - ir := ⟨_, rfl⟩
          have hqL : iq < lowN8 t := by have := HT.out; omega
          obtain ⟨y0, y0z⟩ := HJ.out.rr.at_ rfl iq hqL
          clear y0z
          rw [Nat.zero_add, bytesV_at (by have := HT.out; omega)] at y0
          obtain ⟨x, hx⟩ : ∃ x, x = r.getD iq 0 := ⟨_, rfl⟩
          rw [← hx] at y0
          have hbit := bitAt_if x (k := sh) (by omega)
          have hbb : bitB r i = x.toNat.testBit sh := by unfold bitB; rw [hx, hiq, hsh, hir]
          have hab := and_bit x (j := sh) (by omega)
          rw [hbit] at hab
          have w1' : (i : Int).tdiv 8 = (iq : Int) := by rw [Int.tdiv_eq_ediv_of_nonneg (by omega)]; omega
          have w1'' : (i : Int) / 8 = (iq : Int) := by omega
          have w2 : IntKind.i64.wrap (iq : Int) = (iq : Int) := by have := HT.out; rw [IntKind.wrap_i64]; omega
          have w3 : (i : Int).tmod 8 = (ir : Int) := by rw [Int.tmod_eq_emod_of_nonneg (by omega)]; omega
          have w3' : (i : Int) % 8 = (ir : Int) := by omega
          have w4 : IntKind.i64.wrap (ir : Int) = (ir : Int) := by rw [IntKind.wrap_i64]; omega
          have w5 : IntKind.i64.wrap (7 - (ir : Int)) = (sh : Int) := by rw [IntKind.wrap_i64]; omega
          have i1 : (0 : Int) ≤ (iq : Int) := by omega
          have i2 : (iq : Int) < (lowN8 t : Int) := by omega
          have i3 : (i : Int) < (d : Int) := by omega
          have i4 : ¬ (sh : Int) < 0 := by omega
          have i5 : (0 : Int) ≤ (sh : Int) := by omega
          have j1 : IntKind.i64.wrap ((i : Int) + 1) = ((i + 1 : Nat) : Int) := by have := HT.out; rw [IntKind.wrap_i64]; omega
          have hmn : min sh 8 = sh := by omega
          have HX := Aside.mk (And.intro hid (And.intro hbb hstep))
          have HV := Aside.mk hv0
          clear hv0 hstep hiq hir hsh hqL hx hbit hid
          cases htb : x.toNat.testBit sh
          · rw [htb] at hab
            have hab0 : bits .and .u8 ((x.toNat : Int) / 2 ^ min sh 8) 1 = 0 := by rw [hmn]; exact hab
            have HTB := Aside.mk (HX.out.2.1.trans htb)
            clear hab htb hbb hmn
            go_wp2
            go_roundw
            case rel => exact ⟨i + 1, HX.out.1, rfl, by rw [HX.out.2.2, HTB.out, show (false : Bool).toNat = 0 from rfl, Gf.mul_zero_left, Nat.xor_zero]; exact HJ⟩
            case measure => have := HX.out.1; simp [intOf]; omega
          · rw [htb] at hab
            have hab0 : bits .and .u8 ((x.toNat : Int) / 2 ^ min sh 8) 1 = 1 := by rw [hmn]; exact hab
            have HTB := Aside.mk (HX.out.2.1.trans htb)
            clear hab htb hbb hmn
            go_upto_region 10 with fail
            generalize wr = wl at *
            have hz := HJ.out.out.at_ rfl k HKK.out.2.1
            rw [Nat.zero_add] at hz
            obtain ⟨y1, z1⟩ := hz
            replace y1 : wl.cell? ⟨o, k, none⟩ = some (.int .i64 (v0 : Int)) := by
              rw [y1]
              have hl := synV_len r d m k v0
              simp only [intsV, List.getD_eq_getElem?_getD, List.getElem?_map, List.getElem?_eq_getElem (show k < (synV r d m k v0).length by rw [hl]; exact HKK.out.2.1), Option.map_some, Option.getD_some]
              have := synV_at (r := r) (d := d) (v := v0) HKK.out.2.1
              rw [List.getD_eq_getElem?_getD, List.getElem?_eq_getElem (show k < (synV r d m k v0).length by rw [hl]; exact HKK.out.2.1)] at this
              simp at this
              rw [this]
            obtain ⟨d1, hd1⟩ : ∃ d1, d1 = d - 1 := ⟨_, rfl⟩
            obtain ⟨de, hde⟩ : ∃ de, de = d1 - i := ⟨_, rfl⟩
            obtain ⟨ex, hex⟩ : ∃ ex, ex = k1 * de := ⟨_, rfl⟩
            obtain ⟨pe, hpe⟩ : ∃ pe, pe = Gf.pw ex := ⟨_, rfl⟩
            obtain ⟨v1, hv1⟩ : ∃ v1, v1 = v0 ^^^ pe := ⟨_, rfl⟩
            have hexl : ex ≤ 2000 := by
              have h1 := HT.out
              have h2 := HKK.out
              have h3 : k1 * de ≤ 16 * 104 := Nat.mul_le_mul (by omega) (by omega)
              omega
            have hv0l : v0 < 8192 := by rw [HV.out]; exact Gf.mul_lt _ (vrow_lt r (Gf.pw_lt _) i)
            have hpel : pe < 8192 := by rw [hpe]; exact Gf.pw_lt _
            have HE : Aside (IntKind.i64.wrap ((k : Int) + 1) = (k1 : Int) ∧ IntKind.i64.wrap ((d : Int) - 1) = (d1 : Int) ∧ IntKind.i64.wrap ((d1 : Int) - (i : Int)) = (de : Int) ∧ IntKind.i64.wrap ((k1 : Int) * (de : Int)) = (ex : Int) ∧ bits .xor .i64 (v0 : Int) (pe : Int) = (v1 : Int)) := by
              have h1 := HT.out
              have h2 := HKK.out
              have h3 := HX.out.1
              refine ⟨⟨by rw [IntKind.wrap_i64]; omega, by rw [IntKind.wrap_i64]; omega, by rw [IntKind.wrap_i64]; omega, ?_, ?_⟩⟩
              · have h4 : (k1 : Int) * (de : Int) = (ex : Int) := by rw [hex]; simp
                rw [h4, IntKind.wrap_i64]; omega
              · rw [hv1]; exact xorInt (by omega) (by omega)
            have HGE : Aside (∀ W, BReady W kb t n g l q → Calls Tryz.prog 152 #[.pointer (some ⟨kb, 5, none⟩), .int .i64 (ex : Int)] W fun e w' => e = .returned (.int .i64 (pe : Int)) ∧ W.grownBy w' (some kb) ∧ (BReady W kb t n g l q → BReady w' kb t n g l q)) := ⟨fun W hW => by
              have := HG.out (ex : Int) W hW (by omega) (by omega)
              rwa [Int.toNat_natCast, ← hpe] at this⟩
            have HNX : Aside (Gf.mul (vrow r (Gf.pw (k + 1)) (i + 1)) (Gf.pow (Gf.pw (k + 1)) (d - (i + 1))) = v1) := ⟨by
              rw [HX.out.2.2, HTB.out, hv1, hpe, hex, hde, hd1, HKK.out.1, show (true : Bool).toNat = 1 from rfl, Gf.one_mul (Gf.pow_lt (Gf.pw_lt _) _), Gf.pow_pw]⟩
            have HY := Aside.mk (And.intro y1 z1)
            have hol := (Array.getElem?_eq_some_iff.1 (HJ.out.out.blk o rfl).2.2.choose_spec.choose_spec).1
            have HOL := Aside.mk hol
            clear y1 z1 hd1 hde hex hpe hv1 hexl hv0l hpel hol HV
            refine wp_region_r 20 (by kernel_rfl) (by kernel_rfl) (rel_small (by kernel_rfl)) (chgV (· = kb) (fun W => BReady W kb t n g l q) [(39, .val (.slice (some ⟨o, 0, none⟩) m m)), (40, .val (.int .i64 k)), (41, .val (.pointer (some ⟨o, k, none⟩))), (42, .val (.int .i64 v0)), (43, .val (.pointer (some ⟨kb, 0, none⟩))), (44, .val (.pointer (some ⟨kb, 0, none⟩))), (45, .val (.pointer (some ⟨kb, 5, none⟩))), (46, .val (.int .i64 k)), (47, .val (.int .i64 k1)), (48, .val (.pointer (some ⟨kb, 0, none⟩))), (49, .val (.pointer (some ⟨kb, 0, none⟩))), (50, .val (.pointer (some ⟨kb, 11, none⟩))), (51, .val (.int .i64 d)), (52, .val (.int .i64 d1)), (53, .val (.int .i64 i)), (54, .val (.int .i64 de)), (55, .val (.int .i64 ex)), (56, .val (.int .i64 pe)), (57, .val (.int .i64 v1)), (58, .val (.pointer (some ⟨o, k, none⟩)))]) (Chg (· = kb) (fun W => BReady W kb t n g l q)) (chg_drew _ _ _ ((fun h => h.below ⟨rfl, rfl, rfl, Nat.le_refl _, fun _ _ => rfl⟩))) Chg.refl (fun _ _ _ => Chg.trans) (chgV_stable _ _ _) ⟨?_, ?_, ?_, ?_, ?_, ?_, ?_, ?_, ?_, ?_, ?_, ?_, ?_, ?_, ?_, ?_, ?_, ?_, ?_, ?_, trivial⟩ ?_
            · -- 39 := move t6
              intro f W hW hold hd K hK
              refine .inl ⟨wanted_free rfl _, ?_⟩
              dsimp only [bare]
              have ze6 : f 6 = .slice (some ⟨o, 0, none⟩) m m := hold 6 rfl
              have HK : ∀ v W', Chg (· = kb) (fun W => BReady W kb t n g l q) W W' → chgV (· = kb) (fun W => BReady W kb t n g l q) _ 39 v W' → K { tmps := #[f 0, f 1, f 2, f 3, f 4, f 5, f 6, f 7, f 8, f 9, f 10, f 11, f 12, f 13, f 14, f 15, f 16, f 17, f 18, f 19, f 20, f 21, f 22, f 23, f 24, f 25, f 26, f 27, f 28, f 29, f 30, f 31, f 32, f 33, f 34, f 35, f 36, f 37, f 38, v, f 40, f 41, f 42, f 43, f 44, f 45, f 46, f 47, f 48, f 49, f 50, f 51, f 52, f 53, f 54, f 55, f 56, f 57, f 58, f 59, f 60, f 61, f 62, f 63, f 64, f 65, f 66, f 67, f 68, f 69, f 70], defers := [] } W' := hK
              change wpList _ #[_] _ [_] { tmps := #[f 0, f 1, f 2, f 3, f 4, f 5, f 6, f 7, f 8, f 9, f 10, f 11, f 12, f 13, f 14, f 15, f 16, f 17, f 18, f 19, f 20, f 21, f 22, f 23, f 24, f 25, f 26, f 27, f 28, f 29, f 30, f 31, f 32, f 33, f 34, f 35, f 36, f 37, f 38, f 39, f 40, f 41, f 42, f 43, f 44, f 45, f 46, f 47, f 48, f 49, f 50, f 51, f 52, f 53, f 54, f 55, f 56, f 57, f 58, f 59, f 60, f 61, f 62, f 63, f 64, f 65, f 66, f 67, f 68, f 69, f 70], defers := [] } W
              clear hK hd hold
              simp only [ze6] at HK ⊢
              clear ze6
              have HK := Aside.mk HK
              go_wp2
              exact HK.out _ _ (Chg.refl _) rfl
            · -- 40 := move t8
              intro f W hW hold hd K hK
              refine .inl ⟨wanted_free rfl _, ?_⟩
              dsimp only [bare]
              have ze8 : f 8 = .int .i64 k := hold 8 rfl
              have HK : ∀ v W', Chg (· = kb) (fun W => BReady W kb t n g l q) W W' → chgV (· = kb) (fun W => BReady W kb t n g l q) _ 40 v W' → K { tmps := #[f 0, f 1, f 2, f 3, f 4, f 5, f 6, f 7, f 8, f 9, f 10, f 11, f 12, f 13, f 14, f 15, f 16, f 17, f 18, f 19, f 20, f 21, f 22, f 23, f 24, f 25, f 26, f 27, f 28, f 29, f 30, f 31, f 32, f 33, f 34, f 35, f 36, f 37, f 38, f 39, v, f 41, f 42, f 43, f 44, f 45, f 46, f 47, f 48, f 49, f 50, f 51, f 52, f 53, f 54, f 55, f 56, f 57, f 58, f 59, f 60, f 61, f 62, f 63, f 64, f 65, f 66, f 67, f 68, f 69, f 70], defers := [] } W' := hK
              change wpList _ #[_] _ [_] { tmps := #[f 0, f 1, f 2, f 3, f 4, f 5, f 6, f 7, f 8, f 9, f 10, f 11, f 12, f 13, f 14, f 15, f 16, f 17, f 18, f 19, f 20, f 21, f 22, f 23, f 24, f 25, f 26, f 27, f 28, f 29, f 30, f 31, f 32, f 33, f 34, f 35, f 36, f 37, f 38, f 39, f 40, f 41, f 42, f 43, f 44, f 45, f 46, f 47, f 48, f 49, f 50, f 51, f 52, f 53, f 54, f 55, f 56, f 57, f 58, f 59, f 60, f 61, f 62, f 63, f 64, f 65, f 66, f 67, f 68, f 69, f 70], defers := [] } W
              clear hK hd hold
              simp only [ze8] at HK ⊢
              clear ze8
              have HK := Aside.mk HK
              go_wp2
              exact HK.out _ _ (Chg.refl _) rfl
            · -- 41 := indexAddr 36 t39 t40
              intro f W hW hold hd K hK
              refine .inl ⟨wanted_free rfl _, ?_⟩
              dsimp only [bare]
              have ze39 : f 39 = .slice (some ⟨o, 0, none⟩) m m := hd 39 rfl rfl
              have ze40 : f 40 = .int .i64 k := hd 40 rfl rfl
              have HK : ∀ v W', Chg (· = kb) (fun W => BReady W kb t n g l q) W W' → chgV (· = kb) (fun W => BReady W kb t n g l q) _ 41 v W' → K { tmps := #[f 0, f 1, f 2, f 3, f 4, f 5, f 6, f 7, f 8, f 9, f 10, f 11, f 12, f 13, f 14, f 15, f 16, f 17, f 18, f 19, f 20, f 21, f 22, f 23, f 24, f 25, f 26, f 27, f 28, f 29, f 30, f 31, f 32, f 33, f 34, f 35, f 36, f 37, f 38, f 39, f 40, v, f 42, f 43, f 44, f 45, f 46, f 47, f 48, f 49, f 50, f 51, f 52, f 53, f 54, f 55, f 56, f 57, f 58, f 59, f 60, f 61, f 62, f 63, f 64, f 65, f 66, f 67, f 68, f 69, f 70], defers := [] } W' := hK
              change wpList _ #[_] _ [_] { tmps := #[f 0, f 1, f 2, f 3, f 4, f 5, f 6, f 7, f 8, f 9, f 10, f 11, f 12, f 13, f 14, f 15, f 16, f 17, f 18, f 19, f 20, f 21, f 22, f 23, f 24, f 25, f 26, f 27, f 28, f 29, f 30, f 31, f 32, f 33, f 34, f 35, f 36, f 37, f 38, f 39, f 40, f 41, f 42, f 43, f 44, f 45, f 46, f 47, f 48, f 49, f 50, f 51, f 52, f 53, f 54, f 55, f 56, f 57, f 58, f 59, f 60, f 61, f 62, f 63, f 64, f 65, f 66, f 67, f 68, f 69, f 70], defers := [] } W
              clear hK hd hold
              simp only [ze39, ze40] at HK ⊢
              clear ze39 ze40
              have HK := Aside.mk HK
              have p1 : (0 : Int) ≤ (k : Int) := (by omega); have p2 : (k : Int) < (m : Int) := i0
              go_wp2
              exact HK.out _ _ (Chg.refl _) rfl
            · -- 42 := load 3 t41
              intro f W hW hold hd K hK
              refine .inl ⟨wanted_free rfl _, ?_⟩
              dsimp only [bare]
              have ze41 : f 41 = .pointer (some ⟨o, k, none⟩) := hd 41 rfl rfl
              have HK : ∀ v W', Chg (· = kb) (fun W => BReady W kb t n g l q) W W' → chgV (· = kb) (fun W => BReady W kb t n g l q) _ 42 v W' → K { tmps := #[f 0, f 1, f 2, f 3, f 4, f 5, f 6, f 7, f 8, f 9, f 10, f 11, f 12, f 13, f 14, f 15, f 16, f 17, f 18, f 19, f 20, f 21, f 22, f 23, f 24, f 25, f 26, f 27, f 28, f 29, f 30, f 31, f 32, f 33, f 34, f 35, f 36, f 37, f 38, f 39, f 40, f 41, v, f 43, f 44, f 45, f 46, f 47, f 48, f 49, f 50, f 51, f 52, f 53, f 54, f 55, f 56, f 57, f 58, f 59, f 60, f 61, f 62, f 63, f 64, f 65, f 66, f 67, f 68, f 69, f 70], defers := [] } W' := hK
              change wpList _ #[_] _ [_] { tmps := #[f 0, f 1, f 2, f 3, f 4, f 5, f 6, f 7, f 8, f 9, f 10, f 11, f 12, f 13, f 14, f 15, f 16, f 17, f 18, f 19, f 20, f 21, f 22, f 23, f 24, f 25, f 26, f 27, f 28, f 29, f 30, f 31, f 32, f 33, f 34, f 35, f 36, f 37, f 38, f 39, f 40, f 41, f 42, f 43, f 44, f 45, f 46, f 47, f 48, f 49, f 50, f 51, f 52, f 53, f 54, f 55, f 56, f 57, f 58, f 59, f 60, f 61, f 62, f 63, f 64, f 65, f 66, f 67, f 68, f 69, f 70], defers := [] } W
              clear hK hd hold
              simp only [ze41] at HK ⊢
              clear ze41
              have HK := Aside.mk HK
              have hcell := (hW.cell HOL.out HJ.out.ok k).trans HY.out.1
              go_wp2
              exact HK.out _ _ (Chg.refl _) rfl
            · -- 43 := move t0
              intro f W hW hold hd K hK
              refine .inl ⟨wanted_free rfl _, ?_⟩
              dsimp only [bare]
              have ze0 : f 0 = .pointer (some ⟨kb, 0, none⟩) := hold 0 rfl
              have HK : ∀ v W', Chg (· = kb) (fun W => BReady W kb t n g l q) W W' → chgV (· = kb) (fun W => BReady W kb t n g l q) _ 43 v W' → K { tmps := #[f 0, f 1, f 2, f 3, f 4, f 5, f 6, f 7, f 8, f 9, f 10, f 11, f 12, f 13, f 14, f 15, f 16, f 17, f 18, f 19, f 20, f 21, f 22, f 23, f 24, f 25, f 26, f 27, f 28, f 29, f 30, f 31, f 32, f 33, f 34, f 35, f 36, f 37, f 38, f 39, f 40, f 41, f 42, v, f 44, f 45, f 46, f 47, f 48, f 49, f 50, f 51, f 52, f 53, f 54, f 55, f 56, f 57, f 58, f 59, f 60, f 61, f 62, f 63, f 64, f 65, f 66, f 67, f 68, f 69, f 70], defers := [] } W' := hK
              change wpList _ #[_] _ [_] { tmps := #[f 0, f 1, f 2, f 3, f 4, f 5, f 6, f 7, f 8, f 9, f 10, f 11, f 12, f 13, f 14, f 15, f 16, f 17, f 18, f 19, f 20, f 21, f 22, f 23, f 24, f 25, f 26, f 27, f 28, f 29, f 30, f 31, f 32, f 33, f 34, f 35, f 36, f 37, f 38, f 39, f 40, f 41, f 42, f 43, f 44, f 45, f 46, f 47, f 48, f 49, f 50, f 51, f 52, f 53, f 54, f 55, f 56, f 57, f 58, f 59, f 60, f 61, f 62, f 63, f 64, f 65, f 66, f 67, f 68, f 69, f 70], defers := [] } W
              clear hK hd hold
              simp only [ze0] at HK ⊢
              clear ze0
              have HK := Aside.mk HK
              go_wp2
              exact HK.out _ _ (Chg.refl _) rfl
            · -- 44 := nilCheck t43
              intro f W hW hold hd K hK
              refine .inl ⟨wanted_free rfl _, ?_⟩
              dsimp only [bare]
              have ze43 : f 43 = .pointer (some ⟨kb, 0, none⟩) := hd 43 rfl rfl
              have HK : ∀ v W', Chg (· = kb) (fun W => BReady W kb t n g l q) W W' → chgV (· = kb) (fun W => BReady W kb t n g l q) _ 44 v W' → K { tmps := #[f 0, f 1, f 2, f 3, f 4, f 5, f 6, f 7, f 8, f 9, f 10, f 11, f 12, f 13, f 14, f 15, f 16, f 17, f 18, f 19, f 20, f 21, f 22, f 23, f 24, f 25, f 26, f 27, f 28, f 29, f 30, f 31, f 32, f 33, f 34, f 35, f 36, f 37, f 38, f 39, f 40, f 41, f 42, f 43, v, f 45, f 46, f 47, f 48, f 49, f 50, f 51, f 52, f 53, f 54, f 55, f 56, f 57, f 58, f 59, f 60, f 61, f 62, f 63, f 64, f 65, f 66, f 67, f 68, f 69, f 70], defers := [] } W' := hK
              change wpList _ #[_] _ [_] { tmps := #[f 0, f 1, f 2, f 3, f 4, f 5, f 6, f 7, f 8, f 9, f 10, f 11, f 12, f 13, f 14, f 15, f 16, f 17, f 18, f 19, f 20, f 21, f 22, f 23, f 24, f 25, f 26, f 27, f 28, f 29, f 30, f 31, f 32, f 33, f 34, f 35, f 36, f 37, f 38, f 39, f 40, f 41, f 42, f 43, f 44, f 45, f 46, f 47, f 48, f 49, f 50, f 51, f 52, f 53, f 54, f 55, f 56, f 57, f 58, f 59, f 60, f 61, f 62, f 63, f 64, f 65, f 66, f 67, f 68, f 69, f 70], defers := [] } W
              clear hK hd hold
              simp only [ze43] at HK ⊢
              clear ze43
              have HK := Aside.mk HK
              go_wp2
              exact HK.out _ _ (Chg.refl _) rfl
            · -- 45 := fieldAddr 231 t44 3
              intro f W hW hold hd K hK
              refine .inl ⟨wanted_free rfl _, ?_⟩
              dsimp only [bare]
              have ze44 : f 44 = .pointer (some ⟨kb, 0, none⟩) := hd 44 rfl rfl
              have HK : ∀ v W', Chg (· = kb) (fun W => BReady W kb t n g l q) W W' → chgV (· = kb) (fun W => BReady W kb t n g l q) _ 45 v W' → K { tmps := #[f 0, f 1, f 2, f 3, f 4, f 5, f 6, f 7, f 8, f 9, f 10, f 11, f 12, f 13, f 14, f 15, f 16, f 17, f 18, f 19, f 20, f 21, f 22, f 23, f 24, f 25, f 26, f 27, f 28, f 29, f 30, f 31, f 32, f 33, f 34, f 35, f 36, f 37, f 38, f 39, f 40, f 41, f 42, f 43, f 44, v, f 46, f 47, f 48, f 49, f 50, f 51, f 52, f 53, f 54, f 55, f 56, f 57, f 58, f 59, f 60, f 61, f 62, f 63, f 64, f 65, f 66, f 67, f 68, f 69, f 70], defers := [] } W' := hK
              change wpList _ #[_] _ [_] { tmps := #[f 0, f 1, f 2, f 3, f 4, f 5, f 6, f 7, f 8, f 9, f 10, f 11, f 12, f 13, f 14, f 15, f 16, f 17, f 18, f 19, f 20, f 21, f 22, f 23, f 24, f 25, f 26, f 27, f 28, f 29, f 30, f 31, f 32, f 33, f 34, f 35, f 36, f 37, f 38, f 39, f 40, f 41, f 42, f 43, f 44, f 45, f 46, f 47, f 48, f 49, f 50, f 51, f 52, f 53, f 54, f 55, f 56, f 57, f 58, f 59, f 60, f 61, f 62, f 63, f 64, f 65, f 66, f 67, f 68, f 69, f 70], defers := [] } W
              clear hK hd hold
              simp only [ze44] at HK ⊢
              clear ze44
              have HK := Aside.mk HK
              go_wp2
              exact HK.out _ _ (Chg.refl _) rfl
            · -- 46 := move t8
              intro f W hW hold hd K hK
              refine .inl ⟨wanted_free rfl _, ?_⟩
              dsimp only [bare]
              have ze8 : f 8 = .int .i64 k := hold 8 rfl
              have HK : ∀ v W', Chg (· = kb) (fun W => BReady W kb t n g l q) W W' → chgV (· = kb) (fun W => BReady W kb t n g l q) _ 46 v W' → K { tmps := #[f 0, f 1, f 2, f 3, f 4, f 5, f 6, f 7, f 8, f 9, f 10, f 11, f 12, f 13, f 14, f 15, f 16, f 17, f 18, f 19, f 20, f 21, f 22, f 23, f 24, f 25, f 26, f 27, f 28, f 29, f 30, f 31, f 32, f 33, f 34, f 35, f 36, f 37, f 38, f 39, f 40, f 41, f 42, f 43, f 44, f 45, v, f 47, f 48, f 49, f 50, f 51, f 52, f 53, f 54, f 55, f 56, f 57, f 58, f 59, f 60, f 61, f 62, f 63, f 64, f 65, f 66, f 67, f 68, f 69, f 70], defers := [] } W' := hK
              change wpList _ #[_] _ [_] { tmps := #[f 0, f 1, f 2, f 3, f 4, f 5, f 6, f 7, f 8, f 9, f 10, f 11, f 12, f 13, f 14, f 15, f 16, f 17, f 18, f 19, f 20, f 21, f 22, f 23, f 24, f 25, f 26, f 27, f 28, f 29, f 30, f 31, f 32, f 33, f 34, f 35, f 36, f 37, f 38, f 39, f 40, f 41, f 42, f 43, f 44, f 45, f 46, f 47, f 48, f 49, f 50, f 51, f 52, f 53, f 54, f 55, f 56, f 57, f 58, f 59, f 60, f 61, f 62, f 63, f 64, f 65, f 66, f 67, f 68, f 69, f 70], defers := [] } W
              clear hK hd hold
              simp only [ze8] at HK ⊢
              clear ze8
              have HK := Aside.mk HK
              go_wp2
              exact HK.out _ _ (Chg.refl _) rfl
            · -- 47 := binOp add 3 t46 <i64 1> 3
              intro f W hW hold hd K hK
              refine .inl ⟨wanted_free rfl _, ?_⟩
              dsimp only [bare]
              have ze46 : f 46 = .int .i64 k := hd 46 rfl rfl
              have HK : ∀ v W', Chg (· = kb) (fun W => BReady W kb t n g l q) W W' → chgV (· = kb) (fun W => BReady W kb t n g l q) _ 47 v W' → K { tmps := #[f 0, f 1, f 2, f 3, f 4, f 5, f 6, f 7, f 8, f 9, f 10, f 11, f 12, f 13, f 14, f 15, f 16, f 17, f 18, f 19, f 20, f 21, f 22, f 23, f 24, f 25, f 26, f 27, f 28, f 29, f 30, f 31, f 32, f 33, f 34, f 35, f 36, f 37, f 38, f 39, f 40, f 41, f 42, f 43, f 44, f 45, f 46, v, f 48, f 49, f 50, f 51, f 52, f 53, f 54, f 55, f 56, f 57, f 58, f 59, f 60, f 61, f 62, f 63, f 64, f 65, f 66, f 67, f 68, f 69, f 70], defers := [] } W' := hK
              change wpList _ #[_] _ [_] { tmps := #[f 0, f 1, f 2, f 3, f 4, f 5, f 6, f 7, f 8, f 9, f 10, f 11, f 12, f 13, f 14, f 15, f 16, f 17, f 18, f 19, f 20, f 21, f 22, f 23, f 24, f 25, f 26, f 27, f 28, f 29, f 30, f 31, f 32, f 33, f 34, f 35, f 36, f 37, f 38, f 39, f 40, f 41, f 42, f 43, f 44, f 45, f 46, f 47, f 48, f 49, f 50, f 51, f 52, f 53, f 54, f 55, f 56, f 57, f 58, f 59, f 60, f 61, f 62, f 63, f 64, f 65, f 66, f 67, f 68, f 69, f 70], defers := [] } W
              clear hK hd hold
              simp only [ze46] at HK ⊢
              clear ze46
              have HK := Aside.mk HK
              have q1 := HE.out.1; have q2 := HE.out.2.1; have q3 := HE.out.2.2.1; have q4 := HE.out.2.2.2.1; have q5 := HE.out.2.2.2.2
              go_wp2
              exact HK.out _ _ (Chg.refl _) rfl
            · -- 48 := move t0
              intro f W hW hold hd K hK
              refine .inl ⟨wanted_free rfl _, ?_⟩
              dsimp only [bare]
              have ze0 : f 0 = .pointer (some ⟨kb, 0, none⟩) := hold 0 rfl
              have HK : ∀ v W', Chg (· = kb) (fun W => BReady W kb t n g l q) W W' → chgV (· = kb) (fun W => BReady W kb t n g l q) _ 48 v W' → K { tmps := #[f 0, f 1, f 2, f 3, f 4, f 5, f 6, f 7, f 8, f 9, f 10, f 11, f 12, f 13, f 14, f 15, f 16, f 17, f 18, f 19, f 20, f 21, f 22, f 23, f 24, f 25, f 26, f 27, f 28, f 29, f 30, f 31, f 32, f 33, f 34, f 35, f 36, f 37, f 38, f 39, f 40, f 41, f 42, f 43, f 44, f 45, f 46, f 47, v, f 49, f 50, f 51, f 52, f 53, f 54, f 55, f 56, f 57, f 58, f 59, f 60, f 61, f 62, f 63, f 64, f 65, f 66, f 67, f 68, f 69, f 70], defers := [] } W' := hK
              change wpList _ #[_] _ [_] { tmps := #[f 0, f 1, f 2, f 3, f 4, f 5, f 6, f 7, f 8, f 9, f 10, f 11, f 12, f 13, f 14, f 15, f 16, f 17, f 18, f 19, f 20, f 21, f 22, f 23, f 24, f 25, f 26, f 27, f 28, f 29, f 30, f 31, f 32, f 33, f 34, f 35, f 36, f 37, f 38, f 39, f 40, f 41, f 42, f 43, f 44, f 45, f 46, f 47, f 48, f 49, f 50, f 51, f 52, f 53, f 54, f 55, f 56, f 57, f 58, f 59, f 60, f 61, f 62, f 63, f 64, f 65, f 66, f 67, f 68, f 69, f 70], defers := [] } W
              clear hK hd hold
              simp only [ze0] at HK ⊢
              clear ze0
              have HK := Aside.mk HK
              go_wp2
              exact HK.out _ _ (Chg.refl _) rfl
            · -- 49 := nilCheck t48
              intro f W hW hold hd K hK
              refine .inl ⟨wanted_free rfl _, ?_⟩
              dsimp only [bare]
              have ze48 : f 48 = .pointer (some ⟨kb, 0, none⟩) := hd 48 rfl rfl
              have HK : ∀ v W', Chg (· = kb) (fun W => BReady W kb t n g l q) W W' → chgV (· = kb) (fun W => BReady W kb t n g l q) _ 49 v W' → K { tmps := #[f 0, f 1, f 2, f 3, f 4, f 5, f 6, f 7, f 8, f 9, f 10, f 11, f 12, f 13, f 14, f 15, f 16, f 17, f 18, f 19, f 20, f 21, f 22, f 23, f 24, f 25, f 26, f 27, f 28, f 29, f 30, f 31, f 32, f 33, f 34, f 35, f 36, f 37, f 38, f 39, f 40, f 41, f 42, f 43, f 44, f 45, f 46, f 47, f 48, v, f 50, f 51, f 52, f 53, f 54, f 55, f 56, f 57, f 58, f 59, f 60, f 61, f 62, f 63, f 64, f 65, f 66, f 67, f 68, f 69, f 70], defers := [] } W' := hK
              change wpList _ #[_] _ [_] { tmps := #[f 0, f 1, f 2, f 3, f 4, f 5, f 6, f 7, f 8, f 9, f 10, f 11, f 12, f 13, f 14, f 15, f 16, f 17, f 18, f 19, f 20, f 21, f 22, f 23, f 24, f 25, f 26, f 27, f 28, f 29, f 30, f 31, f 32, f 33, f 34, f 35, f 36, f 37, f 38, f 39, f 40, f 41, f 42, f 43, f 44, f 45, f 46, f 47, f 48, f 49, f 50, f 51, f 52, f 53, f 54, f 55, f 56, f 57, f 58, f 59, f 60, f 61, f 62, f 63, f 64, f 65, f 66, f 67, f 68, f 69, f 70], defers := [] } W
              clear hK hd hold
              simp only [ze48] at HK ⊢
              clear ze48
              have HK := Aside.mk HK
              go_wp2
              exact HK.out _ _ (Chg.refl _) rfl
            · -- 50 := fieldAddr 231 t49 4
              intro f W hW hold hd K hK
              refine .inl ⟨wanted_free rfl _, ?_⟩
              dsimp only [bare]
              have ze49 : f 49 = .pointer (some ⟨kb, 0, none⟩) := hd 49 rfl rfl
              have HK : ∀ v W', Chg (· = kb) (fun W => BReady W kb t n g l q) W W' → chgV (· = kb) (fun W => BReady W kb t n g l q) _ 50 v W' → K { tmps := #[f 0, f 1, f 2, f 3, f 4, f 5, f 6, f 7, f 8, f 9, f 10, f 11, f 12, f 13, f 14, f 15, f 16, f 17, f 18, f 19, f 20, f 21, f 22, f 23, f 24, f 25, f 26, f 27, f 28, f 29, f 30, f 31, f 32, f 33, f 34, f 35, f 36, f 37, f 38, f 39, f 40, f 41, f 42, f 43, f 44, f 45, f 46, f 47, f 48, f 49, v, f 51, f 52, f 53, f 54, f 55, f 56, f 57, f 58, f 59, f 60, f 61, f 62, f 63, f 64, f 65, f 66, f 67, f 68, f 69, f 70], defers := [] } W' := hK
              change wpList _ #[_] _ [_] { tmps := #[f 0, f 1, f 2, f 3, f 4, f 5, f 6, f 7, f 8, f 9, f 10, f 11, f 12, f 13, f 14, f 15, f 16, f 17, f 18, f 19, f 20, f 21, f 22, f 23, f 24, f 25, f 26, f 27, f 28, f 29, f 30, f 31, f 32, f 33, f 34, f 35, f 36, f 37, f 38, f 39, f 40, f 41, f 42, f 43, f 44, f 45, f 46, f 47, f 48, f 49, f 50, f 51, f 52, f 53, f 54, f 55, f 56, f 57, f 58, f 59, f 60, f 61, f 62, f 63, f 64, f 65, f 66, f 67, f 68, f 69, f 70], defers := [] } W
              clear hK hd hold
              simp only [ze49] at HK ⊢
              clear ze49
              have HK := Aside.mk HK
              go_wp2
              exact HK.out _ _ (Chg.refl _) rfl
            · -- 51 := load 3 t50
              intro f W hW hold hd K hK
              refine .inl ⟨wanted_free rfl _, ?_⟩
              dsimp only [bare]
              have ze50 : f 50 = .pointer (some ⟨kb, 11, none⟩) := hd 50 rfl rfl
              have HK : ∀ v W', Chg (· = kb) (fun W => BReady W kb t n g l q) W W' → chgV (· = kb) (fun W => BReady W kb t n g l q) _ 51 v W' → K { tmps := #[f 0, f 1, f 2, f 3, f 4, f 5, f 6, f 7, f 8, f 9, f 10, f 11, f 12, f 13, f 14, f 15, f 16, f 17, f 18, f 19, f 20, f 21, f 22, f 23, f 24, f 25, f 26, f 27, f 28, f 29, f 30, f 31, f 32, f 33, f 34, f 35, f 36, f 37, f 38, f 39, f 40, f 41, f 42, f 43, f 44, f 45, f 46, f 47, f 48, f 49, f 50, v, f 52, f 53, f 54, f 55, f 56, f 57, f 58, f 59, f 60, f 61, f 62, f 63, f 64, f 65, f 66, f 67, f 68, f 69, f 70], defers := [] } W' := hK
              change wpList _ #[_] _ [_] { tmps := #[f 0, f 1, f 2, f 3, f 4, f 5, f 6, f 7, f 8, f 9, f 10, f 11, f 12, f 13, f 14, f 15, f 16, f 17, f 18, f 19, f 20, f 21, f 22, f 23, f 24, f 25, f 26, f 27, f 28, f 29, f 30, f 31, f 32, f 33, f 34, f 35, f 36, f 37, f 38, f 39, f 40, f 41, f 42, f 43, f 44, f 45, f 46, f 47, f 48, f 49, f 50, f 51, f 52, f 53, f 54, f 55, f 56, f 57, f 58, f 59, f 60, f 61, f 62, f 63, f 64, f 65, f 66, f 67, f 68, f 69, f 70], defers := [] } W
              clear hK hd hold
              simp only [ze50] at HK ⊢
              clear ze50
              have HK := Aside.mk HK
              have hcell : W.cell? ⟨kb, 11, none⟩ = some (.int .i64 (d : Int)) := (by have := (hW.inv HJ.out.rdy).code.c11; rwa [← HT.out.2.1] at this)
              go_wp2
              exact HK.out _ _ (Chg.refl _) rfl
            · -- 52 := binOp sub 3 t51 <i64 1> 3
              intro f W hW hold hd K hK
              refine .inl ⟨wanted_free rfl _, ?_⟩
              dsimp only [bare]
              have ze51 : f 51 = .int .i64 d := hd 51 rfl rfl
              have HK : ∀ v W', Chg (· = kb) (fun W => BReady W kb t n g l q) W W' → chgV (· = kb) (fun W => BReady W kb t n g l q) _ 52 v W' → K { tmps := #[f 0, f 1, f 2, f 3, f 4, f 5, f 6, f 7, f 8, f 9, f 10, f 11, f 12, f 13, f 14, f 15, f 16, f 17, f 18, f 19, f 20, f 21, f 22, f 23, f 24, f 25, f 26, f 27, f 28, f 29, f 30, f 31, f 32, f 33, f 34, f 35, f 36, f 37, f 38, f 39, f 40, f 41, f 42, f 43, f 44, f 45, f 46, f 47, f 48, f 49, f 50, f 51, v, f 53, f 54, f 55, f 56, f 57, f 58, f 59, f 60, f 61, f 62, f 63, f 64, f 65, f 66, f 67, f 68, f 69, f 70], defers := [] } W' := hK
              change wpList _ #[_] _ [_] { tmps := #[f 0, f 1, f 2, f 3, f 4, f 5, f 6, f 7, f 8, f 9, f 10, f 11, f 12, f 13, f 14, f 15, f 16, f 17, f 18, f 19, f 20, f 21, f 22, f 23, f 24, f 25, f 26, f 27, f 28, f 29, f 30, f 31, f 32, f 33, f 34, f 35, f 36, f 37, f 38, f 39, f 40, f 41, f 42, f 43, f 44, f 45, f 46, f 47, f 48, f 49, f 50, f 51, f 52, f 53, f 54, f 55, f 56, f 57, f 58, f 59, f 60, f 61, f 62, f 63, f 64, f 65, f 66, f 67, f 68, f 69, f 70], defers := [] } W
              clear hK hd hold
              simp only [ze51] at HK ⊢
              clear ze51
              have HK := Aside.mk HK
              have q1 := HE.out.1; have q2 := HE.out.2.1; have q3 := HE.out.2.2.1; have q4 := HE.out.2.2.2.1; have q5 := HE.out.2.2.2.2
              go_wp2
              exact HK.out _ _ (Chg.refl _) rfl
            · -- 53 := move t9
              intro f W hW hold hd K hK
              refine .inl ⟨wanted_free rfl _, ?_⟩
              dsimp only [bare]
              have ze9 : f 9 = .int .i64 i := hold 9 rfl
              have HK : ∀ v W', Chg (· = kb) (fun W => BReady W kb t n g l q) W W' → chgV (· = kb) (fun W => BReady W kb t n g l q) _ 53 v W' → K { tmps := #[f 0, f 1, f 2, f 3, f 4, f 5, f 6, f 7, f 8, f 9, f 10, f 11, f 12, f 13, f 14, f 15, f 16, f 17, f 18, f 19, f 20, f 21, f 22, f 23, f 24, f 25, f 26, f 27, f 28, f 29, f 30, f 31, f 32, f 33, f 34, f 35, f 36, f 37, f 38, f 39, f 40, f 41, f 42, f 43, f 44, f 45, f 46, f 47, f 48, f 49, f 50, f 51, f 52, v, f 54, f 55, f 56, f 57, f 58, f 59, f 60, f 61, f 62, f 63, f 64, f 65, f 66, f 67, f 68, f 69, f 70], defers := [] } W' := hK
              change wpList _ #[_] _ [_] { tmps := #[f 0, f 1, f 2, f 3, f 4, f 5, f 6, f 7, f 8, f 9, f 10, f 11, f 12, f 13, f 14, f 15, f 16, f 17, f 18, f 19, f 20, f 21, f 22, f 23, f 24, f 25, f 26, f 27, f 28, f 29, f 30, f 31, f 32, f 33, f 34, f 35, f 36, f 37, f 38, f 39, f 40, f 41, f 42, f 43, f 44, f 45, f 46, f 47, f 48, f 49, f 50, f 51, f 52, f 53, f 54, f 55, f 56, f 57, f 58, f 59, f 60, f 61, f 62, f 63, f 64, f 65, f 66, f 67, f 68, f 69, f 70], defers := [] } W
              clear hK hd hold
              simp only [ze9] at HK ⊢
              clear ze9
              have HK := Aside.mk HK
              go_wp2
              exact HK.out _ _ (Chg.refl _) rfl
            · -- 54 := binOp sub 3 t52 t53 3
              intro f W hW hold hd K hK
              refine .inl ⟨wanted_free rfl _, ?_⟩
              dsimp only [bare]
              have ze52 : f 52 = .int .i64 d1 := hd 52 rfl rfl
              have ze53 : f 53 = .int .i64 i := hd 53 rfl rfl
              have HK : ∀ v W', Chg (· = kb) (fun W => BReady W kb t n g l q) W W' → chgV (· = kb) (fun W => BReady W kb t n g l q) _ 54 v W' → K { tmps := #[f 0, f 1, f 2, f 3, f 4, f 5, f 6, f 7, f 8, f 9, f 10, f 11, f 12, f 13, f 14, f 15, f 16, f 17, f 18, f 19, f 20, f 21, f 22, f 23, f 24, f 25, f 26, f 27, f 28, f 29, f 30, f 31, f 32, f 33, f 34, f 35, f 36, f 37, f 38, f 39, f 40, f 41, f 42, f 43, f 44, f 45, f 46, f 47, f 48, f 49, f 50, f 51, f 52, f 53, v, f 55, f 56, f 57, f 58, f 59, f 60, f 61, f 62, f 63, f 64, f 65, f 66, f 67, f 68, f 69, f 70], defers := [] } W' := hK
              change wpList _ #[_] _ [_] { tmps := #[f 0, f 1, f 2, f 3, f 4, f 5, f 6, f 7, f 8, f 9, f 10, f 11, f 12, f 13, f 14, f 15, f 16, f 17, f 18, f 19, f 20, f 21, f 22, f 23, f 24, f 25, f 26, f 27, f 28, f 29, f 30, f 31, f 32, f 33, f 34, f 35, f 36, f 37, f 38, f 39, f 40, f 41, f 42, f 43, f 44, f 45, f 46, f 47, f 48, f 49, f 50, f 51, f 52, f 53, f 54, f 55, f 56, f 57, f 58, f 59, f 60, f 61, f 62, f 63, f 64, f 65, f 66, f 67, f 68, f 69, f 70], defers := [] } W
              clear hK hd hold
              simp only [ze52, ze53] at HK ⊢
              clear ze52 ze53
              have HK := Aside.mk HK
              have q1 := HE.out.1; have q2 := HE.out.2.1; have q3 := HE.out.2.2.1; have q4 := HE.out.2.2.2.1; have q5 := HE.out.2.2.2.2
              go_wp2
              exact HK.out _ _ (Chg.refl _) rfl
            · -- 55 := binOp mul 3 t47 t54 3
              intro f W hW hold hd K hK
              refine .inl ⟨wanted_free rfl _, ?_⟩
              dsimp only [bare]
              have ze47 : f 47 = .int .i64 k1 := hd 47 rfl rfl
              have ze54 : f 54 = .int .i64 de := hd 54 rfl rfl
              have HK : ∀ v W', Chg (· = kb) (fun W => BReady W kb t n g l q) W W' → chgV (· = kb) (fun W => BReady W kb t n g l q) _ 55 v W' → K { tmps := #[f 0, f 1, f 2, f 3, f 4, f 5, f 6, f 7, f 8, f 9, f 10, f 11, f 12, f 13, f 14, f 15, f 16, f 17, f 18, f 19, f 20, f 21, f 22, f 23, f 24, f 25, f 26, f 27, f 28, f 29, f 30, f 31, f 32, f 33, f 34, f 35, f 36, f 37, f 38, f 39, f 40, f 41, f 42, f 43, f 44, f 45, f 46, f 47, f 48, f 49, f 50, f 51, f 52, f 53, f 54, v, f 56, f 57, f 58, f 59, f 60, f 61, f 62, f 63, f 64, f 65, f 66, f 67, f 68, f 69, f 70], defers := [] } W' := hK
              change wpList _ #[_] _ [_] { tmps := #[f 0, f 1, f 2, f 3, f 4, f 5, f 6, f 7, f 8, f 9, f 10, f 11, f 12, f 13, f 14, f 15, f 16, f 17, f 18, f 19, f 20, f 21, f 22, f 23, f 24, f 25, f 26, f 27, f 28, f 29, f 30, f 31, f 32, f 33, f 34, f 35, f 36, f 37, f 38, f 39, f 40, f 41, f 42, f 43, f 44, f 45, f 46, f 47, f 48, f 49, f 50, f 51, f 52, f 53, f 54, f 55, f 56, f 57, f 58, f 59, f 60, f 61, f 62, f 63, f 64, f 65, f 66, f 67, f 68, f 69, f 70], defers := [] } W
              clear hK hd hold
              simp only [ze47, ze54] at HK ⊢
              clear ze47 ze54
              have HK := Aside.mk HK
              have q1 := HE.out.1; have q2 := HE.out.2.1; have q3 := HE.out.2.2.1; have q4 := HE.out.2.2.2.1; have q5 := HE.out.2.2.2.2
              go_wp2
              exact HK.out _ _ (Chg.refl _) rfl
            · -- 56 := CALL f152 (*chert/gf.Field).Exp [t45, t55] : [229, 3]
              intro f W hW hold hd K hK
              refine .inl ⟨wanted_free rfl _, ?_⟩
              dsimp only [bare]
              have ze45 : f 45 = .pointer (some ⟨kb, 5, none⟩) := hd 45 rfl rfl
              have ze55 : f 55 = .int .i64 ex := hd 55 rfl rfl
              have HK : ∀ v W', Chg (· = kb) (fun W => BReady W kb t n g l q) W W' → chgV (· = kb) (fun W => BReady W kb t n g l q) _ 56 v W' → K { tmps := #[f 0, f 1, f 2, f 3, f 4, f 5, f 6, f 7, f 8, f 9, f 10, f 11, f 12, f 13, f 14, f 15, f 16, f 17, f 18, f 19, f 20, f 21, f 22, f 23, f 24, f 25, f 26, f 27, f 28, f 29, f 30, f 31, f 32, f 33, f 34, f 35, f 36, f 37, f 38, f 39, f 40, f 41, f 42, f 43, f 44, f 45, f 46, f 47, f 48, f 49, f 50, f 51, f 52, f 53, f 54, f 55, v, f 57, f 58, f 59, f 60, f 61, f 62, f 63, f 64, f 65, f 66, f 67, f 68, f 69, f 70], defers := [] } W' := hK
              change wpList _ #[_] _ [_] { tmps := #[f 0, f 1, f 2, f 3, f 4, f 5, f 6, f 7, f 8, f 9, f 10, f 11, f 12, f 13, f 14, f 15, f 16, f 17, f 18, f 19, f 20, f 21, f 22, f 23, f 24, f 25, f 26, f 27, f 28, f 29, f 30, f 31, f 32, f 33, f 34, f 35, f 36, f 37, f 38, f 39, f 40, f 41, f 42, f 43, f 44, f 45, f 46, f 47, f 48, f 49, f 50, f 51, f 52, f 53, f 54, f 55, f 56, f 57, f 58, f 59, f 60, f 61, f 62, f 63, f 64, f 65, f 66, f 67, f 68, f 69, f 70], defers := [] } W
              clear hK hd hold
              simp only [ze45, ze55] at HK ⊢
              clear ze45 ze55
              have HK := Aside.mk HK
              go_wp2_with (go_at_call 152; refine (HGE.out W (hW.inv HJ.out.rdy)).mono ?_; rintro e w5 ⟨rfl, hg5, hi5⟩)
              exact HK.out _ _ (Chg.of_grown hg5 rfl hi5) rfl
            · -- 57 := binOp xor 3 t42 t56 3
              intro f W hW hold hd K hK
              refine .inl ⟨wanted_free rfl _, ?_⟩
              dsimp only [bare]
              have ze42 : f 42 = .int .i64 v0 := hd 42 rfl rfl
              have ze56 : f 56 = .int .i64 pe := hd 56 rfl rfl
              have HK : ∀ v W', Chg (· = kb) (fun W => BReady W kb t n g l q) W W' → chgV (· = kb) (fun W => BReady W kb t n g l q) _ 57 v W' → K { tmps := #[f 0, f 1, f 2, f 3, f 4, f 5, f 6, f 7, f 8, f 9, f 10, f 11, f 12, f 13, f 14, f 15, f 16, f 17, f 18, f 19, f 20, f 21, f 22, f 23, f 24, f 25, f 26, f 27, f 28, f 29, f 30, f 31, f 32, f 33, f 34, f 35, f 36, f 37, f 38, f 39, f 40, f 41, f 42, f 43, f 44, f 45, f 46, f 47, f 48, f 49, f 50, f 51, f 52, f 53, f 54, f 55, f 56, v, f 58, f 59, f 60, f 61, f 62, f 63, f 64, f 65, f 66, f 67, f 68, f 69, f 70], defers := [] } W' := hK
              change wpList _ #[_] _ [_] { tmps := #[f 0, f 1, f 2, f 3, f 4, f 5, f 6, f 7, f 8, f 9, f 10, f 11, f 12, f 13, f 14, f 15, f 16, f 17, f 18, f 19, f 20, f 21, f 22, f 23, f 24, f 25, f 26, f 27, f 28, f 29, f 30, f 31, f 32, f 33, f 34, f 35, f 36, f 37, f 38, f 39, f 40, f 41, f 42, f 43, f 44, f 45, f 46, f 47, f 48, f 49, f 50, f 51, f 52, f 53, f 54, f 55, f 56, f 57, f 58, f 59, f 60, f 61, f 62, f 63, f 64, f 65, f 66, f 67, f 68, f 69, f 70], defers := [] } W
              clear hK hd hold
              simp only [ze42, ze56] at HK ⊢
              clear ze42 ze56
              have HK := Aside.mk HK
              have q1 := HE.out.1; have q2 := HE.out.2.1; have q3 := HE.out.2.2.1; have q4 := HE.out.2.2.2.1; have q5 := HE.out.2.2.2.2
              go_wp2
              exact HK.out _ _ (Chg.refl _) rfl
            · -- 58 := indexAddr 36 t39 t40
              intro f W hW hold hd K hK
              refine .inl ⟨wanted_free rfl _, ?_⟩
              dsimp only [bare]
              have ze39 : f 39 = .slice (some ⟨o, 0, none⟩) m m := hd 39 rfl rfl
              have ze40 : f 40 = .int .i64 k := hd 40 rfl rfl
              have HK : ∀ v W', Chg (· = kb) (fun W => BReady W kb t n g l q) W W' → chgV (· = kb) (fun W => BReady W kb t n g l q) _ 58 v W' → K { tmps := #[f 0, f 1, f 2, f 3, f 4, f 5, f 6, f 7, f 8, f 9, f 10, f 11, f 12, f 13, f 14, f 15, f 16, f 17, f 18, f 19, f 20, f 21, f 22, f 23, f 24, f 25, f 26, f 27, f 28, f 29, f 30, f 31, f 32, f 33, f 34, f 35, f 36, f 37, f 38, f 39, f 40, f 41, f 42, f 43, f 44, f 45, f 46, f 47, f 48, f 49, f 50, f 51, f 52, f 53, f 54, f 55, f 56, f 57, v, f 59, f 60, f 61, f 62, f 63, f 64, f 65, f 66, f 67, f 68, f 69, f 70], defers := [] } W' := hK
              change wpList _ #[_] _ [_] { tmps := #[f 0, f 1, f 2, f 3, f 4, f 5, f 6, f 7, f 8, f 9, f 10, f 11, f 12, f 13, f 14, f 15, f 16, f 17, f 18, f 19, f 20, f 21, f 22, f 23, f 24, f 25, f 26, f 27, f 28, f 29, f 30, f 31, f 32, f 33, f 34, f 35, f 36, f 37, f 38, f 39, f 40, f 41, f 42, f 43, f 44, f 45, f 46, f 47, f 48, f 49, f 50, f 51, f 52, f 53, f 54, f 55, f 56, f 57, f 58, f 59, f 60, f 61, f 62, f 63, f 64, f 65, f 66, f 67, f 68, f 69, f 70], defers := [] } W
              clear hK hd hold
              simp only [ze39, ze40] at HK ⊢
              clear ze39 ze40
              have HK := Aside.mk HK
              have p1 : (0 : Int) ≤ (k : Int) := (by omega); have p2 : (k : Int) < (m : Int) := i0
              go_wp2
              exact HK.out _ _ (Chg.refl _) rfl
            · intro f W hW hold hd aAct hAct
              replace hAct := hAct.trans (rel_puts hold)
              have ze39 : f 39 = .slice (some ⟨o, 0, none⟩) m m := hd 39 rfl
              have ze40 : f 40 = .int .i64 k := hd 40 rfl
              have ze41 : f 41 = .pointer (some ⟨o, k, none⟩) := hd 41 rfl
              have ze42 : f 42 = .int .i64 v0 := hd 42 rfl
              have ze43 : f 43 = .pointer (some ⟨kb, 0, none⟩) := hd 43 rfl
              have ze44 : f 44 = .pointer (some ⟨kb, 0, none⟩) := hd 44 rfl
              have ze45 : f 45 = .pointer (some ⟨kb, 5, none⟩) := hd 45 rfl
              have ze46 : f 46 = .int .i64 k := hd 46 rfl
              have ze47 : f 47 = .int .i64 k1 := hd 47 rfl
              have ze48 : f 48 = .pointer (some ⟨kb, 0, none⟩) := hd 48 rfl
              have ze49 : f 49 = .pointer (some ⟨kb, 0, none⟩) := hd 49 rfl
              have ze50 : f 50 = .pointer (some ⟨kb, 11, none⟩) := hd 50 rfl
              have ze51 : f 51 = .int .i64 d := hd 51 rfl
              have ze52 : f 52 = .int .i64 d1 := hd 52 rfl
              have ze53 : f 53 = .int .i64 i := hd 53 rfl
              have ze54 : f 54 = .int .i64 de := hd 54 rfl
              have ze55 : f 55 = .int .i64 ex := hd 55 rfl
              have ze56 : f 56 = .int .i64 pe := hd 56 rfl
              have ze57 : f 57 = .int .i64 v1 := hd 57 rfl
              have ze58 : f 58 = .pointer (some ⟨o, k, none⟩) := hd 58 rfl
              simp only [List.take_succ_cons, List.take_zero, putAll, List.foldl_cons, List.foldl_nil, Option.getD_some] at hAct
              simp only [ze39, ze40, ze41, ze42, ze43, ze44, ze45, ze46, ze47, ze48, ze49, ze50, ze51, ze52, ze53, ze54, ze55, ze56, ze57, ze58] at hAct
              subst hAct
              simp only [List.drop_succ_cons, List.drop_zero, Act.put, List.setIfInBounds_toArray, List.set_cons_zero, List.set_cons_succ]
              clear hold hd ze39 ze40 ze41 ze42 ze43 ze44 ze45 ze46 ze47 ze48 ze49 ze50 ze51 ze52 ze53 ze54 ze55 ze56 ze57 ze58
              have hput := HJ.out.put (by have := HT.out; omega) (by rw [HO.out]; exact Nat.le_refl _) hW k HKK.out.2.1 (v1 : Int)
              rw [synV_set HKK.out.2.1] at hput
              have yc := hput.1.trans HY.out.1
              have zc := hput.2.1
              have HF := Aside.mk hput.2.2
              clear hput hW
              go_wp2
              go_roundw
              case rel => exact ⟨i + 1, HX.out.1, rfl, by rw [HNX.out]; exact HF⟩
              case measure => have := HX.out.1; simp [intOf]; omega
        · have i3 : ¬ (i : Int) < (d : Int) := by omega
          obtain rfl : i = d := by omega
          rw [Nat.sub_self, show Gf.pow (Gf.pw (k + 1)) 0 = 1 from rfl, Gf.mul_one (vrow_lt r (Gf.pw_lt _) _), synV_next] at HJ
          have hsz := synZ_succ r i k
          obtain ⟨vk, hvk⟩ : ∃ vk, vk = vrow r (Gf.pw (k + 1)) i := ⟨_, rfl⟩
          have hz := HJ.out.out.at_ rfl k HKK.out.2.1
          rw [Nat.zero_add] at hz
          obtain ⟨y1, z1⟩ := hz
          replace y1 : wr.cell? ⟨o, k, none⟩ = some (.int .i64 (vk : Int)) := by
            rw [y1, ← synV_next, ← hvk]
            have hl := synV_len r i m k vk
            simp only [intsV, List.getD_eq_getElem?_getD, List.getElem?_map, List.getElem?_eq_getElem (show k < (synV r i m k vk).length by rw [hl]; exact HKK.out.2.1), Option.map_some, Option.getD_some]
            have := synV_at (r := r) (d := i) (v := vk) HKK.out.2.1
            rw [List.getD_eq_getElem?_getD, List.getElem?_eq_getElem (show k < (synV r i m k vk).length by rw [hl]; exact HKK.out.2.1)] at this
            simp at this
            rw [this]
          rw [← HKK.out.2.2, ← hvk] at hsz
          have HSZ := Aside.mk hsz
          have j1 : IntKind.i64.wrap ((k : Int) + 1) = ((k + 1 : Nat) : Int) := by have := HT.out; rw [IntKind.wrap_i64]; omega
          have j2 : (0 : Int) ≤ (k : Int) := by omega
          clear hsz hvk z1 hid
          cases z
          · go_wp2
            go_roundw
            case rel => exact ⟨k + 1, HKK.out.2.1, rfl, by rw [HSZ.out]; rfl, HJ⟩
            case measure => have := HKK.out.2.1; simp [intOf]; omega
          · go_wp2
            go_roundw
            case rel => exact ⟨k + 1, HKK.out.2.1, rfl, by rw [HSZ.out, Bool.true_and, beqInt], HJ⟩
            case measure => have := HKK.out.2.1; simp [intOf]; omega
    · have i0 : ¬ (k : Int) < (m : Int) := by omega
      obtain rfl : k = m := by omega
      go_wp2
      go_ret2
      have hJ := HI.out
      rw [synV_done] at hJ
      have h1 := HT.out.1
      have h2 := HT.out.2.1
      subst h1 h2
      exact ⟨o, rfl, by rw [HO.out]; exact Nat.le_refl _, hJ⟩
end Go.Proofs.YtkgacnenmflegaaGreatDoor
