/-
  The division walked.
-/
import Derived.Test.YtkdfbganhohbfaaDoorBchLaw
import Derived.Test.YtkdfbganhohbfaaDoorBchOnce
namespace Go.Proofs.YtkdfbganhohbfaaDoor
open Go.RowKit

/-- The remainder so far; what was there stays. -/
structure DivAt (w : World) (c t n g q : Nat) (l : List UInt8) (h : Nat) (r : List UInt8) (wr : World) : Prop where
  len : r.length = lowN8 t
  row : Row wr w.heap.size 5 1 (.slice (some ⟨h, 0, none⟩) (lowN8 t) (lowN8 t)) (lowN8 t) (bytesV r)
  new : w.heap.size ≤ h
  bel : Below w.heap.size w wr
theorem DivAt.code {w wr : World} {c t n g q h : Nat} {l r : List UInt8} (d : DivAt w c t n g q l h r wr) (hb : BReady w c t n g l q) : BReady wr c t n g l q := hb.below d.bel
theorem BReady.len {w : World} {c t n g q : Nat} {l : List UInt8} (h : BReady w c t n g l q) : l.length = lowN8 t := by
  have := h.low.1
  rw [bytesV_length] at this
  omega
theorem DivAt.start {w : World} {c t n g q : Nat} {l : List UInt8} (hL : lowN8 t ≤ 1000000) : DivAt w c t n g q l w.heap.size (List.replicate (lowN8 t) 0) (w.alloc (.cells (madeCells #[.int .u8 0] (lowN8 t)) 5)) := by
  refine ⟨by simp, ?_, Nat.le_refl _, (Below.refl _ _).alloc (Nat.le_refl _) _⟩
  have e2 : bytesV (List.replicate (lowN8 t) 0) = List.replicate (lowN8 t) (.int .u8 0) := by simp [bytesV]
  rw [e2]
  exact Row.zeros w w.heap.size 5 (.int .u8 0) (lowN8 t) (Nat.le_refl _) (by simp only [maxLen]; omega)
theorem DivAt.set {w wr : World} {c t n g q h : Nat} {l r : List UInt8} (d : DivAt w c t n g q l h r wr) (k : Nat) (hk : k < lowN8 t) (b : UInt8) :
    DivAt w c t n g q l h (r.set k b) (wr.setCell ⟨h, k, none⟩ (.int .u8 (b.toNat : Int))).drew := by
  have hs := d.row.store rfl k (by omega) (.int .u8 (b.toNat : Int))
  rw [Nat.zero_add] at hs
  refine ⟨by rw [List.length_set]; exact d.len, ?_, d.new, (d.bel.setCell d.new _).drew⟩
  have e : bytesV (r.set k b) = (bytesV r).set k (.int .u8 (b.toNat : Int)) := by simp only [bytesV, List.map_set]
  rw [e]
  exact hs.1.drew
theorem DivAt.left {w wr w' : World} {c t n g q h : Nat} {l r : List UInt8} {e : Ending} (d : DivAt w c t n g q l h r wr) (hp : LeftPost wr.drew w.heap.size h (lowN8 t) (lowN8 t) r e w') :
    e = .returned (.int .u8 ((leftL r).2.toNat : Int)) ∧ DivAt w c t n g q l h (leftL r).1 w' := by
  obtain ⟨he, hr, hg⟩ := hp
  exact ⟨he, ⟨by rw [leftL_len, d.len], hr, d.new, d.bel.drew.trans ((Below.refl w.heap.size wr.drew).grown hg d.bel.size (fun r hr => by injection hr with hr; have := d.new; omega))⟩⟩
def DivPost (w : World) (t : Nat) (l : List UInt8) (s : ByteArray) (e : Ending) (w' : World) : Prop :=
  ∃ h, e = .returned (.slice (some ⟨h, 0, none⟩) (lowN8 t) (lowN8 t)) ∧ Row w' w.heap.size 5 1 (.slice (some ⟨h, 0, none⟩) (lowN8 t) (lowN8 t)) (lowN8 t) (bytesV (divD l (List.replicate (lowN8 t) 0) s.data.toList)) ∧ Below w.heap.size w w'
theorem and_bit_all : ∀ n : Nat, n < 256 → ∀ j : Nat, j < 8 → bits .and .u8 ((n : Int) / 2 ^ j) 1 = ((bitAt (UInt8.ofNat n) j).toNat : Int) := by decide +kernel
theorem and_bit (x : UInt8) {j : Nat} (hj : j < 8) : bits .and .u8 ((x.toNat : Int) / 2 ^ j) 1 = ((bitAt x j).toNat : Int) := by
  have := and_bit_all x.toNat x.toNat_lt j hj
  rwa [UInt8.ofNat_toNat] at this
/-- The first k places changed. -/
def xorTo (r l : List UInt8) (k : Nat) : List UInt8 := xorL (r.take k) (l.take k) ++ r.drop k
theorem xorTo_all {r l : List UInt8} (h : r.length = l.length) : xorTo r l r.length = xorL r l := by
  unfold xorTo
  rw [List.take_length, h, List.take_length, ← h, List.drop_length, List.append_nil]
theorem xorTo_len {r l : List UInt8} (h : r.length = l.length) {k : Nat} (hk : k ≤ r.length) : (xorTo r l k).length = r.length := by
  unfold xorTo
  rw [List.length_append, xorL_len (by rw [List.length_take, List.length_take, h]), List.length_take, List.length_drop]
  omega
theorem xorTo_at {r l : List UInt8} (h : r.length = l.length) {k : Nat} (hk : k < r.length) : (xorTo r l k).getD k 0 = r.getD k 0 := by
  have h1 : (xorL (r.take k) (l.take k)).length = k := by rw [xorL_len (by rw [List.length_take, List.length_take, h]), List.length_take]; omega
  unfold xorTo
  rw [List.getD_eq_getElem?_getD, List.getElem?_append_right (by omega), h1, Nat.sub_self, List.getElem?_drop, Nat.add_zero, List.getD_eq_getElem?_getD]
theorem xorTo_set {r l : List UInt8} (h : r.length = l.length) {k : Nat} (hk : k < r.length) : (xorTo r l k).set k (r.getD k 0 ^^^ l.getD k 0) = xorTo r l (k + 1) := by
  have hl : k < l.length := by omega
  have h1 : (xorL (r.take k) (l.take k)).length = k := by rw [xorL_len (by rw [List.length_take, List.length_take, h]), List.length_take]; omega
  have e1 : r.take (k + 1) = r.take k ++ [r.getD k 0] := by rw [List.take_add_one, List.getElem?_eq_getElem hk, List.getD_eq_getElem?_getD, List.getElem?_eq_getElem hk]; rfl
  have e2 : l.take (k + 1) = l.take k ++ [l.getD k 0] := by rw [List.take_add_one, List.getElem?_eq_getElem hl, List.getD_eq_getElem?_getD, List.getElem?_eq_getElem hl]; rfl
  unfold xorTo
  rw [List.set_append_right _ _ (by omega), h1, Nat.sub_self, List.drop_eq_getElem_cons hk, e1, e2]
  have e3 : xorL (r.take k ++ [r.getD k 0]) (l.take k ++ [l.getD k 0]) = xorL (r.take k) (l.take k) ++ [r.getD k 0 ^^^ l.getD k 0] := by
    unfold xorL
    rw [List.zipWith_append (by rw [List.length_take, List.length_take, h])]
    rfl
  rw [e3, List.append_assoc]
  rfl
theorem u8_xorN {a b : Nat} (ha : a < 256) (hb : b < 256) : bits .xor .u8 (a : Int) (b : Int) = ((a ^^^ b : Nat) : Int) := by
  have hx : a ^^^ b < 2 ^ 8 := Nat.xor_lt_two_pow (by omega) (by omega)
  show IntKind.u8.wrap ((BitVec.ofInt 8 (a : Int) ^^^ BitVec.ofInt 8 (b : Int)).toNat : Int) = _
  rw [BitVec.toNat_xor, BitVec.toNat_ofInt, BitVec.toNat_ofInt]
  have e1 : ((a : Int) % ((2 ^ 8 : Nat) : Int)).toNat = a := by omega
  have e2 : ((b : Int) % ((2 ^ 8 : Nat) : Int)).toNat = b := by omega
  rw [e1, e2, IntKind.wrap_u8]
  omega
theorem divD_snoc (low : List UInt8) (t : List UInt8) (x : UInt8) : ∀ r, divD low r (t ++ [x]) = byteD low x (divD low r t) := by
  induction t with
  | nil => intro r; rfl
  | cons y t ih => intro r; exact ih _
theorem take_snoc_byte (s : ByteArray) {k : Nat} (h : k < s.size) : s.data.toList.take (k + 1) = s.data.toList.take k ++ [s[k]] := by
  rw [List.take_add_one, List.getElem?_eq_getElem (by rw [data_len]; exact h)]
  rfl
set_option maxRecDepth 100000 in
set_option maxHeartbeats 2000000 in
theorem bch_divide (c t n g q : Nat) (l : List UInt8) (s : ByteArray) (w : World) (ht8 : t ≤ 8) (ht1 : 1 ≤ t) (hR : BReady w c t n g l q) (hs : s.size ≤ 1000000) :
    Calls Tryd.prog 10 #[.pointer (some ⟨c, 0, none⟩), .string s] w (DivPost w t l s) := by
  have hd2 := degN_le t (by omega) ht1
  obtain ⟨L, hL⟩ : ∃ L, L = lowN8 t := ⟨_, rfl⟩
  have hL1 : L ≤ 1000 := by rw [hL]; unfold lowN8; omega
  have c12 := hR.code.c12
  rw [← hL] at c12
  have hmk := make_bytes L (by omega)
  have hcl := hR.code.lt
  have H0 := Aside.mk (DivAt.start (w := w) (c := c) (t := t) (n := n) (g := g) (q := q) (l := l) (by omega))
  rw [← hL] at H0
  have HR := Aside.mk (And.intro hR (And.intro hL (And.intro hL1 hs)))
  have HP : Aside (∀ e w', (∃ h, e = .returned (.slice (some ⟨h, 0, none⟩) L L) ∧ DivAt w c t n g q l h (divD l (List.replicate L 0) s.data.toList) w') → DivPost w t l s e w') := ⟨by
    rintro e w' ⟨h, rfl, hd⟩
    rw [hL] at hd ⊢
    exact ⟨h, rfl, hd.row, hd.bel⟩⟩
  clear hR hL hL1 hs hd2 ht8 ht1
  go_enter Tryd.func10, Tryd.ntmps10
  go_upto_region 3 with fail
  obtain ⟨h, hh⟩ : ∃ h, h = w.heap.size := ⟨_, rfl⟩
  rw [← hh] at H0 ⊢
  generalize w.alloc (.cells (madeCells #[.int .u8 0] L) 5) = w1 at *
  clear hh hmk c12 hcl
  go_loopw [17] (fun s17 wr => ∃ i : Nat, s17 = .int .i64 (i : Int) ∧ i ≤ s.size ∧ Aside (DivAt w c t n g q l h (divD l (List.replicate L 0) (s.data.toList.take i)) wr)) (fun s17 _ => s.size - (intOf s17).toNat)
  case atStart => exact ⟨0, rfl, Nat.zero_le _, H0⟩
  case round =>
    obtain ⟨i, rfl, hi, HI⟩ := hrel
    have hi1 : IntKind.i64.wrap ((i : Int) + 1) = ((i + 1 : Nat) : Int) := by have := HR.out; rw [IntKind.wrap_i64]; omega
    by_cases hlt : i < s.size
    · obtain ⟨r0, hr0⟩ : ∃ r0, r0 = divD l (List.replicate L 0) (s.data.toList.take i) := ⟨_, rfl⟩
      rw [← hr0] at HI
      have h2 : (i : Int) < (s.size : Int) := by omega
      have hi0 : (0 : Int) ≤ (i : Int) := by omega
      obtain ⟨x, hx⟩ : ∃ x, x = s[i] := ⟨_, rfl⟩
      have HX := Aside.mk (And.intro hr0 (And.intro hlt hx))
      clear hr0 hx
      go_wp2
      go_loopw [7] (fun s7 w5 => ∃ k : Nat, s7 = .int .i64 ((k : Int) - 1) ∧ k ≤ 8 ∧ ∃ r, Aside (DivAt w c t n g q l h r w5 ∧ bitsD l x r k = byteD l x r0)) (fun s7 _ => (intOf s7 + 1).toNat)
      case atStart => exact ⟨8, rfl, by omega, r0, ⟨HI.out, by unfold byteD; rfl⟩⟩
      case round =>
        obtain ⟨k, rfl, hk, r, HK⟩ := hrel
        by_cases h0 : k = 0
        · subst h0
          have h3 : ¬ (0 : Int) ≤ ((0 : Nat) : Int) - 1 := by omega
          go_wp2
          go_roundw
          case rel =>
            obtain ⟨hr0, hlt, hx⟩ := HX.out
            refine ⟨i + 1, rfl, hlt, ⟨?_⟩⟩
            have e2 : divD l (List.replicate L 0) (s.data.toList.take (i + 1)) = r := by
              rw [take_snoc_byte s hlt, divD_snoc, ← hr0, ← hx, ← HK.out.2]
              rfl
            rw [e2]
            exact HK.out.1
          case measure => have := HX.out; simp [intOf]; omega
        · obtain ⟨j, rfl⟩ : ∃ j, k = j + 1 := ⟨k - 1, by omega⟩
          have e1 : (((j + 1 : Nat) : Int) - 1) = (j : Int) := by omega
          rw [e1]
          have h3 : (0 : Int) ≤ (j : Int) := by omega
          obtain ⟨on, hon⟩ : ∃ z, z = (leftL r).2.toNat := ⟨_, rfl⟩
          obtain ⟨bn, hbn⟩ : ∃ z, z = (bitAt x j).toNat := ⟨_, rfl⟩
          obtain ⟨xn, hxn⟩ : ∃ z, z = x.toNat := ⟨_, rfl⟩
          have hxi : (s[i].toNat : Int) = (xn : Int) := by rw [hxn, HX.out.2.2]
          have hj8 : j < 8 := by omega
          have hsh : bits .and .u8 ((xn : Int) / 2 ^ j) 1 = (bn : Int) := by rw [hxn, hbn]; exact and_bit x hj8
          have HLF : Aside (Calls Tryd.prog 14 #[.slice (some ⟨h, 0, none⟩) L L] wr.drew fun e w' => e = .returned (.int .u8 (on : Int)) ∧ Aside (DivAt w c t n g q l h (leftL r).1 w')) := ⟨by
            obtain ⟨_, hL, hL1, _⟩ := HR.out
            subst hL
            refine (bch_left w.heap.size h (lowN8 t) (lowN8 t) r wr.drew (by omega) HK.out.1.len HK.out.1.row.drew).mono ?_
            intro e w' hp
            obtain ⟨he, hd⟩ := HK.out.1.left hp
            exact ⟨by rw [hon]; exact he, ⟨hd⟩⟩⟩
          have HS := Aside.mk (And.intro hon (And.intro hbn hj8))
          clear e1 h0 hon hbn hxn
          go_upto_region 8 with fail
          go_cut [32] (fun s32 wx => s32 = .bool (!((on : Int) == (bn : Int))) ∧ Aside (DivAt w c t n g q l h (leftL r).1 wx))
          case first =>
            go_region_with ((go_at_call 14; refine HLF.out.mono ?_; rintro e w2 ⟨rfl, H2⟩))
            all_goals
              go_wp2
              go_meet
              exact ⟨rfl, H2⟩
          case rest =>
          obtain ⟨rfl, H2⟩ := hcut
          by_cases hob : on = bn
          · have hq : ((on : Int) == (bn : Int)) = true := by simp [hob]
            rw [hq]
            have HOB := Aside.mk hob
            clear hob hq hsh hxi
            apply_assumption
            go_wp2
            go_roundw
            case rel =>
              refine ⟨j, rfl, by omega, (leftL r).1, ⟨H2.out, ?_⟩⟩
              have e5 : (leftL r).2 = bitAt x j := UInt8.toNat_inj.1 (by rw [← HS.out.1, ← HS.out.2.1]; exact HOB.out)
              rw [← HK.out.2, bitsD]
              unfold stepB
              rw [if_pos e5]
            case measure => simp [intOf]
          · have hq : ((on : Int) == (bn : Int)) = false := by simp; omega
            rw [hq]
            have HOB := Aside.mk hob
            clear hob hq hsh hxi
            apply_assumption
            go_wp2
            obtain ⟨r1, hr1⟩ : ∃ r1, r1 = (leftL r).1 := ⟨_, rfl⟩
            rw [← hr1] at H2
            have HR1 := Aside.mk hr1
            clear hr1
            go_loopw [35] (fun s35 w6 => ∃ k : Nat, s35 = .int .i64 (k : Int) ∧ k ≤ L ∧ Aside (DivAt w c t n g q l h (xorTo r1 l k) w6)) (fun s35 _ => L - (intOf s35).toNat)
            case atStart => exact ⟨0, rfl, Nat.zero_le _, ⟨by unfold xorTo; simpa [xorL] using H2.out⟩⟩
            case round =>
              obtain ⟨k, rfl, hkL, HM⟩ := hrel
              have hk1 : IntKind.i64.wrap ((k : Int) + 1) = ((k + 1 : Nat) : Int) := by have := HR.out; rw [IntKind.wrap_i64]; omega
              have hll : r1.length = L ∧ l.length = L := by rw [HR.out.2.1]; exact ⟨H2.out.len, HR.out.1.len⟩
              have HLL := Aside.mk hll
              clear hll
              by_cases hkl : k < L
              · have h6 : (k : Int) < (L : Int) := by omega
                have h7 : (0 : Int) ≤ (k : Int) := by omega
                have hcode := HM.out.code HR.out.1
                have c12 := hcode.code.c12
                rw [← HR.out.2.1] at c12
                obtain ⟨y0, z0⟩ := HM.out.row.at_ rfl k (by rw [← HR.out.2.1]; exact hkl)
                obtain ⟨y1, _⟩ := hcode.low.at_ rfl k (by rw [← HR.out.2.1]; exact hkl)
                obtain ⟨an, han⟩ : ∃ z, z = (r1.getD k 0).toNat := ⟨_, rfl⟩
                obtain ⟨ln, hln⟩ : ∃ z, z = (l.getD k 0).toNat := ⟨_, rfl⟩
                rw [Nat.zero_add] at y0 z0 y1
                replace y0 : wr.cell? ⟨h, k, none⟩ = some (.int .u8 (an : Int)) := by
                  rw [y0, bytesV_at (by rw [xorTo_len (by rw [HLL.out.1, HLL.out.2]) (by rw [HLL.out.1]; omega), HLL.out.1]; exact hkl), xorTo_at (by rw [HLL.out.1, HLL.out.2]) (by rw [HLL.out.1]; exact hkl), han]
                replace y1 : wr.cell? ⟨g, k, none⟩ = some (.int .u8 (ln : Int)) := by
                  rw [y1, bytesV_at (by rw [HLL.out.2]; exact hkl), hln]
                obtain ⟨zn, hzn⟩ : ∃ z, z = (r1.getD k 0 ^^^ l.getD k 0).toNat := ⟨_, rfl⟩
                have hx8 : bits .xor .u8 (an : Int) (ln : Int) = (zn : Int) := by rw [han, hln, u8_xorN (UInt8.toNat_lt _) (UInt8.toNat_lt _), hzn, UInt8.toNat_xor]
                have HZ := Aside.mk (And.intro hzn hkl)
                clear hcode han hln hzn hkl
                go_upto_region 12 with fail
                go_region
                all_goals
                  go_wp2
                  go_roundw
                  case rel =>
                    have h8 := HM.out.set k (by rw [← HR.out.2.1]; exact HZ.out.2) (r1.getD k 0 ^^^ l.getD k 0)
                    rw [xorTo_set (by rw [HLL.out.1, HLL.out.2]) (by rw [HLL.out.1]; exact HZ.out.2), ← HZ.out.1] at h8
                    exact ⟨k + 1, rfl, HZ.out.2, ⟨h8⟩⟩
                  case measure => have := HZ.out; simp [intOf]; omega
              · have h6 : ¬ (k : Int) < (L : Int) := by omega
                obtain rfl : k = L := by omega
                clear hkl hk1
                go_wp2
                go_roundw
                case rel =>
                  refine ⟨j, rfl, by omega, xorL r1 l, ⟨?_, ?_⟩⟩
                  · have := HM.out
                    rw [← HLL.out.1, xorTo_all (by rw [HLL.out.1, HLL.out.2])] at this
                    exact this
                  · have e5 : ¬ (leftL r).2 = bitAt x j := fun e => HOB.out (by rw [HS.out.1, HS.out.2.1, e])
                    rw [← HK.out.2, bitsD, HR1.out]
                    unfold stepB
                    rw [if_neg e5]
                case measure => simp [intOf]
    · have h2 : ¬ (i : Int) < (s.size : Int) := by omega
      clear hlt
      go_wp2
      go_ret
      refine HP.out _ _ ⟨h, rfl, ?_⟩
      have hI := HI.out
      rw [List.take_of_length_le (by rw [data_len]; omega)] at hI
      exact hI
end Go.Proofs.YtkdfbganhohbfaaDoor
