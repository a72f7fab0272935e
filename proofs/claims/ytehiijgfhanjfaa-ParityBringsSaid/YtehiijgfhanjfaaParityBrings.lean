/-
  A lost payload is the parity of the others and of the parity.
-/
import Derived.Test.YtehiijgfhanjfaaParMem
import Derived.Test.YtehiijgfhanjfaaParXor
import Derived.Test.YtehiijgfhanjfaaArgs
namespace Go.Proofs.Ytehiijgfhanjfaa
open Go.RowKit

theorem xb_congr {f g : Nat → ByteArray} {i : Nat} : ∀ {n : Nat}, (∀ k, k < n → f k = g k) → xb f i n = xb g i n
  | 0, _ => rfl
  | n + 1, h => by
    have ih := xb_congr (i := i) (n := n) (fun k hk => h k (by omega))
    simp only [xb]
    rw [ih, h n (by omega)]
theorem xb_add (f : Nat → ByteArray) (i a : Nat) : ∀ b, xb f i (a + b) = xb f i a ^^^ xb (fun k => f (a + k)) i b
  | 0 => by simp [xb]
  | b + 1 => by
    have ih := xb_add f i a b
    show xb f i (a + b + 1) = _
    simp only [xb]
    rw [ih]
    split
    · rw [UInt8.xor_assoc]
    · rfl
theorem xorT_get {m : Nat} {f : Nat → ByteArray} {l i : Nat} (h : i < (xorT m f l).size) : (xorT m f l)[i] = xb f i l := by
  show (xbs m f l).toArray[i]'(by simpa [xorT_size, xbs_length] using h) = _
  simp [xbs]
theorem xb_last {f : Nat → ByteArray} {m i n : Nat} {g : Nat → ByteArray} {l : Nat} (h : f n = xorT m g l) (hi : i < m) : xb f i (n + 1) = xb f i n ^^^ xb g i l := by
  have hs : i < (f n).size := by rw [h, xorT_size]; exact hi
  rw [xb_more hs]
  congr 1
  have : (f n)[i] = (xorT m g l)[i]'(by rw [xorT_size]; exact hi) := by
    congr 1
  rw [this, xorT_get]
/-- The others and the parity of all bring back the lost one. -/
theorem brings {m len j : Nat} {T g F : Nat → ByteArray} {c : Nat} (hj : j < len) (hT : T j = xorT m g c)
    (h1 : ∀ k, k < j → F k = T k) (h2 : ∀ k, k < len - 1 - j → F (j + k) = T (j + 1 + k)) (h3 : F (len - 1) = xorT m T len) : xorT m F len = T j := by
  rw [hT]
  show (⟨(xbs m F len).toArray⟩ : ByteArray) = ⟨(xbs m g c).toArray⟩
  congr 2
  apply List.map_congr_left
  intro i hi
  rw [List.mem_range] at hi
  obtain ⟨r, rfl⟩ : ∃ r, len = j + 1 + r := ⟨len - j - 1, by omega⟩
  have e0 : j + 1 + r = j + r + 1 := by omega
  have e1 : xb F i (j + 1 + r) = xb F i (j + r) ^^^ xb T i (j + 1 + r) := by
    have := xb_last (f := F) (m := m) (i := i) (n := j + r) (g := T) (l := j + 1 + r) (by rw [← h3]; congr 1; omega) hi
    rw [← this, e0]
  have e2 : xb F i (j + r) = xb T i j ^^^ xb (fun k => T (j + 1 + k)) i r := by
    rw [xb_add, xb_congr h1]
    congr 1
    apply xb_congr
    intro k hk
    exact h2 k (by omega)
  have e3 : xb T i (j + 1 + r) = xb T i j ^^^ xb g i c ^^^ xb (fun k => T (j + 1 + k)) i r := by
    rw [xb_add, xb_last hT hi]
  rw [e1, e2, e3]
  generalize xb T i j = a
  generalize xb (fun k => T (j + 1 + k)) i r = b
  generalize xb g i c = d
  have hb : ∀ y : UInt8, y ^^^ y = 0 := fun y => by simp
  calc a ^^^ b ^^^ (a ^^^ d ^^^ b) = (a ^^^ a) ^^^ (b ^^^ b) ^^^ d := by ac_rfl
    _ = d := by simp
theorem Rd.litStrs (W : World) (s : ByteArray) : Rd (W.alloc (.cells #[.string s] 9)) (some ⟨W.heap.size, 0, none⟩) 1 (fun _ => .string s) := by
  intro k hk
  refine ⟨W.heap.size, 0, rfl, by simp, ?_⟩
  rw [cell_of_row _ W.heap.size (0 + k) _ 9 (0, 0) (heap_alloc_new W _)]
  obtain rfl : k = 0 := by omega
  rfl

theorem parity_xor_nat (m : Nat) (A : Option Addr) (len cap : Nat) (f : Nat → ByteArray) (w : World) (hm : m ≤ 2048) (hlen : len ≤ 17592186043904) (hc : len ≤ cap) (hcm : cap ≤ 9223372036854775807) (hR : Rd w A len (fun i => .string (f i))) :
    Calls Try.prog 8 #[.int .i64 m, .slice A len cap] w fun e w' => e = .returned (.string (xorT m f len)) ∧ Below w.heap.size w w' :=
  (parity_xor m A len cap f w hlen hc hcm hR).mono fun e w' ⟨he, hb⟩ => ⟨by rw [he]; congr 3; omega, hb⟩
/-- The others, and the parity of all behind them. -/
def othersL (T : Nat → ByteArray) (len j m : Nat) : List ByteArray := (List.range j).map T ++ (List.range (len - (j + 1))).map (fun k => T (j + 1 + k)) ++ [xorT m T len]
theorem others_len {T : Nat → ByteArray} {len j m : Nat} (hj : j < len) : (othersL T len j m).length = len := by simp [othersL]; omega
theorem others_brings {T g : Nat → ByteArray} {len j m c : Nat} (hj : j < len) (hT : T j = xorT m g c) : xorT m (fun k => (othersL T len j m).getD k ByteArray.empty) len = T j := by
  refine brings hj hT (fun k hk => ?_) (fun k hk => ?_) ?_
  · simp only [othersL, List.getD_eq_getElem?_getD]
    rw [List.getElem?_append_left (by simp; omega), List.getElem?_append_left (by simp; omega)]
    simp [hk]
  · simp only [othersL, List.getD_eq_getElem?_getD]
    rw [List.getElem?_append_left (by simp; omega), List.getElem?_append_right (by simp)]
    simp [show k < len - (j + 1) by omega]
  · simp only [othersL, List.getD_eq_getElem?_getD]
    rw [List.getElem?_append_right (by simp; omega)]
    simp [show len - 1 - (j + (len - (j + 1))) = 0 by omega]
theorem others_cells (T : Nat → ByteArray) (len j m : Nat) : ([] ++ List.map (fun k => Value.string (T k)) (List.range j) ++ List.map (fun k => Value.string (T (j + 1 + k))) (List.range (len - (j + 1)))) ++ (List.range 1).map (fun _ => Value.string (xorT m T len)) = strsV (othersL T len j m) := by
  simp [othersL, strsV, Function.comp_def]

set_option maxHeartbeats 4000000 in
theorem parityBrings_walk (n : Int) (A : Option Addr) (len cap : Nat) (x : List ByteArray) (q : Int) (w : World) (_hn : (Lit.int .i64 n).wf = true)
    (hx : x.length = len ∧ len ≤ cap ∧ cap ≤ maxLen ∧ len * 16 ≤ 140737488351232 ∧ (∀ s ∈ x, s.size ≤ 140737488351232) ∧ Rd w A len (fun i => .string (x.getD i ByteArray.empty))) (_hq : (Lit.int .i64 q).wf = true) :
    Calls Try.prog 4 #[.int .i64 n, .slice A len cap, .int .i64 q] w fun e w' => e = .returned (.bool true) ∧ Below w.heap.size w w' := by
  obtain ⟨hl, hlc, hcm, hlb, hsz, hR⟩ := hx
  generalize hf : (fun i => x.getD i ByteArray.empty) = f at *
  have hR : Rd w A len (fun i => .string (f i)) := by subst hf; exact hR
  have HR := Aside.mk hR
  have hlen : len ≤ 8796093021952 := by omega
  clear hR hsz hlb hl hf
  have hcm : cap ≤ 9223372036854775807 := hcm
  go_enter Try.func4, Try.ntmps4
  go_upto_region 3 with (go_at_call 7; refine (parity_speaks _).mono ?_; rintro e w1 ⟨rfl, hb1⟩)
  by_cases h2048 : 2048 < n
  · have h0 : ¬ n < 0 := by omega
    go_wp2
    go_ret
    exact ⟨rfl, hb1⟩
  · by_cases hbad : n < 0 ∨ len = 0
    · have hnil : Rd w1 none 0 (fun i => .string (f i)) := fun k hk => by omega
      by_cases h : n < 0
      · go_wp2_with (go_at_call 8; refine (parity_xor n none 0 0 f _ (by omega) (by omega) (by omega) hnil).mono ?_; rintro e w3 ⟨rfl, hb3⟩; have hb4 := hb1.trans (hb3.mono hb1.size); have hz : ((xorT (min (max n 0) 2048).toNat f 0).size : Int) = 0 := (by rw [xorT_size]; omega); generalize xorT (min (max n 0) 2048).toNat f 0 = t at *; clear hb1 hb3)
        go_ret
        exact ⟨rfl, hb4⟩
      · have hl0 : len = 0 := by omega
        go_wp2_with (go_at_call 8; refine (parity_xor n none 0 0 f _ (by omega) (by omega) (by omega) hnil).mono ?_; rintro e w3 ⟨rfl, hb3⟩; have hb4 := hb1.trans (hb3.mono hb1.size); have hz : ((xorT (min (max n 0) 2048).toNat f 0).size : Int) = n := (by rw [xorT_size]; omega); generalize xorT (min (max n 0) 2048).toNat f 0 = t at *; clear hb1 hb3)
        go_ret
        exact ⟨rfl, hb4⟩
    · obtain ⟨m, rfl⟩ := Int.eq_ofNat_of_zero_le (show 0 ≤ n by omega)
      have hl0 : 0 < len := by omega
      have hm2 : (m : Int) ≤ 2048 := by omega
      have hne : ¬ (len : Int) = 0 := by omega
      have hn0 : ¬ (m : Int) < 0 := by omega
      obtain ⟨T, hT⟩ : ∃ T : Nat → ByteArray, ∀ k, T k = xorT m (fun _ => f k) 1 := ⟨_, fun _ => rfl⟩
      have HT := Aside.mk hT
      clear hT hbad
      go_wp2
      go_loopw [7, 8] (fun s7 s8 wr => ∃ k : Nat, k ≤ len ∧ s8 = .int .i64 k ∧ Row wr w.heap.size 9 1 s7 k (strsV ((List.range k).map T)) ∧ Below w.heap.size w wr) (fun _ s8 _ => len - (intOf s8).toNat)
      case atStart => exact ⟨0, by omega, rfl, Row.nil _ _ _ _, hb1⟩
      case round =>
        obtain ⟨k, hk, rfl, hr, hb⟩ := hrel
        clear hb1
        by_cases hlt : k < len
        · obtain ⟨b, off, rfl, hc⟩ := HR.out.cells hlt
          have e1 := hc _ _ (Nat.le_refl _) hb
          have hk1 : IntKind.i64.wrap ((k : Int) + 1) = (k : Int) + 1 := by rw [IntKind.wrap_i64]; omega
          have hTk : T k = xorT (min (max (m : Int) 0) 2048).toNat (fun _ => f k) 1 := by rw [HT.out]; congr 1; omega
          have HTk := Aside.mk hTk
          clear hc hTk
          have HS := Aside.mk (show strsV ((List.range (k + 1)).map T) = strsV ((List.range k).map T) ++ (#[.string (T k)] : Array Value).toList by simp [List.range_succ, strsV])
          generalize f k = s at *
          generalize T k = t at *
          have hbase := hb.size
          have HA := Aside.mk (And.intro (Rd.litStrs wr s) (And.intro (hb.alloc hbase (.cells #[.string s] 9)) (hr.alloc (.cells #[.string s] 9))))
          clear hr hb hbase
          go_wp2_with (first | (go_at_call 8; refine (parity_xor m (some ⟨wr.heap.size, 0, none⟩) 1 1 (fun _ => s) _ (by omega) (by omega) (by omega) HA.out.1).mono ?_; rw [← HTk.out]; rintro e w3 ⟨rfl, hb3⟩; have hb4 := HA.out.2.1.trans (hb3.mono HA.out.2.1.size); have hr4 := HA.out.2.2.below hb3; have hs4 := hb4.size; clear hb3) | (at_builtin; refine wpList_append_one (w0 := w) w.heap.size rfl _ _ 22 9 1 16 (.string ByteArray.empty) rfl Try.underlying22 infoStr rfl (by decide) u7 k _ #[.string t] rfl rfl rfl hr4 (by simp [Value.oneCell']) hb4 hs4 (by omega) (by simp only [maxLen]; omega) ?_; intro v1 w4 hr5 hb5 hg1 hat1))
          go_roundw
          case rel => exact ⟨k + 1, by omega, by go_num, by rw [HS.out]; exact hr5, hb5⟩
          case measure => simp [intOf]; omega
        · obtain rfl : len = k := by omega
          obtain ⟨A1, c1, rfl, hc1, hcm1, hR1⟩ := hr.read
          have hR2 : Rd wr A1 len (fun i => .string (T i)) := hR1.congr (fun i hi => by simp [strsV, List.getD_eq_getElem?_getD, hi])
          obtain ⟨g1, o1, rfl, hg1⟩ := hR2.cells hl0
          have hcm2 : c1 ≤ 9223372036854775807 := hcm1
          have HR2 := Aside.mk hR2
          have HR3 := Aside.mk hr
          clear hR1 hR2 hcm1 hg1 hr
          go_upto_if 50 with fail
          go_cut [2] (fun s2 wx => ∃ p : Int, s2 = .int .i64 p ∧ 0 ≤ p ∧ wr = wx)
          case first =>
            by_cases hq : q < 0
            · go_wp2
              go_meet
              exact ⟨0, rfl, by omega, rfl⟩
            · go_wp2
              go_meet
              exact ⟨q, rfl, by omega, rfl⟩
          case rest =>
            obtain ⟨p, rfl, hp0, rfl⟩ := hcut
            obtain ⟨j, hj⟩ : ∃ j : Nat, (j : Int) = p % len := ⟨(p % len).toNat, by have := Int.emod_nonneg p (show (len : Int) ≠ 0 by omega); omega⟩
            have hjl : j < len := by have := Int.emod_lt_of_pos p (show (0 : Int) < len by omega); omega
            have hw : IntKind.i64.wrap (p.tmod len) = j := by rw [Int.tmod_eq_emod_of_nonneg hp0, ← hj, IntKind.wrap_i64]; omega
            have hw1 : IntKind.i64.wrap ((j : Int) + 1) = (j : Int) + 1 := by rw [IntKind.wrap_i64]; omega
            have hnz : ¬ (len : Int) = 0 := by omega
            have hpj : p % (len : Int) = (j : Int) := hj.symm
            clear hj
            go_upto_region 13 with fail
            rw [hpj]
            clear hpj hw hnz
            have hz1 : (Try.prog.info? 9).map (·.size) = some 1 := by kernel_rfl
            have hs1 := fun W => cut_to (P := Try.prog) 22 9 Try.underlying22 hz1 g1 o1 len c1 j (by omega) W
            have hs2 := fun W => cut_from (P := Try.prog) 22 9 Try.underlying22 hz1 g1 o1 len c1 (j + 1) (by omega) W
            rw [show ((j + 1 : Nat) : Int) = (j : Int) + 1 by omega] at hs2
            clear hz1
            have hR4 : Rd wr (if c1 = j + 1 then some ⟨g1, o1, none⟩ else some ⟨g1, o1 + (j + 1), none⟩) (len - (j + 1)) (fun k => .string (T (j + 1 + k))) := by
              intro k hk
              rw [if_neg (by omega)]
              obtain ⟨b, off, h1, h2, h3⟩ := HR2.out (j + 1 + k) (by omega)
              injection h1 with h1
              injection h1 with h1 h4
              subst h1; subst h4
              exact ⟨g1, o1 + (j + 1), rfl, h2, by rw [Nat.add_assoc]; exact h3⟩
            generalize (if c1 = j + 1 then some (⟨g1, o1, none⟩ : Addr) else some ⟨g1, o1 + (j + 1), none⟩) = A2 at hs2 hR4
            have hsz := hb.size
            have hbd := hb.drew
            have hR5 : Rd wr (some ⟨g1, o1, none⟩) j (fun k => .string (T k)) := fun k hk => HR2.out k (by omega)
            have HF := Aside.mk (And.intro hR4 (And.intro hR5 (And.intro hb hsz)))
            clear hR4 hR5 hb hbd hsz
            go_region_law (first | (refine step_append_row (w0 := wr) wr.heap.size rfl _ _ 22 9 1 16 (.string ByteArray.empty) rfl Try.underlying22 infoStr rfl (by decide) (.slice (some ⟨wr.heap.size, 0, none⟩) 0 0) 0 [] (.slice (some ⟨g1, o1, none⟩) j c1) j _ rfl rfl (Row.lit wr wr.heap.size 9 1 #[] 0 (Nat.le_refl _) (by decide) rfl).drew (Src.of_rd ((HF.out.2.1.below (Nat.le_refl _) ((Below.refl _ wr).alloc (Nat.le_refl _) _)).drewN 1)) (by simp [Value.oneCell']) ((Below.refl _ wr).alloc (Nat.le_refl _) _).drew (by simp) (by omega) (by simp only [maxLen]; omega) ?_; intro v1 w2 hr1 hb2 hg1 hat1; clear hg1 hat1; have HC := Aside.mk (And.intro hr1 (And.intro hb2 hb2.size)); clear hr1 hb2) | (go_loud (refine step_append_row (w0 := wr) wr.heap.size rfl _ _ 22 9 1 16 (.string ByteArray.empty) rfl Try.underlying22 infoStr rfl (by decide) v1 (0 + j) _ (.slice A2 (len - (j + 1)) (c1 - (j + 1))) (len - (j + 1)) _ rfl rfl HC.out.1 (Src.of_rd (HF.out.1.below (Nat.le_refl _) HC.out.2.1)) (by simp [Value.oneCell']) HC.out.2.1 HC.out.2.2 (by omega) (by simp only [maxLen]; omega) ?_); intro v2 w3 hr2 hb3 hg1 hat1; clear hg1 hat1; have HD := Aside.mk (And.intro hr2 (And.intro hb3 hb3.size)); clear hr2 hb3))
            clear hs1 hs2
            obtain ⟨hr3, hb3, hz3⟩ := HD.out
            have hl3 : ∀ wz, Below wr.heap.size wr wz → wz.cell? ⟨g1, o1 + j, none⟩ = some (.string (T j)) := fun wz hz => by
              obtain ⟨b, off, h1, h2⟩ := HR2.out.cells hjl
              injection h1 with h1
              injection h1 with h1 h4
              subst h1; subst h4
              exact h2 _ wz (Nat.le_refl _) hz
            have HL := Aside.mk hl3
            have H0 := Aside.mk HF.out.2.2.1
            have k1 := hl3 _ hb3
            have k2 := hl3 _ hb3.drew
            have HO := Aside.mk (others_brings (m := m) hjl (HT.out j))
            clear hl3 hr3 hb3 hz3 HC HF
            go_upto_region 14 with fail
            go_region_law (first
              | (refine step_append_row (w0 := wr) wr.heap.size rfl _ _ 22 9 1 16 (.string ByteArray.empty) rfl Try.underlying22 infoStr rfl (by decide) v2 (0 + j + (len - (j + 1))) _ (.slice (some ⟨w4.heap.size, 0, none⟩) 1 1) 1 _ rfl rfl (H4.out.1.alloc _) (Src.of_rd (Rd.litStrs w4 _)) (by simp [Value.oneCell']) (H4.out.2.1.alloc H4.out.2.2 _) (by have := H4.out.2.2; simp; omega) (by omega) (by simp only [maxLen]; omega) ?_; intro v3 w5 hr5 hb5 hg1 hat1; clear hg1 hat1; have k5 := HL.out _ hb5; rw [others_cells, show 0 + j + (len - (j + 1)) + 1 = len by omega] at hr5; obtain ⟨A5, c5, rfl, hn5, hc5, hm5, hR5⟩ := hr5.readStrs; have H5 := Aside.mk (And.intro hR5 (And.intro hb5 (And.intro hb5.size (And.intro hc5 hm5)))); clear hr5 hR5 hb5 hn5 hc5 hm5)
              | (obtain ⟨⟨hR5, hb5, hz5, hc5, hm5⟩⟩ := H5; go_simp; go_at_call 8; go_loud (refine (parity_xor_nat m A5 len c5 _ _ (by omega) (by omega) hc5 hm5 hR5).mono ?_); rw [HO.out]; rintro e w6 ⟨rfl, hb6⟩; have hb6' := hb5.trans (hb6.mono hz5); have k6 := HL.out _ hb6'; have H6 := Aside.mk (H0.out.trans (hb6'.mono H0.out.size)); clear hR5 hb5 hz5 hc5 hm5 hb6 hb6')
              | (obtain ⟨⟨hr3, hb3, hz3⟩⟩ := HD; go_simp; go_at_call 8; go_loud (refine (parity_xor_nat m (some ⟨g1, o1, none⟩) len c1 T _ (by omega) (by omega) hc1 hcm2 (HR2.out.below (Nat.le_refl _) hb3.drew)).mono ?_); rintro e w4 ⟨rfl, hb4⟩; have hb4' := hb3.drew.trans (hb4.mono hz3); have k3 := HL.out _ hb4'; have k4 := HL.out _ (hb4'.alloc hb4'.size (.cells #[.string (xorT m T len)] 9)); have H4 := Aside.mk (And.intro (hr3.drew.below hb4) (And.intro hb4' hb4'.size)); clear hr3 hb3 hz3 hb4 hb4'))
            all_goals
              go_wp2
              go_ret
              exact ⟨rfl, H6.out⟩
end Go.Proofs.Ytehiijgfhanjfaa
