/-
  The document's way of reading a node: the ways that go on.
-/
import Derived.Test.YtbkkdglmcoglfaaDoorNodeDecR1
namespace Go.Proofs.YtbkkdglmcoglfaaDoor
open Go.RowKit

theorem extract_at (s : ByteArray) (n j : Nat) (_h : j < (s.extract n s.size).size) (h' : n + j < s.size) : (s.extract n s.size)[j] = s[n + j] := by
  simp [ByteArray.getElem_extract]
theorem extract_take (s : ByteArray) (a b m : Nat) (h : a + m ≤ b) : (s.extract a b).data.toList.take m = (s.data.toList.drop a).take m := by
  rw [ByteArray.data_extract, Array.toList_extract, List.extract_eq_take_drop, List.take_take, Nat.min_eq_left (by omega)]
theorem extract_part (s : ByteArray) (n a b : Nat) (_h : n + b ≤ s.size) : (s.extract n s.size).extract a b = s.extract (n + a) (n + b) := by
  rw [ByteArray.extract_extract]
  congr 1
  omega
theorem numR_good (N : Nat) (g : Bool) (k v : ByteArray) (hN : N < 18446744073709551616) : goodN (numR N) g k v = goodN (IntKind.i64.wrap N) g k v ∧ (goodN (numR N) g k v = true → numR N = IntKind.i64.wrap N) := by
  unfold numR
  by_cases h : N ≤ 1099511627776
  · have : IntKind.i64.wrap (N : Int) = N := by rw [IntKind.wrap_i64]; omega
    rw [if_pos h, this]
    exact ⟨rfl, fun _ => rfl⟩
  · have h1 : goodN (-1) g k v = false := by simp [goodN]
    have h2 : goodN (IntKind.i64.wrap N) g k v = false := by
      have h3 : IntKind.i64.wrap (N : Int) < 0 ∨ 1099511627776 < IntKind.i64.wrap (N : Int) := by rw [IntKind.wrap_i64]; omega
      unfold goodN
      rw [decide_eq_false_iff_not]
      omega
    rw [if_neg h, h1, h2]
    exact ⟨rfl, fun h => by cases h⟩
theorem str_eq (a b : ByteArray) : (a.toList == b.toList) = decide (a = b) := by
  rw [ByteArray.toList_eq, ByteArray.toList_eq, Bool.eq_iff_iff]
  simp only [beq_iff_eq, decide_eq_true_eq]
  exact ⟨bytes_ext, fun h => by rw [h]⟩
theorem seal_opens (Y : ByteArray) (_h : 4 ≤ Y.size) : (sealed (Y.extract 0 (Y.size - 4)) = Y) ↔ opens Y = true := by
  constructor
  · intro h1
    rw [← h1]; exact opens_sealed _
  · intro h1
    have := sealed_openText h1
    unfold openText at this
    rwa [if_pos h1] at this

set_option maxRecDepth 20000 in
set_option maxHeartbeats 8000000 in
theorem ref_decode_rest (s : ByteArray) (n : Nat) (w : World) (hn : n < s.size) (h : s[n] = 78) (hsz : s.size ≤ 140737488351232) (f1 k z p z4 : Nat) (q : Int) (g l : Bool) (hf : HeadF (s.extract n s.size) f1 k z p z4 q g l) (R : Value) (hR : R = decT (s.extract n s.size) n f1 z p z4 q g l) :
    Calls Tryd.prog 13 #[.string s, .int .i64 n] w fun e w' => e = .returned R ∧ Below w.heap.size w w' := by
  have h0 : s[n].toNat = 78 := by rw [h]; rfl
  have h1 : (n : Int) < s.size := by omega
  have hts : (s.extract n s.size).size = s.size - n := by simp
  have h13 := hf.len
  have hn13 : n + 13 ≤ s.size := by omega
  obtain ⟨i1, hi1⟩ : ∃ i, i = n + 1 := ⟨_, rfl⟩
  obtain ⟨i2, hi2⟩ : ∃ i, i = n + 2 := ⟨_, rfl⟩
  obtain ⟨i10, hi10⟩ : ∃ i, i = n + 10 := ⟨_, rfl⟩
  obtain ⟨i11, hi11⟩ : ∃ i, i = n + 11 := ⟨_, rfl⟩
  obtain ⟨i12, hi12⟩ : ∃ i, i = n + 12 := ⟨_, rfl⟩
  obtain ⟨i13, hi13⟩ : ∃ i, i = n + 13 := ⟨_, rfl⟩
  have b1 : i1 < s.size := by omega
  have b10 : i10 < s.size := by omega
  have b11 : i11 < s.size := by omega
  have b12 : i12 < s.size := by omega
  have x1 : s[i1].toNat = f1 := by subst hi1; rw [← extract_at s n 1 (by omega) b1]; exact hf.fl
  have x10 : s[i10].toNat = k := by subst hi10; rw [← extract_at s n 10 (by omega) b10]; exact hf.hk
  obtain ⟨a, ha⟩ : ∃ a, s[i11].toNat = a := ⟨_, rfl⟩
  obtain ⟨b, hb⟩ : ∃ b, s[i12].toNat = b := ⟨_, rfl⟩
  have hz : 17 + k + a * 256 + b = z := by
    rw [← hf.hz, ← ha, ← hb, extract_at s n 11 (by omega) (by omega), extract_at s n 12 (by omega) (by omega)]
    subst hi11; subst hi12; rfl
  have ha2 : a < 256 := by rw [← ha]; exact s[i11].toNat_lt
  have hb2 : b < 256 := by rw [← hb]; exact s[i12].toNat_lt
  have hk2 : k < 256 := by rw [← x10]; exact s[i10].toNat_lt
  have hf2 : f1 < 256 := by rw [← x1]; exact s[i1].toNat_lt
  have hp := hf.hp
  have hz4 := hf.hz4
  obtain ⟨v, hv⟩ : ∃ v, v = a * 256 + b := ⟨_, rfl⟩
  obtain ⟨e0, he0⟩ : ∃ e, e = n + p := ⟨_, rfl⟩
  obtain ⟨e9, he9⟩ : ∃ e, e = n + z4 := ⟨_, rfl⟩
  obtain ⟨e4, he4⟩ : ∃ e, e = n + z := ⟨_, rfl⟩
  have Au1 : Aside (IntKind.i64.wrap ((n : Int) + 1) = i1) := ⟨by rw [IntKind.wrap_i64]; omega⟩
  have Au2 : Aside (IntKind.i64.wrap ((n : Int) + 2) = i2) := ⟨by rw [IntKind.wrap_i64]; omega⟩
  have Au10 : Aside (IntKind.i64.wrap ((n : Int) + 10) = i10) := ⟨by rw [IntKind.wrap_i64]; omega⟩
  have Au11 : Aside (IntKind.i64.wrap ((n : Int) + 11) = i11) := ⟨by rw [IntKind.wrap_i64]; omega⟩
  have Au12 : Aside (IntKind.i64.wrap ((n : Int) + 12) = i12) := ⟨by rw [IntKind.wrap_i64]; omega⟩
  have Au13 : Aside (IntKind.i64.wrap ((n : Int) + 13) = i13) := ⟨by rw [IntKind.wrap_i64]; omega⟩
  have Aua : Aside (IntKind.i64.wrap (256 * (a : Int)) = 256 * a) := ⟨by rw [IntKind.wrap_i64]; omega⟩
  have Aub : Aside (IntKind.i64.wrap (256 * (a : Int) + b) = v) := ⟨by rw [IntKind.wrap_i64]; omega⟩
  have Auk : Aside (IntKind.i64.wrap ((i13 : Int) + k) = e0) := ⟨by rw [IntKind.wrap_i64]; omega⟩
  have Auv : Aside (IntKind.i64.wrap ((e0 : Int) + v) = e9) := ⟨by rw [IntKind.wrap_i64]; omega⟩
  have Au4 : Aside (IntKind.i64.wrap ((e9 : Int) + 4) = e4) := ⟨by rw [IntKind.wrap_i64]; omega⟩
  have b10' : (i10 : Int) < s.size := by omega
  have b11' : (i11 : Int) < s.size := by omega
  have b12' : (i12 : Int) < s.size := by omega
  have b1' : (i1 : Int) < s.size := by omega
  have b13 : i13 ≤ s.size := by omega
  have o1 : n ≤ e9 := by omega
  have o2 : n ≤ e4 := by omega
  have o3 : e9 ≤ e4 := by omega
  have o4 : i13 ≤ e0 := by omega
  have o5 : e0 ≤ e9 := by omega
  have o6 : i2 ≤ i10 := by omega
  have HU := Aside.mk (And.intro hi1 (And.intro hi2 (And.intro hi10 (And.intro hi13 (And.intro he0 (And.intro he9 (And.intro he4 (And.intro hz (And.intro hp hz4)))))))))
  have HF := Aside.mk hf
  have HR := Aside.mk hR
  have HTS := Aside.mk hts
  clear h hts hR hi1 hi2 hi10 hi11 hi12 hi13 he0 he9 he4 hz hp hz4 hv hf h13
  have u1 := Au1.out
  have u2 := Au2.out
  have u10 := Au10.out
  have u11 := Au11.out
  have u12 := Au12.out
  have u13 := Au13.out
  have ua := Aua.out
  have ub := Aub.out
  have uk := Auk.out
  have uv := Auv.out
  have u4 := Au4.out
  go_enter Tryd.func13, Tryd.ntmps13
  go_upto_region 10 with fail
  go_quiet (fail)
  have g0 : (w.alloc (.cells (nodeC 0 false false ⟨#[]⟩ ⟨#[]⟩) 32)).heap[w.heap.size]? = some (.cells (nodeC 0 false false ⟨#[]⟩ ⟨#[]⟩) 32 (0, 0)) := heap_alloc_new _ _
  have gl : w.heap.size < (w.alloc (.cells (nodeC 0 false false ⟨#[]⟩ ⟨#[]⟩) 32)).heap.size := by simp
  have gb : Below w.heap.size w (w.alloc (.cells (nodeC 0 false false ⟨#[]⟩ ⟨#[]⟩) 32)) := (Below.refl _ _).alloc (Nat.le_refl _) _
  generalize w.alloc (.cells (nodeC 0 false false ⟨#[]⟩ ⟨#[]⟩) 32) = w0 at *
  generalize hW0 : w0.drewN nq = w1
  have H1 : Aside (w1.heap[w.heap.size]? = some (.cells (nodeC 0 false false ⟨#[]⟩ ⟨#[]⟩) 32 (0, 0)) ∧ w.heap.size < w1.heap.size ∧ Below w.heap.size w w1) := by
    subst hW0
    exact ⟨g0, gl, gb.trans ⟨rfl, rfl, rfl, Nat.le_refl _, fun _ _ => rfl⟩⟩
  clear hW0 g0 gl gb
  clear hk2 ha2 hb2 ha hb ua ub u10 u11 u12 b10' b11' b12' x10 b10 b11 b12
  clear uk uv u1 u2 u13 u4
  by_cases hshort : s.size < e4
  · have HR2 : decE 60 = R := by have := HTS.out; have := HU.out; rw [HR.out]; simp [decT, show s.size - n < z by omega]
    obtain ⟨c0, d0⟩ := row_cell (H1.out.1) 0 (v := .int .i64 0) rfl
    obtain ⟨c1, d1⟩ := row_cell (H1.out.1) 1 (v := .bool false) rfl
    obtain ⟨c2, d2⟩ := row_cell (H1.out.1) 2 (v := .bool false) rfl
    obtain ⟨c3, d3⟩ := row_cell (H1.out.1) 3 (v := .string ⟨#[]⟩) rfl
    obtain ⟨c4, d4⟩ := row_cell (H1.out.1) 4 (v := .string ⟨#[]⟩) rfl
    have uk := Auk.out
    have uv := Auv.out
    have u13 := Au13.out
    have u4 := Au4.out
    go_wp2
    have HG := Aside.mk (And.intro H1.out.1 H1.out.2.2)
    have hf5 := fin5 (HG.out.1) 0 false false ⟨#[]⟩ ⟨#[]⟩
    have hbl := below_set5 (HG.out.2) w.heap.size (Nat.le_refl _) (.int .i64 0) (.bool false) (.bool false) (.string ⟨#[]⟩) (.string ⟨#[]⟩)
    clear c0 c1 c2 c3 c4 d0 d1 d2 d3 d4
    obtain ⟨qq0, _⟩ := row_cell hf5 0 (v := .int .i64 0) rfl
    obtain ⟨qq1, _⟩ := row_cell hf5 1 (v := .bool false) rfl
    obtain ⟨qq2, _⟩ := row_cell hf5 2 (v := .bool false) rfl
    obtain ⟨qq3, _⟩ := row_cell hf5 3 (v := .string ⟨#[]⟩) rfl
    obtain ⟨qq4, _⟩ := row_cell hf5 4 (v := .string ⟨#[]⟩) rfl
    exact bodyPost_ret (v := decE 60) (by simp [results, Tryd.results13, go_sem, qq0, qq1, qq2, qq3, qq4]) rfl ⟨ret_eq HR2, hbl⟩
  have b4 : e4 ≤ s.size := by omega
  have b4' : (e4 : Int) ≤ s.size := by omega
  have b9 : e9 ≤ s.size := by omega
  have b0 : e0 ≤ s.size := by omega
  have bi10 : i10 ≤ s.size := by have := HU.out; omega
  have hzt : ¬ (s.extract n s.size).size < z := by have := HTS.out; have := HU.out; omega
  have hX0 : (s.extract n s.size).extract 0 z = s.extract n e4 := by have := HU.out; rw [extract_part _ _ _ _ (by omega)]; congr 1; omega
  have hXk : (s.extract n s.size).extract 13 p = s.extract i13 e0 := by have := HU.out; rw [extract_part _ _ _ _ (by omega)]; congr 1 <;> omega
  have hXv : (s.extract n s.size).extract p z4 = s.extract e0 e9 := by have := HU.out; rw [extract_part _ _ _ _ (by omega)]; congr 1 <;> omega
  obtain ⟨N, hN⟩ : ∃ N, N = beN ((s.extract i2 i10).data.toList.take 8) := ⟨_, rfl⟩
  have hN2 : N < 18446744073709551616 := by
    have h1 := beN_lt ((s.extract i2 i10).data.toList.take 8)
    have h2 : (s.extract i2 i10).data.toList.take 8 = (s.extract i2 i10).data.toList := List.take_of_length_le (by have := HU.out; rw [data_len]; simp; omega)
    have h3 : ((s.extract i2 i10).data.toList.take 8).length = 8 := by have := HU.out; rw [h2, data_len]; simp; omega
    rw [h3, ← hN] at h1
    exact h1
  have hq : q = IntKind.i64.wrap N := by
    have h1 := HU.out
    have h2 := HTS.out
    rw [HF.out.hq, hN, extract_part _ _ _ _ (by omega), extract_take _ _ _ _ (by omega), extract_take _ _ _ _ (by omega), h1.2.1]
  have hng := numR_good N g ((s.extract n s.size).extract 13 p) ((s.extract n s.size).extract p z4) hN2
  rw [← hq] at hng
  have hop : decide (sealed (s.extract n e9) = s.extract n e4) = opens (s.extract n e4) := by
    have h1 := seal_opens (s.extract n e4) (by have := HU.out; simp; omega)
    have h2 : (s.extract n e4).extract 0 ((s.extract n e4).size - 4) = s.extract n e9 := by
      have := HU.out
      rw [ByteArray.extract_extract]; congr 1; simp; omega
    rw [h2] at h1
    rw [Bool.eq_iff_iff, decide_eq_true_eq]; exact h1
  have hR3 : opens (s.extract n e4) = false → decE 61 = R := fun h => by rw [HR.out]; unfold decT; rw [hX0, h]; simp only [decide_eq_false hzt]; rfl
  have hR4 : ∀ b : Bool, goodN (numR N) g (s.extract i13 e0) (s.extract e0 e9) = b → opens (s.extract n e4) = true → (decide (f1 ≤ 3) && b) = false → decE 4 = R := fun b hb h h2 => by
    rw [hXk, hXv] at hng
    rw [HR.out]; unfold decT; rw [hX0, h, hXk, hXv, ← hng.1, hb, h2]; simp only [decide_eq_false hzt]; rfl
  have hR5 : goodN (numR N) g (s.extract i13 e0) (s.extract e0 e9) = true → opens (s.extract n e4) = true → f1 ≤ 3 → .tuple #[nodeV (numR N) g l (s.extract i13 e0) (s.extract e0 e9), .int .i64 e4, .int .i64 0] = R := fun hb h h2 => by
    rw [hXk, hXv] at hng
    rw [HR.out]; unfold decT; rw [hX0, h, hXk, hXv, ← hng.1, hb, hng.2 hb, HU.out.2.2.2.2.2.2.1]; simp only [decide_eq_false hzt, decide_eq_true h2]; rfl
  have HR3 := Aside.mk hR3
  have HR4 := Aside.mk hR4
  have HR5 := Aside.mk hR5
  have HOP := Aside.mk hop
  have HNum : Aside (∀ W, Calls Tryd.prog 21 #[.string (s.extract i2 i10)] W fun e w' => e = .returned (.int .i64 (numR N)) ∧ W = w') := ⟨fun W => by rw [hN]; exact ref_number _ W (by have := HU.out; simp; omega)⟩
  have hzs : (s.extract n e9).size ≤ 140737488351232 := by simp; omega
  have HZS := Aside.mk hzs
  have HGL : Aside (((f1 : Int) % 2 == 1) = g ∧ ((f1 : Int) / 2 % 2 == 1) = l) := ⟨by rw [HF.out.hg, Bool.eq_iff_iff]; simp; omega, by rw [HF.out.hl, Bool.eq_iff_iff]; simp; omega⟩
  clear hR3 hR4 hR5 hop hng hX0 hXk hXv hN hN2 hq hzt HR HF hzs
  generalize numR N = q2 at *
  generalize hkx : s.extract i13 e0 = kx at *
  generalize hvx : s.extract e0 e9 = vx at *
  have HKX := Aside.mk hkx
  have HVX := Aside.mk hvx
  clear hkx hvx
  have uk := Auk.out
  have uv := Auv.out
  have u13 := Au13.out
  have u4 := Au4.out
  have u2 := Au2.out
  have u1 := Au1.out
  have u10 := Au10.out
  go_upto_region 14 with fail
  have H0 := H1
  obtain ⟨ok, hok⟩ : ∃ b, b = opens (s.extract n e4) := ⟨_, rfl⟩
  rw [← hok] at HOP HR3 HR4 HR5
  clear hok
  refine wp_region_rel (by kernel_rfl) (by kernel_rfl) (rel_small (by kernel_rfl)) (tailV [(71, .val (.string s)), (72, .val (.int .i64 n)), (73, .val (.int .i64 e9)), (74, .val (.string (s.extract n e9))), (75, .val (.string (sealed (s.extract n e9)))), (76, .val (.string s)), (77, .val (.int .i64 n)), (78, .val (.int .i64 e9)), (79, .val (.int .i64 e4)), (80, .val (.string (s.extract n e4))), (81, .val (.bool (!ok)))]) (tailV_stable _) ⟨?_, ?_, ?_, ?_, ?_, ?_, ?_, ?_, ?_, ?_, ?_, trivial⟩ ?_
  · -- 71 := move t0
    intro f W hW hold hd K hK
    have ze0 : f 0 = .string s := hold 0 rfl
    have HK : ∀ v W', Below W.heap.size W W' → tailV _ 71 v W' → K { tmps := #[f 0, f 1, f 2, f 3, f 4, f 5, f 6, f 7, f 8, f 9, f 10, f 11, f 12, f 13, f 14, f 15, f 16, f 17, f 18, f 19, f 20, f 21, f 22, f 23, f 24, f 25, f 26, f 27, f 28, f 29, f 30, f 31, f 32, f 33, f 34, f 35, f 36, f 37, f 38, f 39, f 40, f 41, f 42, f 43, f 44, f 45, f 46, f 47, f 48, f 49, f 50, f 51, f 52, f 53, f 54, f 55, f 56, f 57, f 58, f 59, f 60, f 61, f 62, f 63, f 64, f 65, f 66, f 67, f 68, f 69, f 70, v, f 72, f 73, f 74, f 75, f 76, f 77, f 78, f 79, f 80, f 81, f 82, f 83, f 84, f 85, f 86, f 87, f 88, f 89, f 90, f 91, f 92, f 93, f 94, f 95, f 96, f 97, f 98, f 99, f 100, f 101, f 102, f 103, f 104, f 105, f 106, f 107, f 108, f 109, f 110, f 111, f 112, f 113, f 114, f 115, f 116, f 117, f 118, f 119, f 120, f 121, f 122, f 123, f 124, f 125, f 126, f 127, f 128, f 129, f 130, f 131, f 132], defers := [] } W' := hK
    change wpList _ #[_] _ [_] { tmps := #[f 0, f 1, f 2, f 3, f 4, f 5, f 6, f 7, f 8, f 9, f 10, f 11, f 12, f 13, f 14, f 15, f 16, f 17, f 18, f 19, f 20, f 21, f 22, f 23, f 24, f 25, f 26, f 27, f 28, f 29, f 30, f 31, f 32, f 33, f 34, f 35, f 36, f 37, f 38, f 39, f 40, f 41, f 42, f 43, f 44, f 45, f 46, f 47, f 48, f 49, f 50, f 51, f 52, f 53, f 54, f 55, f 56, f 57, f 58, f 59, f 60, f 61, f 62, f 63, f 64, f 65, f 66, f 67, f 68, f 69, f 70, f 71, f 72, f 73, f 74, f 75, f 76, f 77, f 78, f 79, f 80, f 81, f 82, f 83, f 84, f 85, f 86, f 87, f 88, f 89, f 90, f 91, f 92, f 93, f 94, f 95, f 96, f 97, f 98, f 99, f 100, f 101, f 102, f 103, f 104, f 105, f 106, f 107, f 108, f 109, f 110, f 111, f 112, f 113, f 114, f 115, f 116, f 117, f 118, f 119, f 120, f 121, f 122, f 123, f 124, f 125, f 126, f 127, f 128, f 129, f 130, f 131, f 132], defers := [] } W
    clear hK hd hold
    simp only [ze0] at HK ⊢
    clear ze0
    have HK := Aside.mk HK
    go_wp2
    exact HK.out _ _ (Below.refl _ _) rfl
  · -- 72 := move t1
    intro f W hW hold hd K hK
    have ze1 : f 1 = .int .i64 n := hold 1 rfl
    have HK : ∀ v W', Below W.heap.size W W' → tailV _ 72 v W' → K { tmps := #[f 0, f 1, f 2, f 3, f 4, f 5, f 6, f 7, f 8, f 9, f 10, f 11, f 12, f 13, f 14, f 15, f 16, f 17, f 18, f 19, f 20, f 21, f 22, f 23, f 24, f 25, f 26, f 27, f 28, f 29, f 30, f 31, f 32, f 33, f 34, f 35, f 36, f 37, f 38, f 39, f 40, f 41, f 42, f 43, f 44, f 45, f 46, f 47, f 48, f 49, f 50, f 51, f 52, f 53, f 54, f 55, f 56, f 57, f 58, f 59, f 60, f 61, f 62, f 63, f 64, f 65, f 66, f 67, f 68, f 69, f 70, f 71, v, f 73, f 74, f 75, f 76, f 77, f 78, f 79, f 80, f 81, f 82, f 83, f 84, f 85, f 86, f 87, f 88, f 89, f 90, f 91, f 92, f 93, f 94, f 95, f 96, f 97, f 98, f 99, f 100, f 101, f 102, f 103, f 104, f 105, f 106, f 107, f 108, f 109, f 110, f 111, f 112, f 113, f 114, f 115, f 116, f 117, f 118, f 119, f 120, f 121, f 122, f 123, f 124, f 125, f 126, f 127, f 128, f 129, f 130, f 131, f 132], defers := [] } W' := hK
    change wpList _ #[_] _ [_] { tmps := #[f 0, f 1, f 2, f 3, f 4, f 5, f 6, f 7, f 8, f 9, f 10, f 11, f 12, f 13, f 14, f 15, f 16, f 17, f 18, f 19, f 20, f 21, f 22, f 23, f 24, f 25, f 26, f 27, f 28, f 29, f 30, f 31, f 32, f 33, f 34, f 35, f 36, f 37, f 38, f 39, f 40, f 41, f 42, f 43, f 44, f 45, f 46, f 47, f 48, f 49, f 50, f 51, f 52, f 53, f 54, f 55, f 56, f 57, f 58, f 59, f 60, f 61, f 62, f 63, f 64, f 65, f 66, f 67, f 68, f 69, f 70, f 71, f 72, f 73, f 74, f 75, f 76, f 77, f 78, f 79, f 80, f 81, f 82, f 83, f 84, f 85, f 86, f 87, f 88, f 89, f 90, f 91, f 92, f 93, f 94, f 95, f 96, f 97, f 98, f 99, f 100, f 101, f 102, f 103, f 104, f 105, f 106, f 107, f 108, f 109, f 110, f 111, f 112, f 113, f 114, f 115, f 116, f 117, f 118, f 119, f 120, f 121, f 122, f 123, f 124, f 125, f 126, f 127, f 128, f 129, f 130, f 131, f 132], defers := [] } W
    clear hK hd hold
    simp only [ze1] at HK ⊢
    clear ze1
    have HK := Aside.mk HK
    go_wp2
    exact HK.out _ _ (Below.refl _ _) rfl
  · -- 73 := move t9
    intro f W hW hold hd K hK
    have ze9 : f 9 = .int .i64 e9 := hold 9 rfl
    have HK : ∀ v W', Below W.heap.size W W' → tailV _ 73 v W' → K { tmps := #[f 0, f 1, f 2, f 3, f 4, f 5, f 6, f 7, f 8, f 9, f 10, f 11, f 12, f 13, f 14, f 15, f 16, f 17, f 18, f 19, f 20, f 21, f 22, f 23, f 24, f 25, f 26, f 27, f 28, f 29, f 30, f 31, f 32, f 33, f 34, f 35, f 36, f 37, f 38, f 39, f 40, f 41, f 42, f 43, f 44, f 45, f 46, f 47, f 48, f 49, f 50, f 51, f 52, f 53, f 54, f 55, f 56, f 57, f 58, f 59, f 60, f 61, f 62, f 63, f 64, f 65, f 66, f 67, f 68, f 69, f 70, f 71, f 72, v, f 74, f 75, f 76, f 77, f 78, f 79, f 80, f 81, f 82, f 83, f 84, f 85, f 86, f 87, f 88, f 89, f 90, f 91, f 92, f 93, f 94, f 95, f 96, f 97, f 98, f 99, f 100, f 101, f 102, f 103, f 104, f 105, f 106, f 107, f 108, f 109, f 110, f 111, f 112, f 113, f 114, f 115, f 116, f 117, f 118, f 119, f 120, f 121, f 122, f 123, f 124, f 125, f 126, f 127, f 128, f 129, f 130, f 131, f 132], defers := [] } W' := hK
    change wpList _ #[_] _ [_] { tmps := #[f 0, f 1, f 2, f 3, f 4, f 5, f 6, f 7, f 8, f 9, f 10, f 11, f 12, f 13, f 14, f 15, f 16, f 17, f 18, f 19, f 20, f 21, f 22, f 23, f 24, f 25, f 26, f 27, f 28, f 29, f 30, f 31, f 32, f 33, f 34, f 35, f 36, f 37, f 38, f 39, f 40, f 41, f 42, f 43, f 44, f 45, f 46, f 47, f 48, f 49, f 50, f 51, f 52, f 53, f 54, f 55, f 56, f 57, f 58, f 59, f 60, f 61, f 62, f 63, f 64, f 65, f 66, f 67, f 68, f 69, f 70, f 71, f 72, f 73, f 74, f 75, f 76, f 77, f 78, f 79, f 80, f 81, f 82, f 83, f 84, f 85, f 86, f 87, f 88, f 89, f 90, f 91, f 92, f 93, f 94, f 95, f 96, f 97, f 98, f 99, f 100, f 101, f 102, f 103, f 104, f 105, f 106, f 107, f 108, f 109, f 110, f 111, f 112, f 113, f 114, f 115, f 116, f 117, f 118, f 119, f 120, f 121, f 122, f 123, f 124, f 125, f 126, f 127, f 128, f 129, f 130, f 131, f 132], defers := [] } W
    clear hK hd hold
    simp only [ze9] at HK ⊢
    clear ze9
    have HK := Aside.mk HK
    go_wp2
    exact HK.out _ _ (Below.refl _ _) rfl
  · -- 74 := slice 9 t71 t72 t73 -
    intro f W hW hold hd K hK
    have ze71 : f 71 = .string s := hd 71 rfl rfl
    have ze72 : f 72 = .int .i64 n := hd 72 rfl rfl
    have ze73 : f 73 = .int .i64 e9 := hd 73 rfl rfl
    have HK : ∀ v W', Below W.heap.size W W' → tailV _ 74 v W' → K { tmps := #[f 0, f 1, f 2, f 3, f 4, f 5, f 6, f 7, f 8, f 9, f 10, f 11, f 12, f 13, f 14, f 15, f 16, f 17, f 18, f 19, f 20, f 21, f 22, f 23, f 24, f 25, f 26, f 27, f 28, f 29, f 30, f 31, f 32, f 33, f 34, f 35, f 36, f 37, f 38, f 39, f 40, f 41, f 42, f 43, f 44, f 45, f 46, f 47, f 48, f 49, f 50, f 51, f 52, f 53, f 54, f 55, f 56, f 57, f 58, f 59, f 60, f 61, f 62, f 63, f 64, f 65, f 66, f 67, f 68, f 69, f 70, f 71, f 72, f 73, v, f 75, f 76, f 77, f 78, f 79, f 80, f 81, f 82, f 83, f 84, f 85, f 86, f 87, f 88, f 89, f 90, f 91, f 92, f 93, f 94, f 95, f 96, f 97, f 98, f 99, f 100, f 101, f 102, f 103, f 104, f 105, f 106, f 107, f 108, f 109, f 110, f 111, f 112, f 113, f 114, f 115, f 116, f 117, f 118, f 119, f 120, f 121, f 122, f 123, f 124, f 125, f 126, f 127, f 128, f 129, f 130, f 131, f 132], defers := [] } W' := hK
    change wpList _ #[_] _ [_] { tmps := #[f 0, f 1, f 2, f 3, f 4, f 5, f 6, f 7, f 8, f 9, f 10, f 11, f 12, f 13, f 14, f 15, f 16, f 17, f 18, f 19, f 20, f 21, f 22, f 23, f 24, f 25, f 26, f 27, f 28, f 29, f 30, f 31, f 32, f 33, f 34, f 35, f 36, f 37, f 38, f 39, f 40, f 41, f 42, f 43, f 44, f 45, f 46, f 47, f 48, f 49, f 50, f 51, f 52, f 53, f 54, f 55, f 56, f 57, f 58, f 59, f 60, f 61, f 62, f 63, f 64, f 65, f 66, f 67, f 68, f 69, f 70, f 71, f 72, f 73, f 74, f 75, f 76, f 77, f 78, f 79, f 80, f 81, f 82, f 83, f 84, f 85, f 86, f 87, f 88, f 89, f 90, f 91, f 92, f 93, f 94, f 95, f 96, f 97, f 98, f 99, f 100, f 101, f 102, f 103, f 104, f 105, f 106, f 107, f 108, f 109, f 110, f 111, f 112, f 113, f 114, f 115, f 116, f 117, f 118, f 119, f 120, f 121, f 122, f 123, f 124, f 125, f 126, f 127, f 128, f 129, f 130, f 131, f 132], defers := [] } W
    clear hK hd hold
    simp only [ze71, ze72, ze73] at HK ⊢
    clear ze71 ze72 ze73
    have HK := Aside.mk HK
    go_wp2
    exact HK.out _ _ (Below.refl _ _) rfl
  · -- 75 := CALL f18 chert/chertref03.Seal [t74] : [9]
    intro f W hW hold hd K hK
    have ze74 : f 74 = .string (s.extract n e9) := hd 74 rfl rfl
    have HK : ∀ v W', Below W.heap.size W W' → tailV _ 75 v W' → K { tmps := #[f 0, f 1, f 2, f 3, f 4, f 5, f 6, f 7, f 8, f 9, f 10, f 11, f 12, f 13, f 14, f 15, f 16, f 17, f 18, f 19, f 20, f 21, f 22, f 23, f 24, f 25, f 26, f 27, f 28, f 29, f 30, f 31, f 32, f 33, f 34, f 35, f 36, f 37, f 38, f 39, f 40, f 41, f 42, f 43, f 44, f 45, f 46, f 47, f 48, f 49, f 50, f 51, f 52, f 53, f 54, f 55, f 56, f 57, f 58, f 59, f 60, f 61, f 62, f 63, f 64, f 65, f 66, f 67, f 68, f 69, f 70, f 71, f 72, f 73, f 74, v, f 76, f 77, f 78, f 79, f 80, f 81, f 82, f 83, f 84, f 85, f 86, f 87, f 88, f 89, f 90, f 91, f 92, f 93, f 94, f 95, f 96, f 97, f 98, f 99, f 100, f 101, f 102, f 103, f 104, f 105, f 106, f 107, f 108, f 109, f 110, f 111, f 112, f 113, f 114, f 115, f 116, f 117, f 118, f 119, f 120, f 121, f 122, f 123, f 124, f 125, f 126, f 127, f 128, f 129, f 130, f 131, f 132], defers := [] } W' := hK
    change wpList _ #[_] _ [_] { tmps := #[f 0, f 1, f 2, f 3, f 4, f 5, f 6, f 7, f 8, f 9, f 10, f 11, f 12, f 13, f 14, f 15, f 16, f 17, f 18, f 19, f 20, f 21, f 22, f 23, f 24, f 25, f 26, f 27, f 28, f 29, f 30, f 31, f 32, f 33, f 34, f 35, f 36, f 37, f 38, f 39, f 40, f 41, f 42, f 43, f 44, f 45, f 46, f 47, f 48, f 49, f 50, f 51, f 52, f 53, f 54, f 55, f 56, f 57, f 58, f 59, f 60, f 61, f 62, f 63, f 64, f 65, f 66, f 67, f 68, f 69, f 70, f 71, f 72, f 73, f 74, f 75, f 76, f 77, f 78, f 79, f 80, f 81, f 82, f 83, f 84, f 85, f 86, f 87, f 88, f 89, f 90, f 91, f 92, f 93, f 94, f 95, f 96, f 97, f 98, f 99, f 100, f 101, f 102, f 103, f 104, f 105, f 106, f 107, f 108, f 109, f 110, f 111, f 112, f 113, f 114, f 115, f 116, f 117, f 118, f 119, f 120, f 121, f 122, f 123, f 124, f 125, f 126, f 127, f 128, f 129, f 130, f 131, f 132], defers := [] } W
    clear hK hd hold
    simp only [ze74] at HK ⊢
    clear ze74
    have HK := Aside.mk HK
    go_wp2_with (go_at_call 20; refine (ref_seal _ W HZS.out).mono ?_; rintro e w2 ⟨rfl, hb2⟩)
    exact HK.out _ _ hb2 rfl
  · -- 76 := move t0
    intro f W hW hold hd K hK
    have ze0 : f 0 = .string s := hold 0 rfl
    have HK : ∀ v W', Below W.heap.size W W' → tailV _ 76 v W' → K { tmps := #[f 0, f 1, f 2, f 3, f 4, f 5, f 6, f 7, f 8, f 9, f 10, f 11, f 12, f 13, f 14, f 15, f 16, f 17, f 18, f 19, f 20, f 21, f 22, f 23, f 24, f 25, f 26, f 27, f 28, f 29, f 30, f 31, f 32, f 33, f 34, f 35, f 36, f 37, f 38, f 39, f 40, f 41, f 42, f 43, f 44, f 45, f 46, f 47, f 48, f 49, f 50, f 51, f 52, f 53, f 54, f 55, f 56, f 57, f 58, f 59, f 60, f 61, f 62, f 63, f 64, f 65, f 66, f 67, f 68, f 69, f 70, f 71, f 72, f 73, f 74, f 75, v, f 77, f 78, f 79, f 80, f 81, f 82, f 83, f 84, f 85, f 86, f 87, f 88, f 89, f 90, f 91, f 92, f 93, f 94, f 95, f 96, f 97, f 98, f 99, f 100, f 101, f 102, f 103, f 104, f 105, f 106, f 107, f 108, f 109, f 110, f 111, f 112, f 113, f 114, f 115, f 116, f 117, f 118, f 119, f 120, f 121, f 122, f 123, f 124, f 125, f 126, f 127, f 128, f 129, f 130, f 131, f 132], defers := [] } W' := hK
    change wpList _ #[_] _ [_] { tmps := #[f 0, f 1, f 2, f 3, f 4, f 5, f 6, f 7, f 8, f 9, f 10, f 11, f 12, f 13, f 14, f 15, f 16, f 17, f 18, f 19, f 20, f 21, f 22, f 23, f 24, f 25, f 26, f 27, f 28, f 29, f 30, f 31, f 32, f 33, f 34, f 35, f 36, f 37, f 38, f 39, f 40, f 41, f 42, f 43, f 44, f 45, f 46, f 47, f 48, f 49, f 50, f 51, f 52, f 53, f 54, f 55, f 56, f 57, f 58, f 59, f 60, f 61, f 62, f 63, f 64, f 65, f 66, f 67, f 68, f 69, f 70, f 71, f 72, f 73, f 74, f 75, f 76, f 77, f 78, f 79, f 80, f 81, f 82, f 83, f 84, f 85, f 86, f 87, f 88, f 89, f 90, f 91, f 92, f 93, f 94, f 95, f 96, f 97, f 98, f 99, f 100, f 101, f 102, f 103, f 104, f 105, f 106, f 107, f 108, f 109, f 110, f 111, f 112, f 113, f 114, f 115, f 116, f 117, f 118, f 119, f 120, f 121, f 122, f 123, f 124, f 125, f 126, f 127, f 128, f 129, f 130, f 131, f 132], defers := [] } W
    clear hK hd hold
    simp only [ze0] at HK ⊢
    clear ze0
    have HK := Aside.mk HK
    go_wp2
    exact HK.out _ _ (Below.refl _ _) rfl
  · -- 77 := move t1
    intro f W hW hold hd K hK
    have ze1 : f 1 = .int .i64 n := hold 1 rfl
    have HK : ∀ v W', Below W.heap.size W W' → tailV _ 77 v W' → K { tmps := #[f 0, f 1, f 2, f 3, f 4, f 5, f 6, f 7, f 8, f 9, f 10, f 11, f 12, f 13, f 14, f 15, f 16, f 17, f 18, f 19, f 20, f 21, f 22, f 23, f 24, f 25, f 26, f 27, f 28, f 29, f 30, f 31, f 32, f 33, f 34, f 35, f 36, f 37, f 38, f 39, f 40, f 41, f 42, f 43, f 44, f 45, f 46, f 47, f 48, f 49, f 50, f 51, f 52, f 53, f 54, f 55, f 56, f 57, f 58, f 59, f 60, f 61, f 62, f 63, f 64, f 65, f 66, f 67, f 68, f 69, f 70, f 71, f 72, f 73, f 74, f 75, f 76, v, f 78, f 79, f 80, f 81, f 82, f 83, f 84, f 85, f 86, f 87, f 88, f 89, f 90, f 91, f 92, f 93, f 94, f 95, f 96, f 97, f 98, f 99, f 100, f 101, f 102, f 103, f 104, f 105, f 106, f 107, f 108, f 109, f 110, f 111, f 112, f 113, f 114, f 115, f 116, f 117, f 118, f 119, f 120, f 121, f 122, f 123, f 124, f 125, f 126, f 127, f 128, f 129, f 130, f 131, f 132], defers := [] } W' := hK
    change wpList _ #[_] _ [_] { tmps := #[f 0, f 1, f 2, f 3, f 4, f 5, f 6, f 7, f 8, f 9, f 10, f 11, f 12, f 13, f 14, f 15, f 16, f 17, f 18, f 19, f 20, f 21, f 22, f 23, f 24, f 25, f 26, f 27, f 28, f 29, f 30, f 31, f 32, f 33, f 34, f 35, f 36, f 37, f 38, f 39, f 40, f 41, f 42, f 43, f 44, f 45, f 46, f 47, f 48, f 49, f 50, f 51, f 52, f 53, f 54, f 55, f 56, f 57, f 58, f 59, f 60, f 61, f 62, f 63, f 64, f 65, f 66, f 67, f 68, f 69, f 70, f 71, f 72, f 73, f 74, f 75, f 76, f 77, f 78, f 79, f 80, f 81, f 82, f 83, f 84, f 85, f 86, f 87, f 88, f 89, f 90, f 91, f 92, f 93, f 94, f 95, f 96, f 97, f 98, f 99, f 100, f 101, f 102, f 103, f 104, f 105, f 106, f 107, f 108, f 109, f 110, f 111, f 112, f 113, f 114, f 115, f 116, f 117, f 118, f 119, f 120, f 121, f 122, f 123, f 124, f 125, f 126, f 127, f 128, f 129, f 130, f 131, f 132], defers := [] } W
    clear hK hd hold
    simp only [ze1] at HK ⊢
    clear ze1
    have HK := Aside.mk HK
    go_wp2
    exact HK.out _ _ (Below.refl _ _) rfl
  · -- 78 := move t9
    intro f W hW hold hd K hK
    have ze9 : f 9 = .int .i64 e9 := hold 9 rfl
    have HK : ∀ v W', Below W.heap.size W W' → tailV _ 78 v W' → K { tmps := #[f 0, f 1, f 2, f 3, f 4, f 5, f 6, f 7, f 8, f 9, f 10, f 11, f 12, f 13, f 14, f 15, f 16, f 17, f 18, f 19, f 20, f 21, f 22, f 23, f 24, f 25, f 26, f 27, f 28, f 29, f 30, f 31, f 32, f 33, f 34, f 35, f 36, f 37, f 38, f 39, f 40, f 41, f 42, f 43, f 44, f 45, f 46, f 47, f 48, f 49, f 50, f 51, f 52, f 53, f 54, f 55, f 56, f 57, f 58, f 59, f 60, f 61, f 62, f 63, f 64, f 65, f 66, f 67, f 68, f 69, f 70, f 71, f 72, f 73, f 74, f 75, f 76, f 77, v, f 79, f 80, f 81, f 82, f 83, f 84, f 85, f 86, f 87, f 88, f 89, f 90, f 91, f 92, f 93, f 94, f 95, f 96, f 97, f 98, f 99, f 100, f 101, f 102, f 103, f 104, f 105, f 106, f 107, f 108, f 109, f 110, f 111, f 112, f 113, f 114, f 115, f 116, f 117, f 118, f 119, f 120, f 121, f 122, f 123, f 124, f 125, f 126, f 127, f 128, f 129, f 130, f 131, f 132], defers := [] } W' := hK
    change wpList _ #[_] _ [_] { tmps := #[f 0, f 1, f 2, f 3, f 4, f 5, f 6, f 7, f 8, f 9, f 10, f 11, f 12, f 13, f 14, f 15, f 16, f 17, f 18, f 19, f 20, f 21, f 22, f 23, f 24, f 25, f 26, f 27, f 28, f 29, f 30, f 31, f 32, f 33, f 34, f 35, f 36, f 37, f 38, f 39, f 40, f 41, f 42, f 43, f 44, f 45, f 46, f 47, f 48, f 49, f 50, f 51, f 52, f 53, f 54, f 55, f 56, f 57, f 58, f 59, f 60, f 61, f 62, f 63, f 64, f 65, f 66, f 67, f 68, f 69, f 70, f 71, f 72, f 73, f 74, f 75, f 76, f 77, f 78, f 79, f 80, f 81, f 82, f 83, f 84, f 85, f 86, f 87, f 88, f 89, f 90, f 91, f 92, f 93, f 94, f 95, f 96, f 97, f 98, f 99, f 100, f 101, f 102, f 103, f 104, f 105, f 106, f 107, f 108, f 109, f 110, f 111, f 112, f 113, f 114, f 115, f 116, f 117, f 118, f 119, f 120, f 121, f 122, f 123, f 124, f 125, f 126, f 127, f 128, f 129, f 130, f 131, f 132], defers := [] } W
    clear hK hd hold
    simp only [ze9] at HK ⊢
    clear ze9
    have HK := Aside.mk HK
    go_wp2
    exact HK.out _ _ (Below.refl _ _) rfl
  · -- 79 := binOp add 3 t78 <i64 4> 3
    intro f W hW hold hd K hK
    have ze78 : f 78 = .int .i64 e9 := hd 78 rfl rfl
    have HK : ∀ v W', Below W.heap.size W W' → tailV _ 79 v W' → K { tmps := #[f 0, f 1, f 2, f 3, f 4, f 5, f 6, f 7, f 8, f 9, f 10, f 11, f 12, f 13, f 14, f 15, f 16, f 17, f 18, f 19, f 20, f 21, f 22, f 23, f 24, f 25, f 26, f 27, f 28, f 29, f 30, f 31, f 32, f 33, f 34, f 35, f 36, f 37, f 38, f 39, f 40, f 41, f 42, f 43, f 44, f 45, f 46, f 47, f 48, f 49, f 50, f 51, f 52, f 53, f 54, f 55, f 56, f 57, f 58, f 59, f 60, f 61, f 62, f 63, f 64, f 65, f 66, f 67, f 68, f 69, f 70, f 71, f 72, f 73, f 74, f 75, f 76, f 77, f 78, v, f 80, f 81, f 82, f 83, f 84, f 85, f 86, f 87, f 88, f 89, f 90, f 91, f 92, f 93, f 94, f 95, f 96, f 97, f 98, f 99, f 100, f 101, f 102, f 103, f 104, f 105, f 106, f 107, f 108, f 109, f 110, f 111, f 112, f 113, f 114, f 115, f 116, f 117, f 118, f 119, f 120, f 121, f 122, f 123, f 124, f 125, f 126, f 127, f 128, f 129, f 130, f 131, f 132], defers := [] } W' := hK
    change wpList _ #[_] _ [_] { tmps := #[f 0, f 1, f 2, f 3, f 4, f 5, f 6, f 7, f 8, f 9, f 10, f 11, f 12, f 13, f 14, f 15, f 16, f 17, f 18, f 19, f 20, f 21, f 22, f 23, f 24, f 25, f 26, f 27, f 28, f 29, f 30, f 31, f 32, f 33, f 34, f 35, f 36, f 37, f 38, f 39, f 40, f 41, f 42, f 43, f 44, f 45, f 46, f 47, f 48, f 49, f 50, f 51, f 52, f 53, f 54, f 55, f 56, f 57, f 58, f 59, f 60, f 61, f 62, f 63, f 64, f 65, f 66, f 67, f 68, f 69, f 70, f 71, f 72, f 73, f 74, f 75, f 76, f 77, f 78, f 79, f 80, f 81, f 82, f 83, f 84, f 85, f 86, f 87, f 88, f 89, f 90, f 91, f 92, f 93, f 94, f 95, f 96, f 97, f 98, f 99, f 100, f 101, f 102, f 103, f 104, f 105, f 106, f 107, f 108, f 109, f 110, f 111, f 112, f 113, f 114, f 115, f 116, f 117, f 118, f 119, f 120, f 121, f 122, f 123, f 124, f 125, f 126, f 127, f 128, f 129, f 130, f 131, f 132], defers := [] } W
    clear hK hd hold
    simp only [ze78] at HK ⊢
    clear ze78
    have HK := Aside.mk HK
    go_wp2
    exact HK.out _ _ (Below.refl _ _) rfl
  · -- 80 := slice 9 t76 t77 t79 -
    intro f W hW hold hd K hK
    have ze76 : f 76 = .string s := hd 76 rfl rfl
    have ze77 : f 77 = .int .i64 n := hd 77 rfl rfl
    have ze79 : f 79 = .int .i64 e4 := hd 79 rfl rfl
    have HK : ∀ v W', Below W.heap.size W W' → tailV _ 80 v W' → K { tmps := #[f 0, f 1, f 2, f 3, f 4, f 5, f 6, f 7, f 8, f 9, f 10, f 11, f 12, f 13, f 14, f 15, f 16, f 17, f 18, f 19, f 20, f 21, f 22, f 23, f 24, f 25, f 26, f 27, f 28, f 29, f 30, f 31, f 32, f 33, f 34, f 35, f 36, f 37, f 38, f 39, f 40, f 41, f 42, f 43, f 44, f 45, f 46, f 47, f 48, f 49, f 50, f 51, f 52, f 53, f 54, f 55, f 56, f 57, f 58, f 59, f 60, f 61, f 62, f 63, f 64, f 65, f 66, f 67, f 68, f 69, f 70, f 71, f 72, f 73, f 74, f 75, f 76, f 77, f 78, f 79, v, f 81, f 82, f 83, f 84, f 85, f 86, f 87, f 88, f 89, f 90, f 91, f 92, f 93, f 94, f 95, f 96, f 97, f 98, f 99, f 100, f 101, f 102, f 103, f 104, f 105, f 106, f 107, f 108, f 109, f 110, f 111, f 112, f 113, f 114, f 115, f 116, f 117, f 118, f 119, f 120, f 121, f 122, f 123, f 124, f 125, f 126, f 127, f 128, f 129, f 130, f 131, f 132], defers := [] } W' := hK
    change wpList _ #[_] _ [_] { tmps := #[f 0, f 1, f 2, f 3, f 4, f 5, f 6, f 7, f 8, f 9, f 10, f 11, f 12, f 13, f 14, f 15, f 16, f 17, f 18, f 19, f 20, f 21, f 22, f 23, f 24, f 25, f 26, f 27, f 28, f 29, f 30, f 31, f 32, f 33, f 34, f 35, f 36, f 37, f 38, f 39, f 40, f 41, f 42, f 43, f 44, f 45, f 46, f 47, f 48, f 49, f 50, f 51, f 52, f 53, f 54, f 55, f 56, f 57, f 58, f 59, f 60, f 61, f 62, f 63, f 64, f 65, f 66, f 67, f 68, f 69, f 70, f 71, f 72, f 73, f 74, f 75, f 76, f 77, f 78, f 79, f 80, f 81, f 82, f 83, f 84, f 85, f 86, f 87, f 88, f 89, f 90, f 91, f 92, f 93, f 94, f 95, f 96, f 97, f 98, f 99, f 100, f 101, f 102, f 103, f 104, f 105, f 106, f 107, f 108, f 109, f 110, f 111, f 112, f 113, f 114, f 115, f 116, f 117, f 118, f 119, f 120, f 121, f 122, f 123, f 124, f 125, f 126, f 127, f 128, f 129, f 130, f 131, f 132], defers := [] } W
    clear hK hd hold
    simp only [ze76, ze77, ze79] at HK ⊢
    clear ze76 ze77 ze79
    have HK := Aside.mk HK
    go_wp2
    exact HK.out _ _ (Below.refl _ _) rfl
  · -- 81 := binOp neq 9 t75 t80 9
    intro f W hW hold hd K hK
    have ze75 : f 75 = .string (sealed (s.extract n e9)) := hd 75 rfl rfl
    have ze80 : f 80 = .string (s.extract n e4) := hd 80 rfl rfl
    have HK : ∀ v W', Below W.heap.size W W' → tailV _ 81 v W' → K { tmps := #[f 0, f 1, f 2, f 3, f 4, f 5, f 6, f 7, f 8, f 9, f 10, f 11, f 12, f 13, f 14, f 15, f 16, f 17, f 18, f 19, f 20, f 21, f 22, f 23, f 24, f 25, f 26, f 27, f 28, f 29, f 30, f 31, f 32, f 33, f 34, f 35, f 36, f 37, f 38, f 39, f 40, f 41, f 42, f 43, f 44, f 45, f 46, f 47, f 48, f 49, f 50, f 51, f 52, f 53, f 54, f 55, f 56, f 57, f 58, f 59, f 60, f 61, f 62, f 63, f 64, f 65, f 66, f 67, f 68, f 69, f 70, f 71, f 72, f 73, f 74, f 75, f 76, f 77, f 78, f 79, f 80, v, f 82, f 83, f 84, f 85, f 86, f 87, f 88, f 89, f 90, f 91, f 92, f 93, f 94, f 95, f 96, f 97, f 98, f 99, f 100, f 101, f 102, f 103, f 104, f 105, f 106, f 107, f 108, f 109, f 110, f 111, f 112, f 113, f 114, f 115, f 116, f 117, f 118, f 119, f 120, f 121, f 122, f 123, f 124, f 125, f 126, f 127, f 128, f 129, f 130, f 131, f 132], defers := [] } W' := hK
    change wpList _ #[_] _ [_] { tmps := #[f 0, f 1, f 2, f 3, f 4, f 5, f 6, f 7, f 8, f 9, f 10, f 11, f 12, f 13, f 14, f 15, f 16, f 17, f 18, f 19, f 20, f 21, f 22, f 23, f 24, f 25, f 26, f 27, f 28, f 29, f 30, f 31, f 32, f 33, f 34, f 35, f 36, f 37, f 38, f 39, f 40, f 41, f 42, f 43, f 44, f 45, f 46, f 47, f 48, f 49, f 50, f 51, f 52, f 53, f 54, f 55, f 56, f 57, f 58, f 59, f 60, f 61, f 62, f 63, f 64, f 65, f 66, f 67, f 68, f 69, f 70, f 71, f 72, f 73, f 74, f 75, f 76, f 77, f 78, f 79, f 80, f 81, f 82, f 83, f 84, f 85, f 86, f 87, f 88, f 89, f 90, f 91, f 92, f 93, f 94, f 95, f 96, f 97, f 98, f 99, f 100, f 101, f 102, f 103, f 104, f 105, f 106, f 107, f 108, f 109, f 110, f 111, f 112, f 113, f 114, f 115, f 116, f 117, f 118, f 119, f 120, f 121, f 122, f 123, f 124, f 125, f 126, f 127, f 128, f 129, f 130, f 131, f 132], defers := [] } W
    clear hK hd hold
    simp only [ze75, ze80] at HK ⊢
    clear ze75 ze80
    have HK := Aside.mk HK
    go_wp2
    refine HK.out _ _ (Below.refl _ _) ?_
    change _ = Value.bool (!ok)
    rw [str_eq, HOP.out]
  · intro f W hW hold hd aa ha
    replace ha : aa = { tmps := #[f 0, f 1, f 2, f 3, f 4, f 5, f 6, f 7, f 8, f 9, f 10, f 11, f 12, f 13, f 14, f 15, f 16, f 17, f 18, f 19, f 20, f 21, f 22, f 23, f 24, f 25, f 26, f 27, f 28, f 29, f 30, f 31, f 32, f 33, f 34, f 35, f 36, f 37, f 38, f 39, f 40, f 41, f 42, f 43, f 44, f 45, f 46, f 47, f 48, f 49, f 50, f 51, f 52, f 53, f 54, f 55, f 56, f 57, f 58, f 59, f 60, f 61, f 62, f 63, f 64, f 65, f 66, f 67, f 68, f 69, f 70, f 71, f 72, f 73, f 74, f 75, f 76, f 77, f 78, f 79, f 80, f 81, f 82, f 83, f 84, f 85, f 86, f 87, f 88, f 89, f 90, f 91, f 92, f 93, f 94, f 95, f 96, f 97, f 98, f 99, f 100, f 101, f 102, f 103, f 104, f 105, f 106, f 107, f 108, f 109, f 110, f 111, f 112, f 113, f 114, f 115, f 116, f 117, f 118, f 119, f 120, f 121, f 122, f 123, f 124, f 125, f 126, f 127, f 128, f 129, f 130, f 131, f 132], defers := [] } := ha
    have ze0 : f 0 = .string s := hold 0 rfl
    have ze1 : f 1 = .int .i64 n := hold 1 rfl
    have ze4 : f 4 = .pointer (some ⟨w.heap.size, 0, none⟩) := hold 4 rfl
    have ze5 : f 5 = .int .i64 0 := hold 5 rfl
    have ze6 : f 6 = .int .i64 0 := hold 6 rfl
    have ze7 : f 7 = .int .i64 k := hold 7 rfl
    have ze8 : f 8 = .int .i64 v := hold 8 rfl
    have ze9 : f 9 = .int .i64 e9 := hold 9 rfl
    have ze71 : f 71 = .string s := hd 71 rfl
    have ze72 : f 72 = .int .i64 n := hd 72 rfl
    have ze73 : f 73 = .int .i64 e9 := hd 73 rfl
    have ze74 : f 74 = .string (s.extract n e9) := hd 74 rfl
    have ze75 : f 75 = .string (sealed (s.extract n e9)) := hd 75 rfl
    have ze76 : f 76 = .string s := hd 76 rfl
    have ze77 : f 77 = .int .i64 n := hd 77 rfl
    have ze78 : f 78 = .int .i64 e9 := hd 78 rfl
    have ze79 : f 79 = .int .i64 e4 := hd 79 rfl
    have ze80 : f 80 = .string (s.extract n e4) := hd 80 rfl
    have ze81 : f 81 = .bool (!ok) := hd 81 rfl
    simp only [ze0, ze1, ze4, ze5, ze6, ze7, ze8, ze9, ze71, ze72, ze73, ze74, ze75, ze76, ze77, ze78, ze79, ze80, ze81] at ha
    subst ha
    clear hold hd ze0 ze1 ze4 ze5 ze6 ze7 ze8 ze9 ze71 ze72 ze73 ze74 ze75 ze76 ze77 ze78 ze79 ze80 ze81
    have g0 := (hW.block _ H0.out.2.1).trans H0.out.1
    have gb := H0.out.2.2.trans (hW.mono (Nat.le_of_lt H0.out.2.1))
    have gl := Nat.lt_of_lt_of_le H0.out.2.1 hW.size
    have H2 := Aside.mk (And.intro g0 (And.intro gl gb))
    clear g0 gl gb H1 hW HZS HOP H0
    cases ok
    · have HR2 := HR3.out rfl
      obtain ⟨c0, d0⟩ := row_cell (H2.out.1) 0 (v := .int .i64 0) rfl
      obtain ⟨c1, d1⟩ := row_cell (H2.out.1) 1 (v := .bool false) rfl
      obtain ⟨c2, d2⟩ := row_cell (H2.out.1) 2 (v := .bool false) rfl
      obtain ⟨c3, d3⟩ := row_cell (H2.out.1) 3 (v := .string ⟨#[]⟩) rfl
      obtain ⟨c4, d4⟩ := row_cell (H2.out.1) 4 (v := .string ⟨#[]⟩) rfl
      have HG := H2
      go_wp2
      have hf5 := fin5 (HG.out.1) 0 false false ⟨#[]⟩ ⟨#[]⟩
      have hbl := below_set5 (HG.out.2.2) w.heap.size (Nat.le_refl _) (.int .i64 0) (.bool false) (.bool false) (.string ⟨#[]⟩) (.string ⟨#[]⟩)
      clear c0 c1 c2 c3 c4 d0 d1 d2 d3 d4
      obtain ⟨qq0, _⟩ := row_cell hf5 0 (v := .int .i64 0) rfl
      obtain ⟨qq1, _⟩ := row_cell hf5 1 (v := .bool false) rfl
      obtain ⟨qq2, _⟩ := row_cell hf5 2 (v := .bool false) rfl
      obtain ⟨qq3, _⟩ := row_cell hf5 3 (v := .string ⟨#[]⟩) rfl
      obtain ⟨qq4, _⟩ := row_cell hf5 4 (v := .string ⟨#[]⟩) rfl
      exact bodyPost_ret (v := decE 61) (by simp [results, Tryd.results13, go_sem, qq0, qq1, qq2, qq3, qq4]) rfl ⟨ret_eq HR2, hbl⟩
    generalize W = w2 at *
    have H0 := H2
    clear H2
    go_upto_region 16 with fail
    refine wp_region_tail (by kernel_rfl) (by kernel_rfl) (rel_small (by kernel_rfl)) (tailV [(10, .own (nodeC 0 false false ⟨#[]⟩ ⟨#[]⟩) 32 w2.heap.size), (83, .val (.string s)), (84, .val (.int .i64 n)), (85, .val (.int .i64 i2)), (86, .val (.int .i64 n)), (87, .val (.int .i64 i10)), (88, .val (.string (s.extract i2 i10))), (89, .val (.int .i64 q2)), (90, .val (.string s)), (91, .val (.int .i64 n)), (92, .val (.int .i64 i1)), (93, .val (.int .u8 f1)), (94, .val (.int .u8 ((f1 % 2 : Nat) : Int))), (95, .val (.bool g)), (96, .val (.string s)), (97, .val (.int .i64 n)), (98, .val (.int .i64 i1)), (99, .val (.int .u8 f1)), (100, .val (.int .u8 ((f1 / 2 : Nat) : Int))), (101, .val (.int .u8 ((f1 / 2 % 2 : Nat) : Int))), (102, .val (.bool l)), (103, .val (.string s)), (104, .val (.int .i64 n)), (105, .val (.int .i64 i13)), (106, .val (.int .i64 n)), (107, .val (.int .i64 i13)), (108, .val (.int .i64 k)), (109, .val (.int .i64 e0)), (110, .val (.string kx)), (111, .val (.string s)), (112, .val (.int .i64 n)), (113, .val (.int .i64 i13)), (114, .val (.int .i64 k)), (115, .val (.int .i64 e0)), (116, .val (.int .i64 e9)), (117, .val (.string vx)), (118, .val (nodeV q2 g l kx vx))]) (tailV_stable _) ⟨?_, ?_, ?_, ?_, ?_, ?_, ?_, ?_, ?_, ?_, ?_, ?_, ?_, ?_, ?_, ?_, ?_, ?_, ?_, ?_, ?_, ?_, ?_, ?_, ?_, ?_, ?_, ?_, ?_, ?_, ?_, ?_, ?_, ?_, ?_, ?_, ?_, ?_⟩
    · -- 83 := move t0
      intro f W hW hold hd K hK
      have ze0 : f 0 = .string s := hold 0 rfl
      have HK : ∀ v W', Below W.heap.size W W' → tailV _ 83 v W' → K { tmps := #[f 0, f 1, f 2, f 3, f 4, f 5, f 6, f 7, f 8, f 9, f 10, f 11, f 12, f 13, f 14, f 15, f 16, f 17, f 18, f 19, f 20, f 21, f 22, f 23, f 24, f 25, f 26, f 27, f 28, f 29, f 30, f 31, f 32, f 33, f 34, f 35, f 36, f 37, f 38, f 39, f 40, f 41, f 42, f 43, f 44, f 45, f 46, f 47, f 48, f 49, f 50, f 51, f 52, f 53, f 54, f 55, f 56, f 57, f 58, f 59, f 60, f 61, f 62, f 63, f 64, f 65, f 66, f 67, f 68, f 69, f 70, f 71, f 72, f 73, f 74, f 75, f 76, f 77, f 78, f 79, f 80, f 81, f 82, v, f 84, f 85, f 86, f 87, f 88, f 89, f 90, f 91, f 92, f 93, f 94, f 95, f 96, f 97, f 98, f 99, f 100, f 101, f 102, f 103, f 104, f 105, f 106, f 107, f 108, f 109, f 110, f 111, f 112, f 113, f 114, f 115, f 116, f 117, f 118, f 119, f 120, f 121, f 122, f 123, f 124, f 125, f 126, f 127, f 128, f 129, f 130, f 131, f 132], defers := [] } W' := hK
      change wpList _ #[_] _ [_] { tmps := #[f 0, f 1, f 2, f 3, f 4, f 5, f 6, f 7, f 8, f 9, f 10, f 11, f 12, f 13, f 14, f 15, f 16, f 17, f 18, f 19, f 20, f 21, f 22, f 23, f 24, f 25, f 26, f 27, f 28, f 29, f 30, f 31, f 32, f 33, f 34, f 35, f 36, f 37, f 38, f 39, f 40, f 41, f 42, f 43, f 44, f 45, f 46, f 47, f 48, f 49, f 50, f 51, f 52, f 53, f 54, f 55, f 56, f 57, f 58, f 59, f 60, f 61, f 62, f 63, f 64, f 65, f 66, f 67, f 68, f 69, f 70, f 71, f 72, f 73, f 74, f 75, f 76, f 77, f 78, f 79, f 80, f 81, f 82, f 83, f 84, f 85, f 86, f 87, f 88, f 89, f 90, f 91, f 92, f 93, f 94, f 95, f 96, f 97, f 98, f 99, f 100, f 101, f 102, f 103, f 104, f 105, f 106, f 107, f 108, f 109, f 110, f 111, f 112, f 113, f 114, f 115, f 116, f 117, f 118, f 119, f 120, f 121, f 122, f 123, f 124, f 125, f 126, f 127, f 128, f 129, f 130, f 131, f 132], defers := [] } W
      clear hK hd hold
      simp only [ze0] at HK ⊢
      clear ze0
      have HK := Aside.mk HK
      go_wp2
      exact HK.out _ _ (Below.refl _ _) rfl
    · -- 84 := move t1
      intro f W hW hold hd K hK
      have ze1 : f 1 = .int .i64 n := hold 1 rfl
      have HK : ∀ v W', Below W.heap.size W W' → tailV _ 84 v W' → K { tmps := #[f 0, f 1, f 2, f 3, f 4, f 5, f 6, f 7, f 8, f 9, f 10, f 11, f 12, f 13, f 14, f 15, f 16, f 17, f 18, f 19, f 20, f 21, f 22, f 23, f 24, f 25, f 26, f 27, f 28, f 29, f 30, f 31, f 32, f 33, f 34, f 35, f 36, f 37, f 38, f 39, f 40, f 41, f 42, f 43, f 44, f 45, f 46, f 47, f 48, f 49, f 50, f 51, f 52, f 53, f 54, f 55, f 56, f 57, f 58, f 59, f 60, f 61, f 62, f 63, f 64, f 65, f 66, f 67, f 68, f 69, f 70, f 71, f 72, f 73, f 74, f 75, f 76, f 77, f 78, f 79, f 80, f 81, f 82, f 83, v, f 85, f 86, f 87, f 88, f 89, f 90, f 91, f 92, f 93, f 94, f 95, f 96, f 97, f 98, f 99, f 100, f 101, f 102, f 103, f 104, f 105, f 106, f 107, f 108, f 109, f 110, f 111, f 112, f 113, f 114, f 115, f 116, f 117, f 118, f 119, f 120, f 121, f 122, f 123, f 124, f 125, f 126, f 127, f 128, f 129, f 130, f 131, f 132], defers := [] } W' := hK
      change wpList _ #[_] _ [_] { tmps := #[f 0, f 1, f 2, f 3, f 4, f 5, f 6, f 7, f 8, f 9, f 10, f 11, f 12, f 13, f 14, f 15, f 16, f 17, f 18, f 19, f 20, f 21, f 22, f 23, f 24, f 25, f 26, f 27, f 28, f 29, f 30, f 31, f 32, f 33, f 34, f 35, f 36, f 37, f 38, f 39, f 40, f 41, f 42, f 43, f 44, f 45, f 46, f 47, f 48, f 49, f 50, f 51, f 52, f 53, f 54, f 55, f 56, f 57, f 58, f 59, f 60, f 61, f 62, f 63, f 64, f 65, f 66, f 67, f 68, f 69, f 70, f 71, f 72, f 73, f 74, f 75, f 76, f 77, f 78, f 79, f 80, f 81, f 82, f 83, f 84, f 85, f 86, f 87, f 88, f 89, f 90, f 91, f 92, f 93, f 94, f 95, f 96, f 97, f 98, f 99, f 100, f 101, f 102, f 103, f 104, f 105, f 106, f 107, f 108, f 109, f 110, f 111, f 112, f 113, f 114, f 115, f 116, f 117, f 118, f 119, f 120, f 121, f 122, f 123, f 124, f 125, f 126, f 127, f 128, f 129, f 130, f 131, f 132], defers := [] } W
      clear hK hd hold
      simp only [ze1] at HK ⊢
      clear ze1
      have HK := Aside.mk HK
      go_wp2
      exact HK.out _ _ (Below.refl _ _) rfl
    · -- 85 := binOp add 3 t84 <i64 2> 3
      intro f W hW hold hd K hK
      have ze84 : f 84 = .int .i64 n := hd 84 rfl rfl
      have HK : ∀ v W', Below W.heap.size W W' → tailV _ 85 v W' → K { tmps := #[f 0, f 1, f 2, f 3, f 4, f 5, f 6, f 7, f 8, f 9, f 10, f 11, f 12, f 13, f 14, f 15, f 16, f 17, f 18, f 19, f 20, f 21, f 22, f 23, f 24, f 25, f 26, f 27, f 28, f 29, f 30, f 31, f 32, f 33, f 34, f 35, f 36, f 37, f 38, f 39, f 40, f 41, f 42, f 43, f 44, f 45, f 46, f 47, f 48, f 49, f 50, f 51, f 52, f 53, f 54, f 55, f 56, f 57, f 58, f 59, f 60, f 61, f 62, f 63, f 64, f 65, f 66, f 67, f 68, f 69, f 70, f 71, f 72, f 73, f 74, f 75, f 76, f 77, f 78, f 79, f 80, f 81, f 82, f 83, f 84, v, f 86, f 87, f 88, f 89, f 90, f 91, f 92, f 93, f 94, f 95, f 96, f 97, f 98, f 99, f 100, f 101, f 102, f 103, f 104, f 105, f 106, f 107, f 108, f 109, f 110, f 111, f 112, f 113, f 114, f 115, f 116, f 117, f 118, f 119, f 120, f 121, f 122, f 123, f 124, f 125, f 126, f 127, f 128, f 129, f 130, f 131, f 132], defers := [] } W' := hK
      change wpList _ #[_] _ [_] { tmps := #[f 0, f 1, f 2, f 3, f 4, f 5, f 6, f 7, f 8, f 9, f 10, f 11, f 12, f 13, f 14, f 15, f 16, f 17, f 18, f 19, f 20, f 21, f 22, f 23, f 24, f 25, f 26, f 27, f 28, f 29, f 30, f 31, f 32, f 33, f 34, f 35, f 36, f 37, f 38, f 39, f 40, f 41, f 42, f 43, f 44, f 45, f 46, f 47, f 48, f 49, f 50, f 51, f 52, f 53, f 54, f 55, f 56, f 57, f 58, f 59, f 60, f 61, f 62, f 63, f 64, f 65, f 66, f 67, f 68, f 69, f 70, f 71, f 72, f 73, f 74, f 75, f 76, f 77, f 78, f 79, f 80, f 81, f 82, f 83, f 84, f 85, f 86, f 87, f 88, f 89, f 90, f 91, f 92, f 93, f 94, f 95, f 96, f 97, f 98, f 99, f 100, f 101, f 102, f 103, f 104, f 105, f 106, f 107, f 108, f 109, f 110, f 111, f 112, f 113, f 114, f 115, f 116, f 117, f 118, f 119, f 120, f 121, f 122, f 123, f 124, f 125, f 126, f 127, f 128, f 129, f 130, f 131, f 132], defers := [] } W
      clear hK hd hold
      simp only [ze84] at HK ⊢
      clear ze84
      have HK := Aside.mk HK
      go_wp2
      exact HK.out _ _ (Below.refl _ _) rfl
    · -- 86 := move t1
      intro f W hW hold hd K hK
      have ze1 : f 1 = .int .i64 n := hold 1 rfl
      have HK : ∀ v W', Below W.heap.size W W' → tailV _ 86 v W' → K { tmps := #[f 0, f 1, f 2, f 3, f 4, f 5, f 6, f 7, f 8, f 9, f 10, f 11, f 12, f 13, f 14, f 15, f 16, f 17, f 18, f 19, f 20, f 21, f 22, f 23, f 24, f 25, f 26, f 27, f 28, f 29, f 30, f 31, f 32, f 33, f 34, f 35, f 36, f 37, f 38, f 39, f 40, f 41, f 42, f 43, f 44, f 45, f 46, f 47, f 48, f 49, f 50, f 51, f 52, f 53, f 54, f 55, f 56, f 57, f 58, f 59, f 60, f 61, f 62, f 63, f 64, f 65, f 66, f 67, f 68, f 69, f 70, f 71, f 72, f 73, f 74, f 75, f 76, f 77, f 78, f 79, f 80, f 81, f 82, f 83, f 84, f 85, v, f 87, f 88, f 89, f 90, f 91, f 92, f 93, f 94, f 95, f 96, f 97, f 98, f 99, f 100, f 101, f 102, f 103, f 104, f 105, f 106, f 107, f 108, f 109, f 110, f 111, f 112, f 113, f 114, f 115, f 116, f 117, f 118, f 119, f 120, f 121, f 122, f 123, f 124, f 125, f 126, f 127, f 128, f 129, f 130, f 131, f 132], defers := [] } W' := hK
      change wpList _ #[_] _ [_] { tmps := #[f 0, f 1, f 2, f 3, f 4, f 5, f 6, f 7, f 8, f 9, f 10, f 11, f 12, f 13, f 14, f 15, f 16, f 17, f 18, f 19, f 20, f 21, f 22, f 23, f 24, f 25, f 26, f 27, f 28, f 29, f 30, f 31, f 32, f 33, f 34, f 35, f 36, f 37, f 38, f 39, f 40, f 41, f 42, f 43, f 44, f 45, f 46, f 47, f 48, f 49, f 50, f 51, f 52, f 53, f 54, f 55, f 56, f 57, f 58, f 59, f 60, f 61, f 62, f 63, f 64, f 65, f 66, f 67, f 68, f 69, f 70, f 71, f 72, f 73, f 74, f 75, f 76, f 77, f 78, f 79, f 80, f 81, f 82, f 83, f 84, f 85, f 86, f 87, f 88, f 89, f 90, f 91, f 92, f 93, f 94, f 95, f 96, f 97, f 98, f 99, f 100, f 101, f 102, f 103, f 104, f 105, f 106, f 107, f 108, f 109, f 110, f 111, f 112, f 113, f 114, f 115, f 116, f 117, f 118, f 119, f 120, f 121, f 122, f 123, f 124, f 125, f 126, f 127, f 128, f 129, f 130, f 131, f 132], defers := [] } W
      clear hK hd hold
      simp only [ze1] at HK ⊢
      clear ze1
      have HK := Aside.mk HK
      go_wp2
      exact HK.out _ _ (Below.refl _ _) rfl
    · -- 87 := binOp add 3 t86 <i64 10> 3
      intro f W hW hold hd K hK
      have ze86 : f 86 = .int .i64 n := hd 86 rfl rfl
      have HK : ∀ v W', Below W.heap.size W W' → tailV _ 87 v W' → K { tmps := #[f 0, f 1, f 2, f 3, f 4, f 5, f 6, f 7, f 8, f 9, f 10, f 11, f 12, f 13, f 14, f 15, f 16, f 17, f 18, f 19, f 20, f 21, f 22, f 23, f 24, f 25, f 26, f 27, f 28, f 29, f 30, f 31, f 32, f 33, f 34, f 35, f 36, f 37, f 38, f 39, f 40, f 41, f 42, f 43, f 44, f 45, f 46, f 47, f 48, f 49, f 50, f 51, f 52, f 53, f 54, f 55, f 56, f 57, f 58, f 59, f 60, f 61, f 62, f 63, f 64, f 65, f 66, f 67, f 68, f 69, f 70, f 71, f 72, f 73, f 74, f 75, f 76, f 77, f 78, f 79, f 80, f 81, f 82, f 83, f 84, f 85, f 86, v, f 88, f 89, f 90, f 91, f 92, f 93, f 94, f 95, f 96, f 97, f 98, f 99, f 100, f 101, f 102, f 103, f 104, f 105, f 106, f 107, f 108, f 109, f 110, f 111, f 112, f 113, f 114, f 115, f 116, f 117, f 118, f 119, f 120, f 121, f 122, f 123, f 124, f 125, f 126, f 127, f 128, f 129, f 130, f 131, f 132], defers := [] } W' := hK
      change wpList _ #[_] _ [_] { tmps := #[f 0, f 1, f 2, f 3, f 4, f 5, f 6, f 7, f 8, f 9, f 10, f 11, f 12, f 13, f 14, f 15, f 16, f 17, f 18, f 19, f 20, f 21, f 22, f 23, f 24, f 25, f 26, f 27, f 28, f 29, f 30, f 31, f 32, f 33, f 34, f 35, f 36, f 37, f 38, f 39, f 40, f 41, f 42, f 43, f 44, f 45, f 46, f 47, f 48, f 49, f 50, f 51, f 52, f 53, f 54, f 55, f 56, f 57, f 58, f 59, f 60, f 61, f 62, f 63, f 64, f 65, f 66, f 67, f 68, f 69, f 70, f 71, f 72, f 73, f 74, f 75, f 76, f 77, f 78, f 79, f 80, f 81, f 82, f 83, f 84, f 85, f 86, f 87, f 88, f 89, f 90, f 91, f 92, f 93, f 94, f 95, f 96, f 97, f 98, f 99, f 100, f 101, f 102, f 103, f 104, f 105, f 106, f 107, f 108, f 109, f 110, f 111, f 112, f 113, f 114, f 115, f 116, f 117, f 118, f 119, f 120, f 121, f 122, f 123, f 124, f 125, f 126, f 127, f 128, f 129, f 130, f 131, f 132], defers := [] } W
      clear hK hd hold
      simp only [ze86] at HK ⊢
      clear ze86
      have HK := Aside.mk HK
      go_wp2
      exact HK.out _ _ (Below.refl _ _) rfl
    · -- 88 := slice 9 t83 t85 t87 -
      intro f W hW hold hd K hK
      have ze83 : f 83 = .string s := hd 83 rfl rfl
      have ze85 : f 85 = .int .i64 i2 := hd 85 rfl rfl
      have ze87 : f 87 = .int .i64 i10 := hd 87 rfl rfl
      have HK : ∀ v W', Below W.heap.size W W' → tailV _ 88 v W' → K { tmps := #[f 0, f 1, f 2, f 3, f 4, f 5, f 6, f 7, f 8, f 9, f 10, f 11, f 12, f 13, f 14, f 15, f 16, f 17, f 18, f 19, f 20, f 21, f 22, f 23, f 24, f 25, f 26, f 27, f 28, f 29, f 30, f 31, f 32, f 33, f 34, f 35, f 36, f 37, f 38, f 39, f 40, f 41, f 42, f 43, f 44, f 45, f 46, f 47, f 48, f 49, f 50, f 51, f 52, f 53, f 54, f 55, f 56, f 57, f 58, f 59, f 60, f 61, f 62, f 63, f 64, f 65, f 66, f 67, f 68, f 69, f 70, f 71, f 72, f 73, f 74, f 75, f 76, f 77, f 78, f 79, f 80, f 81, f 82, f 83, f 84, f 85, f 86, f 87, v, f 89, f 90, f 91, f 92, f 93, f 94, f 95, f 96, f 97, f 98, f 99, f 100, f 101, f 102, f 103, f 104, f 105, f 106, f 107, f 108, f 109, f 110, f 111, f 112, f 113, f 114, f 115, f 116, f 117, f 118, f 119, f 120, f 121, f 122, f 123, f 124, f 125, f 126, f 127, f 128, f 129, f 130, f 131, f 132], defers := [] } W' := hK
      change wpList _ #[_] _ [_] { tmps := #[f 0, f 1, f 2, f 3, f 4, f 5, f 6, f 7, f 8, f 9, f 10, f 11, f 12, f 13, f 14, f 15, f 16, f 17, f 18, f 19, f 20, f 21, f 22, f 23, f 24, f 25, f 26, f 27, f 28, f 29, f 30, f 31, f 32, f 33, f 34, f 35, f 36, f 37, f 38, f 39, f 40, f 41, f 42, f 43, f 44, f 45, f 46, f 47, f 48, f 49, f 50, f 51, f 52, f 53, f 54, f 55, f 56, f 57, f 58, f 59, f 60, f 61, f 62, f 63, f 64, f 65, f 66, f 67, f 68, f 69, f 70, f 71, f 72, f 73, f 74, f 75, f 76, f 77, f 78, f 79, f 80, f 81, f 82, f 83, f 84, f 85, f 86, f 87, f 88, f 89, f 90, f 91, f 92, f 93, f 94, f 95, f 96, f 97, f 98, f 99, f 100, f 101, f 102, f 103, f 104, f 105, f 106, f 107, f 108, f 109, f 110, f 111, f 112, f 113, f 114, f 115, f 116, f 117, f 118, f 119, f 120, f 121, f 122, f 123, f 124, f 125, f 126, f 127, f 128, f 129, f 130, f 131, f 132], defers := [] } W
      clear hK hd hold
      simp only [ze83, ze85, ze87] at HK ⊢
      clear ze83 ze85 ze87
      have HK := Aside.mk HK
      go_wp2
      exact HK.out _ _ (Below.refl _ _) rfl
    · -- 89 := CALL f24 chert/chertref12.Number [t88] : [9]
      intro f W hW hold hd K hK
      have ze88 : f 88 = .string (s.extract i2 i10) := hd 88 rfl rfl
      have HK : ∀ v W', Below W.heap.size W W' → tailV _ 89 v W' → K { tmps := #[f 0, f 1, f 2, f 3, f 4, f 5, f 6, f 7, f 8, f 9, f 10, f 11, f 12, f 13, f 14, f 15, f 16, f 17, f 18, f 19, f 20, f 21, f 22, f 23, f 24, f 25, f 26, f 27, f 28, f 29, f 30, f 31, f 32, f 33, f 34, f 35, f 36, f 37, f 38, f 39, f 40, f 41, f 42, f 43, f 44, f 45, f 46, f 47, f 48, f 49, f 50, f 51, f 52, f 53, f 54, f 55, f 56, f 57, f 58, f 59, f 60, f 61, f 62, f 63, f 64, f 65, f 66, f 67, f 68, f 69, f 70, f 71, f 72, f 73, f 74, f 75, f 76, f 77, f 78, f 79, f 80, f 81, f 82, f 83, f 84, f 85, f 86, f 87, f 88, v, f 90, f 91, f 92, f 93, f 94, f 95, f 96, f 97, f 98, f 99, f 100, f 101, f 102, f 103, f 104, f 105, f 106, f 107, f 108, f 109, f 110, f 111, f 112, f 113, f 114, f 115, f 116, f 117, f 118, f 119, f 120, f 121, f 122, f 123, f 124, f 125, f 126, f 127, f 128, f 129, f 130, f 131, f 132], defers := [] } W' := hK
      change wpList _ #[_] _ [_] { tmps := #[f 0, f 1, f 2, f 3, f 4, f 5, f 6, f 7, f 8, f 9, f 10, f 11, f 12, f 13, f 14, f 15, f 16, f 17, f 18, f 19, f 20, f 21, f 22, f 23, f 24, f 25, f 26, f 27, f 28, f 29, f 30, f 31, f 32, f 33, f 34, f 35, f 36, f 37, f 38, f 39, f 40, f 41, f 42, f 43, f 44, f 45, f 46, f 47, f 48, f 49, f 50, f 51, f 52, f 53, f 54, f 55, f 56, f 57, f 58, f 59, f 60, f 61, f 62, f 63, f 64, f 65, f 66, f 67, f 68, f 69, f 70, f 71, f 72, f 73, f 74, f 75, f 76, f 77, f 78, f 79, f 80, f 81, f 82, f 83, f 84, f 85, f 86, f 87, f 88, f 89, f 90, f 91, f 92, f 93, f 94, f 95, f 96, f 97, f 98, f 99, f 100, f 101, f 102, f 103, f 104, f 105, f 106, f 107, f 108, f 109, f 110, f 111, f 112, f 113, f 114, f 115, f 116, f 117, f 118, f 119, f 120, f 121, f 122, f 123, f 124, f 125, f 126, f 127, f 128, f 129, f 130, f 131, f 132], defers := [] } W
      clear hK hd hold
      simp only [ze88] at HK ⊢
      clear ze88
      have HK := Aside.mk HK
      go_wp2_with (go_at_call 21; refine (HNum.out W).mono ?_; rintro e w3 ⟨rfl, rfl⟩)
      exact HK.out _ _ (Below.refl _ _) rfl
    · -- 90 := move t0
      intro f W hW hold hd K hK
      have ze0 : f 0 = .string s := hold 0 rfl
      have HK : ∀ v W', Below W.heap.size W W' → tailV _ 90 v W' → K { tmps := #[f 0, f 1, f 2, f 3, f 4, f 5, f 6, f 7, f 8, f 9, f 10, f 11, f 12, f 13, f 14, f 15, f 16, f 17, f 18, f 19, f 20, f 21, f 22, f 23, f 24, f 25, f 26, f 27, f 28, f 29, f 30, f 31, f 32, f 33, f 34, f 35, f 36, f 37, f 38, f 39, f 40, f 41, f 42, f 43, f 44, f 45, f 46, f 47, f 48, f 49, f 50, f 51, f 52, f 53, f 54, f 55, f 56, f 57, f 58, f 59, f 60, f 61, f 62, f 63, f 64, f 65, f 66, f 67, f 68, f 69, f 70, f 71, f 72, f 73, f 74, f 75, f 76, f 77, f 78, f 79, f 80, f 81, f 82, f 83, f 84, f 85, f 86, f 87, f 88, f 89, v, f 91, f 92, f 93, f 94, f 95, f 96, f 97, f 98, f 99, f 100, f 101, f 102, f 103, f 104, f 105, f 106, f 107, f 108, f 109, f 110, f 111, f 112, f 113, f 114, f 115, f 116, f 117, f 118, f 119, f 120, f 121, f 122, f 123, f 124, f 125, f 126, f 127, f 128, f 129, f 130, f 131, f 132], defers := [] } W' := hK
      change wpList _ #[_] _ [_] { tmps := #[f 0, f 1, f 2, f 3, f 4, f 5, f 6, f 7, f 8, f 9, f 10, f 11, f 12, f 13, f 14, f 15, f 16, f 17, f 18, f 19, f 20, f 21, f 22, f 23, f 24, f 25, f 26, f 27, f 28, f 29, f 30, f 31, f 32, f 33, f 34, f 35, f 36, f 37, f 38, f 39, f 40, f 41, f 42, f 43, f 44, f 45, f 46, f 47, f 48, f 49, f 50, f 51, f 52, f 53, f 54, f 55, f 56, f 57, f 58, f 59, f 60, f 61, f 62, f 63, f 64, f 65, f 66, f 67, f 68, f 69, f 70, f 71, f 72, f 73, f 74, f 75, f 76, f 77, f 78, f 79, f 80, f 81, f 82, f 83, f 84, f 85, f 86, f 87, f 88, f 89, f 90, f 91, f 92, f 93, f 94, f 95, f 96, f 97, f 98, f 99, f 100, f 101, f 102, f 103, f 104, f 105, f 106, f 107, f 108, f 109, f 110, f 111, f 112, f 113, f 114, f 115, f 116, f 117, f 118, f 119, f 120, f 121, f 122, f 123, f 124, f 125, f 126, f 127, f 128, f 129, f 130, f 131, f 132], defers := [] } W
      clear hK hd hold
      simp only [ze0] at HK ⊢
      clear ze0
      have HK := Aside.mk HK
      go_wp2
      exact HK.out _ _ (Below.refl _ _) rfl
    · -- 91 := move t1
      intro f W hW hold hd K hK
      have ze1 : f 1 = .int .i64 n := hold 1 rfl
      have HK : ∀ v W', Below W.heap.size W W' → tailV _ 91 v W' → K { tmps := #[f 0, f 1, f 2, f 3, f 4, f 5, f 6, f 7, f 8, f 9, f 10, f 11, f 12, f 13, f 14, f 15, f 16, f 17, f 18, f 19, f 20, f 21, f 22, f 23, f 24, f 25, f 26, f 27, f 28, f 29, f 30, f 31, f 32, f 33, f 34, f 35, f 36, f 37, f 38, f 39, f 40, f 41, f 42, f 43, f 44, f 45, f 46, f 47, f 48, f 49, f 50, f 51, f 52, f 53, f 54, f 55, f 56, f 57, f 58, f 59, f 60, f 61, f 62, f 63, f 64, f 65, f 66, f 67, f 68, f 69, f 70, f 71, f 72, f 73, f 74, f 75, f 76, f 77, f 78, f 79, f 80, f 81, f 82, f 83, f 84, f 85, f 86, f 87, f 88, f 89, f 90, v, f 92, f 93, f 94, f 95, f 96, f 97, f 98, f 99, f 100, f 101, f 102, f 103, f 104, f 105, f 106, f 107, f 108, f 109, f 110, f 111, f 112, f 113, f 114, f 115, f 116, f 117, f 118, f 119, f 120, f 121, f 122, f 123, f 124, f 125, f 126, f 127, f 128, f 129, f 130, f 131, f 132], defers := [] } W' := hK
      change wpList _ #[_] _ [_] { tmps := #[f 0, f 1, f 2, f 3, f 4, f 5, f 6, f 7, f 8, f 9, f 10, f 11, f 12, f 13, f 14, f 15, f 16, f 17, f 18, f 19, f 20, f 21, f 22, f 23, f 24, f 25, f 26, f 27, f 28, f 29, f 30, f 31, f 32, f 33, f 34, f 35, f 36, f 37, f 38, f 39, f 40, f 41, f 42, f 43, f 44, f 45, f 46, f 47, f 48, f 49, f 50, f 51, f 52, f 53, f 54, f 55, f 56, f 57, f 58, f 59, f 60, f 61, f 62, f 63, f 64, f 65, f 66, f 67, f 68, f 69, f 70, f 71, f 72, f 73, f 74, f 75, f 76, f 77, f 78, f 79, f 80, f 81, f 82, f 83, f 84, f 85, f 86, f 87, f 88, f 89, f 90, f 91, f 92, f 93, f 94, f 95, f 96, f 97, f 98, f 99, f 100, f 101, f 102, f 103, f 104, f 105, f 106, f 107, f 108, f 109, f 110, f 111, f 112, f 113, f 114, f 115, f 116, f 117, f 118, f 119, f 120, f 121, f 122, f 123, f 124, f 125, f 126, f 127, f 128, f 129, f 130, f 131, f 132], defers := [] } W
      clear hK hd hold
      simp only [ze1] at HK ⊢
      clear ze1
      have HK := Aside.mk HK
      go_wp2
      exact HK.out _ _ (Below.refl _ _) rfl
    · -- 92 := binOp add 3 t91 <i64 1> 3
      intro f W hW hold hd K hK
      have ze91 : f 91 = .int .i64 n := hd 91 rfl rfl
      have HK : ∀ v W', Below W.heap.size W W' → tailV _ 92 v W' → K { tmps := #[f 0, f 1, f 2, f 3, f 4, f 5, f 6, f 7, f 8, f 9, f 10, f 11, f 12, f 13, f 14, f 15, f 16, f 17, f 18, f 19, f 20, f 21, f 22, f 23, f 24, f 25, f 26, f 27, f 28, f 29, f 30, f 31, f 32, f 33, f 34, f 35, f 36, f 37, f 38, f 39, f 40, f 41, f 42, f 43, f 44, f 45, f 46, f 47, f 48, f 49, f 50, f 51, f 52, f 53, f 54, f 55, f 56, f 57, f 58, f 59, f 60, f 61, f 62, f 63, f 64, f 65, f 66, f 67, f 68, f 69, f 70, f 71, f 72, f 73, f 74, f 75, f 76, f 77, f 78, f 79, f 80, f 81, f 82, f 83, f 84, f 85, f 86, f 87, f 88, f 89, f 90, f 91, v, f 93, f 94, f 95, f 96, f 97, f 98, f 99, f 100, f 101, f 102, f 103, f 104, f 105, f 106, f 107, f 108, f 109, f 110, f 111, f 112, f 113, f 114, f 115, f 116, f 117, f 118, f 119, f 120, f 121, f 122, f 123, f 124, f 125, f 126, f 127, f 128, f 129, f 130, f 131, f 132], defers := [] } W' := hK
      change wpList _ #[_] _ [_] { tmps := #[f 0, f 1, f 2, f 3, f 4, f 5, f 6, f 7, f 8, f 9, f 10, f 11, f 12, f 13, f 14, f 15, f 16, f 17, f 18, f 19, f 20, f 21, f 22, f 23, f 24, f 25, f 26, f 27, f 28, f 29, f 30, f 31, f 32, f 33, f 34, f 35, f 36, f 37, f 38, f 39, f 40, f 41, f 42, f 43, f 44, f 45, f 46, f 47, f 48, f 49, f 50, f 51, f 52, f 53, f 54, f 55, f 56, f 57, f 58, f 59, f 60, f 61, f 62, f 63, f 64, f 65, f 66, f 67, f 68, f 69, f 70, f 71, f 72, f 73, f 74, f 75, f 76, f 77, f 78, f 79, f 80, f 81, f 82, f 83, f 84, f 85, f 86, f 87, f 88, f 89, f 90, f 91, f 92, f 93, f 94, f 95, f 96, f 97, f 98, f 99, f 100, f 101, f 102, f 103, f 104, f 105, f 106, f 107, f 108, f 109, f 110, f 111, f 112, f 113, f 114, f 115, f 116, f 117, f 118, f 119, f 120, f 121, f 122, f 123, f 124, f 125, f 126, f 127, f 128, f 129, f 130, f 131, f 132], defers := [] } W
      clear hK hd hold
      simp only [ze91] at HK ⊢
      clear ze91
      have HK := Aside.mk HK
      go_wp2
      exact HK.out _ _ (Below.refl _ _) rfl
    · -- 93 := index 9 t90 t92
      intro f W hW hold hd K hK
      have ze90 : f 90 = .string s := hd 90 rfl rfl
      have ze92 : f 92 = .int .i64 i1 := hd 92 rfl rfl
      have HK : ∀ v W', Below W.heap.size W W' → tailV _ 93 v W' → K { tmps := #[f 0, f 1, f 2, f 3, f 4, f 5, f 6, f 7, f 8, f 9, f 10, f 11, f 12, f 13, f 14, f 15, f 16, f 17, f 18, f 19, f 20, f 21, f 22, f 23, f 24, f 25, f 26, f 27, f 28, f 29, f 30, f 31, f 32, f 33, f 34, f 35, f 36, f 37, f 38, f 39, f 40, f 41, f 42, f 43, f 44, f 45, f 46, f 47, f 48, f 49, f 50, f 51, f 52, f 53, f 54, f 55, f 56, f 57, f 58, f 59, f 60, f 61, f 62, f 63, f 64, f 65, f 66, f 67, f 68, f 69, f 70, f 71, f 72, f 73, f 74, f 75, f 76, f 77, f 78, f 79, f 80, f 81, f 82, f 83, f 84, f 85, f 86, f 87, f 88, f 89, f 90, f 91, f 92, v, f 94, f 95, f 96, f 97, f 98, f 99, f 100, f 101, f 102, f 103, f 104, f 105, f 106, f 107, f 108, f 109, f 110, f 111, f 112, f 113, f 114, f 115, f 116, f 117, f 118, f 119, f 120, f 121, f 122, f 123, f 124, f 125, f 126, f 127, f 128, f 129, f 130, f 131, f 132], defers := [] } W' := hK
      change wpList _ #[_] _ [_] { tmps := #[f 0, f 1, f 2, f 3, f 4, f 5, f 6, f 7, f 8, f 9, f 10, f 11, f 12, f 13, f 14, f 15, f 16, f 17, f 18, f 19, f 20, f 21, f 22, f 23, f 24, f 25, f 26, f 27, f 28, f 29, f 30, f 31, f 32, f 33, f 34, f 35, f 36, f 37, f 38, f 39, f 40, f 41, f 42, f 43, f 44, f 45, f 46, f 47, f 48, f 49, f 50, f 51, f 52, f 53, f 54, f 55, f 56, f 57, f 58, f 59, f 60, f 61, f 62, f 63, f 64, f 65, f 66, f 67, f 68, f 69, f 70, f 71, f 72, f 73, f 74, f 75, f 76, f 77, f 78, f 79, f 80, f 81, f 82, f 83, f 84, f 85, f 86, f 87, f 88, f 89, f 90, f 91, f 92, f 93, f 94, f 95, f 96, f 97, f 98, f 99, f 100, f 101, f 102, f 103, f 104, f 105, f 106, f 107, f 108, f 109, f 110, f 111, f 112, f 113, f 114, f 115, f 116, f 117, f 118, f 119, f 120, f 121, f 122, f 123, f 124, f 125, f 126, f 127, f 128, f 129, f 130, f 131, f 132], defers := [] } W
      clear hK hd hold
      simp only [ze90, ze92] at HK ⊢
      clear ze90 ze92
      have HK := Aside.mk HK
      go_wp2
      exact HK.out _ _ (Below.refl _ _) rfl
    · -- 94 := binOp rem 5 t93 <u8 2> 5
      intro f W hW hold hd K hK
      have ze93 : f 93 = .int .u8 f1 := hd 93 rfl rfl
      have HK : ∀ v W', Below W.heap.size W W' → tailV _ 94 v W' → K { tmps := #[f 0, f 1, f 2, f 3, f 4, f 5, f 6, f 7, f 8, f 9, f 10, f 11, f 12, f 13, f 14, f 15, f 16, f 17, f 18, f 19, f 20, f 21, f 22, f 23, f 24, f 25, f 26, f 27, f 28, f 29, f 30, f 31, f 32, f 33, f 34, f 35, f 36, f 37, f 38, f 39, f 40, f 41, f 42, f 43, f 44, f 45, f 46, f 47, f 48, f 49, f 50, f 51, f 52, f 53, f 54, f 55, f 56, f 57, f 58, f 59, f 60, f 61, f 62, f 63, f 64, f 65, f 66, f 67, f 68, f 69, f 70, f 71, f 72, f 73, f 74, f 75, f 76, f 77, f 78, f 79, f 80, f 81, f 82, f 83, f 84, f 85, f 86, f 87, f 88, f 89, f 90, f 91, f 92, f 93, v, f 95, f 96, f 97, f 98, f 99, f 100, f 101, f 102, f 103, f 104, f 105, f 106, f 107, f 108, f 109, f 110, f 111, f 112, f 113, f 114, f 115, f 116, f 117, f 118, f 119, f 120, f 121, f 122, f 123, f 124, f 125, f 126, f 127, f 128, f 129, f 130, f 131, f 132], defers := [] } W' := hK
      change wpList _ #[_] _ [_] { tmps := #[f 0, f 1, f 2, f 3, f 4, f 5, f 6, f 7, f 8, f 9, f 10, f 11, f 12, f 13, f 14, f 15, f 16, f 17, f 18, f 19, f 20, f 21, f 22, f 23, f 24, f 25, f 26, f 27, f 28, f 29, f 30, f 31, f 32, f 33, f 34, f 35, f 36, f 37, f 38, f 39, f 40, f 41, f 42, f 43, f 44, f 45, f 46, f 47, f 48, f 49, f 50, f 51, f 52, f 53, f 54, f 55, f 56, f 57, f 58, f 59, f 60, f 61, f 62, f 63, f 64, f 65, f 66, f 67, f 68, f 69, f 70, f 71, f 72, f 73, f 74, f 75, f 76, f 77, f 78, f 79, f 80, f 81, f 82, f 83, f 84, f 85, f 86, f 87, f 88, f 89, f 90, f 91, f 92, f 93, f 94, f 95, f 96, f 97, f 98, f 99, f 100, f 101, f 102, f 103, f 104, f 105, f 106, f 107, f 108, f 109, f 110, f 111, f 112, f 113, f 114, f 115, f 116, f 117, f 118, f 119, f 120, f 121, f 122, f 123, f 124, f 125, f 126, f 127, f 128, f 129, f 130, f 131, f 132], defers := [] } W
      clear hK hd hold
      simp only [ze93] at HK ⊢
      clear ze93
      have HK := Aside.mk HK
      go_wp2
      exact HK.out _ _ (Below.refl _ _) rfl
    · -- 95 := binOp eql 5 t94 <u8 1> 5
      intro f W hW hold hd K hK
      have ze94 : f 94 = .int .u8 ((f1 % 2 : Nat) : Int) := hd 94 rfl rfl
      have HK : ∀ v W', Below W.heap.size W W' → tailV _ 95 v W' → K { tmps := #[f 0, f 1, f 2, f 3, f 4, f 5, f 6, f 7, f 8, f 9, f 10, f 11, f 12, f 13, f 14, f 15, f 16, f 17, f 18, f 19, f 20, f 21, f 22, f 23, f 24, f 25, f 26, f 27, f 28, f 29, f 30, f 31, f 32, f 33, f 34, f 35, f 36, f 37, f 38, f 39, f 40, f 41, f 42, f 43, f 44, f 45, f 46, f 47, f 48, f 49, f 50, f 51, f 52, f 53, f 54, f 55, f 56, f 57, f 58, f 59, f 60, f 61, f 62, f 63, f 64, f 65, f 66, f 67, f 68, f 69, f 70, f 71, f 72, f 73, f 74, f 75, f 76, f 77, f 78, f 79, f 80, f 81, f 82, f 83, f 84, f 85, f 86, f 87, f 88, f 89, f 90, f 91, f 92, f 93, f 94, v, f 96, f 97, f 98, f 99, f 100, f 101, f 102, f 103, f 104, f 105, f 106, f 107, f 108, f 109, f 110, f 111, f 112, f 113, f 114, f 115, f 116, f 117, f 118, f 119, f 120, f 121, f 122, f 123, f 124, f 125, f 126, f 127, f 128, f 129, f 130, f 131, f 132], defers := [] } W' := hK
      change wpList _ #[_] _ [_] { tmps := #[f 0, f 1, f 2, f 3, f 4, f 5, f 6, f 7, f 8, f 9, f 10, f 11, f 12, f 13, f 14, f 15, f 16, f 17, f 18, f 19, f 20, f 21, f 22, f 23, f 24, f 25, f 26, f 27, f 28, f 29, f 30, f 31, f 32, f 33, f 34, f 35, f 36, f 37, f 38, f 39, f 40, f 41, f 42, f 43, f 44, f 45, f 46, f 47, f 48, f 49, f 50, f 51, f 52, f 53, f 54, f 55, f 56, f 57, f 58, f 59, f 60, f 61, f 62, f 63, f 64, f 65, f 66, f 67, f 68, f 69, f 70, f 71, f 72, f 73, f 74, f 75, f 76, f 77, f 78, f 79, f 80, f 81, f 82, f 83, f 84, f 85, f 86, f 87, f 88, f 89, f 90, f 91, f 92, f 93, f 94, f 95, f 96, f 97, f 98, f 99, f 100, f 101, f 102, f 103, f 104, f 105, f 106, f 107, f 108, f 109, f 110, f 111, f 112, f 113, f 114, f 115, f 116, f 117, f 118, f 119, f 120, f 121, f 122, f 123, f 124, f 125, f 126, f 127, f 128, f 129, f 130, f 131, f 132], defers := [] } W
      clear hK hd hold
      simp only [ze94] at HK ⊢
      clear ze94
      have HK := Aside.mk HK
      go_wp2
      refine HK.out _ _ (Below.refl _ _) ?_
      change Value.bool _ = Value.bool _
      rw [HGL.out.1]
    · -- 96 := move t0
      intro f W hW hold hd K hK
      have ze0 : f 0 = .string s := hold 0 rfl
      have HK : ∀ v W', Below W.heap.size W W' → tailV _ 96 v W' → K { tmps := #[f 0, f 1, f 2, f 3, f 4, f 5, f 6, f 7, f 8, f 9, f 10, f 11, f 12, f 13, f 14, f 15, f 16, f 17, f 18, f 19, f 20, f 21, f 22, f 23, f 24, f 25, f 26, f 27, f 28, f 29, f 30, f 31, f 32, f 33, f 34, f 35, f 36, f 37, f 38, f 39, f 40, f 41, f 42, f 43, f 44, f 45, f 46, f 47, f 48, f 49, f 50, f 51, f 52, f 53, f 54, f 55, f 56, f 57, f 58, f 59, f 60, f 61, f 62, f 63, f 64, f 65, f 66, f 67, f 68, f 69, f 70, f 71, f 72, f 73, f 74, f 75, f 76, f 77, f 78, f 79, f 80, f 81, f 82, f 83, f 84, f 85, f 86, f 87, f 88, f 89, f 90, f 91, f 92, f 93, f 94, f 95, v, f 97, f 98, f 99, f 100, f 101, f 102, f 103, f 104, f 105, f 106, f 107, f 108, f 109, f 110, f 111, f 112, f 113, f 114, f 115, f 116, f 117, f 118, f 119, f 120, f 121, f 122, f 123, f 124, f 125, f 126, f 127, f 128, f 129, f 130, f 131, f 132], defers := [] } W' := hK
      change wpList _ #[_] _ [_] { tmps := #[f 0, f 1, f 2, f 3, f 4, f 5, f 6, f 7, f 8, f 9, f 10, f 11, f 12, f 13, f 14, f 15, f 16, f 17, f 18, f 19, f 20, f 21, f 22, f 23, f 24, f 25, f 26, f 27, f 28, f 29, f 30, f 31, f 32, f 33, f 34, f 35, f 36, f 37, f 38, f 39, f 40, f 41, f 42, f 43, f 44, f 45, f 46, f 47, f 48, f 49, f 50, f 51, f 52, f 53, f 54, f 55, f 56, f 57, f 58, f 59, f 60, f 61, f 62, f 63, f 64, f 65, f 66, f 67, f 68, f 69, f 70, f 71, f 72, f 73, f 74, f 75, f 76, f 77, f 78, f 79, f 80, f 81, f 82, f 83, f 84, f 85, f 86, f 87, f 88, f 89, f 90, f 91, f 92, f 93, f 94, f 95, f 96, f 97, f 98, f 99, f 100, f 101, f 102, f 103, f 104, f 105, f 106, f 107, f 108, f 109, f 110, f 111, f 112, f 113, f 114, f 115, f 116, f 117, f 118, f 119, f 120, f 121, f 122, f 123, f 124, f 125, f 126, f 127, f 128, f 129, f 130, f 131, f 132], defers := [] } W
      clear hK hd hold
      simp only [ze0] at HK ⊢
      clear ze0
      have HK := Aside.mk HK
      go_wp2
      exact HK.out _ _ (Below.refl _ _) rfl
    · -- 97 := move t1
      intro f W hW hold hd K hK
      have ze1 : f 1 = .int .i64 n := hold 1 rfl
      have HK : ∀ v W', Below W.heap.size W W' → tailV _ 97 v W' → K { tmps := #[f 0, f 1, f 2, f 3, f 4, f 5, f 6, f 7, f 8, f 9, f 10, f 11, f 12, f 13, f 14, f 15, f 16, f 17, f 18, f 19, f 20, f 21, f 22, f 23, f 24, f 25, f 26, f 27, f 28, f 29, f 30, f 31, f 32, f 33, f 34, f 35, f 36, f 37, f 38, f 39, f 40, f 41, f 42, f 43, f 44, f 45, f 46, f 47, f 48, f 49, f 50, f 51, f 52, f 53, f 54, f 55, f 56, f 57, f 58, f 59, f 60, f 61, f 62, f 63, f 64, f 65, f 66, f 67, f 68, f 69, f 70, f 71, f 72, f 73, f 74, f 75, f 76, f 77, f 78, f 79, f 80, f 81, f 82, f 83, f 84, f 85, f 86, f 87, f 88, f 89, f 90, f 91, f 92, f 93, f 94, f 95, f 96, v, f 98, f 99, f 100, f 101, f 102, f 103, f 104, f 105, f 106, f 107, f 108, f 109, f 110, f 111, f 112, f 113, f 114, f 115, f 116, f 117, f 118, f 119, f 120, f 121, f 122, f 123, f 124, f 125, f 126, f 127, f 128, f 129, f 130, f 131, f 132], defers := [] } W' := hK
      change wpList _ #[_] _ [_] { tmps := #[f 0, f 1, f 2, f 3, f 4, f 5, f 6, f 7, f 8, f 9, f 10, f 11, f 12, f 13, f 14, f 15, f 16, f 17, f 18, f 19, f 20, f 21, f 22, f 23, f 24, f 25, f 26, f 27, f 28, f 29, f 30, f 31, f 32, f 33, f 34, f 35, f 36, f 37, f 38, f 39, f 40, f 41, f 42, f 43, f 44, f 45, f 46, f 47, f 48, f 49, f 50, f 51, f 52, f 53, f 54, f 55, f 56, f 57, f 58, f 59, f 60, f 61, f 62, f 63, f 64, f 65, f 66, f 67, f 68, f 69, f 70, f 71, f 72, f 73, f 74, f 75, f 76, f 77, f 78, f 79, f 80, f 81, f 82, f 83, f 84, f 85, f 86, f 87, f 88, f 89, f 90, f 91, f 92, f 93, f 94, f 95, f 96, f 97, f 98, f 99, f 100, f 101, f 102, f 103, f 104, f 105, f 106, f 107, f 108, f 109, f 110, f 111, f 112, f 113, f 114, f 115, f 116, f 117, f 118, f 119, f 120, f 121, f 122, f 123, f 124, f 125, f 126, f 127, f 128, f 129, f 130, f 131, f 132], defers := [] } W
      clear hK hd hold
      simp only [ze1] at HK ⊢
      clear ze1
      have HK := Aside.mk HK
      go_wp2
      exact HK.out _ _ (Below.refl _ _) rfl
    · -- 98 := binOp add 3 t97 <i64 1> 3
      intro f W hW hold hd K hK
      have ze97 : f 97 = .int .i64 n := hd 97 rfl rfl
      have HK : ∀ v W', Below W.heap.size W W' → tailV _ 98 v W' → K { tmps := #[f 0, f 1, f 2, f 3, f 4, f 5, f 6, f 7, f 8, f 9, f 10, f 11, f 12, f 13, f 14, f 15, f 16, f 17, f 18, f 19, f 20, f 21, f 22, f 23, f 24, f 25, f 26, f 27, f 28, f 29, f 30, f 31, f 32, f 33, f 34, f 35, f 36, f 37, f 38, f 39, f 40, f 41, f 42, f 43, f 44, f 45, f 46, f 47, f 48, f 49, f 50, f 51, f 52, f 53, f 54, f 55, f 56, f 57, f 58, f 59, f 60, f 61, f 62, f 63, f 64, f 65, f 66, f 67, f 68, f 69, f 70, f 71, f 72, f 73, f 74, f 75, f 76, f 77, f 78, f 79, f 80, f 81, f 82, f 83, f 84, f 85, f 86, f 87, f 88, f 89, f 90, f 91, f 92, f 93, f 94, f 95, f 96, f 97, v, f 99, f 100, f 101, f 102, f 103, f 104, f 105, f 106, f 107, f 108, f 109, f 110, f 111, f 112, f 113, f 114, f 115, f 116, f 117, f 118, f 119, f 120, f 121, f 122, f 123, f 124, f 125, f 126, f 127, f 128, f 129, f 130, f 131, f 132], defers := [] } W' := hK
      change wpList _ #[_] _ [_] { tmps := #[f 0, f 1, f 2, f 3, f 4, f 5, f 6, f 7, f 8, f 9, f 10, f 11, f 12, f 13, f 14, f 15, f 16, f 17, f 18, f 19, f 20, f 21, f 22, f 23, f 24, f 25, f 26, f 27, f 28, f 29, f 30, f 31, f 32, f 33, f 34, f 35, f 36, f 37, f 38, f 39, f 40, f 41, f 42, f 43, f 44, f 45, f 46, f 47, f 48, f 49, f 50, f 51, f 52, f 53, f 54, f 55, f 56, f 57, f 58, f 59, f 60, f 61, f 62, f 63, f 64, f 65, f 66, f 67, f 68, f 69, f 70, f 71, f 72, f 73, f 74, f 75, f 76, f 77, f 78, f 79, f 80, f 81, f 82, f 83, f 84, f 85, f 86, f 87, f 88, f 89, f 90, f 91, f 92, f 93, f 94, f 95, f 96, f 97, f 98, f 99, f 100, f 101, f 102, f 103, f 104, f 105, f 106, f 107, f 108, f 109, f 110, f 111, f 112, f 113, f 114, f 115, f 116, f 117, f 118, f 119, f 120, f 121, f 122, f 123, f 124, f 125, f 126, f 127, f 128, f 129, f 130, f 131, f 132], defers := [] } W
      clear hK hd hold
      simp only [ze97] at HK ⊢
      clear ze97
      have HK := Aside.mk HK
      go_wp2
      exact HK.out _ _ (Below.refl _ _) rfl
    · -- 99 := index 9 t96 t98
      intro f W hW hold hd K hK
      have ze96 : f 96 = .string s := hd 96 rfl rfl
      have ze98 : f 98 = .int .i64 i1 := hd 98 rfl rfl
      have HK : ∀ v W', Below W.heap.size W W' → tailV _ 99 v W' → K { tmps := #[f 0, f 1, f 2, f 3, f 4, f 5, f 6, f 7, f 8, f 9, f 10, f 11, f 12, f 13, f 14, f 15, f 16, f 17, f 18, f 19, f 20, f 21, f 22, f 23, f 24, f 25, f 26, f 27, f 28, f 29, f 30, f 31, f 32, f 33, f 34, f 35, f 36, f 37, f 38, f 39, f 40, f 41, f 42, f 43, f 44, f 45, f 46, f 47, f 48, f 49, f 50, f 51, f 52, f 53, f 54, f 55, f 56, f 57, f 58, f 59, f 60, f 61, f 62, f 63, f 64, f 65, f 66, f 67, f 68, f 69, f 70, f 71, f 72, f 73, f 74, f 75, f 76, f 77, f 78, f 79, f 80, f 81, f 82, f 83, f 84, f 85, f 86, f 87, f 88, f 89, f 90, f 91, f 92, f 93, f 94, f 95, f 96, f 97, f 98, v, f 100, f 101, f 102, f 103, f 104, f 105, f 106, f 107, f 108, f 109, f 110, f 111, f 112, f 113, f 114, f 115, f 116, f 117, f 118, f 119, f 120, f 121, f 122, f 123, f 124, f 125, f 126, f 127, f 128, f 129, f 130, f 131, f 132], defers := [] } W' := hK
      change wpList _ #[_] _ [_] { tmps := #[f 0, f 1, f 2, f 3, f 4, f 5, f 6, f 7, f 8, f 9, f 10, f 11, f 12, f 13, f 14, f 15, f 16, f 17, f 18, f 19, f 20, f 21, f 22, f 23, f 24, f 25, f 26, f 27, f 28, f 29, f 30, f 31, f 32, f 33, f 34, f 35, f 36, f 37, f 38, f 39, f 40, f 41, f 42, f 43, f 44, f 45, f 46, f 47, f 48, f 49, f 50, f 51, f 52, f 53, f 54, f 55, f 56, f 57, f 58, f 59, f 60, f 61, f 62, f 63, f 64, f 65, f 66, f 67, f 68, f 69, f 70, f 71, f 72, f 73, f 74, f 75, f 76, f 77, f 78, f 79, f 80, f 81, f 82, f 83, f 84, f 85, f 86, f 87, f 88, f 89, f 90, f 91, f 92, f 93, f 94, f 95, f 96, f 97, f 98, f 99, f 100, f 101, f 102, f 103, f 104, f 105, f 106, f 107, f 108, f 109, f 110, f 111, f 112, f 113, f 114, f 115, f 116, f 117, f 118, f 119, f 120, f 121, f 122, f 123, f 124, f 125, f 126, f 127, f 128, f 129, f 130, f 131, f 132], defers := [] } W
      clear hK hd hold
      simp only [ze96, ze98] at HK ⊢
      clear ze96 ze98
      have HK := Aside.mk HK
      go_wp2
      exact HK.out _ _ (Below.refl _ _) rfl
    · -- 100 := binOp quo 5 t99 <u8 2> 5
      intro f W hW hold hd K hK
      have ze99 : f 99 = .int .u8 f1 := hd 99 rfl rfl
      have HK : ∀ v W', Below W.heap.size W W' → tailV _ 100 v W' → K { tmps := #[f 0, f 1, f 2, f 3, f 4, f 5, f 6, f 7, f 8, f 9, f 10, f 11, f 12, f 13, f 14, f 15, f 16, f 17, f 18, f 19, f 20, f 21, f 22, f 23, f 24, f 25, f 26, f 27, f 28, f 29, f 30, f 31, f 32, f 33, f 34, f 35, f 36, f 37, f 38, f 39, f 40, f 41, f 42, f 43, f 44, f 45, f 46, f 47, f 48, f 49, f 50, f 51, f 52, f 53, f 54, f 55, f 56, f 57, f 58, f 59, f 60, f 61, f 62, f 63, f 64, f 65, f 66, f 67, f 68, f 69, f 70, f 71, f 72, f 73, f 74, f 75, f 76, f 77, f 78, f 79, f 80, f 81, f 82, f 83, f 84, f 85, f 86, f 87, f 88, f 89, f 90, f 91, f 92, f 93, f 94, f 95, f 96, f 97, f 98, f 99, v, f 101, f 102, f 103, f 104, f 105, f 106, f 107, f 108, f 109, f 110, f 111, f 112, f 113, f 114, f 115, f 116, f 117, f 118, f 119, f 120, f 121, f 122, f 123, f 124, f 125, f 126, f 127, f 128, f 129, f 130, f 131, f 132], defers := [] } W' := hK
      change wpList _ #[_] _ [_] { tmps := #[f 0, f 1, f 2, f 3, f 4, f 5, f 6, f 7, f 8, f 9, f 10, f 11, f 12, f 13, f 14, f 15, f 16, f 17, f 18, f 19, f 20, f 21, f 22, f 23, f 24, f 25, f 26, f 27, f 28, f 29, f 30, f 31, f 32, f 33, f 34, f 35, f 36, f 37, f 38, f 39, f 40, f 41, f 42, f 43, f 44, f 45, f 46, f 47, f 48, f 49, f 50, f 51, f 52, f 53, f 54, f 55, f 56, f 57, f 58, f 59, f 60, f 61, f 62, f 63, f 64, f 65, f 66, f 67, f 68, f 69, f 70, f 71, f 72, f 73, f 74, f 75, f 76, f 77, f 78, f 79, f 80, f 81, f 82, f 83, f 84, f 85, f 86, f 87, f 88, f 89, f 90, f 91, f 92, f 93, f 94, f 95, f 96, f 97, f 98, f 99, f 100, f 101, f 102, f 103, f 104, f 105, f 106, f 107, f 108, f 109, f 110, f 111, f 112, f 113, f 114, f 115, f 116, f 117, f 118, f 119, f 120, f 121, f 122, f 123, f 124, f 125, f 126, f 127, f 128, f 129, f 130, f 131, f 132], defers := [] } W
      clear hK hd hold
      simp only [ze99] at HK ⊢
      clear ze99
      have HK := Aside.mk HK
      go_wp2
      exact HK.out _ _ (Below.refl _ _) rfl
    · -- 101 := binOp rem 5 t100 <u8 2> 5
      intro f W hW hold hd K hK
      have ze100 : f 100 = .int .u8 ((f1 / 2 : Nat) : Int) := hd 100 rfl rfl
      have HK : ∀ v W', Below W.heap.size W W' → tailV _ 101 v W' → K { tmps := #[f 0, f 1, f 2, f 3, f 4, f 5, f 6, f 7, f 8, f 9, f 10, f 11, f 12, f 13, f 14, f 15, f 16, f 17, f 18, f 19, f 20, f 21, f 22, f 23, f 24, f 25, f 26, f 27, f 28, f 29, f 30, f 31, f 32, f 33, f 34, f 35, f 36, f 37, f 38, f 39, f 40, f 41, f 42, f 43, f 44, f 45, f 46, f 47, f 48, f 49, f 50, f 51, f 52, f 53, f 54, f 55, f 56, f 57, f 58, f 59, f 60, f 61, f 62, f 63, f 64, f 65, f 66, f 67, f 68, f 69, f 70, f 71, f 72, f 73, f 74, f 75, f 76, f 77, f 78, f 79, f 80, f 81, f 82, f 83, f 84, f 85, f 86, f 87, f 88, f 89, f 90, f 91, f 92, f 93, f 94, f 95, f 96, f 97, f 98, f 99, f 100, v, f 102, f 103, f 104, f 105, f 106, f 107, f 108, f 109, f 110, f 111, f 112, f 113, f 114, f 115, f 116, f 117, f 118, f 119, f 120, f 121, f 122, f 123, f 124, f 125, f 126, f 127, f 128, f 129, f 130, f 131, f 132], defers := [] } W' := hK
      change wpList _ #[_] _ [_] { tmps := #[f 0, f 1, f 2, f 3, f 4, f 5, f 6, f 7, f 8, f 9, f 10, f 11, f 12, f 13, f 14, f 15, f 16, f 17, f 18, f 19, f 20, f 21, f 22, f 23, f 24, f 25, f 26, f 27, f 28, f 29, f 30, f 31, f 32, f 33, f 34, f 35, f 36, f 37, f 38, f 39, f 40, f 41, f 42, f 43, f 44, f 45, f 46, f 47, f 48, f 49, f 50, f 51, f 52, f 53, f 54, f 55, f 56, f 57, f 58, f 59, f 60, f 61, f 62, f 63, f 64, f 65, f 66, f 67, f 68, f 69, f 70, f 71, f 72, f 73, f 74, f 75, f 76, f 77, f 78, f 79, f 80, f 81, f 82, f 83, f 84, f 85, f 86, f 87, f 88, f 89, f 90, f 91, f 92, f 93, f 94, f 95, f 96, f 97, f 98, f 99, f 100, f 101, f 102, f 103, f 104, f 105, f 106, f 107, f 108, f 109, f 110, f 111, f 112, f 113, f 114, f 115, f 116, f 117, f 118, f 119, f 120, f 121, f 122, f 123, f 124, f 125, f 126, f 127, f 128, f 129, f 130, f 131, f 132], defers := [] } W
      clear hK hd hold
      simp only [ze100] at HK ⊢
      clear ze100
      have HK := Aside.mk HK
      go_wp2
      exact HK.out _ _ (Below.refl _ _) rfl
    · -- 102 := binOp eql 5 t101 <u8 1> 5
      intro f W hW hold hd K hK
      have ze101 : f 101 = .int .u8 ((f1 / 2 % 2 : Nat) : Int) := hd 101 rfl rfl
      have HK : ∀ v W', Below W.heap.size W W' → tailV _ 102 v W' → K { tmps := #[f 0, f 1, f 2, f 3, f 4, f 5, f 6, f 7, f 8, f 9, f 10, f 11, f 12, f 13, f 14, f 15, f 16, f 17, f 18, f 19, f 20, f 21, f 22, f 23, f 24, f 25, f 26, f 27, f 28, f 29, f 30, f 31, f 32, f 33, f 34, f 35, f 36, f 37, f 38, f 39, f 40, f 41, f 42, f 43, f 44, f 45, f 46, f 47, f 48, f 49, f 50, f 51, f 52, f 53, f 54, f 55, f 56, f 57, f 58, f 59, f 60, f 61, f 62, f 63, f 64, f 65, f 66, f 67, f 68, f 69, f 70, f 71, f 72, f 73, f 74, f 75, f 76, f 77, f 78, f 79, f 80, f 81, f 82, f 83, f 84, f 85, f 86, f 87, f 88, f 89, f 90, f 91, f 92, f 93, f 94, f 95, f 96, f 97, f 98, f 99, f 100, f 101, v, f 103, f 104, f 105, f 106, f 107, f 108, f 109, f 110, f 111, f 112, f 113, f 114, f 115, f 116, f 117, f 118, f 119, f 120, f 121, f 122, f 123, f 124, f 125, f 126, f 127, f 128, f 129, f 130, f 131, f 132], defers := [] } W' := hK
      change wpList _ #[_] _ [_] { tmps := #[f 0, f 1, f 2, f 3, f 4, f 5, f 6, f 7, f 8, f 9, f 10, f 11, f 12, f 13, f 14, f 15, f 16, f 17, f 18, f 19, f 20, f 21, f 22, f 23, f 24, f 25, f 26, f 27, f 28, f 29, f 30, f 31, f 32, f 33, f 34, f 35, f 36, f 37, f 38, f 39, f 40, f 41, f 42, f 43, f 44, f 45, f 46, f 47, f 48, f 49, f 50, f 51, f 52, f 53, f 54, f 55, f 56, f 57, f 58, f 59, f 60, f 61, f 62, f 63, f 64, f 65, f 66, f 67, f 68, f 69, f 70, f 71, f 72, f 73, f 74, f 75, f 76, f 77, f 78, f 79, f 80, f 81, f 82, f 83, f 84, f 85, f 86, f 87, f 88, f 89, f 90, f 91, f 92, f 93, f 94, f 95, f 96, f 97, f 98, f 99, f 100, f 101, f 102, f 103, f 104, f 105, f 106, f 107, f 108, f 109, f 110, f 111, f 112, f 113, f 114, f 115, f 116, f 117, f 118, f 119, f 120, f 121, f 122, f 123, f 124, f 125, f 126, f 127, f 128, f 129, f 130, f 131, f 132], defers := [] } W
      clear hK hd hold
      simp only [ze101] at HK ⊢
      clear ze101
      have HK := Aside.mk HK
      go_wp2
      refine HK.out _ _ (Below.refl _ _) ?_
      change Value.bool _ = Value.bool _
      rw [HGL.out.2]
    · -- 103 := move t0
      intro f W hW hold hd K hK
      have ze0 : f 0 = .string s := hold 0 rfl
      have HK : ∀ v W', Below W.heap.size W W' → tailV _ 103 v W' → K { tmps := #[f 0, f 1, f 2, f 3, f 4, f 5, f 6, f 7, f 8, f 9, f 10, f 11, f 12, f 13, f 14, f 15, f 16, f 17, f 18, f 19, f 20, f 21, f 22, f 23, f 24, f 25, f 26, f 27, f 28, f 29, f 30, f 31, f 32, f 33, f 34, f 35, f 36, f 37, f 38, f 39, f 40, f 41, f 42, f 43, f 44, f 45, f 46, f 47, f 48, f 49, f 50, f 51, f 52, f 53, f 54, f 55, f 56, f 57, f 58, f 59, f 60, f 61, f 62, f 63, f 64, f 65, f 66, f 67, f 68, f 69, f 70, f 71, f 72, f 73, f 74, f 75, f 76, f 77, f 78, f 79, f 80, f 81, f 82, f 83, f 84, f 85, f 86, f 87, f 88, f 89, f 90, f 91, f 92, f 93, f 94, f 95, f 96, f 97, f 98, f 99, f 100, f 101, f 102, v, f 104, f 105, f 106, f 107, f 108, f 109, f 110, f 111, f 112, f 113, f 114, f 115, f 116, f 117, f 118, f 119, f 120, f 121, f 122, f 123, f 124, f 125, f 126, f 127, f 128, f 129, f 130, f 131, f 132], defers := [] } W' := hK
      change wpList _ #[_] _ [_] { tmps := #[f 0, f 1, f 2, f 3, f 4, f 5, f 6, f 7, f 8, f 9, f 10, f 11, f 12, f 13, f 14, f 15, f 16, f 17, f 18, f 19, f 20, f 21, f 22, f 23, f 24, f 25, f 26, f 27, f 28, f 29, f 30, f 31, f 32, f 33, f 34, f 35, f 36, f 37, f 38, f 39, f 40, f 41, f 42, f 43, f 44, f 45, f 46, f 47, f 48, f 49, f 50, f 51, f 52, f 53, f 54, f 55, f 56, f 57, f 58, f 59, f 60, f 61, f 62, f 63, f 64, f 65, f 66, f 67, f 68, f 69, f 70, f 71, f 72, f 73, f 74, f 75, f 76, f 77, f 78, f 79, f 80, f 81, f 82, f 83, f 84, f 85, f 86, f 87, f 88, f 89, f 90, f 91, f 92, f 93, f 94, f 95, f 96, f 97, f 98, f 99, f 100, f 101, f 102, f 103, f 104, f 105, f 106, f 107, f 108, f 109, f 110, f 111, f 112, f 113, f 114, f 115, f 116, f 117, f 118, f 119, f 120, f 121, f 122, f 123, f 124, f 125, f 126, f 127, f 128, f 129, f 130, f 131, f 132], defers := [] } W
      clear hK hd hold
      simp only [ze0] at HK ⊢
      clear ze0
      have HK := Aside.mk HK
      go_wp2
      exact HK.out _ _ (Below.refl _ _) rfl
    · -- 104 := move t1
      intro f W hW hold hd K hK
      have ze1 : f 1 = .int .i64 n := hold 1 rfl
      have HK : ∀ v W', Below W.heap.size W W' → tailV _ 104 v W' → K { tmps := #[f 0, f 1, f 2, f 3, f 4, f 5, f 6, f 7, f 8, f 9, f 10, f 11, f 12, f 13, f 14, f 15, f 16, f 17, f 18, f 19, f 20, f 21, f 22, f 23, f 24, f 25, f 26, f 27, f 28, f 29, f 30, f 31, f 32, f 33, f 34, f 35, f 36, f 37, f 38, f 39, f 40, f 41, f 42, f 43, f 44, f 45, f 46, f 47, f 48, f 49, f 50, f 51, f 52, f 53, f 54, f 55, f 56, f 57, f 58, f 59, f 60, f 61, f 62, f 63, f 64, f 65, f 66, f 67, f 68, f 69, f 70, f 71, f 72, f 73, f 74, f 75, f 76, f 77, f 78, f 79, f 80, f 81, f 82, f 83, f 84, f 85, f 86, f 87, f 88, f 89, f 90, f 91, f 92, f 93, f 94, f 95, f 96, f 97, f 98, f 99, f 100, f 101, f 102, f 103, v, f 105, f 106, f 107, f 108, f 109, f 110, f 111, f 112, f 113, f 114, f 115, f 116, f 117, f 118, f 119, f 120, f 121, f 122, f 123, f 124, f 125, f 126, f 127, f 128, f 129, f 130, f 131, f 132], defers := [] } W' := hK
      change wpList _ #[_] _ [_] { tmps := #[f 0, f 1, f 2, f 3, f 4, f 5, f 6, f 7, f 8, f 9, f 10, f 11, f 12, f 13, f 14, f 15, f 16, f 17, f 18, f 19, f 20, f 21, f 22, f 23, f 24, f 25, f 26, f 27, f 28, f 29, f 30, f 31, f 32, f 33, f 34, f 35, f 36, f 37, f 38, f 39, f 40, f 41, f 42, f 43, f 44, f 45, f 46, f 47, f 48, f 49, f 50, f 51, f 52, f 53, f 54, f 55, f 56, f 57, f 58, f 59, f 60, f 61, f 62, f 63, f 64, f 65, f 66, f 67, f 68, f 69, f 70, f 71, f 72, f 73, f 74, f 75, f 76, f 77, f 78, f 79, f 80, f 81, f 82, f 83, f 84, f 85, f 86, f 87, f 88, f 89, f 90, f 91, f 92, f 93, f 94, f 95, f 96, f 97, f 98, f 99, f 100, f 101, f 102, f 103, f 104, f 105, f 106, f 107, f 108, f 109, f 110, f 111, f 112, f 113, f 114, f 115, f 116, f 117, f 118, f 119, f 120, f 121, f 122, f 123, f 124, f 125, f 126, f 127, f 128, f 129, f 130, f 131, f 132], defers := [] } W
      clear hK hd hold
      simp only [ze1] at HK ⊢
      clear ze1
      have HK := Aside.mk HK
      go_wp2
      exact HK.out _ _ (Below.refl _ _) rfl
    · -- 105 := binOp add 3 t104 <i64 13> 3
      intro f W hW hold hd K hK
      have ze104 : f 104 = .int .i64 n := hd 104 rfl rfl
      have HK : ∀ v W', Below W.heap.size W W' → tailV _ 105 v W' → K { tmps := #[f 0, f 1, f 2, f 3, f 4, f 5, f 6, f 7, f 8, f 9, f 10, f 11, f 12, f 13, f 14, f 15, f 16, f 17, f 18, f 19, f 20, f 21, f 22, f 23, f 24, f 25, f 26, f 27, f 28, f 29, f 30, f 31, f 32, f 33, f 34, f 35, f 36, f 37, f 38, f 39, f 40, f 41, f 42, f 43, f 44, f 45, f 46, f 47, f 48, f 49, f 50, f 51, f 52, f 53, f 54, f 55, f 56, f 57, f 58, f 59, f 60, f 61, f 62, f 63, f 64, f 65, f 66, f 67, f 68, f 69, f 70, f 71, f 72, f 73, f 74, f 75, f 76, f 77, f 78, f 79, f 80, f 81, f 82, f 83, f 84, f 85, f 86, f 87, f 88, f 89, f 90, f 91, f 92, f 93, f 94, f 95, f 96, f 97, f 98, f 99, f 100, f 101, f 102, f 103, f 104, v, f 106, f 107, f 108, f 109, f 110, f 111, f 112, f 113, f 114, f 115, f 116, f 117, f 118, f 119, f 120, f 121, f 122, f 123, f 124, f 125, f 126, f 127, f 128, f 129, f 130, f 131, f 132], defers := [] } W' := hK
      change wpList _ #[_] _ [_] { tmps := #[f 0, f 1, f 2, f 3, f 4, f 5, f 6, f 7, f 8, f 9, f 10, f 11, f 12, f 13, f 14, f 15, f 16, f 17, f 18, f 19, f 20, f 21, f 22, f 23, f 24, f 25, f 26, f 27, f 28, f 29, f 30, f 31, f 32, f 33, f 34, f 35, f 36, f 37, f 38, f 39, f 40, f 41, f 42, f 43, f 44, f 45, f 46, f 47, f 48, f 49, f 50, f 51, f 52, f 53, f 54, f 55, f 56, f 57, f 58, f 59, f 60, f 61, f 62, f 63, f 64, f 65, f 66, f 67, f 68, f 69, f 70, f 71, f 72, f 73, f 74, f 75, f 76, f 77, f 78, f 79, f 80, f 81, f 82, f 83, f 84, f 85, f 86, f 87, f 88, f 89, f 90, f 91, f 92, f 93, f 94, f 95, f 96, f 97, f 98, f 99, f 100, f 101, f 102, f 103, f 104, f 105, f 106, f 107, f 108, f 109, f 110, f 111, f 112, f 113, f 114, f 115, f 116, f 117, f 118, f 119, f 120, f 121, f 122, f 123, f 124, f 125, f 126, f 127, f 128, f 129, f 130, f 131, f 132], defers := [] } W
      clear hK hd hold
      simp only [ze104] at HK ⊢
      clear ze104
      have HK := Aside.mk HK
      go_wp2
      exact HK.out _ _ (Below.refl _ _) rfl
    · -- 106 := move t1
      intro f W hW hold hd K hK
      have ze1 : f 1 = .int .i64 n := hold 1 rfl
      have HK : ∀ v W', Below W.heap.size W W' → tailV _ 106 v W' → K { tmps := #[f 0, f 1, f 2, f 3, f 4, f 5, f 6, f 7, f 8, f 9, f 10, f 11, f 12, f 13, f 14, f 15, f 16, f 17, f 18, f 19, f 20, f 21, f 22, f 23, f 24, f 25, f 26, f 27, f 28, f 29, f 30, f 31, f 32, f 33, f 34, f 35, f 36, f 37, f 38, f 39, f 40, f 41, f 42, f 43, f 44, f 45, f 46, f 47, f 48, f 49, f 50, f 51, f 52, f 53, f 54, f 55, f 56, f 57, f 58, f 59, f 60, f 61, f 62, f 63, f 64, f 65, f 66, f 67, f 68, f 69, f 70, f 71, f 72, f 73, f 74, f 75, f 76, f 77, f 78, f 79, f 80, f 81, f 82, f 83, f 84, f 85, f 86, f 87, f 88, f 89, f 90, f 91, f 92, f 93, f 94, f 95, f 96, f 97, f 98, f 99, f 100, f 101, f 102, f 103, f 104, f 105, v, f 107, f 108, f 109, f 110, f 111, f 112, f 113, f 114, f 115, f 116, f 117, f 118, f 119, f 120, f 121, f 122, f 123, f 124, f 125, f 126, f 127, f 128, f 129, f 130, f 131, f 132], defers := [] } W' := hK
      change wpList _ #[_] _ [_] { tmps := #[f 0, f 1, f 2, f 3, f 4, f 5, f 6, f 7, f 8, f 9, f 10, f 11, f 12, f 13, f 14, f 15, f 16, f 17, f 18, f 19, f 20, f 21, f 22, f 23, f 24, f 25, f 26, f 27, f 28, f 29, f 30, f 31, f 32, f 33, f 34, f 35, f 36, f 37, f 38, f 39, f 40, f 41, f 42, f 43, f 44, f 45, f 46, f 47, f 48, f 49, f 50, f 51, f 52, f 53, f 54, f 55, f 56, f 57, f 58, f 59, f 60, f 61, f 62, f 63, f 64, f 65, f 66, f 67, f 68, f 69, f 70, f 71, f 72, f 73, f 74, f 75, f 76, f 77, f 78, f 79, f 80, f 81, f 82, f 83, f 84, f 85, f 86, f 87, f 88, f 89, f 90, f 91, f 92, f 93, f 94, f 95, f 96, f 97, f 98, f 99, f 100, f 101, f 102, f 103, f 104, f 105, f 106, f 107, f 108, f 109, f 110, f 111, f 112, f 113, f 114, f 115, f 116, f 117, f 118, f 119, f 120, f 121, f 122, f 123, f 124, f 125, f 126, f 127, f 128, f 129, f 130, f 131, f 132], defers := [] } W
      clear hK hd hold
      simp only [ze1] at HK ⊢
      clear ze1
      have HK := Aside.mk HK
      go_wp2
      exact HK.out _ _ (Below.refl _ _) rfl
    · -- 107 := binOp add 3 t106 <i64 13> 3
      intro f W hW hold hd K hK
      have ze106 : f 106 = .int .i64 n := hd 106 rfl rfl
      have HK : ∀ v W', Below W.heap.size W W' → tailV _ 107 v W' → K { tmps := #[f 0, f 1, f 2, f 3, f 4, f 5, f 6, f 7, f 8, f 9, f 10, f 11, f 12, f 13, f 14, f 15, f 16, f 17, f 18, f 19, f 20, f 21, f 22, f 23, f 24, f 25, f 26, f 27, f 28, f 29, f 30, f 31, f 32, f 33, f 34, f 35, f 36, f 37, f 38, f 39, f 40, f 41, f 42, f 43, f 44, f 45, f 46, f 47, f 48, f 49, f 50, f 51, f 52, f 53, f 54, f 55, f 56, f 57, f 58, f 59, f 60, f 61, f 62, f 63, f 64, f 65, f 66, f 67, f 68, f 69, f 70, f 71, f 72, f 73, f 74, f 75, f 76, f 77, f 78, f 79, f 80, f 81, f 82, f 83, f 84, f 85, f 86, f 87, f 88, f 89, f 90, f 91, f 92, f 93, f 94, f 95, f 96, f 97, f 98, f 99, f 100, f 101, f 102, f 103, f 104, f 105, f 106, v, f 108, f 109, f 110, f 111, f 112, f 113, f 114, f 115, f 116, f 117, f 118, f 119, f 120, f 121, f 122, f 123, f 124, f 125, f 126, f 127, f 128, f 129, f 130, f 131, f 132], defers := [] } W' := hK
      change wpList _ #[_] _ [_] { tmps := #[f 0, f 1, f 2, f 3, f 4, f 5, f 6, f 7, f 8, f 9, f 10, f 11, f 12, f 13, f 14, f 15, f 16, f 17, f 18, f 19, f 20, f 21, f 22, f 23, f 24, f 25, f 26, f 27, f 28, f 29, f 30, f 31, f 32, f 33, f 34, f 35, f 36, f 37, f 38, f 39, f 40, f 41, f 42, f 43, f 44, f 45, f 46, f 47, f 48, f 49, f 50, f 51, f 52, f 53, f 54, f 55, f 56, f 57, f 58, f 59, f 60, f 61, f 62, f 63, f 64, f 65, f 66, f 67, f 68, f 69, f 70, f 71, f 72, f 73, f 74, f 75, f 76, f 77, f 78, f 79, f 80, f 81, f 82, f 83, f 84, f 85, f 86, f 87, f 88, f 89, f 90, f 91, f 92, f 93, f 94, f 95, f 96, f 97, f 98, f 99, f 100, f 101, f 102, f 103, f 104, f 105, f 106, f 107, f 108, f 109, f 110, f 111, f 112, f 113, f 114, f 115, f 116, f 117, f 118, f 119, f 120, f 121, f 122, f 123, f 124, f 125, f 126, f 127, f 128, f 129, f 130, f 131, f 132], defers := [] } W
      clear hK hd hold
      simp only [ze106] at HK ⊢
      clear ze106
      have HK := Aside.mk HK
      go_wp2
      exact HK.out _ _ (Below.refl _ _) rfl
    · -- 108 := move t7
      intro f W hW hold hd K hK
      have ze7 : f 7 = .int .i64 k := hold 7 rfl
      have HK : ∀ v W', Below W.heap.size W W' → tailV _ 108 v W' → K { tmps := #[f 0, f 1, f 2, f 3, f 4, f 5, f 6, f 7, f 8, f 9, f 10, f 11, f 12, f 13, f 14, f 15, f 16, f 17, f 18, f 19, f 20, f 21, f 22, f 23, f 24, f 25, f 26, f 27, f 28, f 29, f 30, f 31, f 32, f 33, f 34, f 35, f 36, f 37, f 38, f 39, f 40, f 41, f 42, f 43, f 44, f 45, f 46, f 47, f 48, f 49, f 50, f 51, f 52, f 53, f 54, f 55, f 56, f 57, f 58, f 59, f 60, f 61, f 62, f 63, f 64, f 65, f 66, f 67, f 68, f 69, f 70, f 71, f 72, f 73, f 74, f 75, f 76, f 77, f 78, f 79, f 80, f 81, f 82, f 83, f 84, f 85, f 86, f 87, f 88, f 89, f 90, f 91, f 92, f 93, f 94, f 95, f 96, f 97, f 98, f 99, f 100, f 101, f 102, f 103, f 104, f 105, f 106, f 107, v, f 109, f 110, f 111, f 112, f 113, f 114, f 115, f 116, f 117, f 118, f 119, f 120, f 121, f 122, f 123, f 124, f 125, f 126, f 127, f 128, f 129, f 130, f 131, f 132], defers := [] } W' := hK
      change wpList _ #[_] _ [_] { tmps := #[f 0, f 1, f 2, f 3, f 4, f 5, f 6, f 7, f 8, f 9, f 10, f 11, f 12, f 13, f 14, f 15, f 16, f 17, f 18, f 19, f 20, f 21, f 22, f 23, f 24, f 25, f 26, f 27, f 28, f 29, f 30, f 31, f 32, f 33, f 34, f 35, f 36, f 37, f 38, f 39, f 40, f 41, f 42, f 43, f 44, f 45, f 46, f 47, f 48, f 49, f 50, f 51, f 52, f 53, f 54, f 55, f 56, f 57, f 58, f 59, f 60, f 61, f 62, f 63, f 64, f 65, f 66, f 67, f 68, f 69, f 70, f 71, f 72, f 73, f 74, f 75, f 76, f 77, f 78, f 79, f 80, f 81, f 82, f 83, f 84, f 85, f 86, f 87, f 88, f 89, f 90, f 91, f 92, f 93, f 94, f 95, f 96, f 97, f 98, f 99, f 100, f 101, f 102, f 103, f 104, f 105, f 106, f 107, f 108, f 109, f 110, f 111, f 112, f 113, f 114, f 115, f 116, f 117, f 118, f 119, f 120, f 121, f 122, f 123, f 124, f 125, f 126, f 127, f 128, f 129, f 130, f 131, f 132], defers := [] } W
      clear hK hd hold
      simp only [ze7] at HK ⊢
      clear ze7
      have HK := Aside.mk HK
      go_wp2
      exact HK.out _ _ (Below.refl _ _) rfl
    · -- 109 := binOp add 3 t107 t108 3
      intro f W hW hold hd K hK
      have ze107 : f 107 = .int .i64 i13 := hd 107 rfl rfl
      have ze108 : f 108 = .int .i64 k := hd 108 rfl rfl
      have HK : ∀ v W', Below W.heap.size W W' → tailV _ 109 v W' → K { tmps := #[f 0, f 1, f 2, f 3, f 4, f 5, f 6, f 7, f 8, f 9, f 10, f 11, f 12, f 13, f 14, f 15, f 16, f 17, f 18, f 19, f 20, f 21, f 22, f 23, f 24, f 25, f 26, f 27, f 28, f 29, f 30, f 31, f 32, f 33, f 34, f 35, f 36, f 37, f 38, f 39, f 40, f 41, f 42, f 43, f 44, f 45, f 46, f 47, f 48, f 49, f 50, f 51, f 52, f 53, f 54, f 55, f 56, f 57, f 58, f 59, f 60, f 61, f 62, f 63, f 64, f 65, f 66, f 67, f 68, f 69, f 70, f 71, f 72, f 73, f 74, f 75, f 76, f 77, f 78, f 79, f 80, f 81, f 82, f 83, f 84, f 85, f 86, f 87, f 88, f 89, f 90, f 91, f 92, f 93, f 94, f 95, f 96, f 97, f 98, f 99, f 100, f 101, f 102, f 103, f 104, f 105, f 106, f 107, f 108, v, f 110, f 111, f 112, f 113, f 114, f 115, f 116, f 117, f 118, f 119, f 120, f 121, f 122, f 123, f 124, f 125, f 126, f 127, f 128, f 129, f 130, f 131, f 132], defers := [] } W' := hK
      change wpList _ #[_] _ [_] { tmps := #[f 0, f 1, f 2, f 3, f 4, f 5, f 6, f 7, f 8, f 9, f 10, f 11, f 12, f 13, f 14, f 15, f 16, f 17, f 18, f 19, f 20, f 21, f 22, f 23, f 24, f 25, f 26, f 27, f 28, f 29, f 30, f 31, f 32, f 33, f 34, f 35, f 36, f 37, f 38, f 39, f 40, f 41, f 42, f 43, f 44, f 45, f 46, f 47, f 48, f 49, f 50, f 51, f 52, f 53, f 54, f 55, f 56, f 57, f 58, f 59, f 60, f 61, f 62, f 63, f 64, f 65, f 66, f 67, f 68, f 69, f 70, f 71, f 72, f 73, f 74, f 75, f 76, f 77, f 78, f 79, f 80, f 81, f 82, f 83, f 84, f 85, f 86, f 87, f 88, f 89, f 90, f 91, f 92, f 93, f 94, f 95, f 96, f 97, f 98, f 99, f 100, f 101, f 102, f 103, f 104, f 105, f 106, f 107, f 108, f 109, f 110, f 111, f 112, f 113, f 114, f 115, f 116, f 117, f 118, f 119, f 120, f 121, f 122, f 123, f 124, f 125, f 126, f 127, f 128, f 129, f 130, f 131, f 132], defers := [] } W
      clear hK hd hold
      simp only [ze107, ze108] at HK ⊢
      clear ze107 ze108
      have HK := Aside.mk HK
      go_wp2
      exact HK.out _ _ (Below.refl _ _) rfl
    · -- 110 := slice 9 t103 t105 t109 -
      intro f W hW hold hd K hK
      have ze103 : f 103 = .string s := hd 103 rfl rfl
      have ze105 : f 105 = .int .i64 i13 := hd 105 rfl rfl
      have ze109 : f 109 = .int .i64 e0 := hd 109 rfl rfl
      have HK : ∀ v W', Below W.heap.size W W' → tailV _ 110 v W' → K { tmps := #[f 0, f 1, f 2, f 3, f 4, f 5, f 6, f 7, f 8, f 9, f 10, f 11, f 12, f 13, f 14, f 15, f 16, f 17, f 18, f 19, f 20, f 21, f 22, f 23, f 24, f 25, f 26, f 27, f 28, f 29, f 30, f 31, f 32, f 33, f 34, f 35, f 36, f 37, f 38, f 39, f 40, f 41, f 42, f 43, f 44, f 45, f 46, f 47, f 48, f 49, f 50, f 51, f 52, f 53, f 54, f 55, f 56, f 57, f 58, f 59, f 60, f 61, f 62, f 63, f 64, f 65, f 66, f 67, f 68, f 69, f 70, f 71, f 72, f 73, f 74, f 75, f 76, f 77, f 78, f 79, f 80, f 81, f 82, f 83, f 84, f 85, f 86, f 87, f 88, f 89, f 90, f 91, f 92, f 93, f 94, f 95, f 96, f 97, f 98, f 99, f 100, f 101, f 102, f 103, f 104, f 105, f 106, f 107, f 108, f 109, v, f 111, f 112, f 113, f 114, f 115, f 116, f 117, f 118, f 119, f 120, f 121, f 122, f 123, f 124, f 125, f 126, f 127, f 128, f 129, f 130, f 131, f 132], defers := [] } W' := hK
      change wpList _ #[_] _ [_] { tmps := #[f 0, f 1, f 2, f 3, f 4, f 5, f 6, f 7, f 8, f 9, f 10, f 11, f 12, f 13, f 14, f 15, f 16, f 17, f 18, f 19, f 20, f 21, f 22, f 23, f 24, f 25, f 26, f 27, f 28, f 29, f 30, f 31, f 32, f 33, f 34, f 35, f 36, f 37, f 38, f 39, f 40, f 41, f 42, f 43, f 44, f 45, f 46, f 47, f 48, f 49, f 50, f 51, f 52, f 53, f 54, f 55, f 56, f 57, f 58, f 59, f 60, f 61, f 62, f 63, f 64, f 65, f 66, f 67, f 68, f 69, f 70, f 71, f 72, f 73, f 74, f 75, f 76, f 77, f 78, f 79, f 80, f 81, f 82, f 83, f 84, f 85, f 86, f 87, f 88, f 89, f 90, f 91, f 92, f 93, f 94, f 95, f 96, f 97, f 98, f 99, f 100, f 101, f 102, f 103, f 104, f 105, f 106, f 107, f 108, f 109, f 110, f 111, f 112, f 113, f 114, f 115, f 116, f 117, f 118, f 119, f 120, f 121, f 122, f 123, f 124, f 125, f 126, f 127, f 128, f 129, f 130, f 131, f 132], defers := [] } W
      clear hK hd hold
      simp only [ze103, ze105, ze109] at HK ⊢
      clear ze103 ze105 ze109
      have HK := Aside.mk HK
      have hkx := HKX.out
      go_wp2
      exact HK.out _ _ (Below.refl _ _) rfl
    · -- 111 := move t0
      intro f W hW hold hd K hK
      have ze0 : f 0 = .string s := hold 0 rfl
      have HK : ∀ v W', Below W.heap.size W W' → tailV _ 111 v W' → K { tmps := #[f 0, f 1, f 2, f 3, f 4, f 5, f 6, f 7, f 8, f 9, f 10, f 11, f 12, f 13, f 14, f 15, f 16, f 17, f 18, f 19, f 20, f 21, f 22, f 23, f 24, f 25, f 26, f 27, f 28, f 29, f 30, f 31, f 32, f 33, f 34, f 35, f 36, f 37, f 38, f 39, f 40, f 41, f 42, f 43, f 44, f 45, f 46, f 47, f 48, f 49, f 50, f 51, f 52, f 53, f 54, f 55, f 56, f 57, f 58, f 59, f 60, f 61, f 62, f 63, f 64, f 65, f 66, f 67, f 68, f 69, f 70, f 71, f 72, f 73, f 74, f 75, f 76, f 77, f 78, f 79, f 80, f 81, f 82, f 83, f 84, f 85, f 86, f 87, f 88, f 89, f 90, f 91, f 92, f 93, f 94, f 95, f 96, f 97, f 98, f 99, f 100, f 101, f 102, f 103, f 104, f 105, f 106, f 107, f 108, f 109, f 110, v, f 112, f 113, f 114, f 115, f 116, f 117, f 118, f 119, f 120, f 121, f 122, f 123, f 124, f 125, f 126, f 127, f 128, f 129, f 130, f 131, f 132], defers := [] } W' := hK
      change wpList _ #[_] _ [_] { tmps := #[f 0, f 1, f 2, f 3, f 4, f 5, f 6, f 7, f 8, f 9, f 10, f 11, f 12, f 13, f 14, f 15, f 16, f 17, f 18, f 19, f 20, f 21, f 22, f 23, f 24, f 25, f 26, f 27, f 28, f 29, f 30, f 31, f 32, f 33, f 34, f 35, f 36, f 37, f 38, f 39, f 40, f 41, f 42, f 43, f 44, f 45, f 46, f 47, f 48, f 49, f 50, f 51, f 52, f 53, f 54, f 55, f 56, f 57, f 58, f 59, f 60, f 61, f 62, f 63, f 64, f 65, f 66, f 67, f 68, f 69, f 70, f 71, f 72, f 73, f 74, f 75, f 76, f 77, f 78, f 79, f 80, f 81, f 82, f 83, f 84, f 85, f 86, f 87, f 88, f 89, f 90, f 91, f 92, f 93, f 94, f 95, f 96, f 97, f 98, f 99, f 100, f 101, f 102, f 103, f 104, f 105, f 106, f 107, f 108, f 109, f 110, f 111, f 112, f 113, f 114, f 115, f 116, f 117, f 118, f 119, f 120, f 121, f 122, f 123, f 124, f 125, f 126, f 127, f 128, f 129, f 130, f 131, f 132], defers := [] } W
      clear hK hd hold
      simp only [ze0] at HK ⊢
      clear ze0
      have HK := Aside.mk HK
      go_wp2
      exact HK.out _ _ (Below.refl _ _) rfl
    · -- 112 := move t1
      intro f W hW hold hd K hK
      have ze1 : f 1 = .int .i64 n := hold 1 rfl
      have HK : ∀ v W', Below W.heap.size W W' → tailV _ 112 v W' → K { tmps := #[f 0, f 1, f 2, f 3, f 4, f 5, f 6, f 7, f 8, f 9, f 10, f 11, f 12, f 13, f 14, f 15, f 16, f 17, f 18, f 19, f 20, f 21, f 22, f 23, f 24, f 25, f 26, f 27, f 28, f 29, f 30, f 31, f 32, f 33, f 34, f 35, f 36, f 37, f 38, f 39, f 40, f 41, f 42, f 43, f 44, f 45, f 46, f 47, f 48, f 49, f 50, f 51, f 52, f 53, f 54, f 55, f 56, f 57, f 58, f 59, f 60, f 61, f 62, f 63, f 64, f 65, f 66, f 67, f 68, f 69, f 70, f 71, f 72, f 73, f 74, f 75, f 76, f 77, f 78, f 79, f 80, f 81, f 82, f 83, f 84, f 85, f 86, f 87, f 88, f 89, f 90, f 91, f 92, f 93, f 94, f 95, f 96, f 97, f 98, f 99, f 100, f 101, f 102, f 103, f 104, f 105, f 106, f 107, f 108, f 109, f 110, f 111, v, f 113, f 114, f 115, f 116, f 117, f 118, f 119, f 120, f 121, f 122, f 123, f 124, f 125, f 126, f 127, f 128, f 129, f 130, f 131, f 132], defers := [] } W' := hK
      change wpList _ #[_] _ [_] { tmps := #[f 0, f 1, f 2, f 3, f 4, f 5, f 6, f 7, f 8, f 9, f 10, f 11, f 12, f 13, f 14, f 15, f 16, f 17, f 18, f 19, f 20, f 21, f 22, f 23, f 24, f 25, f 26, f 27, f 28, f 29, f 30, f 31, f 32, f 33, f 34, f 35, f 36, f 37, f 38, f 39, f 40, f 41, f 42, f 43, f 44, f 45, f 46, f 47, f 48, f 49, f 50, f 51, f 52, f 53, f 54, f 55, f 56, f 57, f 58, f 59, f 60, f 61, f 62, f 63, f 64, f 65, f 66, f 67, f 68, f 69, f 70, f 71, f 72, f 73, f 74, f 75, f 76, f 77, f 78, f 79, f 80, f 81, f 82, f 83, f 84, f 85, f 86, f 87, f 88, f 89, f 90, f 91, f 92, f 93, f 94, f 95, f 96, f 97, f 98, f 99, f 100, f 101, f 102, f 103, f 104, f 105, f 106, f 107, f 108, f 109, f 110, f 111, f 112, f 113, f 114, f 115, f 116, f 117, f 118, f 119, f 120, f 121, f 122, f 123, f 124, f 125, f 126, f 127, f 128, f 129, f 130, f 131, f 132], defers := [] } W
      clear hK hd hold
      simp only [ze1] at HK ⊢
      clear ze1
      have HK := Aside.mk HK
      go_wp2
      exact HK.out _ _ (Below.refl _ _) rfl
    · -- 113 := binOp add 3 t112 <i64 13> 3
      intro f W hW hold hd K hK
      have ze112 : f 112 = .int .i64 n := hd 112 rfl rfl
      have HK : ∀ v W', Below W.heap.size W W' → tailV _ 113 v W' → K { tmps := #[f 0, f 1, f 2, f 3, f 4, f 5, f 6, f 7, f 8, f 9, f 10, f 11, f 12, f 13, f 14, f 15, f 16, f 17, f 18, f 19, f 20, f 21, f 22, f 23, f 24, f 25, f 26, f 27, f 28, f 29, f 30, f 31, f 32, f 33, f 34, f 35, f 36, f 37, f 38, f 39, f 40, f 41, f 42, f 43, f 44, f 45, f 46, f 47, f 48, f 49, f 50, f 51, f 52, f 53, f 54, f 55, f 56, f 57, f 58, f 59, f 60, f 61, f 62, f 63, f 64, f 65, f 66, f 67, f 68, f 69, f 70, f 71, f 72, f 73, f 74, f 75, f 76, f 77, f 78, f 79, f 80, f 81, f 82, f 83, f 84, f 85, f 86, f 87, f 88, f 89, f 90, f 91, f 92, f 93, f 94, f 95, f 96, f 97, f 98, f 99, f 100, f 101, f 102, f 103, f 104, f 105, f 106, f 107, f 108, f 109, f 110, f 111, f 112, v, f 114, f 115, f 116, f 117, f 118, f 119, f 120, f 121, f 122, f 123, f 124, f 125, f 126, f 127, f 128, f 129, f 130, f 131, f 132], defers := [] } W' := hK
      change wpList _ #[_] _ [_] { tmps := #[f 0, f 1, f 2, f 3, f 4, f 5, f 6, f 7, f 8, f 9, f 10, f 11, f 12, f 13, f 14, f 15, f 16, f 17, f 18, f 19, f 20, f 21, f 22, f 23, f 24, f 25, f 26, f 27, f 28, f 29, f 30, f 31, f 32, f 33, f 34, f 35, f 36, f 37, f 38, f 39, f 40, f 41, f 42, f 43, f 44, f 45, f 46, f 47, f 48, f 49, f 50, f 51, f 52, f 53, f 54, f 55, f 56, f 57, f 58, f 59, f 60, f 61, f 62, f 63, f 64, f 65, f 66, f 67, f 68, f 69, f 70, f 71, f 72, f 73, f 74, f 75, f 76, f 77, f 78, f 79, f 80, f 81, f 82, f 83, f 84, f 85, f 86, f 87, f 88, f 89, f 90, f 91, f 92, f 93, f 94, f 95, f 96, f 97, f 98, f 99, f 100, f 101, f 102, f 103, f 104, f 105, f 106, f 107, f 108, f 109, f 110, f 111, f 112, f 113, f 114, f 115, f 116, f 117, f 118, f 119, f 120, f 121, f 122, f 123, f 124, f 125, f 126, f 127, f 128, f 129, f 130, f 131, f 132], defers := [] } W
      clear hK hd hold
      simp only [ze112] at HK ⊢
      clear ze112
      have HK := Aside.mk HK
      go_wp2
      exact HK.out _ _ (Below.refl _ _) rfl
    · -- 114 := move t7
      intro f W hW hold hd K hK
      have ze7 : f 7 = .int .i64 k := hold 7 rfl
      have HK : ∀ v W', Below W.heap.size W W' → tailV _ 114 v W' → K { tmps := #[f 0, f 1, f 2, f 3, f 4, f 5, f 6, f 7, f 8, f 9, f 10, f 11, f 12, f 13, f 14, f 15, f 16, f 17, f 18, f 19, f 20, f 21, f 22, f 23, f 24, f 25, f 26, f 27, f 28, f 29, f 30, f 31, f 32, f 33, f 34, f 35, f 36, f 37, f 38, f 39, f 40, f 41, f 42, f 43, f 44, f 45, f 46, f 47, f 48, f 49, f 50, f 51, f 52, f 53, f 54, f 55, f 56, f 57, f 58, f 59, f 60, f 61, f 62, f 63, f 64, f 65, f 66, f 67, f 68, f 69, f 70, f 71, f 72, f 73, f 74, f 75, f 76, f 77, f 78, f 79, f 80, f 81, f 82, f 83, f 84, f 85, f 86, f 87, f 88, f 89, f 90, f 91, f 92, f 93, f 94, f 95, f 96, f 97, f 98, f 99, f 100, f 101, f 102, f 103, f 104, f 105, f 106, f 107, f 108, f 109, f 110, f 111, f 112, f 113, v, f 115, f 116, f 117, f 118, f 119, f 120, f 121, f 122, f 123, f 124, f 125, f 126, f 127, f 128, f 129, f 130, f 131, f 132], defers := [] } W' := hK
      change wpList _ #[_] _ [_] { tmps := #[f 0, f 1, f 2, f 3, f 4, f 5, f 6, f 7, f 8, f 9, f 10, f 11, f 12, f 13, f 14, f 15, f 16, f 17, f 18, f 19, f 20, f 21, f 22, f 23, f 24, f 25, f 26, f 27, f 28, f 29, f 30, f 31, f 32, f 33, f 34, f 35, f 36, f 37, f 38, f 39, f 40, f 41, f 42, f 43, f 44, f 45, f 46, f 47, f 48, f 49, f 50, f 51, f 52, f 53, f 54, f 55, f 56, f 57, f 58, f 59, f 60, f 61, f 62, f 63, f 64, f 65, f 66, f 67, f 68, f 69, f 70, f 71, f 72, f 73, f 74, f 75, f 76, f 77, f 78, f 79, f 80, f 81, f 82, f 83, f 84, f 85, f 86, f 87, f 88, f 89, f 90, f 91, f 92, f 93, f 94, f 95, f 96, f 97, f 98, f 99, f 100, f 101, f 102, f 103, f 104, f 105, f 106, f 107, f 108, f 109, f 110, f 111, f 112, f 113, f 114, f 115, f 116, f 117, f 118, f 119, f 120, f 121, f 122, f 123, f 124, f 125, f 126, f 127, f 128, f 129, f 130, f 131, f 132], defers := [] } W
      clear hK hd hold
      simp only [ze7] at HK ⊢
      clear ze7
      have HK := Aside.mk HK
      go_wp2
      exact HK.out _ _ (Below.refl _ _) rfl
    · -- 115 := binOp add 3 t113 t114 3
      intro f W hW hold hd K hK
      have ze113 : f 113 = .int .i64 i13 := hd 113 rfl rfl
      have ze114 : f 114 = .int .i64 k := hd 114 rfl rfl
      have HK : ∀ v W', Below W.heap.size W W' → tailV _ 115 v W' → K { tmps := #[f 0, f 1, f 2, f 3, f 4, f 5, f 6, f 7, f 8, f 9, f 10, f 11, f 12, f 13, f 14, f 15, f 16, f 17, f 18, f 19, f 20, f 21, f 22, f 23, f 24, f 25, f 26, f 27, f 28, f 29, f 30, f 31, f 32, f 33, f 34, f 35, f 36, f 37, f 38, f 39, f 40, f 41, f 42, f 43, f 44, f 45, f 46, f 47, f 48, f 49, f 50, f 51, f 52, f 53, f 54, f 55, f 56, f 57, f 58, f 59, f 60, f 61, f 62, f 63, f 64, f 65, f 66, f 67, f 68, f 69, f 70, f 71, f 72, f 73, f 74, f 75, f 76, f 77, f 78, f 79, f 80, f 81, f 82, f 83, f 84, f 85, f 86, f 87, f 88, f 89, f 90, f 91, f 92, f 93, f 94, f 95, f 96, f 97, f 98, f 99, f 100, f 101, f 102, f 103, f 104, f 105, f 106, f 107, f 108, f 109, f 110, f 111, f 112, f 113, f 114, v, f 116, f 117, f 118, f 119, f 120, f 121, f 122, f 123, f 124, f 125, f 126, f 127, f 128, f 129, f 130, f 131, f 132], defers := [] } W' := hK
      change wpList _ #[_] _ [_] { tmps := #[f 0, f 1, f 2, f 3, f 4, f 5, f 6, f 7, f 8, f 9, f 10, f 11, f 12, f 13, f 14, f 15, f 16, f 17, f 18, f 19, f 20, f 21, f 22, f 23, f 24, f 25, f 26, f 27, f 28, f 29, f 30, f 31, f 32, f 33, f 34, f 35, f 36, f 37, f 38, f 39, f 40, f 41, f 42, f 43, f 44, f 45, f 46, f 47, f 48, f 49, f 50, f 51, f 52, f 53, f 54, f 55, f 56, f 57, f 58, f 59, f 60, f 61, f 62, f 63, f 64, f 65, f 66, f 67, f 68, f 69, f 70, f 71, f 72, f 73, f 74, f 75, f 76, f 77, f 78, f 79, f 80, f 81, f 82, f 83, f 84, f 85, f 86, f 87, f 88, f 89, f 90, f 91, f 92, f 93, f 94, f 95, f 96, f 97, f 98, f 99, f 100, f 101, f 102, f 103, f 104, f 105, f 106, f 107, f 108, f 109, f 110, f 111, f 112, f 113, f 114, f 115, f 116, f 117, f 118, f 119, f 120, f 121, f 122, f 123, f 124, f 125, f 126, f 127, f 128, f 129, f 130, f 131, f 132], defers := [] } W
      clear hK hd hold
      simp only [ze113, ze114] at HK ⊢
      clear ze113 ze114
      have HK := Aside.mk HK
      go_wp2
      exact HK.out _ _ (Below.refl _ _) rfl
    · -- 116 := move t9
      intro f W hW hold hd K hK
      have ze9 : f 9 = .int .i64 e9 := hold 9 rfl
      have HK : ∀ v W', Below W.heap.size W W' → tailV _ 116 v W' → K { tmps := #[f 0, f 1, f 2, f 3, f 4, f 5, f 6, f 7, f 8, f 9, f 10, f 11, f 12, f 13, f 14, f 15, f 16, f 17, f 18, f 19, f 20, f 21, f 22, f 23, f 24, f 25, f 26, f 27, f 28, f 29, f 30, f 31, f 32, f 33, f 34, f 35, f 36, f 37, f 38, f 39, f 40, f 41, f 42, f 43, f 44, f 45, f 46, f 47, f 48, f 49, f 50, f 51, f 52, f 53, f 54, f 55, f 56, f 57, f 58, f 59, f 60, f 61, f 62, f 63, f 64, f 65, f 66, f 67, f 68, f 69, f 70, f 71, f 72, f 73, f 74, f 75, f 76, f 77, f 78, f 79, f 80, f 81, f 82, f 83, f 84, f 85, f 86, f 87, f 88, f 89, f 90, f 91, f 92, f 93, f 94, f 95, f 96, f 97, f 98, f 99, f 100, f 101, f 102, f 103, f 104, f 105, f 106, f 107, f 108, f 109, f 110, f 111, f 112, f 113, f 114, f 115, v, f 117, f 118, f 119, f 120, f 121, f 122, f 123, f 124, f 125, f 126, f 127, f 128, f 129, f 130, f 131, f 132], defers := [] } W' := hK
      change wpList _ #[_] _ [_] { tmps := #[f 0, f 1, f 2, f 3, f 4, f 5, f 6, f 7, f 8, f 9, f 10, f 11, f 12, f 13, f 14, f 15, f 16, f 17, f 18, f 19, f 20, f 21, f 22, f 23, f 24, f 25, f 26, f 27, f 28, f 29, f 30, f 31, f 32, f 33, f 34, f 35, f 36, f 37, f 38, f 39, f 40, f 41, f 42, f 43, f 44, f 45, f 46, f 47, f 48, f 49, f 50, f 51, f 52, f 53, f 54, f 55, f 56, f 57, f 58, f 59, f 60, f 61, f 62, f 63, f 64, f 65, f 66, f 67, f 68, f 69, f 70, f 71, f 72, f 73, f 74, f 75, f 76, f 77, f 78, f 79, f 80, f 81, f 82, f 83, f 84, f 85, f 86, f 87, f 88, f 89, f 90, f 91, f 92, f 93, f 94, f 95, f 96, f 97, f 98, f 99, f 100, f 101, f 102, f 103, f 104, f 105, f 106, f 107, f 108, f 109, f 110, f 111, f 112, f 113, f 114, f 115, f 116, f 117, f 118, f 119, f 120, f 121, f 122, f 123, f 124, f 125, f 126, f 127, f 128, f 129, f 130, f 131, f 132], defers := [] } W
      clear hK hd hold
      simp only [ze9] at HK ⊢
      clear ze9
      have HK := Aside.mk HK
      go_wp2
      exact HK.out _ _ (Below.refl _ _) rfl
    · -- 117 := slice 9 t111 t115 t116 -
      intro f W hW hold hd K hK
      have ze111 : f 111 = .string s := hd 111 rfl rfl
      have ze115 : f 115 = .int .i64 e0 := hd 115 rfl rfl
      have ze116 : f 116 = .int .i64 e9 := hd 116 rfl rfl
      have HK : ∀ v W', Below W.heap.size W W' → tailV _ 117 v W' → K { tmps := #[f 0, f 1, f 2, f 3, f 4, f 5, f 6, f 7, f 8, f 9, f 10, f 11, f 12, f 13, f 14, f 15, f 16, f 17, f 18, f 19, f 20, f 21, f 22, f 23, f 24, f 25, f 26, f 27, f 28, f 29, f 30, f 31, f 32, f 33, f 34, f 35, f 36, f 37, f 38, f 39, f 40, f 41, f 42, f 43, f 44, f 45, f 46, f 47, f 48, f 49, f 50, f 51, f 52, f 53, f 54, f 55, f 56, f 57, f 58, f 59, f 60, f 61, f 62, f 63, f 64, f 65, f 66, f 67, f 68, f 69, f 70, f 71, f 72, f 73, f 74, f 75, f 76, f 77, f 78, f 79, f 80, f 81, f 82, f 83, f 84, f 85, f 86, f 87, f 88, f 89, f 90, f 91, f 92, f 93, f 94, f 95, f 96, f 97, f 98, f 99, f 100, f 101, f 102, f 103, f 104, f 105, f 106, f 107, f 108, f 109, f 110, f 111, f 112, f 113, f 114, f 115, f 116, v, f 118, f 119, f 120, f 121, f 122, f 123, f 124, f 125, f 126, f 127, f 128, f 129, f 130, f 131, f 132], defers := [] } W' := hK
      change wpList _ #[_] _ [_] { tmps := #[f 0, f 1, f 2, f 3, f 4, f 5, f 6, f 7, f 8, f 9, f 10, f 11, f 12, f 13, f 14, f 15, f 16, f 17, f 18, f 19, f 20, f 21, f 22, f 23, f 24, f 25, f 26, f 27, f 28, f 29, f 30, f 31, f 32, f 33, f 34, f 35, f 36, f 37, f 38, f 39, f 40, f 41, f 42, f 43, f 44, f 45, f 46, f 47, f 48, f 49, f 50, f 51, f 52, f 53, f 54, f 55, f 56, f 57, f 58, f 59, f 60, f 61, f 62, f 63, f 64, f 65, f 66, f 67, f 68, f 69, f 70, f 71, f 72, f 73, f 74, f 75, f 76, f 77, f 78, f 79, f 80, f 81, f 82, f 83, f 84, f 85, f 86, f 87, f 88, f 89, f 90, f 91, f 92, f 93, f 94, f 95, f 96, f 97, f 98, f 99, f 100, f 101, f 102, f 103, f 104, f 105, f 106, f 107, f 108, f 109, f 110, f 111, f 112, f 113, f 114, f 115, f 116, f 117, f 118, f 119, f 120, f 121, f 122, f 123, f 124, f 125, f 126, f 127, f 128, f 129, f 130, f 131, f 132], defers := [] } W
      clear hK hd hold
      simp only [ze111, ze115, ze116] at HK ⊢
      clear ze111 ze115 ze116
      have HK := Aside.mk HK
      have hvx := HVX.out
      go_wp2
      exact HK.out _ _ (Below.refl _ _) rfl
    · -- 118 := build 27 [(0, t89), (1, t95), (2, t102), (3, t110), (4, t117)]
      intro f W hW hold hd K hK
      have ze89 : f 89 = .int .i64 q2 := hd 89 rfl rfl
      have ze95 : f 95 = .bool g := hd 95 rfl rfl
      have ze102 : f 102 = .bool l := hd 102 rfl rfl
      have ze110 : f 110 = .string kx := hd 110 rfl rfl
      have ze117 : f 117 = .string vx := hd 117 rfl rfl
      have HK : ∀ v W', Below W.heap.size W W' → tailV _ 118 v W' → K { tmps := #[f 0, f 1, f 2, f 3, f 4, f 5, f 6, f 7, f 8, f 9, f 10, f 11, f 12, f 13, f 14, f 15, f 16, f 17, f 18, f 19, f 20, f 21, f 22, f 23, f 24, f 25, f 26, f 27, f 28, f 29, f 30, f 31, f 32, f 33, f 34, f 35, f 36, f 37, f 38, f 39, f 40, f 41, f 42, f 43, f 44, f 45, f 46, f 47, f 48, f 49, f 50, f 51, f 52, f 53, f 54, f 55, f 56, f 57, f 58, f 59, f 60, f 61, f 62, f 63, f 64, f 65, f 66, f 67, f 68, f 69, f 70, f 71, f 72, f 73, f 74, f 75, f 76, f 77, f 78, f 79, f 80, f 81, f 82, f 83, f 84, f 85, f 86, f 87, f 88, f 89, f 90, f 91, f 92, f 93, f 94, f 95, f 96, f 97, f 98, f 99, f 100, f 101, f 102, f 103, f 104, f 105, f 106, f 107, f 108, f 109, f 110, f 111, f 112, f 113, f 114, f 115, f 116, f 117, v, f 119, f 120, f 121, f 122, f 123, f 124, f 125, f 126, f 127, f 128, f 129, f 130, f 131, f 132], defers := [] } W' := hK
      change wpList _ #[_] _ [_] { tmps := #[f 0, f 1, f 2, f 3, f 4, f 5, f 6, f 7, f 8, f 9, f 10, f 11, f 12, f 13, f 14, f 15, f 16, f 17, f 18, f 19, f 20, f 21, f 22, f 23, f 24, f 25, f 26, f 27, f 28, f 29, f 30, f 31, f 32, f 33, f 34, f 35, f 36, f 37, f 38, f 39, f 40, f 41, f 42, f 43, f 44, f 45, f 46, f 47, f 48, f 49, f 50, f 51, f 52, f 53, f 54, f 55, f 56, f 57, f 58, f 59, f 60, f 61, f 62, f 63, f 64, f 65, f 66, f 67, f 68, f 69, f 70, f 71, f 72, f 73, f 74, f 75, f 76, f 77, f 78, f 79, f 80, f 81, f 82, f 83, f 84, f 85, f 86, f 87, f 88, f 89, f 90, f 91, f 92, f 93, f 94, f 95, f 96, f 97, f 98, f 99, f 100, f 101, f 102, f 103, f 104, f 105, f 106, f 107, f 108, f 109, f 110, f 111, f 112, f 113, f 114, f 115, f 116, f 117, f 118, f 119, f 120, f 121, f 122, f 123, f 124, f 125, f 126, f 127, f 128, f 129, f 130, f 131, f 132], defers := [] } W
      clear hK hd hold
      simp only [ze89, ze95, ze102, ze110, ze117] at HK ⊢
      clear ze89 ze95 ze102 ze110 ze117
      have HK := Aside.mk HK
      go_wp2
      exact HK.out _ _ (Below.refl _ _) rfl
    · -- 10 := alloc 27
      intro f W hW hold hd K hK
      have HK : ∀ v W', Below W.heap.size W W' → tailV _ 10 v W' → K { tmps := #[f 0, f 1, f 2, f 3, f 4, f 5, f 6, f 7, f 8, f 9, v, f 11, f 12, f 13, f 14, f 15, f 16, f 17, f 18, f 19, f 20, f 21, f 22, f 23, f 24, f 25, f 26, f 27, f 28, f 29, f 30, f 31, f 32, f 33, f 34, f 35, f 36, f 37, f 38, f 39, f 40, f 41, f 42, f 43, f 44, f 45, f 46, f 47, f 48, f 49, f 50, f 51, f 52, f 53, f 54, f 55, f 56, f 57, f 58, f 59, f 60, f 61, f 62, f 63, f 64, f 65, f 66, f 67, f 68, f 69, f 70, f 71, f 72, f 73, f 74, f 75, f 76, f 77, f 78, f 79, f 80, f 81, f 82, f 83, f 84, f 85, f 86, f 87, f 88, f 89, f 90, f 91, f 92, f 93, f 94, f 95, f 96, f 97, f 98, f 99, f 100, f 101, f 102, f 103, f 104, f 105, f 106, f 107, f 108, f 109, f 110, f 111, f 112, f 113, f 114, f 115, f 116, f 117, f 118, f 119, f 120, f 121, f 122, f 123, f 124, f 125, f 126, f 127, f 128, f 129, f 130, f 131, f 132], defers := [] } W' := hK
      change wpList _ #[_] _ [_] { tmps := #[f 0, f 1, f 2, f 3, f 4, f 5, f 6, f 7, f 8, f 9, f 10, f 11, f 12, f 13, f 14, f 15, f 16, f 17, f 18, f 19, f 20, f 21, f 22, f 23, f 24, f 25, f 26, f 27, f 28, f 29, f 30, f 31, f 32, f 33, f 34, f 35, f 36, f 37, f 38, f 39, f 40, f 41, f 42, f 43, f 44, f 45, f 46, f 47, f 48, f 49, f 50, f 51, f 52, f 53, f 54, f 55, f 56, f 57, f 58, f 59, f 60, f 61, f 62, f 63, f 64, f 65, f 66, f 67, f 68, f 69, f 70, f 71, f 72, f 73, f 74, f 75, f 76, f 77, f 78, f 79, f 80, f 81, f 82, f 83, f 84, f 85, f 86, f 87, f 88, f 89, f 90, f 91, f 92, f 93, f 94, f 95, f 96, f 97, f 98, f 99, f 100, f 101, f 102, f 103, f 104, f 105, f 106, f 107, f 108, f 109, f 110, f 111, f 112, f 113, f 114, f 115, f 116, f 117, f 118, f 119, f 120, f 121, f 122, f 123, f 124, f 125, f 126, f 127, f 128, f 129, f 130, f 131, f 132], defers := [] } W
      clear hK hd hold
      have HK := Aside.mk HK
      go_wp2
      exact HK.out _ _ ((Below.refl _ _).alloc (Nat.le_refl _) _) ⟨_, rfl, hW.size, heap_alloc_new _ _⟩
    · -- the last: store 27 t10 t118
      intro f W hW hold hd K hK
      have ze0 : f 0 = .string s := hold 0 rfl
      have ze1 : f 1 = .int .i64 n := hold 1 rfl
      have ze4 : f 4 = .pointer (some ⟨w.heap.size, 0, none⟩) := hold 4 rfl
      have ze5 : f 5 = .int .i64 0 := hold 5 rfl
      have ze6 : f 6 = .int .i64 0 := hold 6 rfl
      have ze7 : f 7 = .int .i64 k := hold 7 rfl
      have ze8 : f 8 = .int .i64 v := hold 8 rfl
      have ze9 : f 9 = .int .i64 e9 := hold 9 rfl
      obtain ⟨b10, ze10, l10, r10⟩ : ∃ bb, f 10 = .pointer (some ⟨bb, 0, none⟩) ∧ w2.heap.size ≤ bb ∧ W.heap[bb]? = some (.cells (nodeC 0 false false ⟨#[]⟩ ⟨#[]⟩) 32 (0, 0)) := hd 10 rfl
      have ze83 : f 83 = .string s := hd 83 rfl
      have ze84 : f 84 = .int .i64 n := hd 84 rfl
      have ze85 : f 85 = .int .i64 i2 := hd 85 rfl
      have ze86 : f 86 = .int .i64 n := hd 86 rfl
      have ze87 : f 87 = .int .i64 i10 := hd 87 rfl
      have ze88 : f 88 = .string (s.extract i2 i10) := hd 88 rfl
      have ze89 : f 89 = .int .i64 q2 := hd 89 rfl
      have ze90 : f 90 = .string s := hd 90 rfl
      have ze91 : f 91 = .int .i64 n := hd 91 rfl
      have ze92 : f 92 = .int .i64 i1 := hd 92 rfl
      have ze93 : f 93 = .int .u8 f1 := hd 93 rfl
      have ze94 : f 94 = .int .u8 ((f1 % 2 : Nat) : Int) := hd 94 rfl
      have ze95 : f 95 = .bool g := hd 95 rfl
      have ze96 : f 96 = .string s := hd 96 rfl
      have ze97 : f 97 = .int .i64 n := hd 97 rfl
      have ze98 : f 98 = .int .i64 i1 := hd 98 rfl
      have ze99 : f 99 = .int .u8 f1 := hd 99 rfl
      have ze100 : f 100 = .int .u8 ((f1 / 2 : Nat) : Int) := hd 100 rfl
      have ze101 : f 101 = .int .u8 ((f1 / 2 % 2 : Nat) : Int) := hd 101 rfl
      have ze102 : f 102 = .bool l := hd 102 rfl
      have ze103 : f 103 = .string s := hd 103 rfl
      have ze104 : f 104 = .int .i64 n := hd 104 rfl
      have ze105 : f 105 = .int .i64 i13 := hd 105 rfl
      have ze106 : f 106 = .int .i64 n := hd 106 rfl
      have ze107 : f 107 = .int .i64 i13 := hd 107 rfl
      have ze108 : f 108 = .int .i64 k := hd 108 rfl
      have ze109 : f 109 = .int .i64 e0 := hd 109 rfl
      have ze110 : f 110 = .string kx := hd 110 rfl
      have ze111 : f 111 = .string s := hd 111 rfl
      have ze112 : f 112 = .int .i64 n := hd 112 rfl
      have ze113 : f 113 = .int .i64 i13 := hd 113 rfl
      have ze114 : f 114 = .int .i64 k := hd 114 rfl
      have ze115 : f 115 = .int .i64 e0 := hd 115 rfl
      have ze116 : f 116 = .int .i64 e9 := hd 116 rfl
      have ze117 : f 117 = .string vx := hd 117 rfl
      have ze118 : f 118 = nodeV q2 g l kx vx := hd 118 rfl
      change wpList _ #[_] _ [_] { tmps := #[f 0, f 1, f 2, f 3, f 4, f 5, f 6, f 7, f 8, f 9, f 10, f 11, f 12, f 13, f 14, f 15, f 16, f 17, f 18, f 19, f 20, f 21, f 22, f 23, f 24, f 25, f 26, f 27, f 28, f 29, f 30, f 31, f 32, f 33, f 34, f 35, f 36, f 37, f 38, f 39, f 40, f 41, f 42, f 43, f 44, f 45, f 46, f 47, f 48, f 49, f 50, f 51, f 52, f 53, f 54, f 55, f 56, f 57, f 58, f 59, f 60, f 61, f 62, f 63, f 64, f 65, f 66, f 67, f 68, f 69, f 70, f 71, f 72, f 73, f 74, f 75, f 76, f 77, f 78, f 79, f 80, f 81, f 82, f 83, f 84, f 85, f 86, f 87, f 88, f 89, f 90, f 91, f 92, f 93, f 94, f 95, f 96, f 97, f 98, f 99, f 100, f 101, f 102, f 103, f 104, f 105, f 106, f 107, f 108, f 109, f 110, f 111, f 112, f 113, f 114, f 115, f 116, f 117, f 118, f 119, f 120, f 121, f 122, f 123, f 124, f 125, f 126, f 127, f 128, f 129, f 130, f 131, f 132], defers := [] } W
      simp only [ze0, ze1, ze4, ze5, ze6, ze7, ze8, ze9, ze10, ze83, ze84, ze85, ze86, ze87, ze88, ze89, ze90, ze91, ze92, ze93, ze94, ze95, ze96, ze97, ze98, ze99, ze100, ze101, ze102, ze103, ze104, ze105, ze106, ze107, ze108, ze109, ze110, ze111, ze112, ze113, ze114, ze115, ze116, ze117, ze118]
      clear hold hd ze0 ze1 ze4 ze5 ze6 ze7 ze8 ze9 ze10 ze83 ze84 ze85 ze86 ze87 ze88 ze89 ze90 ze91 ze92 ze93 ze94 ze95 ze96 ze97 ze98 ze99 ze100 ze101 ze102 ze103 ze104 ze105 ze106 ze107 ze108 ze109 ze110 ze111 ze112 ze113 ze114 ze115 ze116 ze117 ze118
      have HK := Aside.mk hK
      clear hK
      obtain ⟨c0, d0⟩ := row_cell (r10) 0 (v := .int .i64 0) rfl
      obtain ⟨c1, d1⟩ := row_cell (r10) 1 (v := .bool false) rfl
      obtain ⟨c2, d2⟩ := row_cell (r10) 2 (v := .bool false) rfl
      obtain ⟨c3, d3⟩ := row_cell (r10) 3 (v := .string ⟨#[]⟩) rfl
      obtain ⟨c4, d4⟩ := row_cell (r10) 4 (v := .string ⟨#[]⟩) rfl
      go_wp2
      refine HK.out _ _ ?_
      clear HK c0 c1 c2 c3 c4 d0 d1 d2 d3 d4
      have f0 := fin5 r10 q2 g l kx vx
      have hne : w.heap.size ≠ b10 := by have := H0.out.2.1; omega
      have f1' : (((((W.setCell ⟨b10, 0, none⟩ (.int .i64 q2)).setCell ⟨b10, 1, none⟩ (.bool g)).setCell ⟨b10, 2, none⟩ (.bool l)).setCell ⟨b10, 3, none⟩ (.string kx)).setCell ⟨b10, 4, none⟩ (.string vx)).heap[w.heap.size]? = some (.cells (nodeC 0 false false ⟨#[]⟩ ⟨#[]⟩) 32 (0, 0)) :=
        row_other (row_other (row_other (row_other (row_other ((hW.block _ H0.out.2.1).trans H0.out.1) hne _) hne _) hne _) hne _) hne _
      have f2 := below_set5 (H0.out.2.2.trans (hW.mono (Nat.le_of_lt H0.out.2.1))) b10 (by have := H0.out.2.1; omega) (.int .i64 q2) (.bool g) (.bool l) (.string kx) (.string vx)
      have f3 : w.heap.size < (((((W.setCell ⟨b10, 0, none⟩ (.int .i64 q2)).setCell ⟨b10, 1, none⟩ (.bool g)).setCell ⟨b10, 2, none⟩ (.bool l)).setCell ⟨b10, 3, none⟩ (.string kx)).setCell ⟨b10, 4, none⟩ (.string vx)).heap.size := by have := H0.out.2.1; have := hW.size; simp; omega
      generalize (((((W.setCell ⟨b10, 0, none⟩ (.int .i64 q2)).setCell ⟨b10, 1, none⟩ (.bool g)).setCell ⟨b10, 2, none⟩ (.bool l)).setCell ⟨b10, 3, none⟩ (.string kx)).setCell ⟨b10, 4, none⟩ (.string vx)) = w3 at *
      have H3 := Aside.mk (And.intro f0 (And.intro f1' (And.intro f2 f3)))
      clear f0 f1' f2 f3 hne r10 l10 hW H0 HNum HGL HKX HVX uk uv u13 u2 u10
      clear W
      by_cases hfl : f1 ≤ 3
      · have hfl' : (f1 : Int) ≤ 3 := by omega
        have hnb : b10 < w3.heap.size := by
          rcases Nat.lt_or_ge b10 w3.heap.size with h | h
          · exact h
          · have := H3.out.1; rw [Array.getElem?_eq_none h] at this; cases this
        obtain ⟨c0, d0⟩ := row_cell (H3.out.1) 0 (v := .int .i64 q2) rfl
        obtain ⟨c1, d1⟩ := row_cell (H3.out.1) 1 (v := .bool g) rfl
        obtain ⟨c2, d2⟩ := row_cell (H3.out.1) 2 (v := .bool l) rfl
        obtain ⟨c3, d3⟩ := row_cell (H3.out.1) 3 (v := .string kx) rfl
        obtain ⟨c4, d4⟩ := row_cell (H3.out.1) 4 (v := .string vx) rfl
        cases hgd : goodN q2 g kx vx
        · have HR2 := HR4.out false hgd (by simp) (by simp)
          have HGD := Aside.mk hgd
          clear hgd
          go_upto_region 18 with (go_at_call 22; refine (ref_good12 q2 g l _ _ _).mono ?_; rw [HGD.out]; rintro e w4 ⟨rfl, hb4⟩)
          clear c0 c1 c2 c3 c4 d0 d1 d2 d3 d4
          have k0 := (hb4.block _ H3.out.2.2.2).trans H3.out.2.1
          have kb := H3.out.2.2.1.trans (hb4.mono (Nat.le_of_lt H3.out.2.2.2))
          obtain ⟨c0, d0⟩ := row_cell (k0) 0 (v := .int .i64 0) rfl
          obtain ⟨c1, d1⟩ := row_cell (k0) 1 (v := .bool false) rfl
          obtain ⟨c2, d2⟩ := row_cell (k0) 2 (v := .bool false) rfl
          obtain ⟨c3, d3⟩ := row_cell (k0) 3 (v := .string ⟨#[]⟩) rfl
          obtain ⟨c4, d4⟩ := row_cell (k0) 4 (v := .string ⟨#[]⟩) rfl
          have HK := Aside.mk (And.intro k0 kb)
          clear k0 kb hb4
          go_wp2
          have hf5 := fin5 (HK.out.1) 0 false false ⟨#[]⟩ ⟨#[]⟩
          have hbl := below_set5 (HK.out.2) w.heap.size (Nat.le_refl _) (.int .i64 0) (.bool false) (.bool false) (.string ⟨#[]⟩) (.string ⟨#[]⟩)
          clear c0 c1 c2 c3 c4 d0 d1 d2 d3 d4
          obtain ⟨qq0, _⟩ := row_cell hf5 0 (v := .int .i64 0) rfl
          obtain ⟨qq1, _⟩ := row_cell hf5 1 (v := .bool false) rfl
          obtain ⟨qq2, _⟩ := row_cell hf5 2 (v := .bool false) rfl
          obtain ⟨qq3, _⟩ := row_cell hf5 3 (v := .string ⟨#[]⟩) rfl
          obtain ⟨qq4, _⟩ := row_cell hf5 4 (v := .string ⟨#[]⟩) rfl
          exact bodyPost_ret (v := decE 4) (by simp [results, Tryd.results13, go_sem, qq0, qq1, qq2, qq3, qq4]) rfl ⟨ret_eq HR2, hbl⟩
        · have HR2 := HR5.out hgd (by simp) hfl
          have HGD := Aside.mk hgd
          clear hgd
          go_upto_region 19 with (go_at_call 22; refine (ref_good12 q2 g l _ _ _).mono ?_; rw [HGD.out]; rintro e w4 ⟨rfl, hb4⟩)
          clear c0 c1 c2 c3 c4 d0 d1 d2 d3 d4
          have k0 := (hb4.block _ H3.out.2.2.2).trans H3.out.2.1
          have kb := H3.out.2.2.1.trans (hb4.mono (Nat.le_of_lt H3.out.2.2.2))
          have k1 := (hb4.block _ hnb).trans H3.out.1
          obtain ⟨x0, y0⟩ := row_cell (k1) 0 (v := .int .i64 q2) rfl
          obtain ⟨x1, y1⟩ := row_cell (k1) 1 (v := .bool g) rfl
          obtain ⟨x2, y2⟩ := row_cell (k1) 2 (v := .bool l) rfl
          obtain ⟨x3, y3⟩ := row_cell (k1) 3 (v := .string kx) rfl
          obtain ⟨x4, y4⟩ := row_cell (k1) 4 (v := .string vx) rfl
          obtain ⟨c0, d0⟩ := row_cell (k0) 0 (v := .int .i64 0) rfl
          obtain ⟨c1, d1⟩ := row_cell (k0) 1 (v := .bool false) rfl
          obtain ⟨c2, d2⟩ := row_cell (k0) 2 (v := .bool false) rfl
          obtain ⟨c3, d3⟩ := row_cell (k0) 3 (v := .string ⟨#[]⟩) rfl
          obtain ⟨c4, d4⟩ := row_cell (k0) 4 (v := .string ⟨#[]⟩) rfl
          have HK := Aside.mk (And.intro k0 kb)
          clear k0 kb k1 hb4
          go_wp2
          clear x0 x2 x3 x4 y0 y1 y2 y3 y4
          have hf5 := fin5 (HK.out.1) q2 g l kx vx
          have hbl := below_set5 (HK.out.2) w.heap.size (Nat.le_refl _) (.int .i64 q2) (.bool g) (.bool l) (.string kx) (.string vx)
          clear c0 c1 c2 c3 c4 d0 d1 d2 d3 d4
          obtain ⟨qq0, _⟩ := row_cell hf5 0 (v := .int .i64 q2) rfl
          obtain ⟨qq1, _⟩ := row_cell hf5 1 (v := .bool g) rfl
          obtain ⟨qq2, _⟩ := row_cell hf5 2 (v := .bool l) rfl
          obtain ⟨qq3, _⟩ := row_cell hf5 3 (v := .string kx) rfl
          obtain ⟨qq4, _⟩ := row_cell hf5 4 (v := .string vx) rfl
          exact bodyPost_ret (v := .tuple #[nodeV q2 g l kx vx, .int .i64 e4, .int .i64 0]) (by simp [results, Tryd.results13, go_sem, qq0, qq1, qq2, qq3, qq4]) rfl ⟨ret_eq HR2, hbl⟩
      · have hfl' : (3 : Int) < f1 := by omega
        have HR2 := HR4.out _ rfl (by simp) (by simp [hfl])
        obtain ⟨c0, d0⟩ := row_cell (H3.out.2.1) 0 (v := .int .i64 0) rfl
        obtain ⟨c1, d1⟩ := row_cell (H3.out.2.1) 1 (v := .bool false) rfl
        obtain ⟨c2, d2⟩ := row_cell (H3.out.2.1) 2 (v := .bool false) rfl
        obtain ⟨c3, d3⟩ := row_cell (H3.out.2.1) 3 (v := .string ⟨#[]⟩) rfl
        obtain ⟨c4, d4⟩ := row_cell (H3.out.2.1) 4 (v := .string ⟨#[]⟩) rfl
        have HK := Aside.mk (And.intro H3.out.2.1 H3.out.2.2.1)
        go_wp2
        have hf5 := fin5 (HK.out.1) 0 false false ⟨#[]⟩ ⟨#[]⟩
        have hbl := below_set5 (HK.out.2) w.heap.size (Nat.le_refl _) (.int .i64 0) (.bool false) (.bool false) (.string ⟨#[]⟩) (.string ⟨#[]⟩)
        clear c0 c1 c2 c3 c4 d0 d1 d2 d3 d4
        obtain ⟨qq0, _⟩ := row_cell hf5 0 (v := .int .i64 0) rfl
        obtain ⟨qq1, _⟩ := row_cell hf5 1 (v := .bool false) rfl
        obtain ⟨qq2, _⟩ := row_cell hf5 2 (v := .bool false) rfl
        obtain ⟨qq3, _⟩ := row_cell hf5 3 (v := .string ⟨#[]⟩) rfl
        obtain ⟨qq4, _⟩ := row_cell hf5 4 (v := .string ⟨#[]⟩) rfl
        exact bodyPost_ret (v := decE 4) (by simp [results, Tryd.results13, go_sem, qq0, qq1, qq2, qq3, qq4]) rfl ⟨ret_eq HR2, hbl⟩
end Go.Proofs.YtbkkdglmcoglfaaDoor
