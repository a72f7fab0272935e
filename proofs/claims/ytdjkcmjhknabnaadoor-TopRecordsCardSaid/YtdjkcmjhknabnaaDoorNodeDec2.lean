/-
  Reading a node: the ways that go on.
-/
import Derived.Test.YtdjkcmjhknabnaaDoorNodeDec
namespace Go.Proofs.YtdjkcmjhknabnaaDoor
open Go.RowKit

/-- What the text's head tells. -/
structure HeadF (t : ByteArray) (f1 k z p z4 : Nat) (q : Int) (g l : Bool) : Prop where
  len : 13 ≤ t.size
  fl : t[1].toNat = f1
  hk : t[10].toNat = k
  hz : 17 + k + t[11].toNat * 256 + t[12].toNat = z
  hp : p = 13 + k
  hz4 : z4 = z - 4
  hq : q = IntKind.i64.wrap (beN ((t.extract 2 t.size).data.toList.take 8))
  hg : g = decide (f1 % 2 = 1)
  hl : l = decide (f1 / 2 % 2 = 1)

set_option maxRecDepth 20000 in
theorem and1 : ∀ f : Nat, f < 256 → bits .and .u8 (f : Int) 1 = ((f % 2 : Nat) : Int) := by decide
set_option maxRecDepth 20000 in
theorem and2 : ∀ f : Nat, f < 256 → bits .and .u8 (f : Int) 2 = ((f / 2 % 2 * 2 : Nat) : Int) := by decide
theorem HeadF.bits {t : ByteArray} {f1 k z p z4 : Nat} {q : Int} {g l : Bool} (h : HeadF t f1 k z p z4 q g l) :
    bits .and .u8 (f1 : Int) 1 = ((f1 % 2 : Nat) : Int) ∧ (((f1 % 2 : Nat) : Int) == 1) = g ∧ bits .and .u8 (f1 : Int) 2 = ((f1 / 2 % 2 * 2 : Nat) : Int) ∧ (((f1 / 2 % 2 * 2 : Nat) : Int) == 2) = l := by
  have hl := h.len
  have hf : f1 < 256 := by rw [← h.fl]; exact t[1].toNat_lt
  refine ⟨and1 f1 hf, ?_, and2 f1 hf, ?_⟩
  · rw [h.hg, Bool.eq_iff_iff]; simp; omega
  · rw [h.hl, Bool.eq_iff_iff]; simp; omega

/-- The answer. -/
def decT (t : ByteArray) (n f1 z p z4 : Nat) (q : Int) (g l : Bool) : Value :=
  bif decide (t.size < z) then decE 60 else bif !opens (t.extract 0 z) then decE 61 else
  bif decide (f1 ≤ 3) && goodN q g (t.extract 13 p) (t.extract p z4) then .tuple #[nodeV q g l (t.extract 13 p) (t.extract p z4), .int .i64 (((n + z : Nat)) : Int), .int .i64 0] else decE 4
theorem ret_eq {a b : Value} (h : a = b) : Ending.returned a = .returned b := by rw [h]

set_option maxHeartbeats 4000000 in
theorem node_decode_rest (s : ByteArray) (n : Nat) (w : World) (hn : n < s.size) (h : s[n] = 78) (hsz : s.size ≤ 140737488351232) (f1 k z p z4 : Nat) (q : Int) (g l : Bool) (hf : HeadF (s.extract n s.size) f1 k z p z4 q g l) (hnib : Nib w) (R : Value) (hR : R = decT (s.extract n s.size) n f1 z p z4 q g l) :
    Calls Tryd.prog 7 #[.string s, .int .i64 n] w fun e w' => e = .returned R ∧ Below w.heap.size w w' := by
  have h0 : s[n].toNat = 78 := by rw [h]; rfl
  have h1 : (n : Int) < s.size := by omega
  have hts : (s.extract n s.size).size = s.size - n := by simp
  have hnz : n + (s.extract n s.size).size ≤ 140737488351232 := by omega
  have HR := Aside.mk hR
  clear h hts hR
  go_enter Tryd.func7, Tryd.ntmps7
  go_upto_region 8 with fail
  generalize s.extract n s.size = t at *
  have g0 : (w.alloc (.cells (nodeC 0 false false ⟨#[]⟩ ⟨#[]⟩) 30)).heap[w.heap.size]? = some (.cells (nodeC 0 false false ⟨#[]⟩ ⟨#[]⟩) 30 (0, 0)) := heap_alloc_new _ _
  have gl : w.heap.size < (w.alloc (.cells (nodeC 0 false false ⟨#[]⟩ ⟨#[]⟩) 30)).heap.size := by simp
  have gb : Below w.heap.size w (w.alloc (.cells (nodeC 0 false false ⟨#[]⟩ ⟨#[]⟩) 30)) := (Below.refl _ _).alloc (Nat.le_refl _) _
  have gn := hnib.alloc (.cells (nodeC 0 false false ⟨#[]⟩ ⟨#[]⟩) 30)
  generalize w.alloc (.cells (nodeC 0 false false ⟨#[]⟩ ⟨#[]⟩) 30) = w0 at *
  have H0 := Aside.mk (And.intro g0 (And.intro gl gb))
  clear g0 gl gb hnib
  have h13 := hf.len
  have h13' : (13 : Int) ≤ t.size := by omega
  have HF := Aside.mk hf
  have hk : t[10].toNat = k := hf.hk
  have hzz : 17 + k + t[11].toNat * 256 + t[12].toNat = z := hf.hz
  have hpp := hf.hp
  clear hf
  obtain ⟨a, ha, ha2⟩ : ∃ k : Nat, t[11].toNat = k ∧ k < 256 := ⟨_, rfl, t[11].toNat_lt⟩
  obtain ⟨b, hb, hb2⟩ : ∃ k : Nat, t[12].toNat = k ∧ k < 256 := ⟨_, rfl, t[12].toNat_lt⟩
  have hk2 : k < 256 := by rw [← hk]; exact t[10].toNat_lt
  rw [ha, hb] at hzz
  have hs1 : IntKind.i64.wrap (13 + (k : Int)) = p := by rw [IntKind.wrap_i64]; omega
  have hs2 : IntKind.i64.wrap ((a : Int) * 256) = a * 256 := by rw [IntKind.wrap_i64]; omega
  have hs3 : IntKind.i64.wrap ((p : Int) + a * 256) = p + a * 256 := by rw [IntKind.wrap_i64]; omega
  have hs4 : IntKind.i64.wrap ((p : Int) + a * 256 + b) = p + a * 256 + b := by rw [IntKind.wrap_i64]; omega
  have hs5 : IntKind.i64.wrap ((p : Int) + a * 256 + b + 4) = z := by rw [IntKind.wrap_i64]; omega
  have HZ := Aside.mk (And.intro hpp (And.intro hzz hk2))
  clear hpp hzz
  go_upto_region 11 with fail
  go_quiet (fail)
  have hpz : p + 4 ≤ z := by have := HZ.out; omega
  have h17 : 17 ≤ p + 4 := by have := HZ.out; omega
  clear hk2 ha hb hk hs1 hs2 hs3 hs4 hs5 ha2 hb2
  by_cases hshort : t.size < z
  · have HR2 : decE 60 = R := by rw [HR.out]; simp [decT, hshort]
    generalize hW0 : w0.drewN nq = w1
    have g0 : w1.heap[w.heap.size]? = some (.cells (nodeC 0 false false ⟨#[]⟩ ⟨#[]⟩) 30 (0, 0)) := by subst hW0; exact H0.out.1
    have gb : Below w.heap.size w w1 := by subst hW0; exact H0.out.2.2.trans ⟨rfl, rfl, rfl, Nat.le_refl _, fun _ _ => rfl⟩
    clear hW0 gn H0
    obtain ⟨c0, d0⟩ := row_cell g0 0 (v := .int .i64 0) rfl
    obtain ⟨c1, d1⟩ := row_cell g0 1 (v := .bool false) rfl
    obtain ⟨c2, d2⟩ := row_cell g0 2 (v := .bool false) rfl
    obtain ⟨c3, d3⟩ := row_cell g0 3 (v := .string ⟨#[]⟩) rfl
    obtain ⟨c4, d4⟩ := row_cell g0 4 (v := .string ⟨#[]⟩) rfl
    have HG := Aside.mk (And.intro g0 gb)
    clear g0 gb
    go_wp2
    clear c0 c1 c2 c3 c4 d0 d1 d2 d3 d4
    have hf5 := fin5 (HG.out.1) 0 false false ⟨#[]⟩ ⟨#[]⟩
    have hbl := below_set5 (HG.out.2) w.heap.size (Nat.le_refl _) (.int .i64 0) (.bool false) (.bool false) (.string ⟨#[]⟩) (.string ⟨#[]⟩)
    obtain ⟨q0, _⟩ := row_cell hf5 0 (v := .int .i64 0) rfl
    obtain ⟨q1, _⟩ := row_cell hf5 1 (v := .bool false) rfl
    obtain ⟨q2, _⟩ := row_cell hf5 2 (v := .bool false) rfl
    obtain ⟨q3, _⟩ := row_cell hf5 3 (v := .string ⟨#[]⟩) rfl
    obtain ⟨q4, _⟩ := row_cell hf5 4 (v := .string ⟨#[]⟩) rfl
    exact bodyPost_ret (v := decE 60) (by simp [results, Tryd.results7, go_sem, q0, q1, q2, q3, q4]) rfl ⟨ret_eq HR2, hbl⟩
  have hzt : z ≤ t.size := by omega
  have hzt' : (z : Int) ≤ t.size := by omega
  clear hshort
  generalize hW0 : w0.drewN nq = w1
  have H1 : Aside (w1.heap[w.heap.size]? = some (.cells (nodeC 0 false false ⟨#[]⟩ ⟨#[]⟩) 30 (0, 0)) ∧ w.heap.size < w1.heap.size ∧ Below w.heap.size w w1 ∧ Nib w1) := by
    subst hW0
    exact ⟨H0.out.1, H0.out.2.1, H0.out.2.2.trans ⟨rfl, rfl, rfl, Nat.le_refl _, fun _ _ => rfl⟩, gn.drewN nq⟩
  clear hW0 gn H0
  have hzs : (t.extract 0 z).size = z := by simp; omega
  have hzs2 : (t.extract 0 z).size ≤ 281474976710656 := by omega
  have HZS := Aside.mk hzs2
  clear hzs hzs2
  cases hop : opens (t.extract 0 z)
  · have HO := Aside.mk hop
    clear hop
    go_upto_region 16 with (go_at_call 21; refine (crc_open _ _ HZS.out H1.out.2.2.2).mono ?_; rw [HO.out]; rintro e w2 ⟨rfl, hb2⟩)
    have HR2 : decE 61 = R := by rw [HR.out]; simp [decT, HO.out, show ¬ t.size < z by omega]
    have g0 : w2.heap[w.heap.size]? = some (.cells (nodeC 0 false false ⟨#[]⟩ ⟨#[]⟩) 30 (0, 0)) := (hb2.block _ H1.out.2.1).trans H1.out.1
    have gb : Below w.heap.size w w2 := H1.out.2.2.1.trans (hb2.mono (Nat.le_of_lt H1.out.2.1))
    obtain ⟨c0, d0⟩ := row_cell g0 0 (v := .int .i64 0) rfl
    obtain ⟨c1, d1⟩ := row_cell g0 1 (v := .bool false) rfl
    obtain ⟨c2, d2⟩ := row_cell g0 2 (v := .bool false) rfl
    obtain ⟨c3, d3⟩ := row_cell g0 3 (v := .string ⟨#[]⟩) rfl
    obtain ⟨c4, d4⟩ := row_cell g0 4 (v := .string ⟨#[]⟩) rfl
    have HG := Aside.mk (And.intro g0 gb)
    clear g0 gb H1 hb2 HZS
    go_wp2
    clear c0 c1 c2 c3 c4 d0 d1 d2 d3 d4
    have hf5 := fin5 (HG.out.1) 0 false false ⟨#[]⟩ ⟨#[]⟩
    have hbl := below_set5 (HG.out.2) w.heap.size (Nat.le_refl _) (.int .i64 0) (.bool false) (.bool false) (.string ⟨#[]⟩) (.string ⟨#[]⟩)
    obtain ⟨q0, _⟩ := row_cell hf5 0 (v := .int .i64 0) rfl
    obtain ⟨q1, _⟩ := row_cell hf5 1 (v := .bool false) rfl
    obtain ⟨q2, _⟩ := row_cell hf5 2 (v := .bool false) rfl
    obtain ⟨q3, _⟩ := row_cell hf5 3 (v := .string ⟨#[]⟩) rfl
    obtain ⟨q4, _⟩ := row_cell hf5 4 (v := .string ⟨#[]⟩) rfl
    exact bodyPost_ret (v := decE 61) (by simp [results, Tryd.results7, go_sem, q0, q1, q2, q3, q4]) rfl ⟨ret_eq HR2, hbl⟩
  · have HO := Aside.mk hop
    clear hop
    go_upto_region 17 with (go_at_call 21; refine (crc_open _ _ HZS.out H1.out.2.2.2).mono ?_; rw [HO.out]; rintro e w2 ⟨rfl, hb2⟩)
    have hw2 : Aside (w2.heap[w.heap.size]? = some (.cells (nodeC 0 false false ⟨#[]⟩ ⟨#[]⟩) 30 (0, 0)) ∧ w.heap.size < w2.heap.size ∧ Below w.heap.size w w2) :=
      ⟨(hb2.block _ H1.out.2.1).trans H1.out.1, Nat.lt_of_lt_of_le H1.out.2.1 hb2.size, H1.out.2.2.1.trans (hb2.mono (Nat.le_of_lt H1.out.2.1))⟩
    have HQ : Aside (∀ W, Calls Tryd.prog 22 #[.string (t.extract 2 t.size)] W fun e w' => e = .returned (.int .i64 q) ∧ W = w') := ⟨fun W => by rw [HF.out.hq]; exact node_number _ W (by simp; omega)⟩
    obtain ⟨m1, m2, hA⟩ : ∃ m1 m2 : Nat, bits .and .u8 (f1 : Int) 1 = m1 ∧ ((m1 : Int) == 1) = g ∧ bits .and .u8 (f1 : Int) 2 = m2 ∧ ((m2 : Int) == 2) = l := ⟨_, _, HF.out.bits⟩
    have HA := Aside.mk hA
    clear hA
    have HL : Aside (t[1].toNat = f1) := ⟨HF.out.fl⟩
    have hw4 : IntKind.i64.wrap ((z : Int) - 4) = z4 := by have := HF.out.hz4; rw [IntKind.wrap_i64]; omega
    have hw1 : IntKind.i64.wrap (13 + (k : Int)) = p := by have := HZ.out; rw [IntKind.wrap_i64]; omega
    have hz4p : p ≤ z4 ∧ z4 ≤ t.size := by have := HF.out.hz4; omega
    obtain ⟨hz41, hz42⟩ := hz4p
    have H0 := hw2
    clear hb2 H1 HZS hw2
    refine wp_region_tail (by kernel_rfl) (by kernel_rfl) (rel_small (by kernel_rfl)) (tailV [(11, .own (nodeC 0 false false ⟨#[]⟩ ⟨#[]⟩) 30 w2.heap.size), (77, .val (.string t)), (78, .val (.string (t.extract 2 t.size))), (79, .val (.int .i64 q)), (80, .val (.string t)), (81, .val (.int .u8 f1)), (82, .val (.int .u8 m1)), (83, .val (.bool g)), (84, .val (.string t)), (85, .val (.int .u8 f1)), (86, .val (.int .u8 m2)), (87, .val (.bool l)), (88, .val (.string t)), (89, .val (.int .i64 k)), (90, .val (.int .i64 p)), (91, .val (.string (t.extract 13 p))), (92, .val (.string t)), (93, .val (.int .i64 k)), (94, .val (.int .i64 p)), (95, .val (.int .i64 z)), (96, .val (.int .i64 z4)), (97, .val (.string (t.extract p z4))), (98, .val (nodeV q g l (t.extract 13 p) (t.extract p z4)))]) (tailV_stable _) ⟨?_, ?_, ?_, ?_, ?_, ?_, ?_, ?_, ?_, ?_, ?_, ?_, ?_, ?_, ?_, ?_, ?_, ?_, ?_, ?_, ?_, ?_, ?_, ?_⟩
    · -- 77 := move t0
      intro f W hW hold hd K hK
      have e0 : f 0 = .string t := hold 0 rfl
      have HK : ∀ v W', Below W.heap.size W W' → tailV _ 77 v W' → K { tmps := #[f 0, f 1, f 2, f 3, f 4, f 5, f 6, f 7, f 8, f 9, f 10, f 11, f 12, f 13, f 14, f 15, f 16, f 17, f 18, f 19, f 20, f 21, f 22, f 23, f 24, f 25, f 26, f 27, f 28, f 29, f 30, f 31, f 32, f 33, f 34, f 35, f 36, f 37, f 38, f 39, f 40, f 41, f 42, f 43, f 44, f 45, f 46, f 47, f 48, f 49, f 50, f 51, f 52, f 53, f 54, f 55, f 56, f 57, f 58, f 59, f 60, f 61, f 62, f 63, f 64, f 65, f 66, f 67, f 68, f 69, f 70, f 71, f 72, f 73, f 74, f 75, f 76, v, f 78, f 79, f 80, f 81, f 82, f 83, f 84, f 85, f 86, f 87, f 88, f 89, f 90, f 91, f 92, f 93, f 94, f 95, f 96, f 97, f 98, f 99, f 100, f 101, f 102, f 103, f 104, f 105, f 106, f 107, f 108, f 109, f 110, f 111], defers := [] } W' := hK
      change wpList _ #[_] _ [_] { tmps := #[f 0, f 1, f 2, f 3, f 4, f 5, f 6, f 7, f 8, f 9, f 10, f 11, f 12, f 13, f 14, f 15, f 16, f 17, f 18, f 19, f 20, f 21, f 22, f 23, f 24, f 25, f 26, f 27, f 28, f 29, f 30, f 31, f 32, f 33, f 34, f 35, f 36, f 37, f 38, f 39, f 40, f 41, f 42, f 43, f 44, f 45, f 46, f 47, f 48, f 49, f 50, f 51, f 52, f 53, f 54, f 55, f 56, f 57, f 58, f 59, f 60, f 61, f 62, f 63, f 64, f 65, f 66, f 67, f 68, f 69, f 70, f 71, f 72, f 73, f 74, f 75, f 76, f 77, f 78, f 79, f 80, f 81, f 82, f 83, f 84, f 85, f 86, f 87, f 88, f 89, f 90, f 91, f 92, f 93, f 94, f 95, f 96, f 97, f 98, f 99, f 100, f 101, f 102, f 103, f 104, f 105, f 106, f 107, f 108, f 109, f 110, f 111], defers := [] } W
      clear hK hd hold
      simp only [e0] at HK ⊢
      clear e0
      have HK := Aside.mk HK
      go_wp2
      exact HK.out _ _ (Below.refl _ _) rfl
    · -- 78 := slice 9 t77 <i64 2> - -
      intro f W hW hold hd K hK
      have e77 : f 77 = .string t := hd 77 rfl rfl
      have HK : ∀ v W', Below W.heap.size W W' → tailV _ 78 v W' → K { tmps := #[f 0, f 1, f 2, f 3, f 4, f 5, f 6, f 7, f 8, f 9, f 10, f 11, f 12, f 13, f 14, f 15, f 16, f 17, f 18, f 19, f 20, f 21, f 22, f 23, f 24, f 25, f 26, f 27, f 28, f 29, f 30, f 31, f 32, f 33, f 34, f 35, f 36, f 37, f 38, f 39, f 40, f 41, f 42, f 43, f 44, f 45, f 46, f 47, f 48, f 49, f 50, f 51, f 52, f 53, f 54, f 55, f 56, f 57, f 58, f 59, f 60, f 61, f 62, f 63, f 64, f 65, f 66, f 67, f 68, f 69, f 70, f 71, f 72, f 73, f 74, f 75, f 76, f 77, v, f 79, f 80, f 81, f 82, f 83, f 84, f 85, f 86, f 87, f 88, f 89, f 90, f 91, f 92, f 93, f 94, f 95, f 96, f 97, f 98, f 99, f 100, f 101, f 102, f 103, f 104, f 105, f 106, f 107, f 108, f 109, f 110, f 111], defers := [] } W' := hK
      change wpList _ #[_] _ [_] { tmps := #[f 0, f 1, f 2, f 3, f 4, f 5, f 6, f 7, f 8, f 9, f 10, f 11, f 12, f 13, f 14, f 15, f 16, f 17, f 18, f 19, f 20, f 21, f 22, f 23, f 24, f 25, f 26, f 27, f 28, f 29, f 30, f 31, f 32, f 33, f 34, f 35, f 36, f 37, f 38, f 39, f 40, f 41, f 42, f 43, f 44, f 45, f 46, f 47, f 48, f 49, f 50, f 51, f 52, f 53, f 54, f 55, f 56, f 57, f 58, f 59, f 60, f 61, f 62, f 63, f 64, f 65, f 66, f 67, f 68, f 69, f 70, f 71, f 72, f 73, f 74, f 75, f 76, f 77, f 78, f 79, f 80, f 81, f 82, f 83, f 84, f 85, f 86, f 87, f 88, f 89, f 90, f 91, f 92, f 93, f 94, f 95, f 96, f 97, f 98, f 99, f 100, f 101, f 102, f 103, f 104, f 105, f 106, f 107, f 108, f 109, f 110, f 111], defers := [] } W
      clear hK hd hold
      simp only [e77] at HK ⊢
      clear e77
      have HK := Aside.mk HK
      go_wp2
      exact HK.out _ _ (Below.refl _ _) rfl
    · -- 79 := CALL f31 chert/node.number [t78] : [9]
      intro f W hW hold hd K hK
      have e78 : f 78 = .string (t.extract 2 t.size) := hd 78 rfl rfl
      have HK : ∀ v W', Below W.heap.size W W' → tailV _ 79 v W' → K { tmps := #[f 0, f 1, f 2, f 3, f 4, f 5, f 6, f 7, f 8, f 9, f 10, f 11, f 12, f 13, f 14, f 15, f 16, f 17, f 18, f 19, f 20, f 21, f 22, f 23, f 24, f 25, f 26, f 27, f 28, f 29, f 30, f 31, f 32, f 33, f 34, f 35, f 36, f 37, f 38, f 39, f 40, f 41, f 42, f 43, f 44, f 45, f 46, f 47, f 48, f 49, f 50, f 51, f 52, f 53, f 54, f 55, f 56, f 57, f 58, f 59, f 60, f 61, f 62, f 63, f 64, f 65, f 66, f 67, f 68, f 69, f 70, f 71, f 72, f 73, f 74, f 75, f 76, f 77, f 78, v, f 80, f 81, f 82, f 83, f 84, f 85, f 86, f 87, f 88, f 89, f 90, f 91, f 92, f 93, f 94, f 95, f 96, f 97, f 98, f 99, f 100, f 101, f 102, f 103, f 104, f 105, f 106, f 107, f 108, f 109, f 110, f 111], defers := [] } W' := hK
      change wpList _ #[_] _ [_] { tmps := #[f 0, f 1, f 2, f 3, f 4, f 5, f 6, f 7, f 8, f 9, f 10, f 11, f 12, f 13, f 14, f 15, f 16, f 17, f 18, f 19, f 20, f 21, f 22, f 23, f 24, f 25, f 26, f 27, f 28, f 29, f 30, f 31, f 32, f 33, f 34, f 35, f 36, f 37, f 38, f 39, f 40, f 41, f 42, f 43, f 44, f 45, f 46, f 47, f 48, f 49, f 50, f 51, f 52, f 53, f 54, f 55, f 56, f 57, f 58, f 59, f 60, f 61, f 62, f 63, f 64, f 65, f 66, f 67, f 68, f 69, f 70, f 71, f 72, f 73, f 74, f 75, f 76, f 77, f 78, f 79, f 80, f 81, f 82, f 83, f 84, f 85, f 86, f 87, f 88, f 89, f 90, f 91, f 92, f 93, f 94, f 95, f 96, f 97, f 98, f 99, f 100, f 101, f 102, f 103, f 104, f 105, f 106, f 107, f 108, f 109, f 110, f 111], defers := [] } W
      clear hK hd hold
      simp only [e78] at HK ⊢
      clear e78
      have HK := Aside.mk HK
      go_wp2_with (go_at_call 22; refine (HQ.out W).mono ?_; rintro e w3 ⟨rfl, rfl⟩)
      exact HK.out _ _ (Below.refl _ _) rfl
    · -- 80 := move t0
      intro f W hW hold hd K hK
      have e0 : f 0 = .string t := hold 0 rfl
      have HK : ∀ v W', Below W.heap.size W W' → tailV _ 80 v W' → K { tmps := #[f 0, f 1, f 2, f 3, f 4, f 5, f 6, f 7, f 8, f 9, f 10, f 11, f 12, f 13, f 14, f 15, f 16, f 17, f 18, f 19, f 20, f 21, f 22, f 23, f 24, f 25, f 26, f 27, f 28, f 29, f 30, f 31, f 32, f 33, f 34, f 35, f 36, f 37, f 38, f 39, f 40, f 41, f 42, f 43, f 44, f 45, f 46, f 47, f 48, f 49, f 50, f 51, f 52, f 53, f 54, f 55, f 56, f 57, f 58, f 59, f 60, f 61, f 62, f 63, f 64, f 65, f 66, f 67, f 68, f 69, f 70, f 71, f 72, f 73, f 74, f 75, f 76, f 77, f 78, f 79, v, f 81, f 82, f 83, f 84, f 85, f 86, f 87, f 88, f 89, f 90, f 91, f 92, f 93, f 94, f 95, f 96, f 97, f 98, f 99, f 100, f 101, f 102, f 103, f 104, f 105, f 106, f 107, f 108, f 109, f 110, f 111], defers := [] } W' := hK
      change wpList _ #[_] _ [_] { tmps := #[f 0, f 1, f 2, f 3, f 4, f 5, f 6, f 7, f 8, f 9, f 10, f 11, f 12, f 13, f 14, f 15, f 16, f 17, f 18, f 19, f 20, f 21, f 22, f 23, f 24, f 25, f 26, f 27, f 28, f 29, f 30, f 31, f 32, f 33, f 34, f 35, f 36, f 37, f 38, f 39, f 40, f 41, f 42, f 43, f 44, f 45, f 46, f 47, f 48, f 49, f 50, f 51, f 52, f 53, f 54, f 55, f 56, f 57, f 58, f 59, f 60, f 61, f 62, f 63, f 64, f 65, f 66, f 67, f 68, f 69, f 70, f 71, f 72, f 73, f 74, f 75, f 76, f 77, f 78, f 79, f 80, f 81, f 82, f 83, f 84, f 85, f 86, f 87, f 88, f 89, f 90, f 91, f 92, f 93, f 94, f 95, f 96, f 97, f 98, f 99, f 100, f 101, f 102, f 103, f 104, f 105, f 106, f 107, f 108, f 109, f 110, f 111], defers := [] } W
      clear hK hd hold
      simp only [e0] at HK ⊢
      clear e0
      have HK := Aside.mk HK
      go_wp2
      exact HK.out _ _ (Below.refl _ _) rfl
    · -- 81 := index 9 t80 <i64 1>
      intro f W hW hold hd K hK
      have e80 : f 80 = .string t := hd 80 rfl rfl
      have HK : ∀ v W', Below W.heap.size W W' → tailV _ 81 v W' → K { tmps := #[f 0, f 1, f 2, f 3, f 4, f 5, f 6, f 7, f 8, f 9, f 10, f 11, f 12, f 13, f 14, f 15, f 16, f 17, f 18, f 19, f 20, f 21, f 22, f 23, f 24, f 25, f 26, f 27, f 28, f 29, f 30, f 31, f 32, f 33, f 34, f 35, f 36, f 37, f 38, f 39, f 40, f 41, f 42, f 43, f 44, f 45, f 46, f 47, f 48, f 49, f 50, f 51, f 52, f 53, f 54, f 55, f 56, f 57, f 58, f 59, f 60, f 61, f 62, f 63, f 64, f 65, f 66, f 67, f 68, f 69, f 70, f 71, f 72, f 73, f 74, f 75, f 76, f 77, f 78, f 79, f 80, v, f 82, f 83, f 84, f 85, f 86, f 87, f 88, f 89, f 90, f 91, f 92, f 93, f 94, f 95, f 96, f 97, f 98, f 99, f 100, f 101, f 102, f 103, f 104, f 105, f 106, f 107, f 108, f 109, f 110, f 111], defers := [] } W' := hK
      change wpList _ #[_] _ [_] { tmps := #[f 0, f 1, f 2, f 3, f 4, f 5, f 6, f 7, f 8, f 9, f 10, f 11, f 12, f 13, f 14, f 15, f 16, f 17, f 18, f 19, f 20, f 21, f 22, f 23, f 24, f 25, f 26, f 27, f 28, f 29, f 30, f 31, f 32, f 33, f 34, f 35, f 36, f 37, f 38, f 39, f 40, f 41, f 42, f 43, f 44, f 45, f 46, f 47, f 48, f 49, f 50, f 51, f 52, f 53, f 54, f 55, f 56, f 57, f 58, f 59, f 60, f 61, f 62, f 63, f 64, f 65, f 66, f 67, f 68, f 69, f 70, f 71, f 72, f 73, f 74, f 75, f 76, f 77, f 78, f 79, f 80, f 81, f 82, f 83, f 84, f 85, f 86, f 87, f 88, f 89, f 90, f 91, f 92, f 93, f 94, f 95, f 96, f 97, f 98, f 99, f 100, f 101, f 102, f 103, f 104, f 105, f 106, f 107, f 108, f 109, f 110, f 111], defers := [] } W
      clear hK hd hold
      simp only [e80] at HK ⊢
      clear e80
      have HK := Aside.mk HK
      go_wp2
      exact HK.out _ _ (Below.refl _ _) (congrArg (fun x : Nat => Value.int .u8 (x : Int)) HL.out)
    · -- 82 := binOp and 5 t81 <u8 1> 5
      intro f W hW hold hd K hK
      have e81 : f 81 = .int .u8 f1 := hd 81 rfl rfl
      have HK : ∀ v W', Below W.heap.size W W' → tailV _ 82 v W' → K { tmps := #[f 0, f 1, f 2, f 3, f 4, f 5, f 6, f 7, f 8, f 9, f 10, f 11, f 12, f 13, f 14, f 15, f 16, f 17, f 18, f 19, f 20, f 21, f 22, f 23, f 24, f 25, f 26, f 27, f 28, f 29, f 30, f 31, f 32, f 33, f 34, f 35, f 36, f 37, f 38, f 39, f 40, f 41, f 42, f 43, f 44, f 45, f 46, f 47, f 48, f 49, f 50, f 51, f 52, f 53, f 54, f 55, f 56, f 57, f 58, f 59, f 60, f 61, f 62, f 63, f 64, f 65, f 66, f 67, f 68, f 69, f 70, f 71, f 72, f 73, f 74, f 75, f 76, f 77, f 78, f 79, f 80, f 81, v, f 83, f 84, f 85, f 86, f 87, f 88, f 89, f 90, f 91, f 92, f 93, f 94, f 95, f 96, f 97, f 98, f 99, f 100, f 101, f 102, f 103, f 104, f 105, f 106, f 107, f 108, f 109, f 110, f 111], defers := [] } W' := hK
      change wpList _ #[_] _ [_] { tmps := #[f 0, f 1, f 2, f 3, f 4, f 5, f 6, f 7, f 8, f 9, f 10, f 11, f 12, f 13, f 14, f 15, f 16, f 17, f 18, f 19, f 20, f 21, f 22, f 23, f 24, f 25, f 26, f 27, f 28, f 29, f 30, f 31, f 32, f 33, f 34, f 35, f 36, f 37, f 38, f 39, f 40, f 41, f 42, f 43, f 44, f 45, f 46, f 47, f 48, f 49, f 50, f 51, f 52, f 53, f 54, f 55, f 56, f 57, f 58, f 59, f 60, f 61, f 62, f 63, f 64, f 65, f 66, f 67, f 68, f 69, f 70, f 71, f 72, f 73, f 74, f 75, f 76, f 77, f 78, f 79, f 80, f 81, f 82, f 83, f 84, f 85, f 86, f 87, f 88, f 89, f 90, f 91, f 92, f 93, f 94, f 95, f 96, f 97, f 98, f 99, f 100, f 101, f 102, f 103, f 104, f 105, f 106, f 107, f 108, f 109, f 110, f 111], defers := [] } W
      clear hK hd hold
      simp only [e81] at HK ⊢
      clear e81
      have HK := Aside.mk HK
      have hA := HA.out.1
      go_wp2
      exact HK.out _ _ (Below.refl _ _) rfl
    · -- 83 := binOp eql 5 t82 <u8 1> 5
      intro f W hW hold hd K hK
      have e82 : f 82 = .int .u8 m1 := hd 82 rfl rfl
      have HK : ∀ v W', Below W.heap.size W W' → tailV _ 83 v W' → K { tmps := #[f 0, f 1, f 2, f 3, f 4, f 5, f 6, f 7, f 8, f 9, f 10, f 11, f 12, f 13, f 14, f 15, f 16, f 17, f 18, f 19, f 20, f 21, f 22, f 23, f 24, f 25, f 26, f 27, f 28, f 29, f 30, f 31, f 32, f 33, f 34, f 35, f 36, f 37, f 38, f 39, f 40, f 41, f 42, f 43, f 44, f 45, f 46, f 47, f 48, f 49, f 50, f 51, f 52, f 53, f 54, f 55, f 56, f 57, f 58, f 59, f 60, f 61, f 62, f 63, f 64, f 65, f 66, f 67, f 68, f 69, f 70, f 71, f 72, f 73, f 74, f 75, f 76, f 77, f 78, f 79, f 80, f 81, f 82, v, f 84, f 85, f 86, f 87, f 88, f 89, f 90, f 91, f 92, f 93, f 94, f 95, f 96, f 97, f 98, f 99, f 100, f 101, f 102, f 103, f 104, f 105, f 106, f 107, f 108, f 109, f 110, f 111], defers := [] } W' := hK
      change wpList _ #[_] _ [_] { tmps := #[f 0, f 1, f 2, f 3, f 4, f 5, f 6, f 7, f 8, f 9, f 10, f 11, f 12, f 13, f 14, f 15, f 16, f 17, f 18, f 19, f 20, f 21, f 22, f 23, f 24, f 25, f 26, f 27, f 28, f 29, f 30, f 31, f 32, f 33, f 34, f 35, f 36, f 37, f 38, f 39, f 40, f 41, f 42, f 43, f 44, f 45, f 46, f 47, f 48, f 49, f 50, f 51, f 52, f 53, f 54, f 55, f 56, f 57, f 58, f 59, f 60, f 61, f 62, f 63, f 64, f 65, f 66, f 67, f 68, f 69, f 70, f 71, f 72, f 73, f 74, f 75, f 76, f 77, f 78, f 79, f 80, f 81, f 82, f 83, f 84, f 85, f 86, f 87, f 88, f 89, f 90, f 91, f 92, f 93, f 94, f 95, f 96, f 97, f 98, f 99, f 100, f 101, f 102, f 103, f 104, f 105, f 106, f 107, f 108, f 109, f 110, f 111], defers := [] } W
      clear hK hd hold
      simp only [e82] at HK ⊢
      clear e82
      have HK := Aside.mk HK
      have hA := HA.out.2.1
      go_wp2
      exact HK.out _ _ (Below.refl _ _) rfl
    · -- 84 := move t0
      intro f W hW hold hd K hK
      have e0 : f 0 = .string t := hold 0 rfl
      have HK : ∀ v W', Below W.heap.size W W' → tailV _ 84 v W' → K { tmps := #[f 0, f 1, f 2, f 3, f 4, f 5, f 6, f 7, f 8, f 9, f 10, f 11, f 12, f 13, f 14, f 15, f 16, f 17, f 18, f 19, f 20, f 21, f 22, f 23, f 24, f 25, f 26, f 27, f 28, f 29, f 30, f 31, f 32, f 33, f 34, f 35, f 36, f 37, f 38, f 39, f 40, f 41, f 42, f 43, f 44, f 45, f 46, f 47, f 48, f 49, f 50, f 51, f 52, f 53, f 54, f 55, f 56, f 57, f 58, f 59, f 60, f 61, f 62, f 63, f 64, f 65, f 66, f 67, f 68, f 69, f 70, f 71, f 72, f 73, f 74, f 75, f 76, f 77, f 78, f 79, f 80, f 81, f 82, f 83, v, f 85, f 86, f 87, f 88, f 89, f 90, f 91, f 92, f 93, f 94, f 95, f 96, f 97, f 98, f 99, f 100, f 101, f 102, f 103, f 104, f 105, f 106, f 107, f 108, f 109, f 110, f 111], defers := [] } W' := hK
      change wpList _ #[_] _ [_] { tmps := #[f 0, f 1, f 2, f 3, f 4, f 5, f 6, f 7, f 8, f 9, f 10, f 11, f 12, f 13, f 14, f 15, f 16, f 17, f 18, f 19, f 20, f 21, f 22, f 23, f 24, f 25, f 26, f 27, f 28, f 29, f 30, f 31, f 32, f 33, f 34, f 35, f 36, f 37, f 38, f 39, f 40, f 41, f 42, f 43, f 44, f 45, f 46, f 47, f 48, f 49, f 50, f 51, f 52, f 53, f 54, f 55, f 56, f 57, f 58, f 59, f 60, f 61, f 62, f 63, f 64, f 65, f 66, f 67, f 68, f 69, f 70, f 71, f 72, f 73, f 74, f 75, f 76, f 77, f 78, f 79, f 80, f 81, f 82, f 83, f 84, f 85, f 86, f 87, f 88, f 89, f 90, f 91, f 92, f 93, f 94, f 95, f 96, f 97, f 98, f 99, f 100, f 101, f 102, f 103, f 104, f 105, f 106, f 107, f 108, f 109, f 110, f 111], defers := [] } W
      clear hK hd hold
      simp only [e0] at HK ⊢
      clear e0
      have HK := Aside.mk HK
      go_wp2
      exact HK.out _ _ (Below.refl _ _) rfl
    · -- 85 := index 9 t84 <i64 1>
      intro f W hW hold hd K hK
      have e84 : f 84 = .string t := hd 84 rfl rfl
      have HK : ∀ v W', Below W.heap.size W W' → tailV _ 85 v W' → K { tmps := #[f 0, f 1, f 2, f 3, f 4, f 5, f 6, f 7, f 8, f 9, f 10, f 11, f 12, f 13, f 14, f 15, f 16, f 17, f 18, f 19, f 20, f 21, f 22, f 23, f 24, f 25, f 26, f 27, f 28, f 29, f 30, f 31, f 32, f 33, f 34, f 35, f 36, f 37, f 38, f 39, f 40, f 41, f 42, f 43, f 44, f 45, f 46, f 47, f 48, f 49, f 50, f 51, f 52, f 53, f 54, f 55, f 56, f 57, f 58, f 59, f 60, f 61, f 62, f 63, f 64, f 65, f 66, f 67, f 68, f 69, f 70, f 71, f 72, f 73, f 74, f 75, f 76, f 77, f 78, f 79, f 80, f 81, f 82, f 83, f 84, v, f 86, f 87, f 88, f 89, f 90, f 91, f 92, f 93, f 94, f 95, f 96, f 97, f 98, f 99, f 100, f 101, f 102, f 103, f 104, f 105, f 106, f 107, f 108, f 109, f 110, f 111], defers := [] } W' := hK
      change wpList _ #[_] _ [_] { tmps := #[f 0, f 1, f 2, f 3, f 4, f 5, f 6, f 7, f 8, f 9, f 10, f 11, f 12, f 13, f 14, f 15, f 16, f 17, f 18, f 19, f 20, f 21, f 22, f 23, f 24, f 25, f 26, f 27, f 28, f 29, f 30, f 31, f 32, f 33, f 34, f 35, f 36, f 37, f 38, f 39, f 40, f 41, f 42, f 43, f 44, f 45, f 46, f 47, f 48, f 49, f 50, f 51, f 52, f 53, f 54, f 55, f 56, f 57, f 58, f 59, f 60, f 61, f 62, f 63, f 64, f 65, f 66, f 67, f 68, f 69, f 70, f 71, f 72, f 73, f 74, f 75, f 76, f 77, f 78, f 79, f 80, f 81, f 82, f 83, f 84, f 85, f 86, f 87, f 88, f 89, f 90, f 91, f 92, f 93, f 94, f 95, f 96, f 97, f 98, f 99, f 100, f 101, f 102, f 103, f 104, f 105, f 106, f 107, f 108, f 109, f 110, f 111], defers := [] } W
      clear hK hd hold
      simp only [e84] at HK ⊢
      clear e84
      have HK := Aside.mk HK
      go_wp2
      exact HK.out _ _ (Below.refl _ _) (congrArg (fun x : Nat => Value.int .u8 (x : Int)) HL.out)
    · -- 86 := binOp and 5 t85 <u8 2> 5
      intro f W hW hold hd K hK
      have e85 : f 85 = .int .u8 f1 := hd 85 rfl rfl
      have HK : ∀ v W', Below W.heap.size W W' → tailV _ 86 v W' → K { tmps := #[f 0, f 1, f 2, f 3, f 4, f 5, f 6, f 7, f 8, f 9, f 10, f 11, f 12, f 13, f 14, f 15, f 16, f 17, f 18, f 19, f 20, f 21, f 22, f 23, f 24, f 25, f 26, f 27, f 28, f 29, f 30, f 31, f 32, f 33, f 34, f 35, f 36, f 37, f 38, f 39, f 40, f 41, f 42, f 43, f 44, f 45, f 46, f 47, f 48, f 49, f 50, f 51, f 52, f 53, f 54, f 55, f 56, f 57, f 58, f 59, f 60, f 61, f 62, f 63, f 64, f 65, f 66, f 67, f 68, f 69, f 70, f 71, f 72, f 73, f 74, f 75, f 76, f 77, f 78, f 79, f 80, f 81, f 82, f 83, f 84, f 85, v, f 87, f 88, f 89, f 90, f 91, f 92, f 93, f 94, f 95, f 96, f 97, f 98, f 99, f 100, f 101, f 102, f 103, f 104, f 105, f 106, f 107, f 108, f 109, f 110, f 111], defers := [] } W' := hK
      change wpList _ #[_] _ [_] { tmps := #[f 0, f 1, f 2, f 3, f 4, f 5, f 6, f 7, f 8, f 9, f 10, f 11, f 12, f 13, f 14, f 15, f 16, f 17, f 18, f 19, f 20, f 21, f 22, f 23, f 24, f 25, f 26, f 27, f 28, f 29, f 30, f 31, f 32, f 33, f 34, f 35, f 36, f 37, f 38, f 39, f 40, f 41, f 42, f 43, f 44, f 45, f 46, f 47, f 48, f 49, f 50, f 51, f 52, f 53, f 54, f 55, f 56, f 57, f 58, f 59, f 60, f 61, f 62, f 63, f 64, f 65, f 66, f 67, f 68, f 69, f 70, f 71, f 72, f 73, f 74, f 75, f 76, f 77, f 78, f 79, f 80, f 81, f 82, f 83, f 84, f 85, f 86, f 87, f 88, f 89, f 90, f 91, f 92, f 93, f 94, f 95, f 96, f 97, f 98, f 99, f 100, f 101, f 102, f 103, f 104, f 105, f 106, f 107, f 108, f 109, f 110, f 111], defers := [] } W
      clear hK hd hold
      simp only [e85] at HK ⊢
      clear e85
      have HK := Aside.mk HK
      have hA := HA.out.2.2.1
      go_wp2
      exact HK.out _ _ (Below.refl _ _) rfl
    · -- 87 := binOp eql 5 t86 <u8 2> 5
      intro f W hW hold hd K hK
      have e86 : f 86 = .int .u8 m2 := hd 86 rfl rfl
      have HK : ∀ v W', Below W.heap.size W W' → tailV _ 87 v W' → K { tmps := #[f 0, f 1, f 2, f 3, f 4, f 5, f 6, f 7, f 8, f 9, f 10, f 11, f 12, f 13, f 14, f 15, f 16, f 17, f 18, f 19, f 20, f 21, f 22, f 23, f 24, f 25, f 26, f 27, f 28, f 29, f 30, f 31, f 32, f 33, f 34, f 35, f 36, f 37, f 38, f 39, f 40, f 41, f 42, f 43, f 44, f 45, f 46, f 47, f 48, f 49, f 50, f 51, f 52, f 53, f 54, f 55, f 56, f 57, f 58, f 59, f 60, f 61, f 62, f 63, f 64, f 65, f 66, f 67, f 68, f 69, f 70, f 71, f 72, f 73, f 74, f 75, f 76, f 77, f 78, f 79, f 80, f 81, f 82, f 83, f 84, f 85, f 86, v, f 88, f 89, f 90, f 91, f 92, f 93, f 94, f 95, f 96, f 97, f 98, f 99, f 100, f 101, f 102, f 103, f 104, f 105, f 106, f 107, f 108, f 109, f 110, f 111], defers := [] } W' := hK
      change wpList _ #[_] _ [_] { tmps := #[f 0, f 1, f 2, f 3, f 4, f 5, f 6, f 7, f 8, f 9, f 10, f 11, f 12, f 13, f 14, f 15, f 16, f 17, f 18, f 19, f 20, f 21, f 22, f 23, f 24, f 25, f 26, f 27, f 28, f 29, f 30, f 31, f 32, f 33, f 34, f 35, f 36, f 37, f 38, f 39, f 40, f 41, f 42, f 43, f 44, f 45, f 46, f 47, f 48, f 49, f 50, f 51, f 52, f 53, f 54, f 55, f 56, f 57, f 58, f 59, f 60, f 61, f 62, f 63, f 64, f 65, f 66, f 67, f 68, f 69, f 70, f 71, f 72, f 73, f 74, f 75, f 76, f 77, f 78, f 79, f 80, f 81, f 82, f 83, f 84, f 85, f 86, f 87, f 88, f 89, f 90, f 91, f 92, f 93, f 94, f 95, f 96, f 97, f 98, f 99, f 100, f 101, f 102, f 103, f 104, f 105, f 106, f 107, f 108, f 109, f 110, f 111], defers := [] } W
      clear hK hd hold
      simp only [e86] at HK ⊢
      clear e86
      have HK := Aside.mk HK
      have hA := HA.out.2.2.2
      go_wp2
      exact HK.out _ _ (Below.refl _ _) rfl
    · -- 88 := move t0
      intro f W hW hold hd K hK
      have e0 : f 0 = .string t := hold 0 rfl
      have HK : ∀ v W', Below W.heap.size W W' → tailV _ 88 v W' → K { tmps := #[f 0, f 1, f 2, f 3, f 4, f 5, f 6, f 7, f 8, f 9, f 10, f 11, f 12, f 13, f 14, f 15, f 16, f 17, f 18, f 19, f 20, f 21, f 22, f 23, f 24, f 25, f 26, f 27, f 28, f 29, f 30, f 31, f 32, f 33, f 34, f 35, f 36, f 37, f 38, f 39, f 40, f 41, f 42, f 43, f 44, f 45, f 46, f 47, f 48, f 49, f 50, f 51, f 52, f 53, f 54, f 55, f 56, f 57, f 58, f 59, f 60, f 61, f 62, f 63, f 64, f 65, f 66, f 67, f 68, f 69, f 70, f 71, f 72, f 73, f 74, f 75, f 76, f 77, f 78, f 79, f 80, f 81, f 82, f 83, f 84, f 85, f 86, f 87, v, f 89, f 90, f 91, f 92, f 93, f 94, f 95, f 96, f 97, f 98, f 99, f 100, f 101, f 102, f 103, f 104, f 105, f 106, f 107, f 108, f 109, f 110, f 111], defers := [] } W' := hK
      change wpList _ #[_] _ [_] { tmps := #[f 0, f 1, f 2, f 3, f 4, f 5, f 6, f 7, f 8, f 9, f 10, f 11, f 12, f 13, f 14, f 15, f 16, f 17, f 18, f 19, f 20, f 21, f 22, f 23, f 24, f 25, f 26, f 27, f 28, f 29, f 30, f 31, f 32, f 33, f 34, f 35, f 36, f 37, f 38, f 39, f 40, f 41, f 42, f 43, f 44, f 45, f 46, f 47, f 48, f 49, f 50, f 51, f 52, f 53, f 54, f 55, f 56, f 57, f 58, f 59, f 60, f 61, f 62, f 63, f 64, f 65, f 66, f 67, f 68, f 69, f 70, f 71, f 72, f 73, f 74, f 75, f 76, f 77, f 78, f 79, f 80, f 81, f 82, f 83, f 84, f 85, f 86, f 87, f 88, f 89, f 90, f 91, f 92, f 93, f 94, f 95, f 96, f 97, f 98, f 99, f 100, f 101, f 102, f 103, f 104, f 105, f 106, f 107, f 108, f 109, f 110, f 111], defers := [] } W
      clear hK hd hold
      simp only [e0] at HK ⊢
      clear e0
      have HK := Aside.mk HK
      go_wp2
      exact HK.out _ _ (Below.refl _ _) rfl
    · -- 89 := move t7
      intro f W hW hold hd K hK
      have e7 : f 7 = .int .i64 k := hold 7 rfl
      have HK : ∀ v W', Below W.heap.size W W' → tailV _ 89 v W' → K { tmps := #[f 0, f 1, f 2, f 3, f 4, f 5, f 6, f 7, f 8, f 9, f 10, f 11, f 12, f 13, f 14, f 15, f 16, f 17, f 18, f 19, f 20, f 21, f 22, f 23, f 24, f 25, f 26, f 27, f 28, f 29, f 30, f 31, f 32, f 33, f 34, f 35, f 36, f 37, f 38, f 39, f 40, f 41, f 42, f 43, f 44, f 45, f 46, f 47, f 48, f 49, f 50, f 51, f 52, f 53, f 54, f 55, f 56, f 57, f 58, f 59, f 60, f 61, f 62, f 63, f 64, f 65, f 66, f 67, f 68, f 69, f 70, f 71, f 72, f 73, f 74, f 75, f 76, f 77, f 78, f 79, f 80, f 81, f 82, f 83, f 84, f 85, f 86, f 87, f 88, v, f 90, f 91, f 92, f 93, f 94, f 95, f 96, f 97, f 98, f 99, f 100, f 101, f 102, f 103, f 104, f 105, f 106, f 107, f 108, f 109, f 110, f 111], defers := [] } W' := hK
      change wpList _ #[_] _ [_] { tmps := #[f 0, f 1, f 2, f 3, f 4, f 5, f 6, f 7, f 8, f 9, f 10, f 11, f 12, f 13, f 14, f 15, f 16, f 17, f 18, f 19, f 20, f 21, f 22, f 23, f 24, f 25, f 26, f 27, f 28, f 29, f 30, f 31, f 32, f 33, f 34, f 35, f 36, f 37, f 38, f 39, f 40, f 41, f 42, f 43, f 44, f 45, f 46, f 47, f 48, f 49, f 50, f 51, f 52, f 53, f 54, f 55, f 56, f 57, f 58, f 59, f 60, f 61, f 62, f 63, f 64, f 65, f 66, f 67, f 68, f 69, f 70, f 71, f 72, f 73, f 74, f 75, f 76, f 77, f 78, f 79, f 80, f 81, f 82, f 83, f 84, f 85, f 86, f 87, f 88, f 89, f 90, f 91, f 92, f 93, f 94, f 95, f 96, f 97, f 98, f 99, f 100, f 101, f 102, f 103, f 104, f 105, f 106, f 107, f 108, f 109, f 110, f 111], defers := [] } W
      clear hK hd hold
      simp only [e7] at HK ⊢
      clear e7
      have HK := Aside.mk HK
      go_wp2
      exact HK.out _ _ (Below.refl _ _) rfl
    · -- 90 := binOp add 3 <i64 13> t89 3
      intro f W hW hold hd K hK
      have e89 : f 89 = .int .i64 k := hd 89 rfl rfl
      have HK : ∀ v W', Below W.heap.size W W' → tailV _ 90 v W' → K { tmps := #[f 0, f 1, f 2, f 3, f 4, f 5, f 6, f 7, f 8, f 9, f 10, f 11, f 12, f 13, f 14, f 15, f 16, f 17, f 18, f 19, f 20, f 21, f 22, f 23, f 24, f 25, f 26, f 27, f 28, f 29, f 30, f 31, f 32, f 33, f 34, f 35, f 36, f 37, f 38, f 39, f 40, f 41, f 42, f 43, f 44, f 45, f 46, f 47, f 48, f 49, f 50, f 51, f 52, f 53, f 54, f 55, f 56, f 57, f 58, f 59, f 60, f 61, f 62, f 63, f 64, f 65, f 66, f 67, f 68, f 69, f 70, f 71, f 72, f 73, f 74, f 75, f 76, f 77, f 78, f 79, f 80, f 81, f 82, f 83, f 84, f 85, f 86, f 87, f 88, f 89, v, f 91, f 92, f 93, f 94, f 95, f 96, f 97, f 98, f 99, f 100, f 101, f 102, f 103, f 104, f 105, f 106, f 107, f 108, f 109, f 110, f 111], defers := [] } W' := hK
      change wpList _ #[_] _ [_] { tmps := #[f 0, f 1, f 2, f 3, f 4, f 5, f 6, f 7, f 8, f 9, f 10, f 11, f 12, f 13, f 14, f 15, f 16, f 17, f 18, f 19, f 20, f 21, f 22, f 23, f 24, f 25, f 26, f 27, f 28, f 29, f 30, f 31, f 32, f 33, f 34, f 35, f 36, f 37, f 38, f 39, f 40, f 41, f 42, f 43, f 44, f 45, f 46, f 47, f 48, f 49, f 50, f 51, f 52, f 53, f 54, f 55, f 56, f 57, f 58, f 59, f 60, f 61, f 62, f 63, f 64, f 65, f 66, f 67, f 68, f 69, f 70, f 71, f 72, f 73, f 74, f 75, f 76, f 77, f 78, f 79, f 80, f 81, f 82, f 83, f 84, f 85, f 86, f 87, f 88, f 89, f 90, f 91, f 92, f 93, f 94, f 95, f 96, f 97, f 98, f 99, f 100, f 101, f 102, f 103, f 104, f 105, f 106, f 107, f 108, f 109, f 110, f 111], defers := [] } W
      clear hK hd hold
      simp only [e89] at HK ⊢
      clear e89
      have HK := Aside.mk HK
      go_wp2
      exact HK.out _ _ (Below.refl _ _) rfl
    · -- 91 := slice 9 t88 <i64 13> t90 -
      intro f W hW hold hd K hK
      have e88 : f 88 = .string t := hd 88 rfl rfl
      have e90 : f 90 = .int .i64 p := hd 90 rfl rfl
      have HK : ∀ v W', Below W.heap.size W W' → tailV _ 91 v W' → K { tmps := #[f 0, f 1, f 2, f 3, f 4, f 5, f 6, f 7, f 8, f 9, f 10, f 11, f 12, f 13, f 14, f 15, f 16, f 17, f 18, f 19, f 20, f 21, f 22, f 23, f 24, f 25, f 26, f 27, f 28, f 29, f 30, f 31, f 32, f 33, f 34, f 35, f 36, f 37, f 38, f 39, f 40, f 41, f 42, f 43, f 44, f 45, f 46, f 47, f 48, f 49, f 50, f 51, f 52, f 53, f 54, f 55, f 56, f 57, f 58, f 59, f 60, f 61, f 62, f 63, f 64, f 65, f 66, f 67, f 68, f 69, f 70, f 71, f 72, f 73, f 74, f 75, f 76, f 77, f 78, f 79, f 80, f 81, f 82, f 83, f 84, f 85, f 86, f 87, f 88, f 89, f 90, v, f 92, f 93, f 94, f 95, f 96, f 97, f 98, f 99, f 100, f 101, f 102, f 103, f 104, f 105, f 106, f 107, f 108, f 109, f 110, f 111], defers := [] } W' := hK
      change wpList _ #[_] _ [_] { tmps := #[f 0, f 1, f 2, f 3, f 4, f 5, f 6, f 7, f 8, f 9, f 10, f 11, f 12, f 13, f 14, f 15, f 16, f 17, f 18, f 19, f 20, f 21, f 22, f 23, f 24, f 25, f 26, f 27, f 28, f 29, f 30, f 31, f 32, f 33, f 34, f 35, f 36, f 37, f 38, f 39, f 40, f 41, f 42, f 43, f 44, f 45, f 46, f 47, f 48, f 49, f 50, f 51, f 52, f 53, f 54, f 55, f 56, f 57, f 58, f 59, f 60, f 61, f 62, f 63, f 64, f 65, f 66, f 67, f 68, f 69, f 70, f 71, f 72, f 73, f 74, f 75, f 76, f 77, f 78, f 79, f 80, f 81, f 82, f 83, f 84, f 85, f 86, f 87, f 88, f 89, f 90, f 91, f 92, f 93, f 94, f 95, f 96, f 97, f 98, f 99, f 100, f 101, f 102, f 103, f 104, f 105, f 106, f 107, f 108, f 109, f 110, f 111], defers := [] } W
      clear hK hd hold
      simp only [e88, e90] at HK ⊢
      clear e88 e90
      have HK := Aside.mk HK
      go_wp2
      exact HK.out _ _ (Below.refl _ _) rfl
    · -- 92 := move t0
      intro f W hW hold hd K hK
      have e0 : f 0 = .string t := hold 0 rfl
      have HK : ∀ v W', Below W.heap.size W W' → tailV _ 92 v W' → K { tmps := #[f 0, f 1, f 2, f 3, f 4, f 5, f 6, f 7, f 8, f 9, f 10, f 11, f 12, f 13, f 14, f 15, f 16, f 17, f 18, f 19, f 20, f 21, f 22, f 23, f 24, f 25, f 26, f 27, f 28, f 29, f 30, f 31, f 32, f 33, f 34, f 35, f 36, f 37, f 38, f 39, f 40, f 41, f 42, f 43, f 44, f 45, f 46, f 47, f 48, f 49, f 50, f 51, f 52, f 53, f 54, f 55, f 56, f 57, f 58, f 59, f 60, f 61, f 62, f 63, f 64, f 65, f 66, f 67, f 68, f 69, f 70, f 71, f 72, f 73, f 74, f 75, f 76, f 77, f 78, f 79, f 80, f 81, f 82, f 83, f 84, f 85, f 86, f 87, f 88, f 89, f 90, f 91, v, f 93, f 94, f 95, f 96, f 97, f 98, f 99, f 100, f 101, f 102, f 103, f 104, f 105, f 106, f 107, f 108, f 109, f 110, f 111], defers := [] } W' := hK
      change wpList _ #[_] _ [_] { tmps := #[f 0, f 1, f 2, f 3, f 4, f 5, f 6, f 7, f 8, f 9, f 10, f 11, f 12, f 13, f 14, f 15, f 16, f 17, f 18, f 19, f 20, f 21, f 22, f 23, f 24, f 25, f 26, f 27, f 28, f 29, f 30, f 31, f 32, f 33, f 34, f 35, f 36, f 37, f 38, f 39, f 40, f 41, f 42, f 43, f 44, f 45, f 46, f 47, f 48, f 49, f 50, f 51, f 52, f 53, f 54, f 55, f 56, f 57, f 58, f 59, f 60, f 61, f 62, f 63, f 64, f 65, f 66, f 67, f 68, f 69, f 70, f 71, f 72, f 73, f 74, f 75, f 76, f 77, f 78, f 79, f 80, f 81, f 82, f 83, f 84, f 85, f 86, f 87, f 88, f 89, f 90, f 91, f 92, f 93, f 94, f 95, f 96, f 97, f 98, f 99, f 100, f 101, f 102, f 103, f 104, f 105, f 106, f 107, f 108, f 109, f 110, f 111], defers := [] } W
      clear hK hd hold
      simp only [e0] at HK ⊢
      clear e0
      have HK := Aside.mk HK
      go_wp2
      exact HK.out _ _ (Below.refl _ _) rfl
    · -- 93 := move t7
      intro f W hW hold hd K hK
      have e7 : f 7 = .int .i64 k := hold 7 rfl
      have HK : ∀ v W', Below W.heap.size W W' → tailV _ 93 v W' → K { tmps := #[f 0, f 1, f 2, f 3, f 4, f 5, f 6, f 7, f 8, f 9, f 10, f 11, f 12, f 13, f 14, f 15, f 16, f 17, f 18, f 19, f 20, f 21, f 22, f 23, f 24, f 25, f 26, f 27, f 28, f 29, f 30, f 31, f 32, f 33, f 34, f 35, f 36, f 37, f 38, f 39, f 40, f 41, f 42, f 43, f 44, f 45, f 46, f 47, f 48, f 49, f 50, f 51, f 52, f 53, f 54, f 55, f 56, f 57, f 58, f 59, f 60, f 61, f 62, f 63, f 64, f 65, f 66, f 67, f 68, f 69, f 70, f 71, f 72, f 73, f 74, f 75, f 76, f 77, f 78, f 79, f 80, f 81, f 82, f 83, f 84, f 85, f 86, f 87, f 88, f 89, f 90, f 91, f 92, v, f 94, f 95, f 96, f 97, f 98, f 99, f 100, f 101, f 102, f 103, f 104, f 105, f 106, f 107, f 108, f 109, f 110, f 111], defers := [] } W' := hK
      change wpList _ #[_] _ [_] { tmps := #[f 0, f 1, f 2, f 3, f 4, f 5, f 6, f 7, f 8, f 9, f 10, f 11, f 12, f 13, f 14, f 15, f 16, f 17, f 18, f 19, f 20, f 21, f 22, f 23, f 24, f 25, f 26, f 27, f 28, f 29, f 30, f 31, f 32, f 33, f 34, f 35, f 36, f 37, f 38, f 39, f 40, f 41, f 42, f 43, f 44, f 45, f 46, f 47, f 48, f 49, f 50, f 51, f 52, f 53, f 54, f 55, f 56, f 57, f 58, f 59, f 60, f 61, f 62, f 63, f 64, f 65, f 66, f 67, f 68, f 69, f 70, f 71, f 72, f 73, f 74, f 75, f 76, f 77, f 78, f 79, f 80, f 81, f 82, f 83, f 84, f 85, f 86, f 87, f 88, f 89, f 90, f 91, f 92, f 93, f 94, f 95, f 96, f 97, f 98, f 99, f 100, f 101, f 102, f 103, f 104, f 105, f 106, f 107, f 108, f 109, f 110, f 111], defers := [] } W
      clear hK hd hold
      simp only [e7] at HK ⊢
      clear e7
      have HK := Aside.mk HK
      go_wp2
      exact HK.out _ _ (Below.refl _ _) rfl
    · -- 94 := binOp add 3 <i64 13> t93 3
      intro f W hW hold hd K hK
      have e93 : f 93 = .int .i64 k := hd 93 rfl rfl
      have HK : ∀ v W', Below W.heap.size W W' → tailV _ 94 v W' → K { tmps := #[f 0, f 1, f 2, f 3, f 4, f 5, f 6, f 7, f 8, f 9, f 10, f 11, f 12, f 13, f 14, f 15, f 16, f 17, f 18, f 19, f 20, f 21, f 22, f 23, f 24, f 25, f 26, f 27, f 28, f 29, f 30, f 31, f 32, f 33, f 34, f 35, f 36, f 37, f 38, f 39, f 40, f 41, f 42, f 43, f 44, f 45, f 46, f 47, f 48, f 49, f 50, f 51, f 52, f 53, f 54, f 55, f 56, f 57, f 58, f 59, f 60, f 61, f 62, f 63, f 64, f 65, f 66, f 67, f 68, f 69, f 70, f 71, f 72, f 73, f 74, f 75, f 76, f 77, f 78, f 79, f 80, f 81, f 82, f 83, f 84, f 85, f 86, f 87, f 88, f 89, f 90, f 91, f 92, f 93, v, f 95, f 96, f 97, f 98, f 99, f 100, f 101, f 102, f 103, f 104, f 105, f 106, f 107, f 108, f 109, f 110, f 111], defers := [] } W' := hK
      change wpList _ #[_] _ [_] { tmps := #[f 0, f 1, f 2, f 3, f 4, f 5, f 6, f 7, f 8, f 9, f 10, f 11, f 12, f 13, f 14, f 15, f 16, f 17, f 18, f 19, f 20, f 21, f 22, f 23, f 24, f 25, f 26, f 27, f 28, f 29, f 30, f 31, f 32, f 33, f 34, f 35, f 36, f 37, f 38, f 39, f 40, f 41, f 42, f 43, f 44, f 45, f 46, f 47, f 48, f 49, f 50, f 51, f 52, f 53, f 54, f 55, f 56, f 57, f 58, f 59, f 60, f 61, f 62, f 63, f 64, f 65, f 66, f 67, f 68, f 69, f 70, f 71, f 72, f 73, f 74, f 75, f 76, f 77, f 78, f 79, f 80, f 81, f 82, f 83, f 84, f 85, f 86, f 87, f 88, f 89, f 90, f 91, f 92, f 93, f 94, f 95, f 96, f 97, f 98, f 99, f 100, f 101, f 102, f 103, f 104, f 105, f 106, f 107, f 108, f 109, f 110, f 111], defers := [] } W
      clear hK hd hold
      simp only [e93] at HK ⊢
      clear e93
      have HK := Aside.mk HK
      go_wp2
      exact HK.out _ _ (Below.refl _ _) rfl
    · -- 95 := move t8
      intro f W hW hold hd K hK
      have e8 : f 8 = .int .i64 z := hold 8 rfl
      have HK : ∀ v W', Below W.heap.size W W' → tailV _ 95 v W' → K { tmps := #[f 0, f 1, f 2, f 3, f 4, f 5, f 6, f 7, f 8, f 9, f 10, f 11, f 12, f 13, f 14, f 15, f 16, f 17, f 18, f 19, f 20, f 21, f 22, f 23, f 24, f 25, f 26, f 27, f 28, f 29, f 30, f 31, f 32, f 33, f 34, f 35, f 36, f 37, f 38, f 39, f 40, f 41, f 42, f 43, f 44, f 45, f 46, f 47, f 48, f 49, f 50, f 51, f 52, f 53, f 54, f 55, f 56, f 57, f 58, f 59, f 60, f 61, f 62, f 63, f 64, f 65, f 66, f 67, f 68, f 69, f 70, f 71, f 72, f 73, f 74, f 75, f 76, f 77, f 78, f 79, f 80, f 81, f 82, f 83, f 84, f 85, f 86, f 87, f 88, f 89, f 90, f 91, f 92, f 93, f 94, v, f 96, f 97, f 98, f 99, f 100, f 101, f 102, f 103, f 104, f 105, f 106, f 107, f 108, f 109, f 110, f 111], defers := [] } W' := hK
      change wpList _ #[_] _ [_] { tmps := #[f 0, f 1, f 2, f 3, f 4, f 5, f 6, f 7, f 8, f 9, f 10, f 11, f 12, f 13, f 14, f 15, f 16, f 17, f 18, f 19, f 20, f 21, f 22, f 23, f 24, f 25, f 26, f 27, f 28, f 29, f 30, f 31, f 32, f 33, f 34, f 35, f 36, f 37, f 38, f 39, f 40, f 41, f 42, f 43, f 44, f 45, f 46, f 47, f 48, f 49, f 50, f 51, f 52, f 53, f 54, f 55, f 56, f 57, f 58, f 59, f 60, f 61, f 62, f 63, f 64, f 65, f 66, f 67, f 68, f 69, f 70, f 71, f 72, f 73, f 74, f 75, f 76, f 77, f 78, f 79, f 80, f 81, f 82, f 83, f 84, f 85, f 86, f 87, f 88, f 89, f 90, f 91, f 92, f 93, f 94, f 95, f 96, f 97, f 98, f 99, f 100, f 101, f 102, f 103, f 104, f 105, f 106, f 107, f 108, f 109, f 110, f 111], defers := [] } W
      clear hK hd hold
      simp only [e8] at HK ⊢
      clear e8
      have HK := Aside.mk HK
      go_wp2
      exact HK.out _ _ (Below.refl _ _) rfl
    · -- 96 := binOp sub 3 t95 <i64 4> 3
      intro f W hW hold hd K hK
      have e95 : f 95 = .int .i64 z := hd 95 rfl rfl
      have HK : ∀ v W', Below W.heap.size W W' → tailV _ 96 v W' → K { tmps := #[f 0, f 1, f 2, f 3, f 4, f 5, f 6, f 7, f 8, f 9, f 10, f 11, f 12, f 13, f 14, f 15, f 16, f 17, f 18, f 19, f 20, f 21, f 22, f 23, f 24, f 25, f 26, f 27, f 28, f 29, f 30, f 31, f 32, f 33, f 34, f 35, f 36, f 37, f 38, f 39, f 40, f 41, f 42, f 43, f 44, f 45, f 46, f 47, f 48, f 49, f 50, f 51, f 52, f 53, f 54, f 55, f 56, f 57, f 58, f 59, f 60, f 61, f 62, f 63, f 64, f 65, f 66, f 67, f 68, f 69, f 70, f 71, f 72, f 73, f 74, f 75, f 76, f 77, f 78, f 79, f 80, f 81, f 82, f 83, f 84, f 85, f 86, f 87, f 88, f 89, f 90, f 91, f 92, f 93, f 94, f 95, v, f 97, f 98, f 99, f 100, f 101, f 102, f 103, f 104, f 105, f 106, f 107, f 108, f 109, f 110, f 111], defers := [] } W' := hK
      change wpList _ #[_] _ [_] { tmps := #[f 0, f 1, f 2, f 3, f 4, f 5, f 6, f 7, f 8, f 9, f 10, f 11, f 12, f 13, f 14, f 15, f 16, f 17, f 18, f 19, f 20, f 21, f 22, f 23, f 24, f 25, f 26, f 27, f 28, f 29, f 30, f 31, f 32, f 33, f 34, f 35, f 36, f 37, f 38, f 39, f 40, f 41, f 42, f 43, f 44, f 45, f 46, f 47, f 48, f 49, f 50, f 51, f 52, f 53, f 54, f 55, f 56, f 57, f 58, f 59, f 60, f 61, f 62, f 63, f 64, f 65, f 66, f 67, f 68, f 69, f 70, f 71, f 72, f 73, f 74, f 75, f 76, f 77, f 78, f 79, f 80, f 81, f 82, f 83, f 84, f 85, f 86, f 87, f 88, f 89, f 90, f 91, f 92, f 93, f 94, f 95, f 96, f 97, f 98, f 99, f 100, f 101, f 102, f 103, f 104, f 105, f 106, f 107, f 108, f 109, f 110, f 111], defers := [] } W
      clear hK hd hold
      simp only [e95] at HK ⊢
      clear e95
      have HK := Aside.mk HK
      go_wp2
      exact HK.out _ _ (Below.refl _ _) rfl
    · -- 97 := slice 9 t92 t94 t96 -
      intro f W hW hold hd K hK
      have e92 : f 92 = .string t := hd 92 rfl rfl
      have e94 : f 94 = .int .i64 p := hd 94 rfl rfl
      have e96 : f 96 = .int .i64 z4 := hd 96 rfl rfl
      have HK : ∀ v W', Below W.heap.size W W' → tailV _ 97 v W' → K { tmps := #[f 0, f 1, f 2, f 3, f 4, f 5, f 6, f 7, f 8, f 9, f 10, f 11, f 12, f 13, f 14, f 15, f 16, f 17, f 18, f 19, f 20, f 21, f 22, f 23, f 24, f 25, f 26, f 27, f 28, f 29, f 30, f 31, f 32, f 33, f 34, f 35, f 36, f 37, f 38, f 39, f 40, f 41, f 42, f 43, f 44, f 45, f 46, f 47, f 48, f 49, f 50, f 51, f 52, f 53, f 54, f 55, f 56, f 57, f 58, f 59, f 60, f 61, f 62, f 63, f 64, f 65, f 66, f 67, f 68, f 69, f 70, f 71, f 72, f 73, f 74, f 75, f 76, f 77, f 78, f 79, f 80, f 81, f 82, f 83, f 84, f 85, f 86, f 87, f 88, f 89, f 90, f 91, f 92, f 93, f 94, f 95, f 96, v, f 98, f 99, f 100, f 101, f 102, f 103, f 104, f 105, f 106, f 107, f 108, f 109, f 110, f 111], defers := [] } W' := hK
      change wpList _ #[_] _ [_] { tmps := #[f 0, f 1, f 2, f 3, f 4, f 5, f 6, f 7, f 8, f 9, f 10, f 11, f 12, f 13, f 14, f 15, f 16, f 17, f 18, f 19, f 20, f 21, f 22, f 23, f 24, f 25, f 26, f 27, f 28, f 29, f 30, f 31, f 32, f 33, f 34, f 35, f 36, f 37, f 38, f 39, f 40, f 41, f 42, f 43, f 44, f 45, f 46, f 47, f 48, f 49, f 50, f 51, f 52, f 53, f 54, f 55, f 56, f 57, f 58, f 59, f 60, f 61, f 62, f 63, f 64, f 65, f 66, f 67, f 68, f 69, f 70, f 71, f 72, f 73, f 74, f 75, f 76, f 77, f 78, f 79, f 80, f 81, f 82, f 83, f 84, f 85, f 86, f 87, f 88, f 89, f 90, f 91, f 92, f 93, f 94, f 95, f 96, f 97, f 98, f 99, f 100, f 101, f 102, f 103, f 104, f 105, f 106, f 107, f 108, f 109, f 110, f 111], defers := [] } W
      clear hK hd hold
      simp only [e92, e94, e96] at HK ⊢
      clear e92 e94 e96
      have HK := Aside.mk HK
      go_wp2
      exact HK.out _ _ (Below.refl _ _) rfl
    · -- 98 := build 26 [(0, t79), (1, t83), (2, t87), (3, t91), (4, t97)]
      intro f W hW hold hd K hK
      have e79 : f 79 = .int .i64 q := hd 79 rfl rfl
      have e83 : f 83 = .bool g := hd 83 rfl rfl
      have e87 : f 87 = .bool l := hd 87 rfl rfl
      have e91 : f 91 = .string (t.extract 13 p) := hd 91 rfl rfl
      have e97 : f 97 = .string (t.extract p z4) := hd 97 rfl rfl
      have HK : ∀ v W', Below W.heap.size W W' → tailV _ 98 v W' → K { tmps := #[f 0, f 1, f 2, f 3, f 4, f 5, f 6, f 7, f 8, f 9, f 10, f 11, f 12, f 13, f 14, f 15, f 16, f 17, f 18, f 19, f 20, f 21, f 22, f 23, f 24, f 25, f 26, f 27, f 28, f 29, f 30, f 31, f 32, f 33, f 34, f 35, f 36, f 37, f 38, f 39, f 40, f 41, f 42, f 43, f 44, f 45, f 46, f 47, f 48, f 49, f 50, f 51, f 52, f 53, f 54, f 55, f 56, f 57, f 58, f 59, f 60, f 61, f 62, f 63, f 64, f 65, f 66, f 67, f 68, f 69, f 70, f 71, f 72, f 73, f 74, f 75, f 76, f 77, f 78, f 79, f 80, f 81, f 82, f 83, f 84, f 85, f 86, f 87, f 88, f 89, f 90, f 91, f 92, f 93, f 94, f 95, f 96, f 97, v, f 99, f 100, f 101, f 102, f 103, f 104, f 105, f 106, f 107, f 108, f 109, f 110, f 111], defers := [] } W' := hK
      change wpList _ #[_] _ [_] { tmps := #[f 0, f 1, f 2, f 3, f 4, f 5, f 6, f 7, f 8, f 9, f 10, f 11, f 12, f 13, f 14, f 15, f 16, f 17, f 18, f 19, f 20, f 21, f 22, f 23, f 24, f 25, f 26, f 27, f 28, f 29, f 30, f 31, f 32, f 33, f 34, f 35, f 36, f 37, f 38, f 39, f 40, f 41, f 42, f 43, f 44, f 45, f 46, f 47, f 48, f 49, f 50, f 51, f 52, f 53, f 54, f 55, f 56, f 57, f 58, f 59, f 60, f 61, f 62, f 63, f 64, f 65, f 66, f 67, f 68, f 69, f 70, f 71, f 72, f 73, f 74, f 75, f 76, f 77, f 78, f 79, f 80, f 81, f 82, f 83, f 84, f 85, f 86, f 87, f 88, f 89, f 90, f 91, f 92, f 93, f 94, f 95, f 96, f 97, f 98, f 99, f 100, f 101, f 102, f 103, f 104, f 105, f 106, f 107, f 108, f 109, f 110, f 111], defers := [] } W
      clear hK hd hold
      simp only [e79, e83, e87, e91, e97] at HK ⊢
      clear e79 e83 e87 e91 e97
      have HK := Aside.mk HK
      go_wp2
      exact HK.out _ _ (Below.refl _ _) rfl
    · -- 11 := alloc 26
      intro f W hW hold hd K hK
      have HK : ∀ v W', Below W.heap.size W W' → tailV _ 11 v W' → K { tmps := #[f 0, f 1, f 2, f 3, f 4, f 5, f 6, f 7, f 8, f 9, f 10, v, f 12, f 13, f 14, f 15, f 16, f 17, f 18, f 19, f 20, f 21, f 22, f 23, f 24, f 25, f 26, f 27, f 28, f 29, f 30, f 31, f 32, f 33, f 34, f 35, f 36, f 37, f 38, f 39, f 40, f 41, f 42, f 43, f 44, f 45, f 46, f 47, f 48, f 49, f 50, f 51, f 52, f 53, f 54, f 55, f 56, f 57, f 58, f 59, f 60, f 61, f 62, f 63, f 64, f 65, f 66, f 67, f 68, f 69, f 70, f 71, f 72, f 73, f 74, f 75, f 76, f 77, f 78, f 79, f 80, f 81, f 82, f 83, f 84, f 85, f 86, f 87, f 88, f 89, f 90, f 91, f 92, f 93, f 94, f 95, f 96, f 97, f 98, f 99, f 100, f 101, f 102, f 103, f 104, f 105, f 106, f 107, f 108, f 109, f 110, f 111], defers := [] } W' := hK
      change wpList _ #[_] _ [_] { tmps := #[f 0, f 1, f 2, f 3, f 4, f 5, f 6, f 7, f 8, f 9, f 10, f 11, f 12, f 13, f 14, f 15, f 16, f 17, f 18, f 19, f 20, f 21, f 22, f 23, f 24, f 25, f 26, f 27, f 28, f 29, f 30, f 31, f 32, f 33, f 34, f 35, f 36, f 37, f 38, f 39, f 40, f 41, f 42, f 43, f 44, f 45, f 46, f 47, f 48, f 49, f 50, f 51, f 52, f 53, f 54, f 55, f 56, f 57, f 58, f 59, f 60, f 61, f 62, f 63, f 64, f 65, f 66, f 67, f 68, f 69, f 70, f 71, f 72, f 73, f 74, f 75, f 76, f 77, f 78, f 79, f 80, f 81, f 82, f 83, f 84, f 85, f 86, f 87, f 88, f 89, f 90, f 91, f 92, f 93, f 94, f 95, f 96, f 97, f 98, f 99, f 100, f 101, f 102, f 103, f 104, f 105, f 106, f 107, f 108, f 109, f 110, f 111], defers := [] } W
      clear hK hd hold
      have HK := Aside.mk HK
      go_wp2
      exact HK.out _ _ ((Below.refl _ _).alloc (Nat.le_refl _) _) ⟨_, rfl, hW.size, heap_alloc_new _ _⟩
    · -- the last: store 26 t11 t98
      intro f W hW hold hd K hK
      have e0 : f 0 = .string t := hold 0 rfl
      have e1 : f 1 = .int .i64 n := hold 1 rfl
      have e4 : f 4 = .pointer (some ⟨w.heap.size, 0, none⟩) := hold 4 rfl
      have e7 : f 7 = .int .i64 k := hold 7 rfl
      have e8 : f 8 = .int .i64 z := hold 8 rfl
      obtain ⟨b11, e11, l11, r11⟩ : ∃ bb, f 11 = .pointer (some ⟨bb, 0, none⟩) ∧ w2.heap.size ≤ bb ∧ W.heap[bb]? = some (.cells (nodeC 0 false false ⟨#[]⟩ ⟨#[]⟩) 30 (0, 0)) := hd 11 rfl
      have e77 : f 77 = .string t := hd 77 rfl
      have e78 : f 78 = .string (t.extract 2 t.size) := hd 78 rfl
      have e79 : f 79 = .int .i64 q := hd 79 rfl
      have e80 : f 80 = .string t := hd 80 rfl
      have e81 : f 81 = .int .u8 f1 := hd 81 rfl
      have e82 : f 82 = .int .u8 m1 := hd 82 rfl
      have e83 : f 83 = .bool g := hd 83 rfl
      have e84 : f 84 = .string t := hd 84 rfl
      have e85 : f 85 = .int .u8 f1 := hd 85 rfl
      have e86 : f 86 = .int .u8 m2 := hd 86 rfl
      have e87 : f 87 = .bool l := hd 87 rfl
      have e88 : f 88 = .string t := hd 88 rfl
      have e89 : f 89 = .int .i64 k := hd 89 rfl
      have e90 : f 90 = .int .i64 p := hd 90 rfl
      have e91 : f 91 = .string (t.extract 13 p) := hd 91 rfl
      have e92 : f 92 = .string t := hd 92 rfl
      have e93 : f 93 = .int .i64 k := hd 93 rfl
      have e94 : f 94 = .int .i64 p := hd 94 rfl
      have e95 : f 95 = .int .i64 z := hd 95 rfl
      have e96 : f 96 = .int .i64 z4 := hd 96 rfl
      have e97 : f 97 = .string (t.extract p z4) := hd 97 rfl
      have e98 : f 98 = nodeV q g l (t.extract 13 p) (t.extract p z4) := hd 98 rfl
      change wpList _ #[_] _ [_] { tmps := #[f 0, f 1, f 2, f 3, f 4, f 5, f 6, f 7, f 8, f 9, f 10, f 11, f 12, f 13, f 14, f 15, f 16, f 17, f 18, f 19, f 20, f 21, f 22, f 23, f 24, f 25, f 26, f 27, f 28, f 29, f 30, f 31, f 32, f 33, f 34, f 35, f 36, f 37, f 38, f 39, f 40, f 41, f 42, f 43, f 44, f 45, f 46, f 47, f 48, f 49, f 50, f 51, f 52, f 53, f 54, f 55, f 56, f 57, f 58, f 59, f 60, f 61, f 62, f 63, f 64, f 65, f 66, f 67, f 68, f 69, f 70, f 71, f 72, f 73, f 74, f 75, f 76, f 77, f 78, f 79, f 80, f 81, f 82, f 83, f 84, f 85, f 86, f 87, f 88, f 89, f 90, f 91, f 92, f 93, f 94, f 95, f 96, f 97, f 98, f 99, f 100, f 101, f 102, f 103, f 104, f 105, f 106, f 107, f 108, f 109, f 110, f 111], defers := [] } W
      simp only [e0, e1, e4, e7, e8, e11, e77, e78, e79, e80, e81, e82, e83, e84, e85, e86, e87, e88, e89, e90, e91, e92, e93, e94, e95, e96, e97, e98]
      clear hold hd e0 e1 e4 e7 e8 e11 e77 e78 e79 e80 e81 e82 e83 e84 e85 e86 e87 e88 e89 e90 e91 e92 e93 e94 e95 e96 e97 e98
      have HK := Aside.mk hK
      clear hK
      obtain ⟨c0, d0⟩ := row_cell r11 0 (v := .int .i64 0) rfl
      obtain ⟨c1, d1⟩ := row_cell r11 1 (v := .bool false) rfl
      obtain ⟨c2, d2⟩ := row_cell r11 2 (v := .bool false) rfl
      obtain ⟨c3, d3⟩ := row_cell r11 3 (v := .string ⟨#[]⟩) rfl
      obtain ⟨c4, d4⟩ := row_cell r11 4 (v := .string ⟨#[]⟩) rfl
      go_wp2
      refine HK.out _ _ ?_
      clear HK c0 c1 c2 c3 c4 d0 d1 d2 d3 d4
      have f0 := fin5 r11 q g l (t.extract 13 p) (t.extract p z4)
      have hne : w.heap.size ≠ b11 := by have := H0.out.2.1; omega
      have f1' : (((((W.setCell ⟨b11, 0, none⟩ (.int .i64 q)).setCell ⟨b11, 1, none⟩ (.bool g)).setCell ⟨b11, 2, none⟩ (.bool l)).setCell ⟨b11, 3, none⟩ (.string (t.extract 13 p))).setCell ⟨b11, 4, none⟩ (.string (t.extract p z4))).heap[w.heap.size]? = some (.cells (nodeC 0 false false ⟨#[]⟩ ⟨#[]⟩) 30 (0, 0)) :=
        row_other (row_other (row_other (row_other (row_other ((hW.block _ H0.out.2.1).trans H0.out.1) hne _) hne _) hne _) hne _) hne _
      have f2 := below_set5 (H0.out.2.2.trans (hW.mono (Nat.le_of_lt H0.out.2.1))) b11 (by have := H0.out.2.1; omega) (.int .i64 q) (.bool g) (.bool l) (.string (t.extract 13 p)) (.string (t.extract p z4))
      have f3 : w.heap.size < (((((W.setCell ⟨b11, 0, none⟩ (.int .i64 q)).setCell ⟨b11, 1, none⟩ (.bool g)).setCell ⟨b11, 2, none⟩ (.bool l)).setCell ⟨b11, 3, none⟩ (.string (t.extract 13 p))).setCell ⟨b11, 4, none⟩ (.string (t.extract p z4))).heap.size := by have := H0.out.2.1; have := hW.size; simp; omega
      generalize ((((W.setCell ⟨b11, 0, none⟩ (.int .i64 q)).setCell ⟨b11, 1, none⟩ (.bool g)).setCell ⟨b11, 2, none⟩ (.bool l)).setCell ⟨b11, 3, none⟩ (.string (t.extract 13 p))).setCell ⟨b11, 4, none⟩ (.string (t.extract p z4)) = w3 at *
      have H3 := Aside.mk (And.intro f0 (And.intro f1' (And.intro f2 f3)))
      clear f0 f1' f2 f3 hne r11 l11 hW H0 HQ HA hw1
      clear W
      have hl1 : t[1].toNat = f1 := HL.out
      by_cases hfl : f1 ≤ 3
      · have hfl' : (f1 : Int) ≤ 3 := by omega
        have hnb : b11 < w3.heap.size := by
          rcases Nat.lt_or_ge b11 w3.heap.size with h | h
          · exact h
          · have := H3.out.1; rw [Array.getElem?_eq_none h] at this; cases this
        obtain ⟨c0, d0⟩ := row_cell H3.out.1 0 (v := .int .i64 q) rfl
        obtain ⟨c1, d1⟩ := row_cell H3.out.1 1 (v := .bool g) rfl
        obtain ⟨c2, d2⟩ := row_cell H3.out.1 2 (v := .bool l) rfl
        obtain ⟨c3, d3⟩ := row_cell H3.out.1 3 (v := .string (t.extract 13 p)) rfl
        obtain ⟨c4, d4⟩ := row_cell H3.out.1 4 (v := .string (t.extract p z4)) rfl
        cases hgd : goodN q g (t.extract 13 p) (t.extract p z4)
        · have HGD := Aside.mk hgd
          clear hgd
          go_upto_region 19 with (go_at_call 13; refine (node_good q g l _ _ _).mono ?_; rw [HGD.out]; rintro e w4 ⟨rfl, hb4⟩)
          have HR2 : decE 4 = R := by rw [HR.out]; simp [decT, HO.out, HGD.out, show ¬ t.size < z by omega]
          clear c0 c1 c2 c3 c4 d0 d1 d2 d3 d4
          have k0 := (hb4.block _ H3.out.2.2.2).trans H3.out.2.1
          have kb := H3.out.2.2.1.trans (hb4.mono (Nat.le_of_lt H3.out.2.2.2))
          obtain ⟨c0, d0⟩ := row_cell k0 0 (v := .int .i64 0) rfl
          obtain ⟨c1, d1⟩ := row_cell k0 1 (v := .bool false) rfl
          obtain ⟨c2, d2⟩ := row_cell k0 2 (v := .bool false) rfl
          obtain ⟨c3, d3⟩ := row_cell k0 3 (v := .string ⟨#[]⟩) rfl
          obtain ⟨c4, d4⟩ := row_cell k0 4 (v := .string ⟨#[]⟩) rfl
          have HK := Aside.mk (And.intro k0 kb)
          clear k0 kb hb4
          go_wp2
          have hf5 := fin5 (HK.out.1) 0 false false ⟨#[]⟩ ⟨#[]⟩
          have hbl := below_set5 (HK.out.2) w.heap.size (Nat.le_refl _) (.int .i64 0) (.bool false) (.bool false) (.string ⟨#[]⟩) (.string ⟨#[]⟩)
          clear c0 c1 c2 c3 c4 d0 d1 d2 d3 d4
          obtain ⟨q0, _⟩ := row_cell hf5 0 (v := .int .i64 0) rfl
          obtain ⟨q1, _⟩ := row_cell hf5 1 (v := .bool false) rfl
          obtain ⟨q2, _⟩ := row_cell hf5 2 (v := .bool false) rfl
          obtain ⟨q3, _⟩ := row_cell hf5 3 (v := .string ⟨#[]⟩) rfl
          obtain ⟨q4, _⟩ := row_cell hf5 4 (v := .string ⟨#[]⟩) rfl
          exact bodyPost_ret (v := decE 4) (by simp [results, Tryd.results7, go_sem, q0, q1, q2, q3, q4]) rfl ⟨ret_eq HR2, hbl⟩
        · have HGD := Aside.mk hgd
          clear hgd
          go_upto_region 20 with (go_at_call 13; refine (node_good q g l _ _ _).mono ?_; rw [HGD.out]; rintro e w4 ⟨rfl, hb4⟩)
          have HR2 : .tuple #[nodeV q g l (t.extract 13 p) (t.extract p z4), .int .i64 ((n + z : Nat) : Int), .int .i64 0] = R := by rw [HR.out]; simp [decT, HO.out, HGD.out, hfl, show ¬ t.size < z by omega]
          clear c0 c1 c2 c3 c4 d0 d1 d2 d3 d4
          have k0 := (hb4.block _ H3.out.2.2.2).trans H3.out.2.1
          have kb := H3.out.2.2.1.trans (hb4.mono (Nat.le_of_lt H3.out.2.2.2))
          have k1 := (hb4.block _ hnb).trans H3.out.1
          obtain ⟨x0, y0⟩ := row_cell k1 0 (v := .int .i64 q) rfl
          obtain ⟨x1, y1⟩ := row_cell k1 1 (v := .bool g) rfl
          obtain ⟨x2, y2⟩ := row_cell k1 2 (v := .bool l) rfl
          obtain ⟨x3, y3⟩ := row_cell k1 3 (v := .string (t.extract 13 p)) rfl
          obtain ⟨x4, y4⟩ := row_cell k1 4 (v := .string (t.extract p z4)) rfl
          obtain ⟨c0, d0⟩ := row_cell k0 0 (v := .int .i64 0) rfl
          obtain ⟨c1, d1⟩ := row_cell k0 1 (v := .bool false) rfl
          obtain ⟨c2, d2⟩ := row_cell k0 2 (v := .bool false) rfl
          obtain ⟨c3, d3⟩ := row_cell k0 3 (v := .string ⟨#[]⟩) rfl
          obtain ⟨c4, d4⟩ := row_cell k0 4 (v := .string ⟨#[]⟩) rfl
          have HK := Aside.mk (And.intro k0 kb)
          clear k0 kb k1 hb4
          have hnw : IntKind.i64.wrap ((n : Int) + z) = ((n + z : Nat) : Int) := by rw [IntKind.wrap_i64]; omega
          generalize ((n + z : Nat) : Int) = nz at *
          go_wp2
          clear x0 x1 x2 x3 x4 y0 y1 y2 y3 y4
          have hf5 := fin5 (HK.out.1) q g l (t.extract 13 p) (t.extract p z4)
          have hbl := below_set5 (HK.out.2) w.heap.size (Nat.le_refl _) (.int .i64 q) (.bool g) (.bool l) (.string (t.extract 13 p)) (.string (t.extract p z4))
          clear c0 c1 c2 c3 c4 d0 d1 d2 d3 d4
          obtain ⟨q0, _⟩ := row_cell hf5 0 (v := .int .i64 q) rfl
          obtain ⟨q1, _⟩ := row_cell hf5 1 (v := .bool g) rfl
          obtain ⟨q2, _⟩ := row_cell hf5 2 (v := .bool l) rfl
          obtain ⟨q3, _⟩ := row_cell hf5 3 (v := .string (t.extract 13 p)) rfl
          obtain ⟨q4, _⟩ := row_cell hf5 4 (v := .string (t.extract p z4)) rfl
          exact bodyPost_ret (v := .tuple #[nodeV q g l (t.extract 13 p) (t.extract p z4), .int .i64 nz, .int .i64 0]) (by simp [results, Tryd.results7, go_sem, q0, q1, q2, q3, q4]) rfl ⟨ret_eq HR2, hbl⟩
      · have hfl' : (3 : Int) < f1 := by omega
        have HR2 : decE 4 = R := by rw [HR.out]; simp [decT, HO.out, hfl, show ¬ t.size < z by omega]
        obtain ⟨c0, d0⟩ := row_cell H3.out.2.1 0 (v := .int .i64 0) rfl
        obtain ⟨c1, d1⟩ := row_cell H3.out.2.1 1 (v := .bool false) rfl
        obtain ⟨c2, d2⟩ := row_cell H3.out.2.1 2 (v := .bool false) rfl
        obtain ⟨c3, d3⟩ := row_cell H3.out.2.1 3 (v := .string ⟨#[]⟩) rfl
        obtain ⟨c4, d4⟩ := row_cell H3.out.2.1 4 (v := .string ⟨#[]⟩) rfl
        have HK := Aside.mk (And.intro H3.out.2.1 H3.out.2.2.1)
        go_wp2
        have hf5 := fin5 (HK.out.1) 0 false false ⟨#[]⟩ ⟨#[]⟩
        have hbl := below_set5 (HK.out.2) w.heap.size (Nat.le_refl _) (.int .i64 0) (.bool false) (.bool false) (.string ⟨#[]⟩) (.string ⟨#[]⟩)
        clear c0 c1 c2 c3 c4 d0 d1 d2 d3 d4
        obtain ⟨q0, _⟩ := row_cell hf5 0 (v := .int .i64 0) rfl
        obtain ⟨q1, _⟩ := row_cell hf5 1 (v := .bool false) rfl
        obtain ⟨q2, _⟩ := row_cell hf5 2 (v := .bool false) rfl
        obtain ⟨q3, _⟩ := row_cell hf5 3 (v := .string ⟨#[]⟩) rfl
        obtain ⟨q4, _⟩ := row_cell hf5 4 (v := .string ⟨#[]⟩) rfl
        exact bodyPost_ret (v := decE 4) (by simp [results, Tryd.results7, go_sem, q0, q1, q2, q3, q4]) rfl ⟨ret_eq HR2, hbl⟩
end Go.Proofs.YtdjkcmjhknabnaaDoor
