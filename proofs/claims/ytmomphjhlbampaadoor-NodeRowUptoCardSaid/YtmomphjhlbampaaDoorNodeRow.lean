/-
  Nodes that stand one behind the other are read in a row; noughts end it.
-/
import Derived.Test.YtmomphjhlbampaaDoorNodeRowLaw
import Derived.Test.YtmomphjhlbampaaDoorRelPuts
import Derived.Test.YtmomphjhlbampaaDoorRelG
namespace Go.Proofs.YtmomphjhlbampaaDoor
open Go.RowKit

theorem getD_take_snoc (x : List ByteArray) (i : Nat) (h : i < x.length) : x.take (i + 1) = x.take i ++ [x.getD i ByteArray.empty] := by
  rw [List.take_succ_eq_append_getElem h]
  simp [List.getD, h]

set_option maxRecDepth 20000 in
set_option maxHeartbeats 8000000 in
theorem nodeRow_walk (A : Option Addr) (len cap : Nat) (x : List ByteArray) (no : Int) (w : World)
    (hx : x.length = len ∧ len ≤ cap ∧ cap ≤ maxLen ∧ len * 16 ≤ 140737488351232 ∧ (∀ s ∈ x, s.size ≤ 140737488351232) ∧ Rd w A len (fun i => .string (x.getD i ByteArray.empty))) (_hn : (Lit.int .i64 no).wf = true) (hnib : Nib w) (hb0 : x.length + (x.map (·.size)).sum ≤ 1048576) :
    Calls Tryd.prog 5 #[.slice A len cap, .int .i64 no] w fun e w' => e = .returned (.bool true) ∧ Below w.heap.size w w' := by
  have hb : x.length ≤ 1048576 := by omega
  clear hb0
  obtain ⟨hlen, hcap, hmax, _, _, hrd⟩ := hx
  have hl20 : len ≤ 1048576 := by omega
  unfold maxLen at hmax
  have HN := Aside.mk hnib
  have HRD := Aside.mk hrd
  have HL := Aside.mk hlen
  clear hnib hrd hlen hb _hn
  go_enter Tryd.func5, Tryd.ntmps5
  go_wp2_with (go_at_call 9; refine (node_speaks _ HN.out).mono ?_; rintro e w1 ⟨rfl, hb1⟩)
  have HB1 := Aside.mk hb1
  clear hb1
  go_loopw [5, 6, 7] (fun s5 s6 s7 wr => ∃ i : Nat, i ≤ len ∧ s7 = .int .i64 i ∧ s6 = .int .i64 ((sel (x.take i)).length : Nat) ∧ s5 = .string (catL 0 (sel (x.take i))) ∧ Below w.heap.size w wr) (fun _ _ s7 _ => len - (intOf s7).toNat)
  case atStart => exact ⟨0, Nat.zero_le _, rfl, rfl, rfl, HB1.out⟩
  case round =>
    obtain ⟨i, hi, rfl, rfl, rfl, hbw⟩ := hrel
    by_cases hlt : i < len
    · obtain ⟨b, off, rfl, hblt, hcell⟩ := HRD.out i hlt
      have hc2 := (hbw.cell (p := ⟨b, off + i, none⟩) hblt).trans hcell
      change wr.cell? _ = some (Value.string (x.getD i ByteArray.empty)) at hc2
      have hsn := sel_snoc (x.take i) (x.getD i ByteArray.empty)
      rw [← getD_take_snoc x i (by rw [HL.out]; exact hlt)] at hsn
      have hsl : (sel (x.take i)).length ≤ i := Nat.le_trans (sel_length _) (List.length_take_le _ _)
      have hsz : (catL 0 (sel (x.take i))).size ≤ 145 * (sel (x.take i)).length := catL_size _ 0 (fun k hk => sel_fit hk) (by omega)
      have HS := Aside.mk hsn
      have HW := Aside.mk (And.intro hbw (And.intro hblt hcell))
      clear hsn hcell hbw
      generalize hkk : x.getD i ByteArray.empty = k at *
      clear hkk
      have hcat : catL 0 (sel (x.take i) ++ [k]) = catL 0 (sel (x.take i)) ++ rowE (sel (x.take i)).length k := by
        rw [catL_append]; simp only [catL, app_empty, Nat.zero_add]
      have HCAT := Aside.mk hcat
      clear hcat
      generalize hL : sel (x.take i) = L at *
      generalize hm : L.length = m at *
      have HM := Aside.mk hm
      clear hm hL
      have hm20 : m ≤ 1048576 := by omega
      have hk3 : (k.size < 1 ∧ fitK k = false) ∨ (1 ≤ k.size ∧ 64 < k.size ∧ fitK k = false) ∨ (1 ≤ k.size ∧ k.size ≤ 64 ∧ fitK k = true) := by
        simp only [fitK, decide_eq_true_eq, decide_eq_false_iff_not]; omega
      rcases hk3 with ⟨h1, h2⟩ | ⟨h1, h1', h2⟩ | ⟨h1, h1', h2⟩
      · have hs2 := HS.out
        rw [h2, if_neg (by decide)] at hs2
        have h1i : (k.size : Int) < 1 := by omega
        have HS2 := Aside.mk hs2
        clear hs2 h2 h1
        generalize hcs : catL 0 L = cs at *
        have HCS := Aside.mk hcs
        clear hcs
        go_wp2
        go_roundw
        case rel => exact ⟨i + 1, by omega, by go_num, by rw [HS2.out, HM.out], by rw [HS2.out, HCS.out], HW.out.1⟩
        case measure => simp [intOf]; omega
      · have hs2 := HS.out
        rw [h2, if_neg (by decide)] at hs2
        have h1i : (1 : Int) ≤ k.size := by omega
        have h1j : (64 : Int) < k.size := by omega
        have HS2 := Aside.mk hs2
        clear hs2 h2 h1 h1'
        generalize hcs : catL 0 L = cs at *
        have HCS := Aside.mk hcs
        clear hcs
        go_wp2
        go_roundw
        case rel => exact ⟨i + 1, by omega, by go_num, by rw [HS2.out, HM.out], by rw [HS2.out, HCS.out], HW.out.1⟩
        case measure => simp [intOf]; omega
      · have hs2 := HS.out
        rw [h2, if_pos rfl] at hs2
        have h1i : (1 : Int) ≤ k.size := by omega
        have h1j : (k.size : Int) ≤ 64 := by omega
        have HS2 := Aside.mk hs2
        have hgd := rowE_good (j := m) (by omega) h2
        have hez := rowE_size (j := m) (by omega) h2
        have HGD := Aside.mk hgd
        unfold rowE at hez HCAT
        clear hs2 h2 hgd
        generalize hcs : catL 0 L = cs at *
        have HCS := Aside.mk hcs
        clear hcs
        have hE : ∀ W, Nib W → Calls Tryd.prog 10 #[nodeV m false false k k] W fun e w' => e = .returned (.tuple #[.string (encB m false false k k), .bool true]) ∧ Below W.heap.size W w' := fun W h => by
          have := node_encode m false false k k W h
          rwa [HGD.out] at this
        have HE := Aside.mk hE
        clear hE
        generalize encB m false false k k = E at *
        have hEz : E.size ≤ 145 := by omega
        have hnw : IntKind.i64.wrap ((m : Int) + 1) = ((m + 1 : Nat) : Int) := by rw [IntKind.wrap_i64]; omega
        have HNW := Aside.mk hnw
        clear hez hnw
        go_upto_region 9 with fail
        refine wp_region_relG (by kernel_rfl) (by kernel_rfl) (rel_small (by kernel_rfl)) (tailV [(8, .val (.string E)), (9, .val (.bool true)), (41, .val (.tuple #[.string E, .bool true])), (42, .val (.int .i64 m)), (43, .val (.slice (some ⟨b, off, none⟩) len cap)), (44, .val (.int .i64 i)), (45, .val (.pointer (some ⟨b, off + i, none⟩))), (46, .val (.string k)), (47, .val (.slice (some ⟨b, off, none⟩) len cap)), (48, .val (.int .i64 i)), (49, .val (.pointer (some ⟨b, off + i, none⟩))), (50, .val (.string k)), (51, .val (nodeV m false false k k)), (52, .val (.tuple #[.string E, .bool true])), (53, .val (.string E)), (54, .val (.bool true))]) (tailV_stable _) ⟨?_, ?_, ?_, ?_, ?_, ?_, ?_, ?_, ?_, ?_, ?_, ?_, ?_, ?_, ?_, ?_, trivial⟩ ?_
        · -- 42 := move t6
          intro f W hW hold hd K hK
          refine .inl ⟨wanted_free rfl _, ?_⟩
          dsimp only [bare]
          have ze6 : f 6 = .int .i64 m := hold 6 rfl
          have HK : ∀ v W', Below W.heap.size W W' → tailV _ 42 v W' → K { tmps := #[f 0, f 1, f 2, f 3, f 4, f 5, f 6, f 7, f 8, f 9, f 10, f 11, f 12, f 13, f 14, f 15, f 16, f 17, f 18, f 19, f 20, f 21, f 22, f 23, f 24, f 25, f 26, f 27, f 28, f 29, f 30, f 31, f 32, f 33, f 34, f 35, f 36, f 37, f 38, f 39, f 40, f 41, v, f 43, f 44, f 45, f 46, f 47, f 48, f 49, f 50, f 51, f 52, f 53, f 54, f 55, f 56, f 57, f 58, f 59, f 60, f 61, f 62, f 63, f 64, f 65, f 66, f 67, f 68, f 69, f 70, f 71, f 72, f 73, f 74, f 75, f 76, f 77, f 78, f 79, f 80, f 81, f 82, f 83, f 84, f 85, f 86, f 87, f 88, f 89, f 90, f 91, f 92, f 93, f 94, f 95, f 96, f 97, f 98, f 99, f 100, f 101, f 102, f 103, f 104, f 105, f 106, f 107, f 108, f 109, f 110, f 111, f 112, f 113, f 114], defers := [] } W' := hK
          change wpList _ #[_] _ [_] { tmps := #[f 0, f 1, f 2, f 3, f 4, f 5, f 6, f 7, f 8, f 9, f 10, f 11, f 12, f 13, f 14, f 15, f 16, f 17, f 18, f 19, f 20, f 21, f 22, f 23, f 24, f 25, f 26, f 27, f 28, f 29, f 30, f 31, f 32, f 33, f 34, f 35, f 36, f 37, f 38, f 39, f 40, f 41, f 42, f 43, f 44, f 45, f 46, f 47, f 48, f 49, f 50, f 51, f 52, f 53, f 54, f 55, f 56, f 57, f 58, f 59, f 60, f 61, f 62, f 63, f 64, f 65, f 66, f 67, f 68, f 69, f 70, f 71, f 72, f 73, f 74, f 75, f 76, f 77, f 78, f 79, f 80, f 81, f 82, f 83, f 84, f 85, f 86, f 87, f 88, f 89, f 90, f 91, f 92, f 93, f 94, f 95, f 96, f 97, f 98, f 99, f 100, f 101, f 102, f 103, f 104, f 105, f 106, f 107, f 108, f 109, f 110, f 111, f 112, f 113, f 114], defers := [] } W
          clear hK hd hold
          simp only [ze6] at HK ⊢
          clear ze6
          have HK := Aside.mk HK
          go_wp2
          exact HK.out _ _ (Below.refl _ _) rfl
        · -- 43 := move t0
          intro f W hW hold hd K hK
          refine .inl ⟨wanted_free rfl _, ?_⟩
          dsimp only [bare]
          have ze0 : f 0 = .slice (some ⟨b, off, none⟩) len cap := hold 0 rfl
          have HK : ∀ v W', Below W.heap.size W W' → tailV _ 43 v W' → K { tmps := #[f 0, f 1, f 2, f 3, f 4, f 5, f 6, f 7, f 8, f 9, f 10, f 11, f 12, f 13, f 14, f 15, f 16, f 17, f 18, f 19, f 20, f 21, f 22, f 23, f 24, f 25, f 26, f 27, f 28, f 29, f 30, f 31, f 32, f 33, f 34, f 35, f 36, f 37, f 38, f 39, f 40, f 41, f 42, v, f 44, f 45, f 46, f 47, f 48, f 49, f 50, f 51, f 52, f 53, f 54, f 55, f 56, f 57, f 58, f 59, f 60, f 61, f 62, f 63, f 64, f 65, f 66, f 67, f 68, f 69, f 70, f 71, f 72, f 73, f 74, f 75, f 76, f 77, f 78, f 79, f 80, f 81, f 82, f 83, f 84, f 85, f 86, f 87, f 88, f 89, f 90, f 91, f 92, f 93, f 94, f 95, f 96, f 97, f 98, f 99, f 100, f 101, f 102, f 103, f 104, f 105, f 106, f 107, f 108, f 109, f 110, f 111, f 112, f 113, f 114], defers := [] } W' := hK
          change wpList _ #[_] _ [_] { tmps := #[f 0, f 1, f 2, f 3, f 4, f 5, f 6, f 7, f 8, f 9, f 10, f 11, f 12, f 13, f 14, f 15, f 16, f 17, f 18, f 19, f 20, f 21, f 22, f 23, f 24, f 25, f 26, f 27, f 28, f 29, f 30, f 31, f 32, f 33, f 34, f 35, f 36, f 37, f 38, f 39, f 40, f 41, f 42, f 43, f 44, f 45, f 46, f 47, f 48, f 49, f 50, f 51, f 52, f 53, f 54, f 55, f 56, f 57, f 58, f 59, f 60, f 61, f 62, f 63, f 64, f 65, f 66, f 67, f 68, f 69, f 70, f 71, f 72, f 73, f 74, f 75, f 76, f 77, f 78, f 79, f 80, f 81, f 82, f 83, f 84, f 85, f 86, f 87, f 88, f 89, f 90, f 91, f 92, f 93, f 94, f 95, f 96, f 97, f 98, f 99, f 100, f 101, f 102, f 103, f 104, f 105, f 106, f 107, f 108, f 109, f 110, f 111, f 112, f 113, f 114], defers := [] } W
          clear hK hd hold
          simp only [ze0] at HK ⊢
          clear ze0
          have HK := Aside.mk HK
          go_wp2
          exact HK.out _ _ (Below.refl _ _) rfl
        · -- 44 := move t7
          intro f W hW hold hd K hK
          refine .inl ⟨wanted_free rfl _, ?_⟩
          dsimp only [bare]
          have ze7 : f 7 = .int .i64 i := hold 7 rfl
          have HK : ∀ v W', Below W.heap.size W W' → tailV _ 44 v W' → K { tmps := #[f 0, f 1, f 2, f 3, f 4, f 5, f 6, f 7, f 8, f 9, f 10, f 11, f 12, f 13, f 14, f 15, f 16, f 17, f 18, f 19, f 20, f 21, f 22, f 23, f 24, f 25, f 26, f 27, f 28, f 29, f 30, f 31, f 32, f 33, f 34, f 35, f 36, f 37, f 38, f 39, f 40, f 41, f 42, f 43, v, f 45, f 46, f 47, f 48, f 49, f 50, f 51, f 52, f 53, f 54, f 55, f 56, f 57, f 58, f 59, f 60, f 61, f 62, f 63, f 64, f 65, f 66, f 67, f 68, f 69, f 70, f 71, f 72, f 73, f 74, f 75, f 76, f 77, f 78, f 79, f 80, f 81, f 82, f 83, f 84, f 85, f 86, f 87, f 88, f 89, f 90, f 91, f 92, f 93, f 94, f 95, f 96, f 97, f 98, f 99, f 100, f 101, f 102, f 103, f 104, f 105, f 106, f 107, f 108, f 109, f 110, f 111, f 112, f 113, f 114], defers := [] } W' := hK
          change wpList _ #[_] _ [_] { tmps := #[f 0, f 1, f 2, f 3, f 4, f 5, f 6, f 7, f 8, f 9, f 10, f 11, f 12, f 13, f 14, f 15, f 16, f 17, f 18, f 19, f 20, f 21, f 22, f 23, f 24, f 25, f 26, f 27, f 28, f 29, f 30, f 31, f 32, f 33, f 34, f 35, f 36, f 37, f 38, f 39, f 40, f 41, f 42, f 43, f 44, f 45, f 46, f 47, f 48, f 49, f 50, f 51, f 52, f 53, f 54, f 55, f 56, f 57, f 58, f 59, f 60, f 61, f 62, f 63, f 64, f 65, f 66, f 67, f 68, f 69, f 70, f 71, f 72, f 73, f 74, f 75, f 76, f 77, f 78, f 79, f 80, f 81, f 82, f 83, f 84, f 85, f 86, f 87, f 88, f 89, f 90, f 91, f 92, f 93, f 94, f 95, f 96, f 97, f 98, f 99, f 100, f 101, f 102, f 103, f 104, f 105, f 106, f 107, f 108, f 109, f 110, f 111, f 112, f 113, f 114], defers := [] } W
          clear hK hd hold
          simp only [ze7] at HK ⊢
          clear ze7
          have HK := Aside.mk HK
          go_wp2
          exact HK.out _ _ (Below.refl _ _) rfl
        · -- 45 := indexAddr 39 t43 t44
          intro f W hW hold hd K hK
          refine .inl ⟨wanted_free rfl _, ?_⟩
          dsimp only [bare]
          have ze43 : f 43 = .slice (some ⟨b, off, none⟩) len cap := hd 43 rfl rfl
          have ze44 : f 44 = .int .i64 i := hd 44 rfl rfl
          have HK : ∀ v W', Below W.heap.size W W' → tailV _ 45 v W' → K { tmps := #[f 0, f 1, f 2, f 3, f 4, f 5, f 6, f 7, f 8, f 9, f 10, f 11, f 12, f 13, f 14, f 15, f 16, f 17, f 18, f 19, f 20, f 21, f 22, f 23, f 24, f 25, f 26, f 27, f 28, f 29, f 30, f 31, f 32, f 33, f 34, f 35, f 36, f 37, f 38, f 39, f 40, f 41, f 42, f 43, f 44, v, f 46, f 47, f 48, f 49, f 50, f 51, f 52, f 53, f 54, f 55, f 56, f 57, f 58, f 59, f 60, f 61, f 62, f 63, f 64, f 65, f 66, f 67, f 68, f 69, f 70, f 71, f 72, f 73, f 74, f 75, f 76, f 77, f 78, f 79, f 80, f 81, f 82, f 83, f 84, f 85, f 86, f 87, f 88, f 89, f 90, f 91, f 92, f 93, f 94, f 95, f 96, f 97, f 98, f 99, f 100, f 101, f 102, f 103, f 104, f 105, f 106, f 107, f 108, f 109, f 110, f 111, f 112, f 113, f 114], defers := [] } W' := hK
          change wpList _ #[_] _ [_] { tmps := #[f 0, f 1, f 2, f 3, f 4, f 5, f 6, f 7, f 8, f 9, f 10, f 11, f 12, f 13, f 14, f 15, f 16, f 17, f 18, f 19, f 20, f 21, f 22, f 23, f 24, f 25, f 26, f 27, f 28, f 29, f 30, f 31, f 32, f 33, f 34, f 35, f 36, f 37, f 38, f 39, f 40, f 41, f 42, f 43, f 44, f 45, f 46, f 47, f 48, f 49, f 50, f 51, f 52, f 53, f 54, f 55, f 56, f 57, f 58, f 59, f 60, f 61, f 62, f 63, f 64, f 65, f 66, f 67, f 68, f 69, f 70, f 71, f 72, f 73, f 74, f 75, f 76, f 77, f 78, f 79, f 80, f 81, f 82, f 83, f 84, f 85, f 86, f 87, f 88, f 89, f 90, f 91, f 92, f 93, f 94, f 95, f 96, f 97, f 98, f 99, f 100, f 101, f 102, f 103, f 104, f 105, f 106, f 107, f 108, f 109, f 110, f 111, f 112, f 113, f 114], defers := [] } W
          clear hK hd hold
          simp only [ze43, ze44] at HK ⊢
          clear ze43 ze44
          have HK := Aside.mk HK
          go_wp2
          exact HK.out _ _ (Below.refl _ _) rfl
        · -- 46 := load 9 t45
          intro f W hW hold hd K hK
          refine .inl ⟨wanted_free rfl _, ?_⟩
          dsimp only [bare]
          have ze45 : f 45 = .pointer (some ⟨b, off + i, none⟩) := hd 45 rfl rfl
          have HK : ∀ v W', Below W.heap.size W W' → tailV _ 46 v W' → K { tmps := #[f 0, f 1, f 2, f 3, f 4, f 5, f 6, f 7, f 8, f 9, f 10, f 11, f 12, f 13, f 14, f 15, f 16, f 17, f 18, f 19, f 20, f 21, f 22, f 23, f 24, f 25, f 26, f 27, f 28, f 29, f 30, f 31, f 32, f 33, f 34, f 35, f 36, f 37, f 38, f 39, f 40, f 41, f 42, f 43, f 44, f 45, v, f 47, f 48, f 49, f 50, f 51, f 52, f 53, f 54, f 55, f 56, f 57, f 58, f 59, f 60, f 61, f 62, f 63, f 64, f 65, f 66, f 67, f 68, f 69, f 70, f 71, f 72, f 73, f 74, f 75, f 76, f 77, f 78, f 79, f 80, f 81, f 82, f 83, f 84, f 85, f 86, f 87, f 88, f 89, f 90, f 91, f 92, f 93, f 94, f 95, f 96, f 97, f 98, f 99, f 100, f 101, f 102, f 103, f 104, f 105, f 106, f 107, f 108, f 109, f 110, f 111, f 112, f 113, f 114], defers := [] } W' := hK
          change wpList _ #[_] _ [_] { tmps := #[f 0, f 1, f 2, f 3, f 4, f 5, f 6, f 7, f 8, f 9, f 10, f 11, f 12, f 13, f 14, f 15, f 16, f 17, f 18, f 19, f 20, f 21, f 22, f 23, f 24, f 25, f 26, f 27, f 28, f 29, f 30, f 31, f 32, f 33, f 34, f 35, f 36, f 37, f 38, f 39, f 40, f 41, f 42, f 43, f 44, f 45, f 46, f 47, f 48, f 49, f 50, f 51, f 52, f 53, f 54, f 55, f 56, f 57, f 58, f 59, f 60, f 61, f 62, f 63, f 64, f 65, f 66, f 67, f 68, f 69, f 70, f 71, f 72, f 73, f 74, f 75, f 76, f 77, f 78, f 79, f 80, f 81, f 82, f 83, f 84, f 85, f 86, f 87, f 88, f 89, f 90, f 91, f 92, f 93, f 94, f 95, f 96, f 97, f 98, f 99, f 100, f 101, f 102, f 103, f 104, f 105, f 106, f 107, f 108, f 109, f 110, f 111, f 112, f 113, f 114], defers := [] } W
          clear hK hd hold
          simp only [ze45] at HK ⊢
          clear ze45
          have HK := Aside.mk HK
          have hcell := (hW.cell (p := ⟨b, off + i, none⟩) (Nat.lt_of_lt_of_le HW.out.2.1 HW.out.1.size)).trans hc2
          go_wp2
          exact HK.out _ _ (Below.refl _ _) rfl
        · -- 47 := move t0
          intro f W hW hold hd K hK
          refine .inl ⟨wanted_free rfl _, ?_⟩
          dsimp only [bare]
          have ze0 : f 0 = .slice (some ⟨b, off, none⟩) len cap := hold 0 rfl
          have HK : ∀ v W', Below W.heap.size W W' → tailV _ 47 v W' → K { tmps := #[f 0, f 1, f 2, f 3, f 4, f 5, f 6, f 7, f 8, f 9, f 10, f 11, f 12, f 13, f 14, f 15, f 16, f 17, f 18, f 19, f 20, f 21, f 22, f 23, f 24, f 25, f 26, f 27, f 28, f 29, f 30, f 31, f 32, f 33, f 34, f 35, f 36, f 37, f 38, f 39, f 40, f 41, f 42, f 43, f 44, f 45, f 46, v, f 48, f 49, f 50, f 51, f 52, f 53, f 54, f 55, f 56, f 57, f 58, f 59, f 60, f 61, f 62, f 63, f 64, f 65, f 66, f 67, f 68, f 69, f 70, f 71, f 72, f 73, f 74, f 75, f 76, f 77, f 78, f 79, f 80, f 81, f 82, f 83, f 84, f 85, f 86, f 87, f 88, f 89, f 90, f 91, f 92, f 93, f 94, f 95, f 96, f 97, f 98, f 99, f 100, f 101, f 102, f 103, f 104, f 105, f 106, f 107, f 108, f 109, f 110, f 111, f 112, f 113, f 114], defers := [] } W' := hK
          change wpList _ #[_] _ [_] { tmps := #[f 0, f 1, f 2, f 3, f 4, f 5, f 6, f 7, f 8, f 9, f 10, f 11, f 12, f 13, f 14, f 15, f 16, f 17, f 18, f 19, f 20, f 21, f 22, f 23, f 24, f 25, f 26, f 27, f 28, f 29, f 30, f 31, f 32, f 33, f 34, f 35, f 36, f 37, f 38, f 39, f 40, f 41, f 42, f 43, f 44, f 45, f 46, f 47, f 48, f 49, f 50, f 51, f 52, f 53, f 54, f 55, f 56, f 57, f 58, f 59, f 60, f 61, f 62, f 63, f 64, f 65, f 66, f 67, f 68, f 69, f 70, f 71, f 72, f 73, f 74, f 75, f 76, f 77, f 78, f 79, f 80, f 81, f 82, f 83, f 84, f 85, f 86, f 87, f 88, f 89, f 90, f 91, f 92, f 93, f 94, f 95, f 96, f 97, f 98, f 99, f 100, f 101, f 102, f 103, f 104, f 105, f 106, f 107, f 108, f 109, f 110, f 111, f 112, f 113, f 114], defers := [] } W
          clear hK hd hold
          simp only [ze0] at HK ⊢
          clear ze0
          have HK := Aside.mk HK
          go_wp2
          exact HK.out _ _ (Below.refl _ _) rfl
        · -- 48 := move t7
          intro f W hW hold hd K hK
          refine .inl ⟨wanted_free rfl _, ?_⟩
          dsimp only [bare]
          have ze7 : f 7 = .int .i64 i := hold 7 rfl
          have HK : ∀ v W', Below W.heap.size W W' → tailV _ 48 v W' → K { tmps := #[f 0, f 1, f 2, f 3, f 4, f 5, f 6, f 7, f 8, f 9, f 10, f 11, f 12, f 13, f 14, f 15, f 16, f 17, f 18, f 19, f 20, f 21, f 22, f 23, f 24, f 25, f 26, f 27, f 28, f 29, f 30, f 31, f 32, f 33, f 34, f 35, f 36, f 37, f 38, f 39, f 40, f 41, f 42, f 43, f 44, f 45, f 46, f 47, v, f 49, f 50, f 51, f 52, f 53, f 54, f 55, f 56, f 57, f 58, f 59, f 60, f 61, f 62, f 63, f 64, f 65, f 66, f 67, f 68, f 69, f 70, f 71, f 72, f 73, f 74, f 75, f 76, f 77, f 78, f 79, f 80, f 81, f 82, f 83, f 84, f 85, f 86, f 87, f 88, f 89, f 90, f 91, f 92, f 93, f 94, f 95, f 96, f 97, f 98, f 99, f 100, f 101, f 102, f 103, f 104, f 105, f 106, f 107, f 108, f 109, f 110, f 111, f 112, f 113, f 114], defers := [] } W' := hK
          change wpList _ #[_] _ [_] { tmps := #[f 0, f 1, f 2, f 3, f 4, f 5, f 6, f 7, f 8, f 9, f 10, f 11, f 12, f 13, f 14, f 15, f 16, f 17, f 18, f 19, f 20, f 21, f 22, f 23, f 24, f 25, f 26, f 27, f 28, f 29, f 30, f 31, f 32, f 33, f 34, f 35, f 36, f 37, f 38, f 39, f 40, f 41, f 42, f 43, f 44, f 45, f 46, f 47, f 48, f 49, f 50, f 51, f 52, f 53, f 54, f 55, f 56, f 57, f 58, f 59, f 60, f 61, f 62, f 63, f 64, f 65, f 66, f 67, f 68, f 69, f 70, f 71, f 72, f 73, f 74, f 75, f 76, f 77, f 78, f 79, f 80, f 81, f 82, f 83, f 84, f 85, f 86, f 87, f 88, f 89, f 90, f 91, f 92, f 93, f 94, f 95, f 96, f 97, f 98, f 99, f 100, f 101, f 102, f 103, f 104, f 105, f 106, f 107, f 108, f 109, f 110, f 111, f 112, f 113, f 114], defers := [] } W
          clear hK hd hold
          simp only [ze7] at HK ⊢
          clear ze7
          have HK := Aside.mk HK
          go_wp2
          exact HK.out _ _ (Below.refl _ _) rfl
        · -- 49 := indexAddr 39 t47 t48
          intro f W hW hold hd K hK
          refine .inl ⟨wanted_free rfl _, ?_⟩
          dsimp only [bare]
          have ze47 : f 47 = .slice (some ⟨b, off, none⟩) len cap := hd 47 rfl rfl
          have ze48 : f 48 = .int .i64 i := hd 48 rfl rfl
          have HK : ∀ v W', Below W.heap.size W W' → tailV _ 49 v W' → K { tmps := #[f 0, f 1, f 2, f 3, f 4, f 5, f 6, f 7, f 8, f 9, f 10, f 11, f 12, f 13, f 14, f 15, f 16, f 17, f 18, f 19, f 20, f 21, f 22, f 23, f 24, f 25, f 26, f 27, f 28, f 29, f 30, f 31, f 32, f 33, f 34, f 35, f 36, f 37, f 38, f 39, f 40, f 41, f 42, f 43, f 44, f 45, f 46, f 47, f 48, v, f 50, f 51, f 52, f 53, f 54, f 55, f 56, f 57, f 58, f 59, f 60, f 61, f 62, f 63, f 64, f 65, f 66, f 67, f 68, f 69, f 70, f 71, f 72, f 73, f 74, f 75, f 76, f 77, f 78, f 79, f 80, f 81, f 82, f 83, f 84, f 85, f 86, f 87, f 88, f 89, f 90, f 91, f 92, f 93, f 94, f 95, f 96, f 97, f 98, f 99, f 100, f 101, f 102, f 103, f 104, f 105, f 106, f 107, f 108, f 109, f 110, f 111, f 112, f 113, f 114], defers := [] } W' := hK
          change wpList _ #[_] _ [_] { tmps := #[f 0, f 1, f 2, f 3, f 4, f 5, f 6, f 7, f 8, f 9, f 10, f 11, f 12, f 13, f 14, f 15, f 16, f 17, f 18, f 19, f 20, f 21, f 22, f 23, f 24, f 25, f 26, f 27, f 28, f 29, f 30, f 31, f 32, f 33, f 34, f 35, f 36, f 37, f 38, f 39, f 40, f 41, f 42, f 43, f 44, f 45, f 46, f 47, f 48, f 49, f 50, f 51, f 52, f 53, f 54, f 55, f 56, f 57, f 58, f 59, f 60, f 61, f 62, f 63, f 64, f 65, f 66, f 67, f 68, f 69, f 70, f 71, f 72, f 73, f 74, f 75, f 76, f 77, f 78, f 79, f 80, f 81, f 82, f 83, f 84, f 85, f 86, f 87, f 88, f 89, f 90, f 91, f 92, f 93, f 94, f 95, f 96, f 97, f 98, f 99, f 100, f 101, f 102, f 103, f 104, f 105, f 106, f 107, f 108, f 109, f 110, f 111, f 112, f 113, f 114], defers := [] } W
          clear hK hd hold
          simp only [ze47, ze48] at HK ⊢
          clear ze47 ze48
          have HK := Aside.mk HK
          go_wp2
          exact HK.out _ _ (Below.refl _ _) rfl
        · -- 50 := load 9 t49
          intro f W hW hold hd K hK
          refine .inl ⟨wanted_free rfl _, ?_⟩
          dsimp only [bare]
          have ze49 : f 49 = .pointer (some ⟨b, off + i, none⟩) := hd 49 rfl rfl
          have HK : ∀ v W', Below W.heap.size W W' → tailV _ 50 v W' → K { tmps := #[f 0, f 1, f 2, f 3, f 4, f 5, f 6, f 7, f 8, f 9, f 10, f 11, f 12, f 13, f 14, f 15, f 16, f 17, f 18, f 19, f 20, f 21, f 22, f 23, f 24, f 25, f 26, f 27, f 28, f 29, f 30, f 31, f 32, f 33, f 34, f 35, f 36, f 37, f 38, f 39, f 40, f 41, f 42, f 43, f 44, f 45, f 46, f 47, f 48, f 49, v, f 51, f 52, f 53, f 54, f 55, f 56, f 57, f 58, f 59, f 60, f 61, f 62, f 63, f 64, f 65, f 66, f 67, f 68, f 69, f 70, f 71, f 72, f 73, f 74, f 75, f 76, f 77, f 78, f 79, f 80, f 81, f 82, f 83, f 84, f 85, f 86, f 87, f 88, f 89, f 90, f 91, f 92, f 93, f 94, f 95, f 96, f 97, f 98, f 99, f 100, f 101, f 102, f 103, f 104, f 105, f 106, f 107, f 108, f 109, f 110, f 111, f 112, f 113, f 114], defers := [] } W' := hK
          change wpList _ #[_] _ [_] { tmps := #[f 0, f 1, f 2, f 3, f 4, f 5, f 6, f 7, f 8, f 9, f 10, f 11, f 12, f 13, f 14, f 15, f 16, f 17, f 18, f 19, f 20, f 21, f 22, f 23, f 24, f 25, f 26, f 27, f 28, f 29, f 30, f 31, f 32, f 33, f 34, f 35, f 36, f 37, f 38, f 39, f 40, f 41, f 42, f 43, f 44, f 45, f 46, f 47, f 48, f 49, f 50, f 51, f 52, f 53, f 54, f 55, f 56, f 57, f 58, f 59, f 60, f 61, f 62, f 63, f 64, f 65, f 66, f 67, f 68, f 69, f 70, f 71, f 72, f 73, f 74, f 75, f 76, f 77, f 78, f 79, f 80, f 81, f 82, f 83, f 84, f 85, f 86, f 87, f 88, f 89, f 90, f 91, f 92, f 93, f 94, f 95, f 96, f 97, f 98, f 99, f 100, f 101, f 102, f 103, f 104, f 105, f 106, f 107, f 108, f 109, f 110, f 111, f 112, f 113, f 114], defers := [] } W
          clear hK hd hold
          simp only [ze49] at HK ⊢
          clear ze49
          have HK := Aside.mk HK
          have hcell := (hW.cell (p := ⟨b, off + i, none⟩) (Nat.lt_of_lt_of_le HW.out.2.1 HW.out.1.size)).trans hc2
          go_wp2
          exact HK.out _ _ (Below.refl _ _) rfl
        · -- 51 := build 26 [(0, t42), (3, t46), (4, t50)]
          intro f W hW hold hd K hK
          refine .inl ⟨wanted_free rfl _, ?_⟩
          dsimp only [bare]
          have ze42 : f 42 = .int .i64 m := hd 42 rfl rfl
          have ze46 : f 46 = .string k := hd 46 rfl rfl
          have ze50 : f 50 = .string k := hd 50 rfl rfl
          have HK : ∀ v W', Below W.heap.size W W' → tailV _ 51 v W' → K { tmps := #[f 0, f 1, f 2, f 3, f 4, f 5, f 6, f 7, f 8, f 9, f 10, f 11, f 12, f 13, f 14, f 15, f 16, f 17, f 18, f 19, f 20, f 21, f 22, f 23, f 24, f 25, f 26, f 27, f 28, f 29, f 30, f 31, f 32, f 33, f 34, f 35, f 36, f 37, f 38, f 39, f 40, f 41, f 42, f 43, f 44, f 45, f 46, f 47, f 48, f 49, f 50, v, f 52, f 53, f 54, f 55, f 56, f 57, f 58, f 59, f 60, f 61, f 62, f 63, f 64, f 65, f 66, f 67, f 68, f 69, f 70, f 71, f 72, f 73, f 74, f 75, f 76, f 77, f 78, f 79, f 80, f 81, f 82, f 83, f 84, f 85, f 86, f 87, f 88, f 89, f 90, f 91, f 92, f 93, f 94, f 95, f 96, f 97, f 98, f 99, f 100, f 101, f 102, f 103, f 104, f 105, f 106, f 107, f 108, f 109, f 110, f 111, f 112, f 113, f 114], defers := [] } W' := hK
          change wpList _ #[_] _ [_] { tmps := #[f 0, f 1, f 2, f 3, f 4, f 5, f 6, f 7, f 8, f 9, f 10, f 11, f 12, f 13, f 14, f 15, f 16, f 17, f 18, f 19, f 20, f 21, f 22, f 23, f 24, f 25, f 26, f 27, f 28, f 29, f 30, f 31, f 32, f 33, f 34, f 35, f 36, f 37, f 38, f 39, f 40, f 41, f 42, f 43, f 44, f 45, f 46, f 47, f 48, f 49, f 50, f 51, f 52, f 53, f 54, f 55, f 56, f 57, f 58, f 59, f 60, f 61, f 62, f 63, f 64, f 65, f 66, f 67, f 68, f 69, f 70, f 71, f 72, f 73, f 74, f 75, f 76, f 77, f 78, f 79, f 80, f 81, f 82, f 83, f 84, f 85, f 86, f 87, f 88, f 89, f 90, f 91, f 92, f 93, f 94, f 95, f 96, f 97, f 98, f 99, f 100, f 101, f 102, f 103, f 104, f 105, f 106, f 107, f 108, f 109, f 110, f 111, f 112, f 113, f 114], defers := [] } W
          clear hK hd hold
          simp only [ze42, ze46, ze50] at HK ⊢
          clear ze42 ze46 ze50
          have HK := Aside.mk HK
          go_wp2
          exact HK.out _ _ (Below.refl _ _) rfl
        · -- 52 := CALL f10 chert/node.Encode [t51] : [26]
          intro f W hW hold hd K hK
          refine .inl ⟨wanted_free rfl _, ?_⟩
          dsimp only [bare]
          have ze51 : f 51 = nodeV m false false k k := hd 51 rfl rfl
          have HK : ∀ v W', Below W.heap.size W W' → tailV _ 52 v W' → K { tmps := #[f 0, f 1, f 2, f 3, f 4, f 5, f 6, f 7, f 8, f 9, f 10, f 11, f 12, f 13, f 14, f 15, f 16, f 17, f 18, f 19, f 20, f 21, f 22, f 23, f 24, f 25, f 26, f 27, f 28, f 29, f 30, f 31, f 32, f 33, f 34, f 35, f 36, f 37, f 38, f 39, f 40, f 41, f 42, f 43, f 44, f 45, f 46, f 47, f 48, f 49, f 50, f 51, v, f 53, f 54, f 55, f 56, f 57, f 58, f 59, f 60, f 61, f 62, f 63, f 64, f 65, f 66, f 67, f 68, f 69, f 70, f 71, f 72, f 73, f 74, f 75, f 76, f 77, f 78, f 79, f 80, f 81, f 82, f 83, f 84, f 85, f 86, f 87, f 88, f 89, f 90, f 91, f 92, f 93, f 94, f 95, f 96, f 97, f 98, f 99, f 100, f 101, f 102, f 103, f 104, f 105, f 106, f 107, f 108, f 109, f 110, f 111, f 112, f 113, f 114], defers := [] } W' := hK
          change wpList _ #[_] _ [_] { tmps := #[f 0, f 1, f 2, f 3, f 4, f 5, f 6, f 7, f 8, f 9, f 10, f 11, f 12, f 13, f 14, f 15, f 16, f 17, f 18, f 19, f 20, f 21, f 22, f 23, f 24, f 25, f 26, f 27, f 28, f 29, f 30, f 31, f 32, f 33, f 34, f 35, f 36, f 37, f 38, f 39, f 40, f 41, f 42, f 43, f 44, f 45, f 46, f 47, f 48, f 49, f 50, f 51, f 52, f 53, f 54, f 55, f 56, f 57, f 58, f 59, f 60, f 61, f 62, f 63, f 64, f 65, f 66, f 67, f 68, f 69, f 70, f 71, f 72, f 73, f 74, f 75, f 76, f 77, f 78, f 79, f 80, f 81, f 82, f 83, f 84, f 85, f 86, f 87, f 88, f 89, f 90, f 91, f 92, f 93, f 94, f 95, f 96, f 97, f 98, f 99, f 100, f 101, f 102, f 103, f 104, f 105, f 106, f 107, f 108, f 109, f 110, f 111, f 112, f 113, f 114], defers := [] } W
          clear hK hd hold
          simp only [ze51] at HK ⊢
          clear ze51
          have HK := Aside.mk HK
          go_wp2_with (go_at_call 10; refine (HE.out W (HN.out.below (HW.out.1.trans (hW.mono HW.out.1.size)))).mono ?_; rintro e w2 ⟨rfl, hb2⟩)
          exact HK.out _ _ hb2 rfl
        · -- 41 := move t52
          intro f W hW hold hd K hK
          refine .inl ⟨wanted_free rfl _, ?_⟩
          dsimp only [bare]
          have ze52 : f 52 = .tuple #[.string E, .bool true] := hd 52 rfl rfl
          have HK : ∀ v W', Below W.heap.size W W' → tailV _ 41 v W' → K { tmps := #[f 0, f 1, f 2, f 3, f 4, f 5, f 6, f 7, f 8, f 9, f 10, f 11, f 12, f 13, f 14, f 15, f 16, f 17, f 18, f 19, f 20, f 21, f 22, f 23, f 24, f 25, f 26, f 27, f 28, f 29, f 30, f 31, f 32, f 33, f 34, f 35, f 36, f 37, f 38, f 39, f 40, v, f 42, f 43, f 44, f 45, f 46, f 47, f 48, f 49, f 50, f 51, f 52, f 53, f 54, f 55, f 56, f 57, f 58, f 59, f 60, f 61, f 62, f 63, f 64, f 65, f 66, f 67, f 68, f 69, f 70, f 71, f 72, f 73, f 74, f 75, f 76, f 77, f 78, f 79, f 80, f 81, f 82, f 83, f 84, f 85, f 86, f 87, f 88, f 89, f 90, f 91, f 92, f 93, f 94, f 95, f 96, f 97, f 98, f 99, f 100, f 101, f 102, f 103, f 104, f 105, f 106, f 107, f 108, f 109, f 110, f 111, f 112, f 113, f 114], defers := [] } W' := hK
          change wpList _ #[_] _ [_] { tmps := #[f 0, f 1, f 2, f 3, f 4, f 5, f 6, f 7, f 8, f 9, f 10, f 11, f 12, f 13, f 14, f 15, f 16, f 17, f 18, f 19, f 20, f 21, f 22, f 23, f 24, f 25, f 26, f 27, f 28, f 29, f 30, f 31, f 32, f 33, f 34, f 35, f 36, f 37, f 38, f 39, f 40, f 41, f 42, f 43, f 44, f 45, f 46, f 47, f 48, f 49, f 50, f 51, f 52, f 53, f 54, f 55, f 56, f 57, f 58, f 59, f 60, f 61, f 62, f 63, f 64, f 65, f 66, f 67, f 68, f 69, f 70, f 71, f 72, f 73, f 74, f 75, f 76, f 77, f 78, f 79, f 80, f 81, f 82, f 83, f 84, f 85, f 86, f 87, f 88, f 89, f 90, f 91, f 92, f 93, f 94, f 95, f 96, f 97, f 98, f 99, f 100, f 101, f 102, f 103, f 104, f 105, f 106, f 107, f 108, f 109, f 110, f 111, f 112, f 113, f 114], defers := [] } W
          clear hK hd hold
          simp only [ze52] at HK ⊢
          clear ze52
          have HK := Aside.mk HK
          go_wp2
          exact HK.out _ _ (Below.refl _ _) rfl
        · -- 53 := extract t41 0
          intro f W hW hold hd K hK
          refine .inl ⟨wanted_free rfl _, ?_⟩
          dsimp only [bare]
          have ze41 : f 41 = .tuple #[.string E, .bool true] := hd 41 rfl rfl
          have HK : ∀ v W', Below W.heap.size W W' → tailV _ 53 v W' → K { tmps := #[f 0, f 1, f 2, f 3, f 4, f 5, f 6, f 7, f 8, f 9, f 10, f 11, f 12, f 13, f 14, f 15, f 16, f 17, f 18, f 19, f 20, f 21, f 22, f 23, f 24, f 25, f 26, f 27, f 28, f 29, f 30, f 31, f 32, f 33, f 34, f 35, f 36, f 37, f 38, f 39, f 40, f 41, f 42, f 43, f 44, f 45, f 46, f 47, f 48, f 49, f 50, f 51, f 52, v, f 54, f 55, f 56, f 57, f 58, f 59, f 60, f 61, f 62, f 63, f 64, f 65, f 66, f 67, f 68, f 69, f 70, f 71, f 72, f 73, f 74, f 75, f 76, f 77, f 78, f 79, f 80, f 81, f 82, f 83, f 84, f 85, f 86, f 87, f 88, f 89, f 90, f 91, f 92, f 93, f 94, f 95, f 96, f 97, f 98, f 99, f 100, f 101, f 102, f 103, f 104, f 105, f 106, f 107, f 108, f 109, f 110, f 111, f 112, f 113, f 114], defers := [] } W' := hK
          change wpList _ #[_] _ [_] { tmps := #[f 0, f 1, f 2, f 3, f 4, f 5, f 6, f 7, f 8, f 9, f 10, f 11, f 12, f 13, f 14, f 15, f 16, f 17, f 18, f 19, f 20, f 21, f 22, f 23, f 24, f 25, f 26, f 27, f 28, f 29, f 30, f 31, f 32, f 33, f 34, f 35, f 36, f 37, f 38, f 39, f 40, f 41, f 42, f 43, f 44, f 45, f 46, f 47, f 48, f 49, f 50, f 51, f 52, f 53, f 54, f 55, f 56, f 57, f 58, f 59, f 60, f 61, f 62, f 63, f 64, f 65, f 66, f 67, f 68, f 69, f 70, f 71, f 72, f 73, f 74, f 75, f 76, f 77, f 78, f 79, f 80, f 81, f 82, f 83, f 84, f 85, f 86, f 87, f 88, f 89, f 90, f 91, f 92, f 93, f 94, f 95, f 96, f 97, f 98, f 99, f 100, f 101, f 102, f 103, f 104, f 105, f 106, f 107, f 108, f 109, f 110, f 111, f 112, f 113, f 114], defers := [] } W
          clear hK hd hold
          simp only [ze41] at HK ⊢
          clear ze41
          have HK := Aside.mk HK
          go_wp2
          exact HK.out _ _ (Below.refl _ _) rfl
        · -- 54 := extract t41 1
          intro f W hW hold hd K hK
          refine .inl ⟨wanted_free rfl _, ?_⟩
          dsimp only [bare]
          have ze41 : f 41 = .tuple #[.string E, .bool true] := hd 41 rfl rfl
          have HK : ∀ v W', Below W.heap.size W W' → tailV _ 54 v W' → K { tmps := #[f 0, f 1, f 2, f 3, f 4, f 5, f 6, f 7, f 8, f 9, f 10, f 11, f 12, f 13, f 14, f 15, f 16, f 17, f 18, f 19, f 20, f 21, f 22, f 23, f 24, f 25, f 26, f 27, f 28, f 29, f 30, f 31, f 32, f 33, f 34, f 35, f 36, f 37, f 38, f 39, f 40, f 41, f 42, f 43, f 44, f 45, f 46, f 47, f 48, f 49, f 50, f 51, f 52, f 53, v, f 55, f 56, f 57, f 58, f 59, f 60, f 61, f 62, f 63, f 64, f 65, f 66, f 67, f 68, f 69, f 70, f 71, f 72, f 73, f 74, f 75, f 76, f 77, f 78, f 79, f 80, f 81, f 82, f 83, f 84, f 85, f 86, f 87, f 88, f 89, f 90, f 91, f 92, f 93, f 94, f 95, f 96, f 97, f 98, f 99, f 100, f 101, f 102, f 103, f 104, f 105, f 106, f 107, f 108, f 109, f 110, f 111, f 112, f 113, f 114], defers := [] } W' := hK
          change wpList _ #[_] _ [_] { tmps := #[f 0, f 1, f 2, f 3, f 4, f 5, f 6, f 7, f 8, f 9, f 10, f 11, f 12, f 13, f 14, f 15, f 16, f 17, f 18, f 19, f 20, f 21, f 22, f 23, f 24, f 25, f 26, f 27, f 28, f 29, f 30, f 31, f 32, f 33, f 34, f 35, f 36, f 37, f 38, f 39, f 40, f 41, f 42, f 43, f 44, f 45, f 46, f 47, f 48, f 49, f 50, f 51, f 52, f 53, f 54, f 55, f 56, f 57, f 58, f 59, f 60, f 61, f 62, f 63, f 64, f 65, f 66, f 67, f 68, f 69, f 70, f 71, f 72, f 73, f 74, f 75, f 76, f 77, f 78, f 79, f 80, f 81, f 82, f 83, f 84, f 85, f 86, f 87, f 88, f 89, f 90, f 91, f 92, f 93, f 94, f 95, f 96, f 97, f 98, f 99, f 100, f 101, f 102, f 103, f 104, f 105, f 106, f 107, f 108, f 109, f 110, f 111, f 112, f 113, f 114], defers := [] } W
          clear hK hd hold
          simp only [ze41] at HK ⊢
          clear ze41
          have HK := Aside.mk HK
          go_wp2
          exact HK.out _ _ (Below.refl _ _) rfl
        · -- 8 := assign t53
          intro f W hW hold hd K hK
          refine .inl ⟨wanted_free rfl _, ?_⟩
          dsimp only [bare]
          have ze53 : f 53 = .string E := hd 53 rfl rfl
          have HK : ∀ v W', Below W.heap.size W W' → tailV _ 8 v W' → K { tmps := #[f 0, f 1, f 2, f 3, f 4, f 5, f 6, f 7, v, f 9, f 10, f 11, f 12, f 13, f 14, f 15, f 16, f 17, f 18, f 19, f 20, f 21, f 22, f 23, f 24, f 25, f 26, f 27, f 28, f 29, f 30, f 31, f 32, f 33, f 34, f 35, f 36, f 37, f 38, f 39, f 40, f 41, f 42, f 43, f 44, f 45, f 46, f 47, f 48, f 49, f 50, f 51, f 52, f 53, f 54, f 55, f 56, f 57, f 58, f 59, f 60, f 61, f 62, f 63, f 64, f 65, f 66, f 67, f 68, f 69, f 70, f 71, f 72, f 73, f 74, f 75, f 76, f 77, f 78, f 79, f 80, f 81, f 82, f 83, f 84, f 85, f 86, f 87, f 88, f 89, f 90, f 91, f 92, f 93, f 94, f 95, f 96, f 97, f 98, f 99, f 100, f 101, f 102, f 103, f 104, f 105, f 106, f 107, f 108, f 109, f 110, f 111, f 112, f 113, f 114], defers := [] } W' := hK
          change wpList _ #[_] _ [_] { tmps := #[f 0, f 1, f 2, f 3, f 4, f 5, f 6, f 7, f 8, f 9, f 10, f 11, f 12, f 13, f 14, f 15, f 16, f 17, f 18, f 19, f 20, f 21, f 22, f 23, f 24, f 25, f 26, f 27, f 28, f 29, f 30, f 31, f 32, f 33, f 34, f 35, f 36, f 37, f 38, f 39, f 40, f 41, f 42, f 43, f 44, f 45, f 46, f 47, f 48, f 49, f 50, f 51, f 52, f 53, f 54, f 55, f 56, f 57, f 58, f 59, f 60, f 61, f 62, f 63, f 64, f 65, f 66, f 67, f 68, f 69, f 70, f 71, f 72, f 73, f 74, f 75, f 76, f 77, f 78, f 79, f 80, f 81, f 82, f 83, f 84, f 85, f 86, f 87, f 88, f 89, f 90, f 91, f 92, f 93, f 94, f 95, f 96, f 97, f 98, f 99, f 100, f 101, f 102, f 103, f 104, f 105, f 106, f 107, f 108, f 109, f 110, f 111, f 112, f 113, f 114], defers := [] } W
          clear hK hd hold
          simp only [ze53] at HK ⊢
          clear ze53
          have HK := Aside.mk HK
          go_wp2
          exact HK.out _ _ (Below.refl _ _) rfl
        · -- 9 := assign t54
          intro f W hW hold hd K hK
          refine .inl ⟨wanted_free rfl _, ?_⟩
          dsimp only [bare]
          have ze54 : f 54 = .bool true := hd 54 rfl rfl
          have HK : ∀ v W', Below W.heap.size W W' → tailV _ 9 v W' → K { tmps := #[f 0, f 1, f 2, f 3, f 4, f 5, f 6, f 7, f 8, v, f 10, f 11, f 12, f 13, f 14, f 15, f 16, f 17, f 18, f 19, f 20, f 21, f 22, f 23, f 24, f 25, f 26, f 27, f 28, f 29, f 30, f 31, f 32, f 33, f 34, f 35, f 36, f 37, f 38, f 39, f 40, f 41, f 42, f 43, f 44, f 45, f 46, f 47, f 48, f 49, f 50, f 51, f 52, f 53, f 54, f 55, f 56, f 57, f 58, f 59, f 60, f 61, f 62, f 63, f 64, f 65, f 66, f 67, f 68, f 69, f 70, f 71, f 72, f 73, f 74, f 75, f 76, f 77, f 78, f 79, f 80, f 81, f 82, f 83, f 84, f 85, f 86, f 87, f 88, f 89, f 90, f 91, f 92, f 93, f 94, f 95, f 96, f 97, f 98, f 99, f 100, f 101, f 102, f 103, f 104, f 105, f 106, f 107, f 108, f 109, f 110, f 111, f 112, f 113, f 114], defers := [] } W' := hK
          change wpList _ #[_] _ [_] { tmps := #[f 0, f 1, f 2, f 3, f 4, f 5, f 6, f 7, f 8, f 9, f 10, f 11, f 12, f 13, f 14, f 15, f 16, f 17, f 18, f 19, f 20, f 21, f 22, f 23, f 24, f 25, f 26, f 27, f 28, f 29, f 30, f 31, f 32, f 33, f 34, f 35, f 36, f 37, f 38, f 39, f 40, f 41, f 42, f 43, f 44, f 45, f 46, f 47, f 48, f 49, f 50, f 51, f 52, f 53, f 54, f 55, f 56, f 57, f 58, f 59, f 60, f 61, f 62, f 63, f 64, f 65, f 66, f 67, f 68, f 69, f 70, f 71, f 72, f 73, f 74, f 75, f 76, f 77, f 78, f 79, f 80, f 81, f 82, f 83, f 84, f 85, f 86, f 87, f 88, f 89, f 90, f 91, f 92, f 93, f 94, f 95, f 96, f 97, f 98, f 99, f 100, f 101, f 102, f 103, f 104, f 105, f 106, f 107, f 108, f 109, f 110, f 111, f 112, f 113, f 114], defers := [] } W
          clear hK hd hold
          simp only [ze54] at HK ⊢
          clear ze54
          have HK := Aside.mk HK
          go_wp2
          exact HK.out _ _ (Below.refl _ _) rfl
        · intro f W hW hold hd aa ha
          replace ha := ha.trans (rel_puts hold)
          have ze8 : f 8 = .string E := hd 8 rfl
          have ze9 : f 9 = .bool true := hd 9 rfl
          have ze41 : f 41 = .tuple #[.string E, .bool true] := hd 41 rfl
          have ze42 : f 42 = .int .i64 m := hd 42 rfl
          have ze43 : f 43 = .slice (some ⟨b, off, none⟩) len cap := hd 43 rfl
          have ze44 : f 44 = .int .i64 i := hd 44 rfl
          have ze45 : f 45 = .pointer (some ⟨b, off + i, none⟩) := hd 45 rfl
          have ze46 : f 46 = .string k := hd 46 rfl
          have ze47 : f 47 = .slice (some ⟨b, off, none⟩) len cap := hd 47 rfl
          have ze48 : f 48 = .int .i64 i := hd 48 rfl
          have ze49 : f 49 = .pointer (some ⟨b, off + i, none⟩) := hd 49 rfl
          have ze50 : f 50 = .string k := hd 50 rfl
          have ze51 : f 51 = nodeV m false false k k := hd 51 rfl
          have ze52 : f 52 = .tuple #[.string E, .bool true] := hd 52 rfl
          have ze53 : f 53 = .string E := hd 53 rfl
          have ze54 : f 54 = .bool true := hd 54 rfl
          simp only [putAll, List.foldl_cons, List.foldl_nil, Option.getD_some] at ha
          simp only [ze8, ze9, ze41, ze42, ze43, ze44, ze45, ze46, ze47, ze48, ze49, ze50, ze51, ze52, ze53, ze54] at ha
          subst ha
          clear hold hd ze8 ze9 ze41 ze42 ze43 ze44 ze45 ze46 ze47 ze48 ze49 ze50 ze51 ze52 ze53 ze54
          have hnw := HNW.out
          have HBN : Aside (Below w.heap.size w W) := ⟨HW.out.1.trans (hW.mono HW.out.1.size)⟩
          clear hW
          go_wp2
          go_roundw
          case rel => exact ⟨i + 1, by omega, by go_num, by rw [HS2.out, List.length_append, HM.out]; rfl, by rw [HS2.out, HCAT.out], HBN.out⟩
          case measure => simp [intOf]; omega
    · obtain rfl : i = len := by omega
      have htk : x.take i = x := List.take_of_length_le (by rw [HL.out]; exact Nat.le_refl _)
      rw [htk]
      have hfit : ∀ k ∈ sel x, fitK k = true := fun k hk => sel_fit hk
      have hcl : (sel x).length ≤ 1048576 := by have := sel_length x; have := HL.out; omega
      clear htk hlt hi HRD
      generalize sel x = L at *
      have hcs := catL_size L 0 hfit (by omega)
      have HFIT := Aside.mk hfit
      have HBW := Aside.mk hbw
      clear hfit hbw
      obtain ⟨m, hm⟩ : ∃ m, m = L.length := ⟨_, rfl⟩
      obtain ⟨C, hC⟩ : ∃ C, C = catL 0 L := ⟨_, rfl⟩
      rw [← hm] at hcl hcs ⊢
      rw [← hC] at hcs ⊢
      have HM := Aside.mk hm
      have HC := Aside.mk hC
      clear hm hC
      go_wp2
      go_loop [5, 10] (fun s5 s10 => ∃ j : Nat, j ≤ 99 ∧ s10 = .int .i64 j ∧ s5 = .string (C ++ zerosB j)) (fun _ s10 => 99 - (intOf s10).toNat)
      case atStart => exact ⟨0, Nat.zero_le _, rfl, by rw [show zerosB 0 = ⟨#[]⟩ from rfl, app_empty]⟩
      case round =>
        obtain ⟨j, hj, rfl, rfl⟩ := hrel
        have hzs := zerosB_size j
        have hsum : (C ++ zerosB j).size = C.size + j := by rw [ByteArray.size_append, hzs]
        by_cases hjn : (j : Int) < no ∧ j < 99
        · obtain ⟨h1, h2⟩ := hjn
          have h2' : (j : Int) < 99 := by omega
          have hsn : C ++ zerosB j ++ ⟨#[0]⟩ = C ++ zerosB (j + 1) := by rw [app_assoc, zerosB_snoc]
          have HSN := Aside.mk hsn
          have hbz : (C ++ zerosB j).size ≤ 152043619 := by omega
          clear hsn hsum hzs
          generalize C ++ zerosB j = cz at *
          go_wp2
          go_round
          case rel => exact ⟨j + 1, by omega, by go_num, by rw [← HSN.out]⟩
          case measure => simp [intOf]; omega
        · have HSUM := Aside.mk hsum
          have hout : (no ≤ (j : Int)) ∨ ((j : Int) < no ∧ 99 ≤ (j : Int)) := by omega
          clear hzs hsum hjn
          rcases hout with h | ⟨h, h'⟩
          all_goals
            go_wp2
            go_loopw [11, 12] (fun s11 s12 wr => ∃ i : Nat, i ≤ m ∧ s12 = .int .i64 i ∧ s11 = .int .i64 ((catL 0 (L.take i)).size : Nat) ∧ Below w.heap.size w wr) (fun _ s12 _ => m - (intOf s12).toNat)
            case atStart => exact ⟨0, Nat.zero_le _, rfl, rfl, HBW.out⟩
            case round =>
              obtain ⟨i, hi, rfl, rfl, hbw⟩ := hrel
              by_cases hlt : i < m
              · have hLi : i < L.length := by rw [← HM.out]; exact hlt
                obtain ⟨q, hd, hq1, hq2⟩ := decV_row L (zerosB j) HFIT.out (by rw [← HM.out]; omega) i hLi
                rw [← HC.out] at hd
                have hdec : ∀ W, Nib W → Calls Tryd.prog 13 #[.string (C ++ zerosB j), .int .i64 ((catL 0 (L.take i)).size : Nat)] W fun e w' => e = .returned (.tuple #[nodeV i false false L[i] L[i], .int .i64 q, .int .i64 0]) ∧ Below W.heap.size W w' := fun W h => by
                  have := node_decode (C ++ zerosB j) ((catL 0 (L.take i)).size : Nat) W (by rw [HSUM.out]; omega) h
                  rwa [hd] at this
                have HDEC := Aside.mk hdec
                have HQ1 := Aside.mk hq1
                have HW := Aside.mk hbw
                generalize (catL 0 (L.take i)).size = at' at *
                generalize L[i] = k at *
                clear hd hdec hq1 hbw hLi
                have hq2' : (at' : Int) < q := by omega
                go_upto_region 23 with (go_at_call 13; refine (HDEC.out _ (HN.out.below HW.out)).mono ?_; rintro e w2 ⟨rfl, hb2⟩)
                have HX : Aside ((w2.alloc (.cells (nodeC i false false k k) 26)).heap[w2.heap.size]? = some (.cells (nodeC i false false k k) 26 (0, 0)) ∧ Below w.heap.size w (w2.alloc (.cells (nodeC i false false k k) 26))) := ⟨heap_alloc_new _ _, (below_trans HW.out HW.out.size hb2).alloc (Nat.le_trans HW.out.size hb2.size) _⟩
                generalize w2.alloc (.cells (nodeC i false false k k) 26) = w3 at *
                generalize w2.heap.size = p2 at *
                clear HW hb2
                obtain ⟨c0, c1, c2, c3, c4⟩ := node_cells HX.out.1
                go_wp2
                go_roundw
                case rel => exact ⟨i + 1, by omega, by go_num, by rw [HQ1.out], HX.out.2⟩
                case measure => simp [intOf]; omega
              · obtain rfl : i = m := by omega
                have htk : L.take i = L := List.take_of_length_le (by rw [← HM.out]; exact Nat.le_refl _)
                rw [htk, ← HC.out]
                have hdec : ∀ W, Nib W → Calls Tryd.prog 13 #[.string (C ++ zerosB j), .int .i64 (C.size : Nat)] W fun e w' => e = .returned (decE 3) ∧ Below W.heap.size W w' := fun W h => by
                  have := node_decode (C ++ zerosB j) (C.size : Nat) W (by rw [HSUM.out]; omega) h
                  rwa [decV_end] at this
                have HDEC := Aside.mk hdec
                have HW := Aside.mk hbw
                clear htk hdec hbw hlt
                go_wp2_with (go_at_call 13; refine (HDEC.out _ (HN.out.below HW.out)).mono ?_; rintro e w2 ⟨rfl, hb2⟩)
                go_ret
                exact ⟨rfl, (below_trans HW.out HW.out.size hb2).alloc (Nat.le_trans HW.out.size hb2.size) _⟩
end Go.Proofs.YtmomphjhlbampaaDoor
