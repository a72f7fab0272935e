/-
  A block sorted by insertion.
-/
import Derived.Test.YtaganococolodaaWearRot
namespace Go.Proofs.Ytaganococolodaa
open Go.RowKit

/-- The closure of the comparison. -/
abbrev cmpV (bx : Nat) : Value := .func (.func 18) #[] #[.pointer (some ⟨bx, 0, none⟩)]
def MergedPost (rd : Nat → Int) (w : World) (g off n c nb : Nat) (F : Nat → Nat) (a b : Nat) (e : Ending) (w' : World) : Prop := e = .returned (.tuple #[]) ∧ ∃ G, SrtW w g off n c nb G w' ∧ MOut rd F a b G
/-- So far. -/
structure InsAt (rd : Nat → Int) (w : World) (g off n c nb : Nat) (F : Nat → Nat) (a i : Nat) (G : Nat → Nat) : Prop where
  out : MOut rd F a i G
theorem ins_next {rd : Nat → Int} {F G : Nat → Nat} {a i j : Nat} (hF : ∀ p q, a ≤ p → p < q → q < i + 1 → F p < F q) (h : MOut rd F a i G) (ha : a ≤ j) (hj : j ≤ i) (hup : ∀ p, j ≤ p → p < i → rd (G p) < rd (G i)) (hdn : j = a ∨ ¬ rd (G (j - 1)) < rd (G i)) : MOut rd F a (i + 1) (mv G i j) := by
  have hGi : G i = F i := h.out i (by omega)
  have hlt : ∀ p, a ≤ p → p < i → G p < G i := fun p h1 h2 => by
    obtain ⟨q, q1, q2, e⟩ := h.same.1 p h1 h2
    rw [e, hGi]; exact hF q i q1 q2 (by omega)
  refine ⟨srt_mv h.srt ha hj (fun p h1 h2 => Or.inl (hup p h1 h2)) (fun p h1 h2 => ?_), (h.same.wide h.out (Nat.le_refl _) (by omega)).trans (same_mv ha hj (by omega)), (h.out.mono (Nat.le_refl _) (by omega)).trans (out_mv ha hj (by omega))⟩
  rcases hdn with e | e
  · omega
  · have hl : Ahead rd (G (j - 1)) (G i) := ahead_of_lt (hlt _ (by omega) (by omega)) e
    exact ahead_le (srt_le h.srt h1 (by omega : p ≤ j - 1) (by omega)) hl (.inl rfl)
theorem mv_at (G : Nat → Nat) (i j : Nat) : mv G i j j = G i := by unfold mv; rw [if_pos rfl]
theorem mv_below (G : Nat → Nat) {i j p : Nat} (h : p < j) : mv G i j p = G p := by unfold mv; rw [if_neg (by omega), if_neg (by omega)]

set_option maxRecDepth 100000 in
set_option maxHeartbeats 1000000 in
theorem insertion (w W : World) (g off n c nb : Nat) (F : Nat → Nat) (bx cb : Nat) (A : Option Addr) (f : Nat → Blk) (a b : Nat) (hC : Ctx w g bx A nb cb f) (hS : SrtW w g off n c nb F W) (hF : ∀ p q, a ≤ p → p < q → q < b → F p < F q) (hab : a ≤ b) (hbn : b ≤ n) (hn : n ≤ 10000000000000) (hnc : n ≤ c) :
    Calls Try.prog 27 #[.slice (some ⟨g, off, none⟩) n c, .int .i64 (a : Nat), .int .i64 (b : Nat), cmpV bx] W (MergedPost (fun x => (f x).rd) w g off n c nb F a b) := by
  have HN := Aside.mk (And.intro hbn (And.intro hn hnc))
  have HF := Aside.mk hF
  have HC := Aside.mk hC
  have e1 : IntKind.i64.wrap ((a : Int) + 1) = ((a + 1 : Nat) : Int) := by rw [IntKind.wrap_i64]; omega
  have H0 : Aside (∃ G, SrtW w g off n c nb G W ∧ MOut (fun x => (f x).rd) F a (a + 1) G) := ⟨⟨F, hS, ⟨fun i j _ _ _ => by omega, Same.refl _ _ _, Out.refl _ _ _⟩⟩⟩
  have HE : Aside (b ≤ a → ∀ G, MOut (fun x => (f x).rd) F a (a + 1) G → MOut (fun x => (f x).rd) F a b F) := ⟨fun h G _ => ⟨fun i j _ _ _ => by omega, Same.refl _ _ _, Out.refl _ _ _⟩⟩
  have HS := Aside.mk hS
  have HAB := Aside.mk hab
  clear hS hF hbn hn hnc hC hab
  generalize hrd : (fun x => (f x).rd) = rd at *
  have HRD : Aside (∀ x, (f x).rd = rd x) := ⟨fun x => by rw [← hrd]⟩
  clear hrd
  by_cases hba : b ≤ a + 1
  · have hlt : ¬ ((a : Int) + 1) < (b : Int) := by omega
    have hfin : Aside (∃ G, SrtW w g off n c nb G W ∧ MOut rd F a b G) := ⟨by
      by_cases e : b = a + 1
      · rw [e]; exact H0.out
      · exact ⟨F, HS.out, ⟨fun i j _ _ _ => by omega, Same.refl _ _ _, Out.refl _ _ _⟩⟩⟩
    clear hba
    go_enter Try.func27, Try.ntmps27
    go_wp2
    go_loopw [8] (fun s8 wr => s8 = .int .i64 ((a : Int) + 1) ∧ wr = W) (fun _ _ => 0)
    case atStart => exact ⟨rfl, rfl⟩
    case round =>
      obtain ⟨rfl, rfl⟩ := hrel
      go_wp2
      go_end0
      exact ⟨rfl, hfin.out⟩
  · have hbb : b ≤ 10000000000000 := by have := HN.out; omega
    have ha1 : IntKind.i64.wrap ((a : Int) + 1) = (a : Int) + 1 := by rw [IntKind.wrap_i64]; omega
    clear e1
    go_enter Try.func27, Try.ntmps27
    go_wp2
    go_loopw [8, 9] (fun s8 s9 wr => ∃ (i : Nat) (G : Nat → Nat), s8 = .int .i64 (i : Int) ∧ a + 1 ≤ i ∧ i ≤ b ∧ Aside (SrtW w g off n c nb G wr ∧ MOut rd F a i G)) (fun s8 _ _ => b - (intOf s8).toNat)
    case atStart =>
      obtain ⟨G, h1, h2⟩ := H0.out
      exact ⟨a + 1, G, by simp, Nat.le_refl _, by omega, ⟨h1, h2⟩⟩
    case round =>
      obtain ⟨i, G, rfl, hai, hib, HG⟩ := hrel
      by_cases hlt : i < b
      · clear ha1 hba
        go_wp2
        go_loopw [9] (fun s9 wr => ∃ j : Nat, s9 = .int .i64 (j : Int) ∧ a ≤ j ∧ j ≤ i ∧ Aside (SrtW w g off n c nb (mv G i j) wr ∧ ∀ p, j ≤ p → p < i → rd (G p) < rd (G i))) (fun s9 _ => (intOf s9).toNat)
        case atStart => exact ⟨i, rfl, by omega, Nat.le_refl _, ⟨by rw [mv_self]; exact HG.out.1, fun p h1 h2 => by omega⟩⟩
        case round =>
          obtain ⟨j, rfl, haj, hji, HJ⟩ := hrel
          go_upto_region 4 with fail
          go_cut [34] (fun s34 wx => s34 = .bool (decide (a < j) && decide (rd (G (j - 1)) < rd (G i))) ∧ ∃ q, wr.drewN q = wx)
          case first =>
            by_cases haj2 : a < j
            · obtain ⟨k, hk⟩ : ∃ k, j = k + 1 := ⟨j - 1, by omega⟩
              have hN := HN.out
              have hj := HJ.out.1
              obtain ⟨c1, f1⟩ := hj.at_ (show j < n by omega)
              obtain ⟨c2, f2⟩ := hj.at_ (show k < n by omega)
              have hcm := fun m => hj.cmp HC.out (show j < n by omega) (show k < n by omega) m
              rw [mv_at] at c1 hcm
              rw [mv_below G (show k < j by omega)] at c2 hcm
              rw [HRD.out, HRD.out] at hcm
              have e3 : IntKind.i64.wrap ((j : Int) - 1) = (k : Int) := by rw [IntKind.wrap_i64]; omega
              have hval : (decide (cmpN (rd (G k)) (rd (G i)) < 0)) = (decide (a < j) && decide (rd (G (j - 1)) < rd (G i))) := by
                have h1 : decide (a < j) = true := by simpa using haj2
                rw [h1, Bool.true_and, hk]
                exact decide_eq_decide.2 cmpN_neg
              have HV := Aside.mk hval
              have q1 : (a : Int) < (j : Int) := by omega
              have q2 : (j : Int) < (n : Int) := by omega
              have q3 : (k : Int) < (n : Int) := by omega
              have q4 : (0 : Int) ≤ (j : Int) := by omega
              have q5 : (0 : Int) ≤ (k : Int) := by omega
              have HCM := Aside.mk hcm
              generalize cmpN (rd (G k)) (rd (G i)) = cv at *
              generalize ((G i : Nat) : Int) = x at *
              generalize ((G k : Nat) : Int) = y at *
              clear hcm hval hj hN hk hji haj haj2 hai hib hlt
              go_quiet ((go_at_call 18; exact HCM.out _))
              simp only [Exit.then]
              apply_assumption
              go_meet
              exact ⟨congrArg _ HV.out, _, rfl⟩
            · obtain rfl : j = a := by omega
              have h0 : ¬ (j : Int) < (j : Int) := by omega
              go_quiet (fail)
              simp only [Exit.then]
              apply_assumption
              go_meet
              exact ⟨by simp, _, rfl⟩
          case rest =>
            obtain ⟨rfl, q, rfl⟩ := hcut
            cases hT : (decide (a < j) && decide (rd (G (j - 1)) < rd (G i)))
            · have HM : Aside (∃ G', SrtW w g off n c nb G' (wr.drewN q) ∧ MOut rd F a (i + 1) G') := ⟨⟨_, HJ.out.1.drewN q, ins_next (fun p q h1 h2 h3 => HF.out p q h1 h2 (by omega)) HG.out.2 haj hji HJ.out.2 (by
                by_cases e : j = a
                · exact .inl e
                · right
                  have : decide (a < j) = true := by simp; omega
                  rw [this, Bool.true_and] at hT
                  exact of_decide_eq_false hT)⟩⟩
              clear hT
              go_wp2
              go_roundw
              case rel =>
                obtain ⟨G', h1, h2⟩ := HM.out
                exact ⟨i + 1, G', by go_num, by omega, by omega, ⟨h1, h2⟩⟩
              case measure => simp [intOf]; omega
            · have hT2 := Bool.and_eq_true_iff.1 hT
              have haj2 : a < j := of_decide_eq_true hT2.1
              have hlt2 : rd (G (j - 1)) < rd (G i) := of_decide_eq_true hT2.2
              clear hT hT2
              obtain ⟨k, hk⟩ : ∃ k, j = k + 1 := ⟨j - 1, by omega⟩
              have hN := HN.out
              have hj := HJ.out.1
              rw [hk] at hj
              obtain ⟨c1, f1⟩ := hj.at_ (show k + 1 < n by omega)
              obtain ⟨c2, f2⟩ := hj.at_ (show k < n by omega)
              have hsw := fun q' => (hj.drewN q').swap (show k + 1 < n by omega) (show k < n by omega) (by omega)
              simp only [mv_swp G (show k < i by omega)] at hsw
              rw [← hk] at c1 f1 hsw
              have e3 : IntKind.i64.wrap ((j : Int) - 1) = (k : Int) := by rw [IntKind.wrap_i64]; omega
              have q2 : (j : Int) < (n : Int) := by omega
              have q3 : (k : Int) < (n : Int) := by omega
              have q4 : (0 : Int) ≤ (j : Int) := by omega
              have q5 : (0 : Int) ≤ (k : Int) := by omega
              have q6 : j ≠ k := by omega
              have q7 : j < 10000000000000 := by omega
              have HSW : Aside ((∀ q', SrtW w g off n c nb (mv G i k) (((wr.drewN q').setCell ⟨g, off + j, none⟩ (.int .i64 (((mv G i j) k : Nat) : Int))).setCell ⟨g, off + k, none⟩ (.int .i64 (((mv G i j) j : Nat) : Int)))) ∧ a ≤ k ∧ k ≤ i ∧ k < j ∧ ∀ p, k ≤ p → p < i → rd (G p) < rd (G i)) := ⟨by
                refine ⟨hsw, by omega, by omega, by omega, fun p h1 h2 => ?_⟩
                by_cases e : p = k
                · subst e
                  rwa [hk] at hlt2
                · exact HJ.out.2 p (by omega) h2⟩
              rw [← hk] at c2
              generalize ((mv G i j k : Nat) : Int) = x at *
              generalize ((mv G i j j : Nat) : Int) = y at *
              clear hsw hj hN hk hji haj haj2 hai hlt2
              go_wp2
              go_region
              go_wp2
              go_roundw
              case rel => exact ⟨k, rfl, HSW.out.2.1, HSW.out.2.2.1, ⟨HSW.out.1 _, HSW.out.2.2.2.2⟩⟩
              case measure => simp [intOf]; exact HSW.out.2.2.2.1
      · obtain rfl : i = b := by omega
        go_wp2
        go_end0
        exact ⟨rfl, G, HG.out.1, HG.out.2⟩
end Go.Proofs.Ytaganococolodaa
