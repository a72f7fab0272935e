/-
  The pages of a pair are never in one group, and each used page is data or a parity, once.
-/
import Derived.Test.YtehiijgfhanjfaaParAny
import Derived.Test.YtehiijgfhanjfaaArgs
import Derived.Deep.QuietTactic
import Derived.BigQuiet
namespace Go.Proofs.Ytehiijgfhanjfaa
open Go.RowKit

theorem dataL_mem_iff {b : Bool} {i : Nat} : ∀ {k : Nat}, (i : Int) ∈ dataL b k ↔ i < k ∧ (upB i && b) = false
  | 0 => by simp [dataL]
  | k + 1 => by
    have ih := dataL_mem_iff (b := b) (i := i) (k := k)
    cases hs : (upB k && b)
    · rw [dataL_more hs, List.mem_append, ih]
      simp only [List.mem_singleton]
      constructor
      · rintro (⟨h1, h2⟩ | h)
        · exact ⟨by omega, h2⟩
        · obtain rfl : i = k := by omega
          exact ⟨by omega, hs⟩
      · rintro ⟨h1, h2⟩
        by_cases h : i = k
        · right; omega
        · left; exact ⟨by omega, h2⟩
    · rw [dataL_skip hs, ih]
      constructor
      · rintro ⟨h1, h2⟩; exact ⟨by omega, h2⟩
      · rintro ⟨h1, h2⟩
        refine ⟨?_, h2⟩
        by_cases h : i = k
        · subst h; rw [hs] at h2; cases h2
        · omega
theorem dataL_sorted (b : Bool) : ∀ k, (dataL b k).Pairwise (· < ·)
  | 0 => by simp [dataL]
  | k + 1 => by
    have ih := dataL_sorted b k
    cases hs : (upB k && b)
    · rw [dataL_more hs, List.pairwise_append]
      exact ⟨ih, by simp, fun x hx y hy => by
        simp at hy
        have := dataL_mem hx
        omega⟩
    · rw [dataL_skip hs]; exact ih
theorem memb_sub {l : List Int} {g : Int} {x : Int} (h : x ∈ membL l g) : x ∈ l := (List.mem_filter.1 h).1

/-- How often each page was counted: those of S once. -/
def usedV (N : Nat) (S : List Int) : List Value := (List.range N).map fun (i : Nat) => .int .i64 (if (i : Int) ∈ S then 1 else 0)
theorem usedV_length (N : Nat) (S : List Int) : (usedV N S).length = N := by simp [usedV]
theorem usedV_nil (N : Nat) : List.replicate N (Value.int .i64 0) = usedV N [] := by
  apply List.ext_getElem
  · simp [usedV]
  · intro i h1 h2
    simp [usedV]
theorem usedV_at {N : Nat} {S : List Int} {i : Nat} (h : i < N) : (usedV N S).getD i undef = .int .i64 (if (i : Int) ∈ S then 1 else 0) := by
  simp [usedV, List.getD_eq_getElem?_getD, h]
theorem usedV_set {N : Nat} {S : List Int} {i : Nat} : (usedV N S).set i (.int .i64 1) = usedV N (S ++ [(i : Int)]) := by
  apply List.ext_getElem
  · simp [usedV]
  · intro j h1 h2
    simp only [usedV, List.getElem_set, List.getElem_map, List.getElem_range, List.mem_append, List.mem_singleton]
    by_cases hij : i = j
    · subst hij; simp
    · rw [if_neg hij]
      have : ¬ (j : Int) = (i : Int) := by omega
      simp [this]
theorem pair_apart {p : Int} (h : 0 ≤ p) : (grp p == grp (pairQ p)) = false := by
  simp only [beq_eq_false_iff_ne, ne_eq]
  unfold grp pairQ
  have hp : ¬ p < 0 := by omega
  simp only [hp, if_false]
  by_cases hu : upB p = true
  · simp only [hu, if_true]
    have : upB (p - 2) = false := by unfold upB at *; simp at *; omega
    rw [if_neg (by simp [this])]
    decide
  · simp only [hu, if_false, Bool.false_eq_true]
    have : upB (p + 2) = true := by unfold upB at *; simp at *; omega
    rw [if_pos this]
    decide
theorem Row.intAt {w : World} {base : Nat} {e : TypeId} {g off n c : Nat} {l : List Int} (h : Row w base e 1 (.slice (some ⟨g, off, none⟩) n c) n (intsV l)) {i : Nat} (hi : i < n) : w.cell? ⟨g, off + i, none⟩ = some (.int .i64 (l.getD i 0)) := by
  have hl : l.length = n := by have := h.1; rw [intsV_length] at this; omega
  rw [(h.at_ rfl i hi).1]
  simp [intsV, List.getD_eq_getElem?_getD, List.getElem?_eq_getElem (show i < l.length by omega)]
theorem make_ints (m : Nat) (h : m ≤ 1000000) (W : World) :
    (Instr.makeSlice 28 (.int .i64 (m : Int)) (.int .i64 (m : Int))).run Try.prog W = .ok (.slice (some ⟨W.heap.size, 0, none⟩) m m) (W.alloc (.cells (madeCells #[.int .i64 0] m) 3)) :=
  run_make_row' 28 3 (.int .i64 0) 8 Try.underlying28 infoInt rfl .i64 .i64 m (by omega) (by omega) W
theorem take_snocI {l : List Int} {k : Nat} (h : k < l.length) : l.take (k + 1) = l.take k ++ [l.getD k 0] := by
  rw [List.take_succ_eq_append_getElem h]
  simp [List.getD_eq_getElem?_getD, List.getElem?_eq_getElem h]
theorem getD_mem {l : List Int} {k : Nat} (h : k < l.length) : l.getD k 0 ∈ l := by
  rw [List.getD_eq_getElem?_getD, List.getElem?_eq_getElem h]
  exact List.getElem_mem _
theorem sorted_lt {l : List Int} (hs : l.Pairwise (· < ·)) {i k : Nat} (hi : i < k) (hk : k < l.length) : l.getD i 0 < l.getD k 0 := by
  have := List.pairwise_iff_getElem.1 hs i k (by omega) hk hi
  simpa [List.getD_eq_getElem?_getD, List.getElem?_eq_getElem hk, List.getElem?_eq_getElem (show i < l.length by omega)] using this
theorem sorted_new {l : List Int} (hs : l.Pairwise (· < ·)) {k : Nat} (hk : k < l.length) : l.getD k 0 ∉ l.take k := by
  intro hm
  obtain ⟨i, hi, he⟩ := List.getElem_of_mem hm
  rw [List.length_take] at hi
  have h1 := sorted_lt hs (show i < k by omega) hk
  rw [List.getElem_take] at he
  rw [← he] at h1
  simp [List.getD_eq_getElem?_getD, List.getElem?_eq_getElem (show i < l.length by omega)] at h1
theorem par_facts {N : Nat} {b : Bool} (h1 : 4 ≤ N) (h3 : N % 4 = 0) {j : Nat} (hj : j < (parL b N).length) :
    ∃ y : Nat, (parL b N).getD j 0 = (y : Int) ∧ y < N ∧ grp y = (j : Int) ∧ (∀ x, x ∈ dataL b (N - 3) → x < (y : Int)) ∧ (y : Int) ∉ dataL b (N - 3) ++ (parL b N).take j := by
  have hd : ∀ (y : Nat) x, N - 3 ≤ y → x ∈ dataL b (N - 3) → x < (y : Int) := fun y x hy hx => by have := dataL_mem hx; omega
  have hn : ∀ (y : Nat), N - 3 ≤ y → (y : Int) ∉ dataL b (N - 3) := fun y hy hx => by have := hd y _ hy hx; omega
  have hg0 : grp ((N - 3 : Nat) : Int) = 0 := by unfold grp upB; rw [if_neg]; simp; omega
  have hg1 : grp ((N - 1 : Nat) : Int) = 1 := by unfold grp upB; rw [if_pos]; simp; omega
  have e3 : (N : Int) - 3 = ((N - 3 : Nat) : Int) := by omega
  have e1 : (N : Int) - 1 = ((N - 1 : Nat) : Int) := by omega
  cases b
  · simp only [parL, Bool.false_eq_true, if_false] at hj ⊢
    match j, hj with
    | 0, _ => exact ⟨N - 3, by simp [e3], by omega, hg0, fun x hx => hd _ x (by omega) hx, by simpa using hn _ (by omega)⟩
    | 1, _ => exact ⟨N - 1, by simp [e1], by omega, hg1, fun x hx => hd _ x (by omega) hx, by
        simp only [List.take_succ_cons, List.take_zero, List.mem_append, List.mem_singleton, not_or]
        exact ⟨hn _ (by omega), by omega⟩⟩
  · simp only [parL, if_true] at hj ⊢
    match j, hj with
    | 0, _ => exact ⟨N - 3, by simp [e3], by omega, hg0, fun x hx => hd _ x (by omega) hx, by simpa using hn _ (by omega)⟩
theorem used_facts {N : Nat} {b : Bool} (h1 : 4 ≤ N) (h3 : N % 4 = 0) {i : Nat} (hi : i < N) (hn : (i : Int) ∉ dataL b (N - 3) ++ parL b N) : i = N - 2 ∨ (b = true ∧ upB i = true ∧ ¬ i = N - 2) := by
  by_cases h2 : i = N - 2
  · exact .inl h2
  · right
    rw [List.mem_append, not_or] at hn
    obtain ⟨ha, hb⟩ := hn
    rw [dataL_mem_iff] at ha
    have hx : ¬ (i : Int) = (N : Int) - 3 := fun e => hb (by unfold parL; split <;> simp [e])
    by_cases hl : i < N - 3
    · have : (upB i && b) = true := by
        cases h : (upB i && b)
        · exact absurd ⟨hl, h⟩ ha
        · rfl
      simp only [Bool.and_eq_true] at this
      exact ⟨this.2, this.1, h2⟩
    · have hl1 : i = N - 1 := by omega
      have hbt : b = true := by
        cases b
        · exact absurd (by simp [parL]; omega) hb
        · rfl
      refine ⟨hbt, ?_, h2⟩
      unfold upB
      simp
      omega
theorem memb_last {l : List Int} {g : Int} (h : 0 < (membL l g).length) : (membL l g).getD ((membL l g).length - 1) 0 ∈ l := memb_sub (getD_mem (by omega))
theorem parL_len (b : Bool) (N : Nat) : (parL b N).length ≤ 2 := by unfold parL; split <;> simp
/-- What stays in the loops. -/
structure AKept (w : World) (g2 b1 gU N : Nat) (V1 V2 : Value) (L P S : List Int) (wz : World) : Prop where
  p1 : PlanAt wz g2 V1 V2
  r1 : Row wz b1 3 1 V1 L.length (intsV L)
  r2 : Row wz b1 3 1 V2 P.length (intsV P)
  ru : Row wz gU 3 1 (.slice (some ⟨gU, 0, none⟩) N N) N (usedV N S)
  hb : Below w.heap.size w wz
  lt : gU < wz.heap.size
theorem AKept.drew {w wz : World} {g2 b1 gU N : Nat} {V1 V2 : Value} {L P S : List Int} (h : AKept w g2 b1 gU N V1 V2 L P S wz) : AKept w g2 b1 gU N V1 V2 L P S wz.drew := ⟨h.p1, h.r1, h.r2, h.ru, h.hb.drew, h.lt⟩
theorem AKept.drewN {w wz : World} {g2 b1 gU N : Nat} {V1 V2 : Value} {L P S : List Int} (h : AKept w g2 b1 gU N V1 V2 L P S wz) (n : Nat) : AKept w g2 b1 gU N V1 V2 L P S (wz.drewN n) := ⟨h.p1, h.r1, h.r2, h.ru, ⟨h.hb.os, h.hb.tape, h.hb.output, h.hb.size, h.hb.block⟩, h.lt⟩
theorem AKept.below {w wz wy : World} {g2 b1 gU N : Nat} {V1 V2 : Value} {L P S : List Int} (h : AKept w g2 b1 gU N V1 V2 L P S wz) (hb : Below wz.heap.size wz wy) : AKept w g2 b1 gU N V1 V2 L P S wy :=
  ⟨h.p1.below hb h.p1.lt, h.r1.below hb, h.r2.below hb, h.ru.below hb, h.hb.trans (hb.mono h.hb.size), Nat.lt_of_lt_of_le h.lt hb.size⟩
theorem AKept.count {w wz : World} {g2 b1 gU N : Nat} {V1 V2 : Value} {L P S : List Int} (h : AKept w g2 b1 gU N V1 V2 L P S wz) (i : Nat) (hi : i < N) (h2 : g2 < gU) (hw : w.heap.size ≤ gU) (n1 : ∀ q, V1.ownBlock = some q → q < gU) (n2 : ∀ q, V2.ownBlock = some q → q < gU) :
    AKept w g2 b1 gU N V1 V2 L P (S ++ [(i : Int)]) (wz.setCell ⟨gU, i, none⟩ (.int .i64 1)) := by
  have hs := h.ru.store rfl i (by omega) (.int .i64 1)
  rw [Nat.zero_add] at hs
  refine ⟨h.p1.kept hs.2 (by simp; omega), h.r1.kept hs.2 (.inr fun e => ?_), h.r2.kept hs.2 (.inr fun e => ?_), ?_, h.hb.setCell (p := ⟨gU, i, none⟩) hw _, Nat.lt_of_lt_of_le h.lt hs.2.size⟩
  · have := n1 _ e; omega
  · have := n2 _ e; omega
  · rw [← usedV_set]; exact hs.1

set_option maxRecDepth 20000 in
set_option maxHeartbeats 8000000 in
theorem parityApart_walk (n : Int) (b : Bool) (p : Int) (w : World) (_hn : (Lit.int .i64 n).wf = true) (_hp : (Lit.int .i64 p).wf = true) :
    Calls Try.prog 6 #[.int .i64 n, .bool b, .int .i64 p] w fun e w' => e = .returned (.bool true) ∧ Below w.heap.size w w' := by
  go_enter Try.func6, Try.ntmps6
  go_upto_region 3 with (go_at_call 7; refine (parity_speaks _).mono ?_; rintro e w1 ⟨rfl, hb1⟩)
  go_cut [23] (fun s23 wx => s23 = .bool (decide (0 ≤ p ∧ p < 1152921504606846976)) ∧ w1 = wx)
  case first =>
    by_cases h0 : 0 ≤ p
    · by_cases h1 : p < 1152921504606846976
      · have hd : decide (0 ≤ p ∧ p < 1152921504606846976) = true := by simp; omega
        go_wp2
        go_meet
        exact ⟨by rw [hd], rfl⟩
      · have hd : decide (0 ≤ p ∧ p < 1152921504606846976) = false := by simp; omega
        go_wp2
        go_meet
        exact ⟨by rw [hd], rfl⟩
    · have hd : decide (0 ≤ p ∧ p < 1152921504606846976) = false := by simp; omega
      go_wp2
      go_meet
      exact ⟨by rw [hd], rfl⟩
  case rest =>
    obtain ⟨rfl, rfl⟩ := hcut
    go_upto_if 23 with fail
    go_cut [6] (fun s6 wx => s6 = .bool false ∧ w1 = wx)
    case first =>
      by_cases h1 : 0 ≤ p ∧ p < 1152921504606846976
      · rw [decide_eq_true h1]
        have hpa := pair_apart h1.1
        have hq : pairQ p ≤ 9223372036854775805 := by unfold pairQ; split <;> (try split) <;> omega
        have HP := Aside.mk (And.intro h1.1 h1.2)
        clear h1
        go_wp2_with (first | (go_at_call 15; refine (nand_pair p _ (by have := HP.out; omega)).mono ?_; rintro e w2 ⟨rfl, rfl⟩; have HG1 := Aside.mk (fun W => parity_group p W (by have := HP.out; omega)); have HQ := Aside.mk (fun W => parity_group (pairQ p) W hq); generalize pairQ p = q at *) | (obtain ⟨G⟩ := HG1; go_at_call 16; refine (G _).mono ?_; clear G; rintro e w3 ⟨rfl, rfl⟩; have HG2 := HQ) | (obtain ⟨G⟩ := HG2; go_at_call 16; refine (G _).mono ?_; clear G; rintro e w3 ⟨rfl, rfl⟩))
        go_meet
        exact ⟨rfl, rfl⟩
      · rw [decide_eq_false h1]
        by_cases h0 : p < 0
        · have hg : grp p = 0 := by unfold grp upB; rw [if_neg]; simp; omega
          go_wp2_with (go_at_call 16; refine (parity_group p _ (by omega)).mono ?_; rw [hg]; rintro e w3 ⟨rfl, rfl⟩)
          go_meet
          exact ⟨rfl, rfl⟩
        · go_wp2
          go_meet
          exact ⟨rfl, rfl⟩
    case rest =>
      obtain ⟨rfl, rfl⟩ := hcut
      by_cases hok : 4 ≤ n ∧ n ≤ 64 ∧ n % 4 = 0
      · obtain ⟨N, rfl⟩ := Int.eq_ofNat_of_zero_le (show 0 ≤ n by omega)
        have hN1 : 4 ≤ N := by omega
        have hN2 : N ≤ 64 := by omega
        have hN3 : N % 4 = 0 := by omega
        have HN := Aside.mk hN3
        have hmk := make_ints N (by omega)
        obtain ⟨L, hLe⟩ : ∃ L, L = dataL b (N - 3) := ⟨_, rfl⟩
        obtain ⟨Pa, hPe⟩ : ∃ P, P = parL b N := ⟨_, rfl⟩
        have HE := Aside.mk (And.intro hLe hPe)
        clear hLe hPe hok hN3
        go_upto_region 13 with (go_at_call 10; refine (parity_of N b _ hN1 hN2 HN.out).mono ?_; rintro e w2 ⟨⟨v1, v2, r1, r2, rfl⟩, hb2⟩; rw [← HE.out.1] at r1; rw [← HE.out.2] at r2; obtain ⟨A1, c1, rfl, hc1⟩ := r1.slice; obtain ⟨A2, c2, rfl, hc2⟩ := r2.slice)
        have hK : AKept w w2.heap.size w1.heap.size (w2.heap.size + 1) N (.slice A1 L.length c1) (.slice A2 Pa.length c2) L Pa [] ((w2.alloc (.cells #[.slice A1 L.length c1, .slice A2 Pa.length c2] 30)).alloc (.cells (madeCells #[.int .i64 0] N) 3)) := by
          have hb3 := (hb1.trans (hb2.mono hb1.size))
          have hz := Row.zeros (w2.alloc (.cells #[.slice A1 L.length c1, .slice A2 Pa.length c2] 30)) (w2.heap.size + 1) 3 (.int .i64 0) N (by simp) (by simp only [maxLen]; omega)
          rw [usedV_nil] at hz
          simp only [World.size_alloc] at hz
          have p0 : PlanAt (w2.alloc (.cells #[.slice A1 L.length c1, .slice A2 Pa.length c2] 30)) w2.heap.size (.slice A1 L.length c1) (.slice A2 Pa.length c2) := heap_alloc_new w2 _
          exact ⟨p0.kept (World.grownBy_alloc _ _ none) (by simp), (r1.alloc _).alloc _, (r2.alloc _).alloc _, hz, (hb3.alloc hb3.size _).alloc (by simp; have := hb3.size; omega) _, by simp⟩
        have n1 : ∀ q, (Value.slice A1 L.length c1).ownBlock = some q → q < w2.heap.size + 1 := fun q hq => by have := (r1.blk q hq).2.1; omega
        have n2 : ∀ q, (Value.slice A2 Pa.length c2).ownBlock = some q → q < w2.heap.size + 1 := fun q hq => by have := (r2.blk q hq).2.1; omega
        have hw2 : w.heap.size ≤ w2.heap.size + 1 := by have := hb1.size; have := hb2.size; omega
        have HN2 := Aside.mk (And.intro n1 (And.intro n2 hw2))
        clear n1 n2 hw2 r1 r2 hb2
        generalize (w2.alloc (.cells #[.slice A1 L.length c1, .slice A2 Pa.length c2] 30)).alloc (.cells (madeCells #[.int .i64 0] N) 3) = W at *
        generalize hg2 : w2.heap.size = g2 at *
        generalize w1.heap.size = b1 at *
        have hLs : L.Pairwise (· < ·) := by rw [HE.out.1]; exact dataL_sorted b _
        have hLm : ∀ x, x ∈ L → 0 ≤ x ∧ x < (N : Int) - 3 := fun x hx => by
          rw [HE.out.1] at hx
          have := dataL_mem hx
          omega
        have hLl : L.length ≤ 64 := by have := dataL_len b (N - 3); rw [← HE.out.1] at this; omega
        have HL := Aside.mk (And.intro hLs hLm)
        clear hLs hLm hg2
        go_wp2
        go_loopw [12] (fun s12 wr => ∃ k : Nat, k ≤ L.length ∧ s12 = .int .i64 k ∧ AKept w g2 b1 (g2 + 1) N (.slice A1 L.length c1) (.slice A2 Pa.length c2) L Pa (L.take k) wr) (fun s12 _ => L.length - (intOf s12).toNat)
        case atStart => exact ⟨0, by omega, rfl, hK⟩
        case round =>
          obtain ⟨k, hk, rfl, hJ⟩ := hrel
          clear hK
          have d0 := hJ.p1.c0
          have hk1 : IntKind.i64.wrap ((k : Int) + 1) = (k : Int) + 1 := by rw [IntKind.wrap_i64]; omega
          by_cases hlt : k < L.length
          · obtain ⟨g, off, cp, hv, hgb, _, _, _⟩ := hJ.r1.form (by omega)
            injection hv with hv hv2 hv3
            subst hv
            clear hv2 hv3
            have y0 := hJ.r1.intAt hlt
            have hxm := HL.out.2 _ (getD_mem hlt)
            have hxn := sorted_new HL.out.1 hlt
            have hts := take_snocI hlt
            have hxl : ∀ i, i < k → L.getD i 0 < L.getD k 0 := fun i hi => sorted_lt HL.out.1 hi hlt
            obtain ⟨x, hx⟩ := Int.eq_ofNat_of_zero_le hxm.1
            rw [hx] at y0 hxm hxn hts hxl
            have hxN : x < N := by omega
            obtain ⟨u1, u2⟩ := hJ.ru.at_ rfl x hxN
            rw [usedV_at hxN, if_neg hxn, Nat.zero_add] at u1
            rw [Nat.zero_add] at u2
            have hJ2 := hJ.count x hxN (by omega) HN2.out.2.2 HN2.out.1 HN2.out.2.1
            rw [← hts] at hJ2
            have HX := Aside.mk (And.intro hx hxl)
            have HJ2 := Aside.mk hJ2
            clear hx hxl hJ2 hxn hts hJ hxm
            go_upto_region 17 with fail
            generalize wr.setCell ⟨g2 + 1, x, none⟩ (.int .i64 1) = wq at *
            clear d0 y0 u1 u2
            go_cut [93] (fun s93 wx => s93 = .bool false ∧ AKept w g2 b1 (g2 + 1) N (.slice (some ⟨g, off, none⟩) L.length c1) (.slice A2 Pa.length c2) L Pa (L.take (k + 1)) wx)
            case first =>
              have d0 := HJ2.out.p1.c0
              have d1 := HJ2.out.drew.p1.c0
              have y0 := HJ2.out.r1.intAt hlt
              have y1 := HJ2.out.drew.r1.intAt hlt
              rw [HX.out.1] at y0 y1
              by_cases hk0 : k = 0
              · subst hk0
                go_region
                all_goals (go_wp2; go_meet; exact ⟨rfl, by first | exact HJ2.out | exact HJ2.out.drew⟩)
              · have hk2 : 0 < (k : Int) := by omega
                have hk3 : IntKind.i64.wrap ((k : Int) - 1) = ((k - 1 : Nat) : Int) := by rw [IntKind.wrap_i64]; omega
                have hk4 : k - 1 < L.length := by omega
                have z0 := HJ2.out.r1.intAt hk4
                have z1 := HJ2.out.drew.r1.intAt hk4
                have hzx := HX.out.2 (k - 1) (by omega)
                have hzn : ¬ (x : Int) ≤ L.getD (k - 1) 0 := by omega
                generalize L.getD (k - 1) 0 = z at *
                have hk5 : 0 < k := by omega
                clear hzx hk0
                go_region
                all_goals (go_wp2; go_meet; exact ⟨rfl, by first | exact HJ2.out | exact HJ2.out.drew⟩)
            case rest =>
              obtain ⟨rfl, hJ⟩ := hcut
              clear HJ2
              go_wp2
              go_roundw
              case rel => exact ⟨k + 1, by omega, by go_num, hJ⟩
              case measure => simp [intOf]; omega
          · have hkL : k = L.length := by omega
            rw [hkL, List.take_length] at hJ
            have hpl : Pa.length ≤ 2 := by rw [HE.out.2]; exact parL_len b N
            clear hkL
            go_wp2
            clear d0
            go_loopw [13] (fun s13 wr => ∃ j : Nat, j ≤ Pa.length ∧ s13 = .int .i64 j ∧ AKept w g2 b1 (g2 + 1) N (.slice A1 L.length c1) (.slice A2 Pa.length c2) L Pa (L ++ Pa.take j) wr) (fun s13 _ => Pa.length - (intOf s13).toNat)
            case atStart => exact ⟨0, by omega, rfl, by simpa using hJ⟩
            case round =>
              obtain ⟨j, hj, rfl, hJ⟩ := hrel
              have d1 := hJ.p1.c1
              have hj1 : IntKind.i64.wrap ((j : Int) + 1) = (j : Int) + 1 := by rw [IntKind.wrap_i64]; omega
              by_cases hjt : j < Pa.length
              · obtain ⟨y, hy1, hyN, hy3, hy4, hy5⟩ := par_facts (b := b) (j := j) hN1 HN.out (by rw [← HE.out.2]; exact hjt)
                rw [← HE.out.1] at hy4 hy5
                rw [← HE.out.2] at hy1 hy5
                obtain ⟨g, off, cp, hv, hgb, _, _, _⟩ := hJ.r2.form (by omega)
                injection hv with hv hv2 hv3
                subst hv
                clear hv2 hv3
                have y0 := hJ.r2.intAt hjt
                rw [hy1] at y0
                obtain ⟨u1, u2⟩ := hJ.ru.at_ rfl y hyN
                rw [usedV_at hyN, if_neg hy5, Nat.zero_add] at u1
                rw [Nat.zero_add] at u2
                have hJ2 := hJ.count y hyN (by omega) HN2.out.2.2 HN2.out.1 HN2.out.2.1
                have hts := take_snocI hjt
                rw [hy1] at hts
                rw [List.append_assoc, ← hts] at hJ2
                have HX := Aside.mk (And.intro hy1 (And.intro hy3 hy4))
                have HJ2 := Aside.mk hJ2
                clear hy1 hy3 hy4 hy5 hJ2 hts hJ
                go_upto_region 23 with fail
                generalize wr.setCell ⟨g2 + 1, y, none⟩ (.int .i64 1) = wq at *
                clear d1 y0 u1 u2
                have d0 := HJ2.out.p1.c0
                have d1 := HJ2.out.p1.c1
                have HI1 := Aside.mk (members_row (gr := (j : Int)) HJ2.out.r1 hLl (fun x hx => by have := HL.out.2 x hx; omega) (v2 := .slice (some ⟨g, off, none⟩) Pa.length c2) ⟨some ⟨g, off, none⟩, Pa.length, c2, rfl⟩)
                go_upto_region 24 with (obtain ⟨HI⟩ := HI1; go_at_call 14; refine HI.mono ?_; clear HI; rintro e w8 ⟨⟨v8, r8, rfl⟩, hb8⟩; obtain ⟨A8, c8, rfl, hc8⟩ := r8.slice)
                obtain ⟨M, hMe⟩ : ∃ M, M = membL L (j : Int) := ⟨_, rfl⟩
                have hml := memb_len L (j : Int)
                rw [← hMe] at r8 hml hc8
                have HMe := Aside.mk hMe
                have hMx : ∀ h : 0 < M.length, M.getD (M.length - 1) 0 ∈ L := fun h => by rw [hMe] at h ⊢; exact memb_last h
                have HM := Aside.mk hMx
                clear hMx d0 d1
                rw [← hMe]
                clear hMe HMe
                have HK := Aside.mk (And.intro (HJ2.out.below hb8) r8)
                clear HJ2 r8 hb8
                go_cut [140] (fun s140 wx => s140 = .bool false ∧ AKept w g2 b1 (g2 + 1) N (.slice A1 L.length c1) (.slice (some ⟨g, off, none⟩) Pa.length c2) L Pa (L ++ Pa.take (j + 1)) wx)
                case first =>
                  have d1 := HK.out.1.p1.c1
                  have d2 := HK.out.1.drew.p1.c1
                  have y0 := HK.out.1.r2.intAt hjt
                  have y1 := HK.out.1.drew.r2.intAt hjt
                  rw [HX.out.1] at y0 y1
                  have hg := HX.out.2.1
                  generalize hm8 : M.length = m8 at *
                  have HM8 := Aside.mk hm8
                  clear hm8
                  by_cases hM0 : m8 = 0
                  · subst hM0
                    go_quiet ((go_at_call 16; exact Calls.quiet_of_same ((parity_group y _ (by omega)).mono fun e w' ⟨h1, h2⟩ => ⟨h1, h2.symm⟩)))
                    all_goals (go_wp2; go_meet; exact ⟨rfl, HK.out.1.drewN _⟩)
                  · have hm1 : 0 < m8 := by omega
                    obtain ⟨g8, o8, cp8, hv, _, _, _, _⟩ := HK.out.2.form hm1
                    injection hv with hv hv2 hv3
                    subst hv
                    clear hv2 hv3
                    have z0 := HK.out.2.intAt (show m8 - 1 < m8 by omega)
                    have z1 := HK.out.2.drew.intAt (show m8 - 1 < m8 by omega)
                    have hzy := HX.out.2.2 _ (HM.out hm1)
                    have hk3 : IntKind.i64.wrap ((m8 : Int) - 1) = ((m8 - 1 : Nat) : Int) := by rw [IntKind.wrap_i64]; omega
                    have hm2 : m8 - 1 < m8 := by omega
                    generalize M.getD (m8 - 1) 0 = z at *
                    have hzn : ¬ (y : Int) < z := by omega
                    clear hzy hM0
                    go_quiet ((go_at_call 16; exact Calls.quiet_of_same ((parity_group y _ (by omega)).mono fun e w' ⟨h1, h2⟩ => ⟨h1, h2.symm⟩)))
                    all_goals (go_wp2; go_meet; exact ⟨by first | rfl | rw [decide_eq_false hzn], HK.out.1.drewN _⟩)
                case rest =>
                  obtain ⟨rfl, hJ⟩ := hcut
                  clear HK
                  go_wp2
                  go_roundw
                  case rel => exact ⟨j + 1, by omega, by go_num, hJ⟩
                  case measure => simp [intOf]; omega
              · have hjL : j = Pa.length := by omega
                rw [hjL, List.take_length] at hJ
                clear hjL
                go_wp2
                clear d1
                go_loopw [15] (fun s15 wr => ∃ i : Nat, i ≤ N ∧ s15 = .int .i64 i ∧ AKept w g2 b1 (g2 + 1) N (.slice A1 L.length c1) (.slice A2 Pa.length c2) L Pa (L ++ Pa) wr) (fun s15 _ => N - (intOf s15).toNat)
                case atStart => exact ⟨0, by omega, rfl, hJ⟩
                case round =>
                  obtain ⟨i, hi, rfl, hJ⟩ := hrel
                  have hi1 : IntKind.i64.wrap ((i : Int) + 1) = (i : Int) + 1 := by rw [IntKind.wrap_i64]; omega
                  by_cases hit : i < N
                  · have u1 := (hJ.ru.at_ rfl i hit).1
                    rw [usedV_at hit, Nat.zero_add] at u1
                    have HJ := Aside.mk hJ
                    clear hJ
                    go_upto_region 29 with fail
                    go_cut [15, 172] (fun s15 s172 wx => s15 = .int .i64 i ∧ s172 = .bool false ∧ wr = wx)
                    case first =>
                      by_cases hin : (i : Int) ∈ L ++ Pa
                      · rw [if_pos hin] at u1
                        clear hin
                        go_wp2
                        go_meet
                        exact ⟨rfl, rfl, rfl⟩
                      · rw [if_neg hin] at u1
                        have hw2 : IntKind.i64.wrap ((N : Int) - 2) = (N : Int) - 2 := by rw [IntKind.wrap_i64]; omega
                        have huf := used_facts (b := b) hN1 HN.out hit (by rw [← HE.out.1, ← HE.out.2]; exact hin)
                        clear hin
                        rcases huf with h2 | ⟨hbt, hub, h2⟩
                        · have h3 : (i : Int) = (N : Int) - 2 := by omega
                          have H3 := Aside.mk h3
                          have u3 : wr.cell? ⟨g2 + 1, N - 2, none⟩ = some (.int .i64 0) := by rw [← h2]; exact u1
                          clear h2
                          go_wp2
                          go_meet
                          exact ⟨by rw [H3.out], rfl, rfl⟩
                        · subst hbt
                          have h3 : ((i : Int) == (N : Int) - 2) = false := by simp; omega
                          have hg : grp i = 1 := by unfold grp; rw [if_pos hub]
                          clear h2 hub
                          go_wp2_with (go_at_call 16; refine (parity_group i _ (by omega)).mono ?_; rintro e w5 ⟨rfl, rfl⟩)
                          go_meet
                          exact ⟨rfl, rfl, rfl⟩
                    case rest =>
                      obtain ⟨rfl, rfl, rfl⟩ := hcut
                      go_wp2
                      go_roundw
                      case rel => exact ⟨i + 1, by omega, by go_num, HJ.out⟩
                      case measure => simp [intOf]; omega
                  · go_wp2
                    go_ret
                    exact ⟨rfl, hJ.hb⟩
      · go_wp2_with (go_at_call 10; refine (parity_of_not n b _ hok).mono ?_; rintro e w2 ⟨rfl, hb2⟩)
        go_ret
        exact ⟨rfl, (hb1.trans (hb2.mono hb1.size)).alloc (hb1.trans (hb2.mono hb1.size)).size _⟩
end Go.Proofs.Ytehiijgfhanjfaa
