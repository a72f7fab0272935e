/-
  TopPairBack: what the walk sees, and the calls on the pager.
  TopPairBack: the second half: the lost pages, and what is read of a group.
  The same, the frame kept as a letter: of each operation only the slots that it looks at are told.
-/
import Derived.Test.YtkgacnenmflegaaGreatDoorMg17
import Derived.Test.YtkgacnenmflegaaGreatDoorMg2
namespace Go.Proofs.YtkgacnenmflegaaGreatDoor
open Go.RowKit

theorem zeros_text (m : Nat) (hm : m ≤ 10000) (W : World) : (convert 73 9 (.slice (some ⟨W.heap.size, 0, none⟩) m m)).run Tryz.prog (W.alloc (.cells (madeCells #[.int .u8 0] m) 5)) = .ok (.string (fillB 0 m)) (W.alloc (.cells (madeCells #[.int .u8 0] m) 5)) := by
  have hr := Row.zeros W W.heap.size 5 (.int .u8 0) m (Nat.le_refl _) (by simp only [maxLen]; omega)
  rw [bytesV_zeros] at hr
  exact hr.toString (P := Tryz.prog) Tryz.underlying73 Tryz.underlying5 Tryz.underlying9
/-- What a walk sees of it. -/
structure Sees (W : World) (g7 g14 b16 g1 o1 c1 g2 o2 c2 : Nat) (F : Nat → ByteArray) : Prop where
  geo : W.cell? ⟨g7, 1, none⟩ = some (.int .i64 8)
  full : ∀ j, j < 8 → W.cell? ⟨b16, j, none⟩ = some (.string (F j))
  free : ∀ j, W.frozen? ⟨b16, j, none⟩ = false
  pl0 : W.cell? ⟨g14, 0, none⟩ = some (.slice (some ⟨g1, o1, none⟩) 5 c1)
  pl1 : W.cell? ⟨g14, 1, none⟩ = some (.slice (some ⟨g2, o2, none⟩) 2 c2)
  dat : ∀ j, j < 5 → W.cell? ⟨g1, o1 + j, none⟩ = some (.int .i64 (j : Int))
  par0 : W.cell? ⟨g2, o2, none⟩ = some (.int .i64 5)
  par1 : W.cell? ⟨g2, o2 + 1, none⟩ = some (.int .i64 7)
def BIs (b : BLoc) (g7 g14 b16 g1 o1 c1 g2 o2 c2 n t : Nat) : Prop := b.g7 = g7 ∧ b.g14 = g14 ∧ b.b16 = b16 ∧ b.v1 = .slice (some ⟨g1, o1, none⟩) 5 c1 ∧ b.v2 = .slice (some ⟨g2, o2, none⟩) 2 c2 ∧ b.n = n ∧ b.t = t
theorem PB.sees {w0 W : World} {L : PLoc} {S : ChS} {b : BLoc} {F : Nat → ByteArray} {g7 g14 b16 g1 o1 c1 g2 o2 c2 n t : Nat} (h : PB w0 W L S b F) (hb : BIs b g7 g14 b16 g1 o1 c1 g2 o2 c2 n t) : Sees W g7 g14 b16 g1 o1 c1 g2 o2 c2 F := by
  obtain ⟨rfl, rfl, rfl, h1, h2, rfl, rfl⟩ := hb
  have p0 := h.plan.c0
  have p1 := h.plan.c1
  have r1 := h.r1
  have r2 := h.r2
  rw [h1] at p0 r1
  rw [h2] at p1 r2
  have e1 := r1.cells rfl
  have e2 := r2.cells rfl
  refine ⟨h.geoC, fun j hj => h.c16 hj, h.f16, p0, p1, fun j hj => ?_, e2 0 _ rfl, e2 1 _ rfl⟩
  rcases (show j = 0 ∨ j = 1 ∨ j = 2 ∨ j = 3 ∨ j = 4 by omega) with rfl | rfl | rfl | rfl | rfl
  · exact e1 0 _ rfl
  · exact e1 1 _ rfl
  · exact e1 2 _ rfl
  · exact e1 3 _ rfl
  · exact e1 4 _ rfl
/-- The pages that were written when k parities were. -/
def dnB (k j : Nat) : Bool := decide (j < 5) || (decide (0 < k) && decide (j = 5)) || (decide (1 < k) && decide (j = 7))
def membI (k : Nat) : List Int := (grpL k).map fun (j : Nat) => (j : Int)
theorem membI_eq {k : Nat} (hk : k < 2) : membL [0, 1, 2, 3, 4] (k : Int) = membI k := by
  have h0 : membL [0, 1, 2, 3, 4] 0 = [0, 1, 4] := by decide
  have h1 : membL [0, 1, 2, 3, 4] 1 = [2, 3] := by decide
  rcases (show k = 0 ∨ k = 1 by omega) with rfl | rfl
  · exact h0
  · exact h1
def MembPost (W : World) (k : Nat) (e : Ending) (w' : World) : Prop :=
  ∃ g o c, e = .returned (.slice (some ⟨g, o, none⟩) (grpL k).length c) ∧ (grpL k).length ≤ c ∧ c ≤ 9223372036854775807 ∧ Aside (Row w' W.heap.size 3 1 (.slice (some ⟨g, o, none⟩) (grpL k).length c) (grpL k).length (intsV (membI k)) ∧ Below W.heap.size W w')
theorem grpL_len (k : Nat) : 2 ≤ (grpL k).length ∧ (grpL k).length ≤ 3 := by
  unfold grpL
  split <;> simp
theorem back_members {W : World} {L : PLoc} {g1 o1 c1 : Nat} {v2 : Value} {k : Nat} (hk : k < 2) (r : Row W L.hi 3 1 (.slice (some ⟨g1, o1, none⟩) 5 c1) 5 (intsV [0, 1, 2, 3, 4])) (hv2 : ∃ A2 n2 c2, v2 = .slice A2 n2 c2) :
    Calls Tryz.prog 29 #[.agg #[.slice (some ⟨g1, o1, none⟩) 5 c1, v2], .int .i64 (k : Int)] W (MembPost W k) := by
  obtain ⟨A1, c, e1, n1, h1, m1, R1⟩ := r.readInts
  injection e1 with e1 _ e3
  subst e1; subst e3
  refine (plan_members _ 5 c1 [0, 1, 2, 3, 4] v2 (k : Int) W n1 (by omega) h1 m1 (fun x hx => by simp at hx; omega) R1 hv2).mono ?_
  rintro e w' ⟨⟨v, hr, rfl⟩, hb⟩
  rw [membI_eq hk] at hr
  have hl : (membI k).length = (grpL k).length := by unfold membI; exact List.length_map ..
  rw [hl] at hr
  obtain ⟨g, o, c', rfl, _, _, hc, hm⟩ := hr.form (by have := grpL_len k; omega)
  exact ⟨g, o, c', rfl, hc, hm, ⟨hr, hb⟩⟩
theorem parity_xor_nat (m : Nat) (A : Option Addr) (len cap : Nat) (f : Nat → ByteArray) (w : World) (hm : m ≤ 2048) (hlen : len ≤ 17592186043904) (hc : len ≤ cap) (hcm : cap ≤ 9223372036854775807) (hR : Rd w A len (fun i => .string (f i))) :
    Calls Tryz.prog 30 #[.int .i64 m, .slice A len cap] w fun e w' => e = .returned (.string (xorT m f len)) ∧ Below w.heap.size w w' :=
  (parity_xor m A len cap f w hlen hc hcm hR).mono fun e w' ⟨he, hb⟩ => ⟨by rw [he]; congr 3; omega, hb⟩
theorem cells_at {w : World} {base g o n c : Nat} {e : TypeId} {xs : List Value} (h : Row w base e 1 (.slice (some ⟨g, o, none⟩) n c) n xs) (i : Nat) (u : Value) (hu : xs[i]? = some u) : w.cell? ⟨g, o + i, none⟩ = some u := by
  have h1 := h.cells rfl i u hu
  have e : (⟨g, o, none⟩ : Addr).add i = ⟨g, o + i, none⟩ := by
    unfold Addr.add
    by_cases h : i = 0
    · subst h; rfl
    · simp [h]
  rwa [e] at h1
theorem memb_at {k i : Nat} (hi : i < (grpL k).length) : (intsV (membI k))[i]? = some (.int .i64 (((grpL k).getD i 0 : Nat) : Int)) := by
  unfold membI intsV
  rw [List.map_map, List.getElem?_map, List.getElem?_eq_getElem hi, List.getD_eq_getElem?_getD, List.getElem?_eq_getElem hi]
  rfl
theorem memb_lt {k i : Nat} (hi : i < (grpL k).length) : (grpL k).getD i 0 < 5 := by
  rw [List.getD_eq_getElem?_getD, List.getElem?_eq_getElem hi]
  have h : (grpL k)[i] ∈ grpL k := List.getElem_mem hi
  have : ∀ j ∈ grpL k, j < 5 := by
    unfold grpL
    split <;> simp
  exact this _ h
theorem grp_take {k i : Nat} (hi : i < (grpL k).length) (f : Nat → ByteArray) : strsV (((grpL k).take (i + 1)).map f) = strsV (((grpL k).take i).map f) ++ (#[.string (f ((grpL k).getD i 0))] : Array Value).toList := by
  rw [List.take_succ_eq_append_getElem hi, List.map_append]
  have : (grpL k).getD i 0 = (grpL k)[i] := by rw [List.getD_eq_getElem?_getD, List.getElem?_eq_getElem hi]; rfl
  rw [this]
  simp [strsV]
section
variable {w0 W : World} {L : PLoc} {S : ChS} {b : BLoc} {F P : Nat → ByteArray} {done D : Nat → Bool} {k r n t : Nat}
def PutPost (w0 : World) (L : PLoc) (b : BLoc) (F P : Nat → ByteArray) (done D : Nat → Bool) (k r n t : Nat) (v : Value) (e : Ending) (w' : World) : Prop :=
  e = .returned v ∧ ∃ S', Aside (Wr S' n t P done D k r ∧ PB w0 w' L S' b F)
theorem back_put (h : PB w0 W L S b F) (hn : Nib w0) (hb : b.n = n ∧ b.t = t) (hw : Wr S n t P done (fun _ => false) k r) (hk : k ≤ 100) (j : Nat) (hj : j < 8) (hf : ∀ q, j ≤ q → q < 8 → done q = false) (hP : (P j).size + 7 ≤ n) {d' : Nat → Bool} (hd : ∀ q, d' q = (done q || decide (q = j))) :
    Calls Tryz.prog 22 #[.pointer (some ⟨L.p, 0, none⟩), .int .i64 0, .int .i64 (j : Int), .string (P j)] W (PutPost w0 L b F P d' (fun _ => false) (k + 1) r n t (.int .i64 0)) := by
  obtain ⟨e1, e2, _⟩ := h.eqs
  obtain ⟨rfl, rfl⟩ := hb
  have := page_put h.pgr (h.nib hn) 0 j (by rw [hw.nb]; omega) (by rw [hw.np]; exact hj) (by rw [hw.np]; omega) hw.off hw.wo (hw.fresh j hf) hw.left (by have := hw.chg; omega) (P j) (by rw [e1]; exact hP)
  refine Calls.mono this ?_
  rintro e w' ⟨rfl, h1, h2⟩
  rw [e1, e2] at h1
  exact ⟨rfl, _, ⟨hw.put j rfl hd, h.chip h1 h2⟩⟩
theorem back_read (h : PB w0 W L S b F) (hn : Nib w0) (hg : 0 < L.lo) (hb : b.n = n ∧ b.t = t) (hw : Wr S n t P done D k r) (hr : r ≤ 100) (j : Nat) (hj : j < 8) (hdj : done j = true) (hP : (P j).size + 7 ≤ n) :
    Calls Tryz.prog 26 #[.pointer (some ⟨L.p, 0, none⟩), .int .i64 0, .int .i64 (j : Int)] W (PutPost w0 L b F P done D k (r + 1) n t (.tuple #[if D j = true then .agg #[.int .i64 2, .string ⟨#[]⟩, .int .i64 0] else .agg #[.int .i64 1, .string (padP n (P j)), .int .i64 0], .int .i64 0])) := by
  obtain ⟨e1, e2, _⟩ := h.eqs
  obtain ⟨rfl, rfl⟩ := hb
  have hrd : S.rd 0 ≤ 1000000 := by have := hw.rd; omega
  have hmo : S.most < 1 := by rw [hw.most]; decide
  cases hD : D j
  · obtain ⟨h1, h2⟩ := hw.wr j hj hdj hD
    have := page_read_written h.pgr (h.nib hn) hg 0 j (by rw [hw.nb]; omega) (by rw [hw.np]; exact hj) hw.off hrd hmo (P j) (by rw [e1]; exact hP) h1 (by rw [h2, e1, e2])
    refine Calls.mono this ?_
    rintro e w' ⟨rfl, h1, h2⟩
    exact ⟨by rw [e1]; rfl, _, ⟨hw.read, h.chip h1 h2⟩⟩
  · have := page_read_lost h.pgr (h.nib hn) hg 0 j (by rw [hw.nb]; omega) (by rw [hw.np]; exact hj) hw.off hrd hmo (hw.gone j hj hdj hD)
    refine Calls.mono this ?_
    rintro e w' ⟨rfl, h1, h2⟩
    exact ⟨rfl, _, ⟨hw.read, h.chip h1 h2⟩⟩
theorem back_spoil (h : PB w0 W L S b F) (hw : Wr S n t P done D k r) (j : Nat) (hj : j < 8) {D' : Nat → Bool} (hd : ∀ q, D' q = (D q || decide (q = j))) :
    Calls Tryz.prog 31 #[.pointer (some ⟨L.c, 0, none⟩), .int .i64 0, .int .i64 (j : Int)] W (PutPost w0 L b F P done D' k r n t (.int .i64 0)) := by
  have := nand_spoil h.pgr.chip 0 j (by rw [hw.nb]; omega) (by rw [hw.np]; exact hj)
  refine Calls.mono this ?_
  rintro e w' ⟨rfl, h1, h2⟩
  have hs : (S.spoil 0 j).nb = S.nb ∧ (S.spoil 0 j).np = S.np ∧ (S.spoil 0 j).raw = S.raw := by
    unfold ChS.spoil
    split <;> exact ⟨rfl, rfl, rfl⟩
  exact ⟨rfl, _, ⟨hw.spoil j hj hd, h.chip (h.pgr.chg h2 h1 hs.1 hs.2.1 hs.2.2) (h.pgr.chip.mv h2)⟩⟩
end
end Go.Proofs.YtkgacnenmflegaaGreatDoor
namespace Go.Proofs.YtkgacnenmflegaaGreatDoor
open Go.RowKit

theorem Chg.none {I : World → Prop} {W W' : World} (h : Chg (fun _ => False) I W W') : Below W.heap.size W W' := ⟨h.os, h.tape, h.output, h.size, fun q hq => h.block q hq (fun e => e)⟩
section
variable {w0 W : World} {L : PLoc} {S : ChS} {b : BLoc} {F P : Nat → ByteArray} {done D : Nat → Bool} {k r n t : Nat}
def ReadPost2 (w0 W : World) (L : PLoc) (b : BLoc) (F P : Nat → ByteArray) (done D : Nat → Bool) (k r n t : Nat) (v : Value) (e : Ending) (w' : World) : Prop :=
  e = .returned (.tuple #[v, .int .i64 0]) ∧ ∃ S', Aside (Wr S' n t P done D k r ∧ PB w0 w' L S' b F ∧ Mv L.lo L.hi W w')
def readV (n : Nat) (P : Nat → ByteArray) (D : Nat → Bool) (j : Nat) : Value := if D j = true then .agg #[.int .i64 2, .string ⟨#[]⟩, .int .i64 0] else .agg #[.int .i64 1, .string (padP n (P j)), .int .i64 0]
theorem back_read2 (h : PB w0 W L S b F) (hn : Nib w0) (hg : 0 < L.lo) (hb : b.n = n ∧ b.t = t) (hw : Wr S n t P done D k r) (hr : r ≤ 100) (j : Nat) (hj : j < 8) (hdj : done j = true) (hP : (P j).size + 7 ≤ n) :
    Calls Tryz.prog 26 #[.pointer (some ⟨L.p, 0, none⟩), .int .i64 0, .int .i64 (j : Int)] W (ReadPost2 w0 W L b F P done D k (r + 1) n t (readV n P D j)) := by
  obtain ⟨e1, e2, _⟩ := h.eqs
  obtain ⟨rfl, rfl⟩ := hb
  have hrd : S.rd 0 ≤ 1000000 := by have := hw.rd; omega
  have hmo : S.most < 1 := by rw [hw.most]; decide
  unfold readV
  cases hD : D j
  · obtain ⟨h1, h2⟩ := hw.wr j hj hdj hD
    have := page_read_written h.pgr (h.nib hn) hg 0 j (by rw [hw.nb]; omega) (by rw [hw.np]; exact hj) hw.off hrd hmo (P j) (by rw [e1]; exact hP) h1 (by rw [h2, e1, e2])
    refine Calls.mono this ?_
    rintro e w' ⟨rfl, h1, h2⟩
    exact ⟨by rw [e1]; rfl, _, ⟨hw.read, h.chip h1 h2, h2⟩⟩
  · have := page_read_lost h.pgr (h.nib hn) hg 0 j (by rw [hw.nb]; omega) (by rw [hw.np]; exact hj) hw.off hrd hmo (hw.gone j hj hdj hD)
    refine Calls.mono this ?_
    rintro e w' ⟨rfl, h1, h2⟩
    exact ⟨rfl, _, ⟨hw.read, h.chip h1 h2, h2⟩⟩
end
/-! ### The two lost pages -/
def grpA (k : Nat) : List Nat := grpL k ++ [parB k]
def lostD (ls pr q : Nat) : Bool := decide (q = ls) || decide (q = pr)
def pairN (ls : Nat) : Nat := if 2 ≤ ls % 4 then ls - 2 else ls + 2
theorem pair_lt : ∀ ls, ls < 8 → pairN ls < 8 := by decide
theorem pair_nat {ls : Nat} (h : ls < 8) : pairQ (ls : Int) = (pairN ls : Int) := by
  unfold pairQ pairN upB
  rw [if_neg (by omega)]
  by_cases h2 : 2 ≤ ls % 4
  · rw [if_pos (by simp; omega), if_pos h2]; omega
  · rw [if_neg (by simp; omega), if_neg h2]; omega
def goneZ (D : Nat → Bool) (l : List Nat) : Int := l.foldl (fun z j => if D j = true then (j : Int) else z) (-1)
theorem goneZ_snoc (D : Nat → Bool) (l : List Nat) (j : Nat) : goneZ D (l ++ [j]) = if D j = true then (j : Int) else goneZ D l := by simp [goneZ]
theorem gone_first : ∀ ls, ls < 8 → ∀ k, k < 2 → ∀ i, i < 4 → i < (grpA k).length → lostD ls (pairN ls) ((grpA k).getD i 0) = true → goneZ (lostD ls (pairN ls)) ((grpA k).take i) = -1 := by decide
theorem gone_last : ∀ ls, ls < 8 → ∀ k, k < 2 → goneZ (lostD ls (pairN ls)) (grpA k) = -1 ∨ ∃ j ∈ grpA k, goneZ (lostD ls (pairN ls)) (grpA k) = (j : Int) ∧ ∀ q ∈ grpA k, lostD ls (pairN ls) q = decide (q = j) := by decide
theorem grpA_done : ∀ k, k < 2 → ∀ i, i < (grpA k).length → dnB 2 ((grpA k).getD i 0) = true ∧ (grpA k).getD i 0 < 8 := by decide
theorem grpA_mem {k j : Nat} (hk : k < 2) (hj : j ∈ grpA k) : j < 8 ∧ dnB 2 j = true := by
  have h : ∀ k, k < 2 → ∀ j ∈ grpA k, j < 8 ∧ dnB 2 j = true := by decide
  exact h k hk j hj
theorem grpA_len (k : Nat) : (grpA k).length = (grpL k).length + 1 := by simp [grpA]
theorem grpA_ints (k : Nat) : (membI k) ++ [((parB k : Nat) : Int)] = (grpA k).map fun (j : Nat) => (j : Int) := by simp [grpA, membI]
theorem take_more {l : List Nat} {i : Nat} (h : i < l.length) : l.take (i + 1) = l.take i ++ [l.getD i 0] := by
  rw [List.take_succ_eq_append_getElem h, List.getD_eq_getElem?_getD, List.getElem?_eq_getElem h]
  rfl
def restP (k : Nat) (D : Nat → Bool) (i : Nat) : List Nat := ((grpA k).take i).filter fun j => !D j
theorem restP_more {k i : Nat} (D : Nat → Bool) (h : i < (grpA k).length) : restP k D (i + 1) = restP k D i ++ (if D ((grpA k).getD i 0) = true then [] else [(grpA k).getD i 0]) := by
  unfold restP
  rw [take_more h, List.filter_append]
  congr 1
  cases hD : D ((grpA k).getD i 0)
  · simp only [Bool.false_eq_true, if_false]
    rw [List.filter_cons_of_pos (by rw [hD]; rfl)]
    rfl
  · simp only [if_true]
    rw [List.filter_cons_of_neg (by rw [hD]; decide)]
    rfl
theorem restP_all (k : Nat) (D : Nat → Bool) : restP k D (grpA k).length = restL k D := by unfold restP restL grpA; rw [List.take_length]
theorem restP_len (k : Nat) (D : Nat → Bool) (i : Nat) : (restP k D i).length ≤ i := by
  unfold restP
  exact Nat.le_trans (List.length_filter_le _ _) (List.length_take_le _ _)
theorem rest_xor {n : Nat} (hn : 7 ≤ n) (x : List ByteArray) {k : Nat} (hk : k < 2) {D : Nat → Bool} {j : Nat} (hj : j ∈ grpA k) (hD : ∀ q ∈ grpA k, D q = decide (q = j)) :
    xorT (n - 7) (fun i => (((restL k D).map (fullB n x)).getD i ByteArray.empty)) (restL k D).length = fullB n x j := brings_back hn x k hk D j hj hD
theorem grpA_at {k i : Nat} (hi : i < (grpA k).length) : (intsV ((grpA k).map fun (j : Nat) => (j : Int)))[i]? = some (.int .i64 (((grpA k).getD i 0 : Nat) : Int)) := by
  unfold intsV
  rw [List.map_map, List.getElem?_map, List.getElem?_eq_getElem hi, List.getD_eq_getElem?_getD, List.getElem?_eq_getElem hi]
  rfl
/-- A slice of the group's pages. -/
def MembT (base k : Nat) (v : Value) (W0 : World) : Prop := ∃ g o c, v = .slice (some ⟨g, o, none⟩) (grpL k).length c ∧ Aside (Row W0 base 3 1 (.slice (some ⟨g, o, none⟩) (grpL k).length c) (grpL k).length (intsV (membI k)))
theorem src_one {W : World} {b : Nat} {e : TypeId} {v : Value} (h : W.heap[b]? = some (.cells #[v] e (0, 0))) : Src W 1 (.slice (some ⟨b, 0, none⟩) 1 1) 1 [v] :=
  ⟨rfl, .inr ⟨_, 1, rfl, fun j u hu => by rw [add_plain, cell_of_row W b (0 + j) _ _ _ h, Nat.zero_add]; simpa using hu⟩⟩
theorem PB.app2 {w0 W W' : World} {L : PLoc} {S : ChS} {b : BLoc} {F : Nat → ByteArray} (h : PB w0 W L S b F) {v : Value} {base : Nat} {n : Nat} {xs : List Value} (hr : Row W base 9 1 v n xs) (hb : b.top ≤ base) (hg : W.grownBy W' v.ownBlock) : PB w0 W' L S b F :=
  h.app (fun q hq => ⟨Nat.le_trans hb (hr.blk q hq).1, (hr.blk q hq).2.2⟩) hg
end Go.Proofs.YtkgacnenmflegaaGreatDoor
namespace Go.Proofs.YtkgacnenmflegaaGreatDoor
open Go.RowKit

/-- What lies in slots that none of the first operations writes. -/
def OldOk : List (Nat × Value) → Array Value → Prop
  | [], _ => True
  | p :: r, A => A.getD p.1 undef = p.2 ∧ OldOk r A
theorem OldOk.mono {A B : Array Value} : ∀ {old : List (Nat × Value)}, (∀ p ∈ old, B.getD p.1 undef = A.getD p.1 undef) → OldOk old A → OldOk old B
  | [], _, _ => trivial
  | p :: r, h, ho => ⟨(h p (by simp)).trans ho.1, OldOk.mono (fun q hq => h q (by simp [hq])) ho.2⟩
theorem getD_bool {T : Array Value} {t : Nat} {b : Bool} (h : T.getD t undef = .bool b) : T[t]? = some (.bool b) := by
  rw [Array.getD_eq_getD_getElem?] at h
  cases ht : T[t]? with
  | none => rw [ht] at h; cases h
  | some v => rw [ht] at h; exact congrArg some h
theorem getD_some {T : Array Value} {t : Nat} {v : Value} (h : T.getD t undef = v) (hv : v ≠ undef) : T[t]? = some v := by
  rw [Array.getD_eq_getD_getElem?] at h
  cases ht : T[t]? with
  | none => rw [ht] at h; exact absurd h.symm hv
  | some u => rw [ht] at h; exact congrArg some h
theorem wanted_of4 {l : List Oper} {o : Oper} {T : Array Value} {g t : Nat} {b : Bool} (hg : o.guard = some (g, b)) (ho : (l.toArray[g]?).bind (·.dst) = some t) (hf : T.getD t undef = .bool b) :
    Region.wanted o (yielded l.toArray T) = true := by
  unfold Region.wanted yielded
  rw [hg]
  simp only [ho, Option.bind_some]
  rw [getD_bool hf]
  simp
theorem unwanted_of4 {l : List Oper} {o : Oper} {T : Array Value} {g t : Nat} {b c : Bool} (hg : o.guard = some (g, b)) (ho : (l.toArray[g]?).bind (·.dst) = some t) (hf : T.getD t undef = .bool c) (hc : c ≠ b) :
    Region.wanted o (yielded l.toArray T) = false := by
  unfold Region.wanted yielded
  rw [hg]
  simp only [ho, Option.bind_some]
  rw [getD_bool hf]
  simpa using hc
/-- What is asked of one of the first operations. -/
def rStep4 (P : Program) (l : List Oper) (N : Nat) (R : World → World → Prop) (V : Nat → Value → World → Prop) (w : World) (old : List (Nat × Value)) (o : Oper) : Prop :=
  ∀ (T : Array Value) (D : List Deferred) (W : World), R w W → OldOk old T → (∀ t, relWrites (l.take N) t = true → (o.looksAt l.toArray).contains t = true → V t (T.getD t undef) W) →
    ∀ (K : Act → World → Prop) (Q : Exit → Act → World → Prop), (∀ v W', R W W' → V (o.dst.getD 0) v W' → K (({ tmps := T, defers := D } : Act).put o.dst v) W') →
      (Region.wanted o (yielded l.toArray T) = true ∧ wpList P #[bare o] (relQ K Q) [bare o] { tmps := T, defers := D } W) ∨
      (Region.wanted o (yielded l.toArray T) = false ∧ V (o.dst.getD 0) undef W)
def rAll4 (P : Program) (l : List Oper) (N : Nat) (R : World → World → Prop) (V : Nat → Value → World → Prop) (w : World) (old : List (Nat × Value)) : List Oper → Prop
  | [] => True
  | o :: r => rStep4 P l N R V w old o ∧ rAll4 P l N R V w old r
theorem frame_getD (f : Nat → Value) {n t : Nat} (h : t < n) : (((List.range n).map f).toArray).getD t undef = f t := by
  rw [Array.getD_eq_getD_getElem?]
  simp [h]
theorem frame_getD_out (f : Nat → Value) {n t : Nat} (h : ¬ t < n) : (((List.range n).map f).toArray).getD t undef = undef := by
  rw [Array.getD_eq_getD_getElem?]
  simp [h]
theorem r4_all {P : Program} {l : List Oper} {N : Nat} {R : World → World → Prop} {V : Nat → Value → World → Prop} {w : World} {old : List (Nat × Value)} {a : Act} (Q : Exit → Act → World → Prop)
    (hN : ∀ t, relWrites (l.take N) t = true → t < a.tmps.size) (hO : OldOk old a.tmps) (hF : (old.all fun p => !relWrites (l.take N) p.1) = true) : ∀ r : List Oper, rAll4 P l N R V w old r → rAll P l N R V Q w a r
  | [], _ => trivial
  | o :: r, h => by
    refine ⟨fun f W hR hold hd K hK => ?_, r4_all Q hN hO hF r h.2⟩
    refine h.1 ((List.range a.tmps.size).map f).toArray a.defers W hR (hO.mono fun p hp => ?_) (fun t h1 h2 => ?_) K Q hK
    · have hpf : relWrites (l.take N) p.1 = false := by simpa using List.all_eq_true.1 hF p hp
      by_cases hlt : p.1 < a.tmps.size
      · rw [frame_getD f hlt]; exact hold _ hpf
      · rw [frame_getD_out f hlt, Array.getD_eq_getD_getElem?, Array.getElem?_eq_none (by omega)]; rfl
    · rw [frame_getD f (hN t h1)]
      exact hd t h1 h2
theorem wp_region_r4 {P : Program} {id : Nat} {Q : Exit → Act → World → Prop} {a : Act} {w : World} {l : List Oper} (N : Nat) (old : List (Nat × Value)) (hm : P.follows .mixedOrders = true) (hB : rB N l = true)
    (hN : ∀ t, relWrites (l.take N) t = true → t < a.tmps.size) (V : Nat → Value → World → Prop)
    (R : World → World → Prop) (hR0 : R w w.drew) (hRr : ∀ W, R W W) (hRt : ∀ W W' W'', R W W' → R W' W'' → R W W'') (hV : ∀ t v W W', V t v W → R W W' → V t v W')
    (hO : OldOk old a.tmps) (hF : (old.all fun p => !relWrites (l.take N) p.1) = true) (hop : rAll4 P l N R V w old (l.take N))
    (hend : ∀ (f : Nat → Value) (W : World), R w W → (∀ t, relWrites (l.take N) t = true → V t (f t) W) → ∀ a', a' = putAll f (l.take N) a → wpList P l.toArray Q (l.drop N) a' W) : (Code.region id l.toArray true).wp P Q a w :=
  wp_region_r N hm hB hN V R hR0 hRr hRt hV (r4_all Q hN hO hF _ hop) fun f W hR hold hd a' ha => hend f W hR hd a' (ha.trans (rel_puts hold))
end Go.Proofs.YtkgacnenmflegaaGreatDoor
