/-
  Slices whose places may be written, wherever they begin in their block and whatever marks lie behind their capacity; what reading, storing, appending, cutting and converting do to them.
  Slices of numbers and of texts as lists: what they hold, how they are copied and made.
  The parts of sync.Once's slow road, each a contract of its own: the lock, the two calls that are deferred; atomic numbers.
  The field's tables, and what fills them.
  Bit operations on whole numbers of 64 bits, as natural numbers.
  The tables are made once.
-/
import Derived.WalkKit
import Derived.Laws.BytesArg
import Derived.Maps.AppendAt
import Derived.Deep.OwnRows
import Derived.Lib.ConvBytes
import Derived.Deep.Draws
import Derived.Test.YtffdpmejilmnnaaProg
import Derived.WalkSpells
import Derived.WalkLawsBesides
import Derived.RegionTactic
import Derived.BigRegion
import Derived.OwnWalk
import Derived.Deep.DeepCutAuto
import Derived.Deep.RegionWith
import Derived.Deep.RegionLaw
import Derived.Tactics
import Derived.Tactics2
import Derived.Defers
import Derived.Laws.Pointers
import Derived.Laws.LoneSync
import Derived.RegionCalls
import Derived.ChangeAlike
import Derived.KernelRfl
import Derived.Test.YtffdpmejilmnnaaMg1
import Derived.Laws.BitsAll
import Derived.Laws.Bits128
import GoSem.ClaimData
namespace Go.Proofs.Ytffdpmejilmnnaa
open Go.RowKit

/-- A fact that the walk does not look into. -/
structure Aside (p : Prop) : Prop where mk :: (out : p)

/-- n elements of `size` cells each, cells xs, in a block of type e whose number is at least base; all places up to the capacity may be written. -/
def Row (w : World) (base : Nat) (e : TypeId) (size : Nat) (v : Value) (n : Nat) (xs : List Value) : Prop :=
  xs.length = n * size ∧
  ((v = .slice none 0 0 ∧ n = 0) ∨
   ∃ g off cap cur fr, v = .slice (some ⟨g, off, none⟩) n cap ∧ base ≤ g ∧ w.heap[g]? = some (.cells cur e fr) ∧ n ≤ cap ∧ cap ≤ maxLen ∧ off + cap * size ≤ cur.size ∧
     (∀ i, i < cap * size → ¬ (fr.1 ≤ off + i ∧ off + i < fr.2)) ∧ (cur.toList.drop off).take (n * size) = xs)

theorem add_plain (g o j : Nat) : (⟨g, o, none⟩ : Addr).add j = ⟨g, o + j, none⟩ := by unfold Addr.add; split <;> simp_all

section
variable {w : World} {base : Nat} {e : TypeId} {size : Nat} {v : Value} {n : Nat} {xs : List Value}

theorem Row.nil (w : World) (base : Nat) (e : TypeId) (size : Nat) : Row w base e size (.slice none 0 0) 0 [] := ⟨by simp, .inl ⟨rfl, rfl⟩⟩
theorem Row.len (h : Row w base e size v n xs) : xs.length = n * size := h.1
theorem Row.max (h : Row w base e size v n xs) : n ≤ maxLen := by
  rcases h.2 with ⟨_, rfl⟩ | ⟨g, off, cap, cur, fr, _, _, _, h1, h2, _⟩
  · exact Nat.zero_le _
  · exact Nat.le_trans h1 h2
theorem Row.slice (h : Row w base e size v n xs) : ∃ A c, v = .slice A n c ∧ n ≤ c := by
  rcases h.2 with ⟨rfl, rfl⟩ | ⟨g, off, cap, cur, fr, rfl, _, _, h1, _⟩
  · exact ⟨none, 0, rfl, Nat.le_refl _⟩
  · exact ⟨_, cap, rfl, h1⟩
/-- Where there is an element the slice has a block. -/
theorem Row.form (h : Row w base e size v n xs) (h0 : 0 < n) : ∃ g off cap, v = .slice (some ⟨g, off, none⟩) n cap ∧ base ≤ g ∧ g < w.heap.size ∧ n ≤ cap ∧ cap ≤ maxLen := by
  rcases h.2 with ⟨_, rfl⟩ | ⟨g, off, cap, cur, fr, rfl, hb, hg, hc, hm, _⟩
  · omega
  · exact ⟨g, off, cap, rfl, hb, (Array.getElem?_eq_some_iff.1 hg).1, hc, hm⟩
theorem Row.blk (h : Row w base e size v n xs) : ∀ k, v.ownBlock = some k → base ≤ k ∧ k < w.heap.size ∧ ∃ cur fr, w.heap[k]? = some (.cells cur e fr) := by
  intro k hk
  rcases h.2 with ⟨rfl, _⟩ | ⟨g, off, cap, cur, fr, rfl, hb, hg, _⟩
  · simp [Value.ownBlock] at hk
  · simp only [Value.ownBlock, Option.some.injEq] at hk
    subst hk
    exact ⟨hb, (Array.getElem?_eq_some_iff.1 hg).1, cur, fr, hg⟩
theorem Row.mono {base' : Nat} (h : Row w base e size v n xs) (hb : base' ≤ base) : Row w base' e size v n xs := by
  refine ⟨h.1, ?_⟩
  rcases h.2 with hn | ⟨g, off, cap, cur, fr, rfl, hbg, rest⟩
  · exact .inl hn
  · exact .inr ⟨g, off, cap, cur, fr, rfl, Nat.le_trans hb hbg, rest⟩
/-- Another block was written, or new ones came. -/
theorem Row.kept {w' : World} {row : Option Nat} (h : Row w base e size v n xs) (hg : w.grownBy w' row) (hne : v.ownBlock = none ∨ v.ownBlock ≠ row) : Row w' base e size v n xs := by
  refine ⟨h.1, ?_⟩
  rcases h.2 with hn | ⟨g, off, cap, cur, fr, rfl, hb, hgg, rest⟩
  · exact .inl hn
  · refine .inr ⟨g, off, cap, cur, fr, rfl, hb, ?_, rest⟩
    rw [hg.block g (Array.getElem?_eq_some_iff.1 hgg).1 (by simpa [Value.ownBlock] using hne)]
    exact hgg
theorem grownBy_of_below {w w' : World} (h : Below w.heap.size w w') (row : Option Nat) : w.grownBy w' row := ⟨h.os, h.tape, h.output, h.size, fun i hi _ => h.block i hi⟩
theorem Row.below {w' : World} (h : Row w base e size v n xs) (hb : Below w.heap.size w w') : Row w' base e size v n xs :=
  h.kept (grownBy_of_below hb none) (by cases v.ownBlock <;> simp)
theorem Row.alloc (h : Row w base e size v n xs) (o : Obj) : Row (w.alloc o) base e size v n xs := h.kept (World.grownBy_alloc w o none) (by cases v.ownBlock <;> simp)
theorem Row.drewN (h : Row w base e size v n xs) (m : Nat) : Row (w.drewN m) base e size v n xs := h
theorem Row.drew (h : Row w base e size v n xs) : Row w.drew base e size v n xs := h
theorem Row.cells (h : Row w base e size v n xs) {a : Addr} {cap : Nat} (hv : v = .slice (some a) n cap) : ∀ j u, xs[j]? = some u → w.cell? (a.add j) = some u := by
  intro j u hu
  rcases h.2 with ⟨rfl, _⟩ | ⟨g, off, cap', cur, fr, rfl, _, hgg, _, _, _, _, htake⟩
  · cases hv
  · injection hv with hv
    injection hv with hv
    subst hv
    rw [add_plain, cell_of_row w g (off + j) cur e fr hgg]
    rw [← htake, List.getElem?_take] at hu
    split at hu
    · rw [List.getElem?_drop] at hu
      simpa using hu
    · cases hu
theorem Row.free (h : Row w base e size v n xs) {g off cap : Nat} (hv : v = .slice (some ⟨g, off, none⟩) n cap) (i : Nat) (hi : i < cap * size) : w.frozen? ⟨g, off + i, none⟩ = false := by
  rcases h.2 with ⟨rfl, _⟩ | ⟨g', off', cap', cur, fr, rfl, _, hgg, _, _, _, hf, _⟩
  · cases hv
  · injection hv with hv _ hc
    injection hv with hv
    injection hv with hb ho
    subst hb; subst ho; subst hc
    have := hf i hi
    simp only [World.frozen?, hgg]
    simpa using this
/-- One of n elements of one cell each. -/
theorem Row.at_ {xs : List Value} (h : Row w base e 1 v n xs) {g off cap : Nat} (hv : v = .slice (some ⟨g, off, none⟩) n cap) (i : Nat) (hi : i < n) : w.cell? ⟨g, off + i, none⟩ = some (xs.getD i undef) ∧ w.frozen? ⟨g, off + i, none⟩ = false := by
  have hl : xs.length = n := by have := h.1; omega
  constructor
  · have := h.cells hv i (xs.getD i undef) (by simp [List.getD_eq_getElem?_getD, List.getElem?_eq_getElem (show i < xs.length by omega)])
    rwa [add_plain] at this
  · refine h.free hv i ?_
    obtain ⟨A, c, he, hc⟩ := h.slice
    rw [hv] at he
    injection he with _ _ he
    omega
/-- A store into one of its places. -/
theorem Row.store {xs : List Value} (h : Row w base e size v n xs) {g off cap : Nat} (hv : v = .slice (some ⟨g, off, none⟩) n cap) (i : Nat) (hi : i < n * size) (y : Value) :
    Row (w.setCell ⟨g, off + i, none⟩ y) base e size v n (xs.set i y) ∧ w.grownBy (w.setCell ⟨g, off + i, none⟩ y) (some g) := by
  refine ⟨⟨by simpa using h.1, ?_⟩, ⟨rfl, rfl, rfl, by simp [World.setCell], fun k hk hne => Below.heap_setCell _ _ _ _ (by simpa using fun e => hne (by simp [e]))⟩⟩
  rcases h.2 with ⟨rfl, _⟩ | ⟨g', off', cap', cur, fr, rfl, hb, hgg, hc, hm, hs, hf, htake⟩
  · cases hv
  · injection hv with hv _ hcc
    injection hv with hv
    injection hv with hb' ho
    subst hb'; subst ho; subst hcc
    refine .inr ⟨g', off', cap', cur.setIfInBounds (off' + i) y, fr, rfl, hb, ?_, hc, hm, by simpa using hs, hf, ?_⟩
    · have hlt : g' < w.heap.size := (Array.getElem?_eq_some_iff.1 hgg).1
      have hval : w.heap[g'] = .cells cur e fr := (Array.getElem?_eq_some_iff.1 hgg).2
      simp [World.setCell, Array.getElem?_modify, hgg]
    · rw [← htake, Array.toList_setIfInBounds]
      apply List.ext_getElem?
      intro j
      have hsz : off' + n * size ≤ cur.toList.length := by
        have := Nat.mul_le_mul_right size hc
        simp only [Array.length_toList]
        omega
      simp only [List.getElem?_take, List.getElem?_drop, List.getElem?_set, List.length_take, List.length_drop]
      by_cases hj : j < n * size
      · by_cases hij : i = j
        · subst hij
          simp only [hj, if_true]
          rw [if_pos (by omega), if_pos (by omega)]
        · rw [if_pos hj, if_neg (by omega), if_neg hij, if_pos hj]
      · rw [if_neg hj]
        by_cases hij : i = j
        · omega
        · rw [if_neg hij, if_neg hj]
/-- A part of it, from i to j. -/
theorem Row.part (h : Row w base e size v n xs) {g off cap : Nat} (hv : v = .slice (some ⟨g, off, none⟩) n cap) (i j : Nat) (hij : i ≤ j) (hj : j ≤ n) :
    Row w base e size (.slice (some ⟨g, off + i * size, none⟩) (j - i) (cap - i)) (j - i) ((xs.drop (i * size)).take ((j - i) * size)) := by
  have hl := h.1
  have hjs : j * size ≤ n * size := Nat.mul_le_mul_right _ hj
  have his : i * size ≤ j * size := Nat.mul_le_mul_right _ hij
  have hd : (j - i) * size = j * size - i * size := Nat.sub_mul ..
  refine ⟨by rw [List.length_take, List.length_drop]; omega, ?_⟩
  rcases h.2 with ⟨rfl, _⟩ | ⟨g', off', cap', cur, fr, rfl, hb, hgg, hc, hm, hs, hf, htake⟩
  · cases hv
  · injection hv with hv _ hcc
    injection hv with hv
    injection hv with hb' ho
    subst hb'; subst ho; subst hcc
    have hcs : (cap' - i) * size = cap' * size - i * size := Nat.sub_mul ..
    have hcc : n * size ≤ cap' * size := Nat.mul_le_mul_right _ hc
    refine .inr ⟨g', off' + i * size, cap' - i, cur, fr, rfl, hb, hgg, by omega, by omega, by omega, fun k hk => by have := hf (i * size + k) (by omega); omega, ?_⟩
    rw [← htake, List.drop_take, List.take_take, List.drop_drop]
    congr 1
    omega
end

/-- A slice that is read: element k's one cell holds f k. -/
def Rd (w : World) (A : Option Addr) (n : Nat) (f : Nat → Value) : Prop := ∀ k, k < n → ∃ b off, A = some ⟨b, off, none⟩ ∧ b < w.heap.size ∧ w.cell? ⟨b, off + k, none⟩ = some (f k)
theorem Rd.below {w w' : World} {A : Option Addr} {n : Nat} {f : Nat → Value} (h : Rd w A n f) {B : Nat} (hB : w.heap.size ≤ B) (hb : Below B w w') : Rd w' A n f := by
  intro k hk
  obtain ⟨b, off, rfl, hlt, hc⟩ := h k hk
  exact ⟨b, off, rfl, Nat.lt_of_lt_of_le hlt hb.size, (hb.cell (p := ⟨b, off + k, none⟩) (Nat.lt_of_lt_of_le hlt hB)).trans hc⟩
theorem Rd.drewN {w : World} {A : Option Addr} {n : Nat} {f : Nat → Value} (h : Rd w A n f) (m : Nat) : Rd (w.drewN m) A n f := h
theorem Rd.of_row {w : World} {base : Nat} {e : TypeId} {A : Option Addr} {n c : Nat} {xs : List Value} (h : Row w base e 1 (.slice A n c) n xs) : Rd w A n (fun k => xs.getD k undef) := by
  intro k hk
  obtain ⟨g, off, cap, hv, _, hlt, _, _⟩ := h.form (by omega)
  injection hv with hA
  subst hA
  exact ⟨g, off, rfl, hlt, (h.at_ rfl k hk).1⟩

/-! What comes new -/
theorem Row.made (w : World) (base : Nat) (e : TypeId) (size : Nat) (cur : Array Value) (n cap : Nat) (fr : Nat × Nat) (hb : base ≤ w.heap.size) (hm : cap ≤ maxLen) (hn : n ≤ cap) (hs : cap * size ≤ cur.size) (hf : ∀ i, i < cap * size → ¬ (fr.1 ≤ i ∧ i < fr.2)) :
    Row (w.alloc (.cells cur e fr)) base e size (.slice (some ⟨w.heap.size, 0, none⟩) n cap) n (cur.toList.take (n * size)) :=
  ⟨by have := Nat.mul_le_mul_right size hn; rw [List.length_take, Array.length_toList]; omega,
   .inr ⟨w.heap.size, 0, cap, cur, fr, rfl, hb, heap_alloc_new w _, hn, hm, by omega, fun i hi => by have := hf i hi; omega, by simp⟩⟩
/-- A block that was laid with just these cells. -/
theorem Row.lit (w : World) (base : Nat) (e : TypeId) (size : Nat) (cur : Array Value) (n : Nat) (hb : base ≤ w.heap.size) (hm : n ≤ maxLen) (hs : cur.size = n * size) :
    Row (w.alloc (.cells cur e)) base e size (.slice (some ⟨w.heap.size, 0, none⟩) n n) n cur.toList := by
  have h := Row.made w base e size cur n n (0, 0) hb hm (Nat.le_refl _) (by omega) (fun i _ => by omega)
  rwa [List.take_of_length_le (by simp; omega)] at h
theorem Row.of_owns {w : World} {base : Nat} {e : TypeId} {size : Nat} {v : Value} {n : Nat} {xs : List Value} (h : w.ownsRow base e size v n xs) : Row w base e size v n xs := by
  refine ⟨h.1, ?_⟩
  rcases h.2 with hn | ⟨g, cap, cur, rfl, hb, hg, hc, hm, hs, ht⟩
  · exact .inl hn
  · exact .inr ⟨g, 0, cap, cur, (0, 0), rfl, hb, hg, hc, hm, by omega, fun i _ => by omega, by simpa using ht⟩

/-! append -/
section
variable {P : Program} (w : World)

theorem run_storeCells_free (g o : Nat) (t : TypeId) (fr : Nat × Nat) : ∀ (vs : List Value) (i : Nat) (cur : Array Value) (w : World), w.heap[g]? = some (.cells cur t fr) → o + i + vs.length ≤ cur.size → (∀ v ∈ vs, v.oneCell' = true) → (∀ j, j < vs.length → ¬ (fr.1 ≤ o + i + j ∧ o + i + j < fr.2)) →
    (storeCells ⟨g, o, none⟩ vs i).run P w = .ok () (w.setRow g (cur.toList.take (o + i) ++ vs ++ cur.toList.drop (o + i + vs.length)).toArray)
  | [], i, cur, w, hg, _, _, _ => by
    simp only [storeCells, List.append_nil, List.length_nil, Nat.add_zero, List.take_append_drop, Array.toArray_toList]
    rw [setRow_self w g cur t fr hg]
    rfl
  | v :: rest, i, cur, w, hg, hl, h1, hf => by
    have hi : o + i < cur.size := by simp at hl; omega
    have hcell : w.cell? ⟨g, o + i, none⟩ = some cur[o + i] := by simp [World.cell?, hg, hi]
    have hfr : w.frozen? ⟨g, o + i, none⟩ = false := by
      have := hf 0 (by simp)
      simp only [World.frozen?, hg]
      simpa using this
    have hst : (store ((⟨g, o, none⟩ : Addr).add i) v).run P w = .ok () (w.setRow g (cur.setIfInBounds (o + i) v)) := by
      rw [add_plain, run_store P w _ v _ (h1 v (by simp)), hcell]
      simp [hfr, setCell_eq_setRow w g (o + i) cur t fr v hg]
    have ih := run_storeCells_free g o t fr rest (i + 1) (cur.setIfInBounds (o + i) v) (w.setRow g (cur.setIfInBounds (o + i) v)) (setRow_heap w g cur _ t _ hg) (by simp at hl ⊢; omega) (fun x hx => h1 x (by simp [hx])) (fun j hj => by have := hf (j + 1) (by simp; omega); omega)
    simp only [storeCells, Sem.run_bind, hst, Result.andThen_ok, ih, setRow_setRow]
    congr 3
    have e := list_seg_step cur.toList (o + i) v rest (by simp at hl ⊢; omega)
    simpa [Array.toList_setIfInBounds, Nat.add_assoc] using e

/-- Whatever slice is appended: nil, or its cells are there. -/
def Src (w : World) (size : Nat) (x : Value) (m : Nat) (news : List Value) : Prop :=
  news.length = m * size ∧ ((∃ c, x = .slice none m c) ∧ m = 0 ∨ ∃ a c, x = .slice (some a) m c ∧ ∀ j u, news[j]? = some u → w.cell? (a.add j) = some u)

theorem Row.src {w : World} {base : Nat} {e : TypeId} {size : Nat} {v : Value} {n : Nat} {xs : List Value} (h : Row w base e size v n xs) : Src w size v n xs := by
  refine ⟨h.1, ?_⟩
  rcases h.2 with ⟨rfl, rfl⟩ | ⟨g, off, cap, cur, fr, rfl, _⟩
  · exact .inl ⟨⟨0, rfl⟩, rfl⟩
  · exact .inr ⟨_, cap, rfl, h.cells rfl⟩

theorem run_append_row (base : Nat) (t ty e : TypeId) (size bytes : Nat) (z : Value) (ht : P.underlying t = some (.slice e)) (hinfo : (P.info? e).map (fun i => (i.zero, i.size, i.bytes)) = some (some z, size, bytes))
    (hzs : z.cells.size = size) (hsz : 0 < size) (v : Value) (n : Nat) (xs : List Value) (h : Row w base e size v n xs)
    (x : Value) (m : Nat) (news : List Value) (hx : Src w size x m news) (h1 : ∀ u ∈ news, u.oneCell' = true) (h63 : n + m ≤ maxLen) (hbytes : (n + m) * bytes ≤ 140737488355328) (hbase : base ≤ w.heap.size) :
    ∃ v' w', (Builtin.append_ #[t, t] ty #[v, x]).run P w = .ok v' w' ∧ Row w' base e size v' (n + m) (xs ++ news) ∧ w.grownBy w' v.ownBlock ∧ (v'.ownBlock = v.ownBlock ∨ v'.ownBlock = some w.heap.size) := by
  obtain ⟨i, hi, hzz⟩ := Option.map_eq_some_iff.1 hinfo
  simp only [Prod.mk.injEq] at hzz
  obtain ⟨hz, rfl, rfl⟩ := hzz
  have hsmall : n + m ≤ 9223372036854775807 := by simp only [maxLen] at h63; omega
  have hlen : (xs ++ news).length = (n + m) * i.size := by rw [List.length_append, h.1, hx.1, Nat.add_mul]
  have grown : ∀ (old : Nat) (row : Option Nat),
      Row (w.drew.alloc (.cells (xs.toArray ++ news.toArray ++ Builtin.zeroCells z.cells (grownCap w (n + m) old e - (n + m))) e)) base e i.size
        (.slice (some ⟨w.heap.size, 0, none⟩) (n + m) (grownCap w (n + m) old e)) (n + m) (xs ++ news) ∧
      w.grownBy (w.drew.alloc (.cells (xs.toArray ++ news.toArray ++ Builtin.zeroCells z.cells (grownCap w (n + m) old e - (n + m))) e)) row := by
    intro old row
    have hge := grownCap_ge w (n + m) old e
    have hcm : grownCap w (n + m) old e ≤ maxLen := grownCap_le_maxLen w (n + m) old e h63
    refine ⟨?_, ⟨rfl, rfl, rfl, by simp, fun k hk _ => Below.heap_alloc w.drew _ k hk⟩⟩
    have hc : (xs.toArray ++ news.toArray ++ Builtin.zeroCells z.cells (grownCap w (n + m) old e - (n + m))).size = grownCap w (n + m) old e * i.size := by
      simp only [Array.size_append, List.size_toArray, size_zeroCells, hzs, h.1, hx.1, ← Nat.add_mul]
      congr 1
      omega
    have hr := Row.made w.drew base e i.size (n := n + m) (cap := grownCap w (n + m) old e) (fr := (0, 0)) hbase hcm hge (by omega) (fun i _ => by omega) (cur := xs.toArray ++ news.toArray ++ Builtin.zeroCells z.cells (grownCap w (n + m) old e - (n + m)))
    have hl : (xs.toArray ++ news.toArray ++ Builtin.zeroCells z.cells (grownCap w (n + m) old e - (n + m))).toList.take ((n + m) * i.size) = xs ++ news := by
      simp only [Array.toList_append, List.append_assoc]
      rw [← List.append_assoc, ← hlen]
      exact List.take_left
    rwa [hl] at hr
  obtain ⟨hxl, hxk⟩ := hx
  rcases h.2 with ⟨rfl, rfl⟩ | ⟨g, off, cap, cur, fr, rfl, hbg, hg, hnc, hcm, hcs, hf, htake⟩
  · have hx0 : xs = [] := List.eq_nil_of_length_eq_zero (by simpa using h.1)
    subst hx0
    rcases hxk with ⟨⟨c, rfl⟩, rfl⟩ | ⟨a, c, rfl, hnews⟩
    · have hn : news = [] := List.eq_nil_of_length_eq_zero (by simpa using hxl)
      subst hn
      refine ⟨.slice none 0 0, w, ?_, Row.nil w base e i.size, ⟨rfl, rfl, rfl, Nat.le_refl _, fun _ _ _ => rfl⟩, .inl rfl⟩
      simp [Builtin.append_, run_underlying ht, sizeOf, typeInfo, hi, Builtin.lenOf, Builtin.firstCells]
    · by_cases hm : m = 0
      · subst hm
        have hn : news = [] := List.eq_nil_of_length_eq_zero (by simpa using hxl)
        subst hn
        refine ⟨.slice none 0 0, w, ?_, Row.nil w base e i.size, ⟨rfl, rfl, rfl, Nat.le_refl _, fun _ _ _ => rfl⟩, .inl rfl⟩
        simp [Builtin.append_, run_underlying ht, sizeOf, typeInfo, hi, Builtin.lenOf, Builtin.firstCells, loadCells, loadCellsFrom]
      · have hr := run_append_nil (P := P) w t ty e i z ht hi hz a m c news hxl hnews (by omega) (by omega) (by have hb := hbytes; simp only [Nat.zero_add] at hb; omega)
        have hgr := grown 0 (Value.ownBlock (.slice none 0 0))
        simp only [Nat.zero_add, List.nil_append, Array.empty_append] at hgr ⊢
        exact ⟨_, _, hr, hgr.1, hgr.2, .inr rfl⟩
  · have holds := h.cells (a := ⟨g, off, none⟩) rfl
    rcases hxk with ⟨⟨c, rfl⟩, rfl⟩ | ⟨a, c, rfl, hnews⟩
    · have hn : news = [] := List.eq_nil_of_length_eq_zero (by simpa using hxl)
      subst hn
      refine ⟨_, w, ?_, by simpa using h, ⟨rfl, rfl, rfl, Nat.le_refl _, fun _ _ _ => rfl⟩, .inl rfl⟩
      simp [Builtin.append_, run_underlying ht, sizeOf, typeInfo, hi, Builtin.lenOf, hnc, Builtin.firstCells, storeCells]
    · by_cases hroom : n + m ≤ cap
      · have hfs := run_firstCells_some (P := P) w i.size m a m c news hxl hnews
        have hms : (n + m) * i.size ≤ cap * i.size := Nat.mul_le_mul_right _ hroom
        have hnm : (n + m) * i.size = n * i.size + m * i.size := Nat.add_mul ..
        have hst := run_storeCells_free (P := P) g (off + n * i.size) e fr news 0 cur w hg (by omega) h1 (fun j hj => by have := hf (n * i.size + j) (by omega); omega)
        simp only [Nat.add_zero] at hst
        refine ⟨.slice (some ⟨g, off, none⟩) (n + m) cap, w.setRow g (cur.toList.take (off + n * i.size) ++ news ++ cur.toList.drop (off + n * i.size + news.length)).toArray, ?_, ⟨hlen, .inr ⟨g, off, cap, _, fr, rfl, hbg, setRow_heap w g cur _ e _ hg, hroom, hcm, ?_, hf, ?_⟩⟩, ⟨rfl, rfl, rfl, by simp, fun k _ hk => setRow_other w g k _ (fun e => hk (by simp [Value.ownBlock, e]))⟩, .inl rfl⟩
        · simp [Builtin.append_, run_underlying ht, sizeOf, typeInfo, hi, Builtin.lenOf, hroom, hfs, add_plain, hst]
        · simp only [List.size_toArray, List.length_append, List.length_take, List.length_drop, Array.length_toList]
          omega
        · have htk : cur.toList.take (off + n * i.size) = cur.toList.take off ++ xs := by
            rw [List.take_add, htake]
          have hlo : (cur.toList.take off).length = off := by rw [List.length_take, Array.length_toList]; omega
          simp only [htk, List.append_assoc]
          rw [List.drop_append_of_le_length (by omega), List.drop_of_length_le (by omega), List.nil_append, ← List.append_assoc, ← hlen]
          exact List.take_left
      · have hr := run_append_grow (P := P) w t ty e i z ht hi hz ⟨g, off, none⟩ n cap xs h.1 holds a m c news hxl hnews (by omega) (by omega) (growslice_fits (by omega) hbytes)
        have hgr := grown cap (Value.ownBlock (.slice (some ⟨g, off, none⟩) n cap))
        exact ⟨_, _, hr, hgr.1, hgr.2, .inr rfl⟩
end

section
variable {P : Program} {ops : Array Oper} {rest : List Oper} {o : Oper} {a : Act} {Q : Exit → Act → World → Prop}
/-- append(s, x...) -/
theorem wpList_append_row {W w0 : World} (base : Nat) (hgd : o.guard = none) (s x : Operand) (t e : TypeId) (size bytes : Nat) (z : Value)
    (ho : o.op = .call { callee := .builtin .append, args := #[s, x], argTypes := #[t, t] })
    (ht : P.underlying t = some (.slice e)) (hinfo : (P.info? e).map (fun i => (i.zero, i.size, i.bytes)) = some (some z, size, bytes)) (hzs : z.cells.size = size) (hsz : 0 < size)
    (v : Value) (n : Nat) (xs : List Value) (y : Value) (m : Nat) (ys : List Value) (hs : a.eval s = v) (hx : a.eval x = y)
    (HR : Row W base e size v n xs) (HS : Src W size y m ys) (h1 : ∀ u ∈ ys, u.oneCell' = true) (HB : Below base w0 W) (hbase : base ≤ W.heap.size) (hl : (n + m) * bytes ≤ 140737488355328) (hm : n + m ≤ maxLen)
    (h : ∀ v1 w1, Row w1 base e size v1 (n + m) (xs ++ ys) → Below base w0 w1 → W.grownBy w1 v.ownBlock → (v1.ownBlock = v.ownBlock ∨ v1.ownBlock = some W.heap.size) → wpList P ops Q rest (a.put o.dst v1) w1) :
    wpList P ops Q (o :: rest) a W := by
  obtain ⟨v1, w1, hr, h2, h3, h4⟩ := run_append_row (P := P) W base t o.type e size bytes z ht hinfo hzs hsz v n xs HR y m ys HS h1 hm hl hbase
  refine wpList_plain hgd fun K hK => ?_
  unfold Oper.wp execOp
  simp only [ho, resolve, invoke, builtin, Sem.run_bind, Sem.run_pure, Result.andThen_ok, List.map_toArray, List.map_cons, List.map_nil, hs, hx, hr]
  exact hK _ _ (h v1 w1 h2 (HB.grown h3 hbase (fun k hk => (HR.blk k hk).1)) h3 h4)

/-- append(s, x) of one element: its cells were laid as a block just before. -/
theorem wpList_append_one {W w0 : World} (base : Nat) (hgd : o.guard = none) (s x : Operand) (t e : TypeId) (size bytes : Nat) (z : Value)
    (ho : o.op = .call { callee := .builtin .append, args := #[s, x], argTypes := #[t, t] })
    (ht : P.underlying t = some (.slice e)) (hinfo : (P.info? e).map (fun i => (i.zero, i.size, i.bytes)) = some (some z, size, bytes)) (hzs : z.cells.size = size) (hsz : 0 < size)
    (v : Value) (n : Nat) (xs : List Value) (ys : Array Value) (hys : ys.size = size) (hs : a.eval s = v) (hx : a.eval x = .slice (some ⟨W.heap.size, 0, none⟩) 1 1)
    (HR : Row W base e size v n xs) (h1 : ∀ u ∈ ys.toList, u.oneCell' = true) (HB : Below base w0 W) (hbase : base ≤ W.heap.size) (hl : (n + 1) * bytes ≤ 140737488355328) (hm : n + 1 ≤ maxLen)
    (h : ∀ v1 w1, Row w1 base e size v1 (n + 1) (xs ++ ys.toList) → Below base w0 w1 → W.grownBy w1 v.ownBlock → (v1.ownBlock = v.ownBlock ∨ ∃ b, v1.ownBlock = some b ∧ W.heap.size ≤ b) → wpList P ops Q rest (a.put o.dst v1) w1) :
    wpList P ops Q (o :: rest) a (W.alloc (.cells ys e)) := by
  have HS : Src (W.alloc (.cells ys e)) size (.slice (some ⟨W.heap.size, 0, none⟩) 1 1) 1 ys.toList := by
    refine ⟨by simpa using hys, .inr ⟨_, 1, rfl, fun j u hu => ?_⟩⟩
    rw [add_plain, cell_of_row _ W.heap.size (0 + j) ys e (0, 0) (heap_alloc_new W _)]
    simpa using hu
  refine wpList_append_row (w0 := w0) base hgd s x t e size bytes z ho ht hinfo hzs hsz v n xs _ 1 ys.toList hs hx (HR.alloc _) HS h1 (HB.alloc hbase _) (by simp; omega) hl hm ?_
  intro v1 w1 hr hb hg hat
  refine h v1 w1 hr hb (World.grownBy.trans (World.grownBy_alloc W _ _) hg) ?_
  rcases hat with hat | hat
  · exact .inl hat
  · exact .inr ⟨_, hat, by simp⟩
end


/-! make([]T, n) -/
theorem madeCells_list (z : Value) (n : Nat) : (madeCells #[z] n).toList = List.replicate n z := by
  apply List.ext_getElem
  · simp [madeCells]
  · intro i h1 h2
    simp [madeCells, Nat.mod_one]
theorem Row.zeros (w : World) (base : Nat) (e : TypeId) (z : Value) (n : Nat) (hb : base ≤ w.heap.size) (hm : n ≤ maxLen) :
    Row (w.alloc (.cells (madeCells #[z] n) e)) base e 1 (.slice (some ⟨w.heap.size, 0, none⟩) n n) n (List.replicate n z) := by
  have h := Row.lit w base e 1 (madeCells #[z] n) n hb hm (by simp [size_madeCells])
  rwa [madeCells_list] at h

/-! bytes and strings -/
def bytesV (l : List UInt8) : List Value := l.map fun b => .int .u8 (b.toNat : Int)
theorem bytesV_length (l : List UInt8) : (bytesV l).length = l.length := by simp [bytesV]
theorem bytesV_append (l m : List UInt8) : bytesV (l ++ m) = bytesV l ++ bytesV m := by simp [bytesV]
theorem bytesV_one (l : List UInt8) : ∀ u ∈ bytesV l, u.oneCell' = true := by
  intro u hu
  simp only [bytesV, List.mem_map] at hu
  obtain ⟨b, _, rfl⟩ := hu
  rfl
/-- A byte of it, read and written. -/
theorem Row.byteAt {w : World} {base n g cap : Nat} {e : TypeId} {l : List UInt8} (h : Row w base e 1 (.slice (some ⟨g, 0, none⟩) n cap) n (bytesV l)) (i : Nat) (hi : i < l.length) :
    w.cell? ⟨g, i, none⟩ = some (.int .u8 (l[i].toNat : Int)) ∧ w.frozen? ⟨g, i, none⟩ = false := by
  have hl : l.length = n := by have := h.1; rw [bytesV_length] at this; omega
  have h1 := h.at_ rfl i (by omega)
  rw [Nat.zero_add] at h1
  refine ⟨h1.1.trans ?_, h1.2⟩
  simp [bytesV, List.getD_eq_getElem?_getD, List.getElem?_eq_getElem hi]
theorem Row.byteSet {w : World} {base n g cap : Nat} {e : TypeId} {l : List UInt8} (h : Row w base e 1 (.slice (some ⟨g, 0, none⟩) n cap) n (bytesV l)) (i : Nat) (hi : i < l.length) (x : UInt8) :
    Row (w.setCell ⟨g, i, none⟩ (.int .u8 (x.toNat : Int))) base e 1 (.slice (some ⟨g, 0, none⟩) n cap) n (bytesV (l.set i x)) ∧ Below base w (w.setCell ⟨g, i, none⟩ (.int .u8 (x.toNat : Int))) := by
  have hl : l.length = n := by have := h.1; rw [bytesV_length] at this; omega
  have h1 := h.store rfl i (by omega) (.int .u8 (x.toNat : Int))
  rw [Nat.zero_add] at h1
  have hg : base ≤ g := by
    rcases h.2 with ⟨h, _⟩ | ⟨g', off, cap', cur, fr, hv, hb, _⟩
    · cases h
    · injection hv with hv; injection hv with hv; injection hv with hv; omega
  refine ⟨?_, (Below.refl _ _).setCell hg _⟩
  have e1 : bytesV (l.set i x) = (bytesV l).set i (.int .u8 (x.toNat : Int)) := by simp [bytesV, List.map_set]
  rw [e1]
  exact h1.1
theorem bytesV_zeros (n : Nat) : List.replicate n (Value.int .u8 0) = bytesV (List.replicate n 0) := by simp [bytesV]
theorem data_len (s : ByteArray) : s.data.toList.length = s.size := by rw [Array.length_toList]; rfl
/-- []byte(s) -/
theorem Row.ofString (w : World) (base : Nat) (e : TypeId) (s : ByteArray) (hb : base ≤ w.heap.size) (hs : s.size ≤ 9223372036854775807) :
    Row (Lib.bytesWorld w e s) base e 1 (.slice (some ⟨w.heap.size, 0, none⟩) s.size (grownCap w s.size 0 e)) s.size (bytesV s.data.toList) := by
  have hge := grownCap_ge w s.size 0 e
  have hcm := grownCap_le_maxLen w s.size 0 e (by simpa [maxLen] using hs)
  have hsz : (Lib.bytesCells w e s).size = grownCap w s.size 0 e := by
    simp only [Lib.bytesCells, Array.size_append, Array.size_map, Array.size_replicate]
    have : s.data.size = s.size := rfl
    omega
  refine ⟨by rw [bytesV_length, data_len]; omega, .inr ⟨_, 0, _, _, _, rfl, hb, Lib.bytesWorld_at_new w e s, hge, hcm, by omega, fun i hi => by simp only []; omega, ?_⟩⟩
  simp only [Lib.bytesCells, Array.toList_append, Array.toList_map, List.drop_zero, Nat.mul_one]
  rw [List.take_append_of_le_length (by simp), List.take_of_length_le (by simp)]
  rfl
theorem below_ofString {B : Nat} {w0 w : World} (h : Below B w0 w) (hB : B ≤ w.heap.size) (e : TypeId) (s : ByteArray) : Below B w0 (Lib.bytesWorld w e s) :=
  h.trans ⟨rfl, rfl, rfl, by rw [Lib.bytesWorld_size]; omega, fun i hi => Lib.bytesWorld_at_old w e s i (by omega)⟩
theorem grownBy_ofString (w : World) (e : TypeId) (s : ByteArray) (row : Option Nat) : w.grownBy (Lib.bytesWorld w e s) row :=
  ⟨rfl, rfl, rfl, by rw [Lib.bytesWorld_size]; omega, fun i hi _ => Lib.bytesWorld_at_old w e s i hi⟩
/-- string(v) -/
theorem Row.toString {P : Program} {w : World} {base n : Nat} {e' src dst e : TypeId} {v : Value} {l : List UInt8} (hs : P.underlying src = some (.slice e)) (he : P.underlying e = some (.int .u8)) (hd : P.underlying dst = some .string)
    (h : Row w base e' 1 v n (bytesV l)) : (convert src dst v).run P w = .ok (.string ⟨l.toArray⟩) w := by
  have hl : l.length = n := by have := h.1; rw [bytesV_length] at this; omega
  have hstr : strOfNums (l.map fun b => (b.toNat : Int)) = ⟨l.toArray⟩ := by
    have e : (l.map fun b => (b.toNat : Int)).map (fun n => UInt8.ofNat n.toNat) = l := by
      rw [List.map_map]
      exact (List.map_congr_left fun b _ => by simp).trans (List.map_id l)
    show (⟨((l.map fun b => (b.toNat : Int)).map fun n => UInt8.ofNat n.toNat).toArray⟩ : ByteArray) = _
    rw [e]
  rcases h.2 with ⟨rfl, rfl⟩ | ⟨g, off, cap, cur, fr, rfl, _⟩
  · obtain rfl : l = [] := List.eq_nil_of_length_eq_zero hl
    exact run_convert_bytes_nil w src e hs he 0 0 dst hd
  · rw [← hstr]
    refine run_convert_bytes_arg w src e hs he g off n cap _ (by simpa using hl) (fun i hi => ?_) dst hd
    have hc := h.cells (a := ⟨g, off, none⟩) rfl i (.int .u8 ((l.map fun b => (b.toNat : Int)).getD i 0)) (by
      simp [bytesV, List.getD_eq_getElem?_getD, List.getElem?_eq_getElem (show i < l.length by omega)])
    rwa [add_plain] at hc
end Go.Proofs.Ytffdpmejilmnnaa
namespace Go.Proofs.Ytffdpmejilmnnaa
open Go.RowKit

def intsV (l : List Int) : List Value := l.map fun i => .int .i64 i
def strsV (l : List ByteArray) : List Value := l.map fun s => .string s
theorem intsV_append (l m : List Int) : intsV (l ++ m) = intsV l ++ intsV m := by simp [intsV]
theorem strsV_append (l m : List ByteArray) : strsV (l ++ m) = strsV l ++ strsV m := by simp [strsV]
theorem intsV_length (l : List Int) : (intsV l).length = l.length := by simp [intsV]
theorem strsV_length (l : List ByteArray) : (strsV l).length = l.length := by simp [strsV]
theorem intsV_one (l : List Int) : ∀ u ∈ intsV l, u.oneCell' = true := by
  intro u hu
  simp only [intsV, List.mem_map] at hu
  obtain ⟨b, _, rfl⟩ := hu
  rfl
theorem strsV_one (l : List ByteArray) : ∀ u ∈ strsV l, u.oneCell' = true := by
  intro u hu
  simp only [strsV, List.mem_map] at hu
  obtain ⟨b, _, rfl⟩ := hu
  rfl
theorem Rd.congr {w : World} {A : Option Addr} {len : Nat} {f g : Nat → Value} (h : Rd w A len f) (e : ∀ i, i < len → f i = g i) : Rd w A len g := by
  intro k hk
  obtain ⟨b, off, h1, h2, h3⟩ := h k hk
  exact ⟨b, off, h1, h2, by rw [h3, e k hk]⟩
/-- What is handed in may be appended. -/
theorem Src.of_rd {w : World} {A : Option Addr} {len cap : Nat} {f : Nat → Value} (h : Rd w A len f) : Src w 1 (.slice A len cap) len ((List.range len).map f) := by
  refine ⟨by simp, ?_⟩
  rcases A with _ | a
  · by_cases h0 : len = 0
    · exact .inl ⟨⟨cap, rfl⟩, h0⟩
    · obtain ⟨b, off, hA, _⟩ := h 0 (by omega)
      cases hA
  · refine .inr ⟨a, cap, rfl, fun j u hu => ?_⟩
    by_cases hj : j < len
    · obtain ⟨b, off, hA, _, hc⟩ := h j hj
      injection hA with hA
      subst hA
      rw [add_plain, hc]
      simpa [hj] using hu
    · rw [List.getElem?_eq_none (by simp; omega)] at hu
      cases hu
/-- A row is a slice that is read. -/
theorem Row.read {w : World} {base : Nat} {e : TypeId} {v : Value} {n : Nat} {xs : List Value} (h : Row w base e 1 v n xs) : ∃ A c, v = .slice A n c ∧ n ≤ c ∧ c ≤ maxLen ∧ Rd w A n (fun k => xs.getD k undef) := by
  have h2 : ∃ A c, v = .slice A n c ∧ n ≤ c ∧ c ≤ maxLen := by
    rcases h.2 with ⟨rfl, rfl⟩ | ⟨g, off, cap, cur, fr, rfl, hb, hg, hc, hm, _⟩
    · exact ⟨none, 0, rfl, Nat.le_refl _, Nat.zero_le _⟩
    · exact ⟨_, cap, rfl, hc, hm⟩
  obtain ⟨A, c, rfl, h3, h4⟩ := h2
  exact ⟨A, c, rfl, h3, h4, Rd.of_row h⟩
theorem Row.readInts {w : World} {base : Nat} {e : TypeId} {v : Value} {n : Nat} {l : List Int} (h : Row w base e 1 v n (intsV l)) : ∃ A c, v = .slice A n c ∧ n = l.length ∧ n ≤ c ∧ c ≤ 9223372036854775807 ∧ Rd w A n (fun k => .int .i64 (l.getD k 0)) := by
  have hl : l.length = n := by have := h.1; rw [intsV_length] at this; omega
  obtain ⟨A, c, rfl, h3, h4, h5⟩ := h.read
  refine ⟨A, c, rfl, hl.symm, h3, h4, h5.congr fun i hi => ?_⟩
  simp [intsV, List.getD_eq_getElem?_getD, List.getElem?_eq_getElem (show i < l.length by omega)]
theorem Row.readStrs {w : World} {base : Nat} {e : TypeId} {v : Value} {n : Nat} {l : List ByteArray} (h : Row w base e 1 v n (strsV l)) : ∃ A c, v = .slice A n c ∧ n = l.length ∧ n ≤ c ∧ c ≤ 9223372036854775807 ∧ Rd w A n (fun k => .string (l.getD k ByteArray.empty)) := by
  have hl : l.length = n := by have := h.1; rw [strsV_length] at this; omega
  obtain ⟨A, c, rfl, h3, h4, h5⟩ := h.read
  refine ⟨A, c, rfl, hl.symm, h3, h4, h5.congr fun i hi => ?_⟩
  simp [strsV, List.getD_eq_getElem?_getD, List.getElem?_eq_getElem (show i < l.length by omega)]
theorem range_getD_ints (l : List Int) : (List.range l.length).map (fun i => Value.int .i64 (l.getD i 0)) = intsV l := by
  apply List.ext_getElem
  · simp [intsV]
  · intro i h1 h2
    simp only [List.length_map, List.length_range] at h1
    simp [intsV, List.getD_eq_getElem?_getD, List.getElem?_eq_getElem h1]
theorem range_getD_strs (l : List ByteArray) : (List.range l.length).map (fun i => Value.string (l.getD i ByteArray.empty)) = strsV l := by
  apply List.ext_getElem
  · simp [strsV]
  · intro i h1 h2
    simp only [List.length_map, List.length_range] at h1
    simp [strsV, List.getD_eq_getElem?_getD, List.getElem?_eq_getElem h1]
/-- One cell that is read, in all later worlds. -/
theorem Rd.cells {w : World} {A : Option Addr} {n : Nat} {f : Nat → Value} (h : Rd w A n f) {k : Nat} (hk : k < n) : ∃ b off, A = some ⟨b, off, none⟩ ∧ ∀ B wz, w.heap.size ≤ B → Below B w wz → wz.cell? ⟨b, off + k, none⟩ = some (f k) := by
  obtain ⟨b, off, h1, h2, h3⟩ := h k hk
  exact ⟨b, off, h1, fun B wz hB hz => (hz.cell (p := ⟨b, off + k, none⟩) (Nat.lt_of_lt_of_le h2 hB)).trans h3⟩
theorem infoInt : (Try.prog.info? 3).map (fun i => (i.zero, i.size, i.bytes)) = some (some (.int .i64 0), 1, 8) := by kernel_rfl
theorem infoU8 : (Try.prog.info? 5).map (fun i => (i.zero, i.size, i.bytes)) = some (some (.int .u8 0), 1, 1) := by kernel_rfl
theorem infoStr : (Try.prog.info? 9).map (fun i => (i.zero, i.size, i.bytes)) = some (some (.string ByteArray.empty), 1, 16) := by kernel_rfl

section
variable {P : Program} {ops : Array Oper} {o : Oper} {a : Act} {K : Act → World → Prop} {Q : Exit → Act → World → Prop} {E : Prop}
/-- append(s, x...) as one step of a region that draws its order. -/
theorem step_append_row {W w0 : World} (base : Nat) (hgd : o.guard = none) (s x : Operand) (t e : TypeId) (size bytes : Nat) (z : Value)
    (ho : o.op = .call { callee := .builtin .append, args := #[s, x], argTypes := #[t, t] })
    (ht : P.underlying t = some (.slice e)) (hinfo : (P.info? e).map (fun i => (i.zero, i.size, i.bytes)) = some (some z, size, bytes)) (hzs : z.cells.size = size) (hsz : 0 < size)
    (v : Value) (n : Nat) (xs : List Value) (y : Value) (m : Nat) (ys : List Value) (hs : a.eval s = v) (hx : a.eval x = y)
    (HR : Row W base e size v n xs) (HS : Src W size y m ys) (h1 : ∀ u ∈ ys, u.oneCell' = true) (HB : Below base w0 W) (hbase : base ≤ W.heap.size) (hl : (n + m) * bytes ≤ 140737488355328) (hm : n + m ≤ maxLen)
    (h : ∀ v1 w1, Row w1 base e size v1 (n + m) (xs ++ ys) → Below base w0 w1 → W.grownBy w1 v.ownBlock → (v1.ownBlock = v.ownBlock ∨ v1.ownBlock = some W.heap.size) → K (a.put o.dst v1) w1) :
    if Region.wanted o (yielded ops a.tmps) = true then Oper.wp P o a W K Q else E := by
  obtain ⟨v1, w1, hr, h2, h3, h4⟩ := run_append_row (P := P) W base t o.type e size bytes z ht hinfo hzs hsz v n xs HR y m ys HS h1 hm hl hbase
  have hw : Region.wanted o (yielded ops a.tmps) = true := by simp [Region.wanted, hgd]
  rw [if_pos hw]
  unfold Oper.wp execOp
  simp only [ho, resolve, invoke, builtin, Sem.run_bind, Sem.run_pure, Result.andThen_ok, List.map_toArray, List.map_cons, List.map_nil, hs, hx, hr]
  exact h v1 w1 h2 (HB.grown h3 hbase (fun k hk => (HR.blk k hk).1)) h3 h4
end
/-- s[:j] and s[j:] of a slice that has a block. -/
theorem cut_to {P : Program} (t e : TypeId) (ht : P.underlying t = some (.slice e)) (hsz : (P.info? e).map (·.size) = some 1) (b off n c j : Nat) (hj : j ≤ c) (W : World) :
    (Instr.slice t (.slice (some ⟨b, off, none⟩) n c) none (some (.int .i64 (j : Int))) none).run P W = .ok (.slice (some ⟨b, off, none⟩) j c) W := by
  obtain ⟨i, hi, hsz⟩ := Option.map_eq_some_iff.1 hsz
  have he : P.elem t = e := by simp [Program.elem, ht]
  rw [run_slice_h W t (some ⟨b, off, none⟩) n c (by rw [he]; exact ht) .i64 j (by omega) (by omega)]
  simp [sizeOf, typeInfo, he, hi, sliced, Addr.add]
theorem cut_from {P : Program} (t e : TypeId) (ht : P.underlying t = some (.slice e)) (hsz : (P.info? e).map (·.size) = some 1) (b off n c j : Nat) (hj : j ≤ n) (W : World) :
    (Instr.slice t (.slice (some ⟨b, off, none⟩) n c) (some (.int .i64 (j : Int))) none none).run P W = .ok (.slice (if c = j then some ⟨b, off, none⟩ else some ⟨b, off + j, none⟩) (n - j) (c - j)) W := by
  obtain ⟨i, hi, hsz⟩ := Option.map_eq_some_iff.1 hsz
  have he : P.elem t = e := by simp [Program.elem, ht]
  rw [run_slice_l W t (some ⟨b, off, none⟩) n c (by rw [he]; exact ht) .i64 j (by omega) (by omega)]
  simp [sizeOf, typeInfo, he, hi, sliced, add_plain, hsz]
end Go.Proofs.Ytffdpmejilmnnaa
namespace Go.Proofs.Ytffdpmejilmnnaa.Once

theorem disable (w : World) : (callFunc 80 #[]).run Try.prog w = .ok (.value (.tuple #[])) w := run_call_mark0 Try.func80 (by kernel_rfl) (by kernel_rfl) (by kernel_rfl) .disable (by kernel_rfl) w
theorem enable (w : World) : (callFunc 82 #[]).run Try.prog w = .ok (.value (.tuple #[])) w := run_call_mark0 Try.func82 (by kernel_rfl) (by kernel_rfl) (by kernel_rfl) .enable (by kernel_rfl) w
theorem acquire (a : Addr) (w : World) : (callFunc 83 #[.pointer (some a)]).run Try.prog w = .ok (.value (.tuple #[])) w := run_call_marked Try.func83 (by kernel_rfl) (by kernel_rfl) (by kernel_rfl) .acquire (by kernel_rfl) a w
theorem releaseMerge (a : Addr) (w : World) : (callFunc 85 #[.pointer (some a)]).run Try.prog w = .ok (.value (.tuple #[])) w := run_call_marked Try.func85 (by kernel_rfl) (by kernel_rfl) (by kernel_rfl) .releaseMerge (by kernel_rfl) a w

set_option maxRecDepth 20000 in
/-- Bool.Store(true), entered as a deferred call: the cell holds 1. -/
theorem store_deferred (a : Addr) (x : Value) (u : FrameMode) (w : World) (hc : w.cell? a = some x) (hz : w.frozen? a = false) :
    CallsD Try.prog 56 #[.pointer (some a), .bool true] u w fun e u' w' => u' = u ∧ (e = .returned (.tuple #[]) ∧ w' = w.drew.setCell a (.int .u32 1)) := by
  have hc' : w.drew.cell? a = some x := by go_simp
  have hz' : w.drew.frozen? a = false := by go_simp
  have hst := run_call_store (P := Try.prog) Try.func70 (by kernel_rfl) (by kernel_rfl) (by kernel_rfl) (by kernel_rfl) (k := .u32) (y := 1) hc' hz'
  go_enter_d Try.func56, Try.ntmps56
  go_wp2
  go_region_calls
  all_goals (go_end0; exact ⟨rfl, rfl⟩)

set_option maxRecDepth 20000 in
/-- Mutex.Unlock, entered as a deferred call, the lock held and nobody waiting (state 1): state 0. -/
theorem unlock_deferred (a : Addr) (u : FrameMode) (w : World) (hc : w.cell? a = some (.int .i32 1)) (hz : w.frozen? a = false) :
    CallsD Try.prog 55 #[.pointer (some a)] u w fun e u' w' => u' = u ∧ (e = .returned (.tuple #[]) ∧ w' = w.setCell a (.int .i32 0)) := by
  have hd := disable
  have he := enable
  have hr := releaseMerge
  have hadd := run_call_add (P := Try.prog) Try.func86 (by kernel_rfl) (by kernel_rfl) (by kernel_rfl) .i32 (by kernel_rfl) (y := -1) (s := 0) hc hz (by simp [go_sem]; rfl)
  have hcv := run_convert_to_unsafe (P := Try.prog) (src := 131) (dst := 135) Try.underlying131 Try.underlying135 (by kernel_rfl) hc
  go_enter_d Try.func55, Try.ntmps55
  go_wp2
  go_end0
  go_wp2
  go_end0
  exact ⟨rfl, rfl⟩

set_option maxRecDepth 20000 in
/-- Mutex.Lock, the lock free (state 0): state 1. -/
theorem lock_free (a : Addr) (w : World) (hc : w.cell? a = some (.int .i32 0)) (hz : w.frozen? a = false) :
    Calls Try.prog 54 #[.pointer (some a)] w fun e w' => e = .returned (.tuple #[]) ∧ w' = w.setCell a (.int .i32 1) := by
  have hd := disable
  have he := enable
  have ha := acquire
  have hcas := run_call_cas_hit (P := Try.prog) Try.func81 (by kernel_rfl) (by kernel_rfl) (by kernel_rfl) .i32 (by kernel_rfl) (y := 1) hc hz
  have hc' : (w.setCell a (.int .i32 1)).cell? a = some (.int .i32 1) := World.cell?_setCell_same w a _ hc
  have hcv := run_convert_to_unsafe (P := Try.prog) (src := 131) (dst := 135) Try.underlying131 Try.underlying135 (by kernel_rfl) hc'
  go_enter Try.func54, Try.ntmps54
  go_wp2
  first | go_end0 | (simp only [Exit.inBlock, Exit.then]; refine bodyPost_ret (results_none rfl _ _ _) rfl ?_) | refine bodyPost_ret (results_none rfl _ _ _) rfl ?_
  go_wp2
  go_end0
  exact ⟨rfl, rfl⟩

set_option maxRecDepth 20000 in
/-- Bool.Load -/
theorem bool_load (a : Addr) (x : Int) (b : Bool) (w : World) (hc : w.cell? a = some (.int .u32 x)) (hb : (x != 0) = b) :
    Calls Try.prog 42 #[.pointer (some a)] w fun e w' => e = .returned (.bool b) ∧ w' = w := by
  have hl := run_call_load (P := Try.prog) Try.func53 (by kernel_rfl) (by kernel_rfl) (by kernel_rfl) .u32 (by kernel_rfl) hc
  go_enter Try.func42, Try.ntmps42
  go_wp2
  go_ret
  exact ⟨rfl, rfl⟩
set_option maxRecDepth 20000 in
/-- Int64.Add(1) -/
theorem int_add (a : Addr) (x : Int) (w : World) (hc : w.cell? a = some (.int .i64 x)) (hz : w.frozen? a = false) (h0 : 0 ≤ x) (h1 : x ≤ 1000000) :
    Calls Try.prog 76 #[.pointer (some a), .int .i64 1] w fun e w' => e = .returned (.int .i64 (x + 1)) ∧ w' = w.setCell a (.int .i64 (x + 1)) := by
  have hadd := run_call_add (P := Try.prog) Try.func89 (by kernel_rfl) (by kernel_rfl) (by kernel_rfl) .i64 (by kernel_rfl) (y := 1) (s := x + 1) hc hz (by simp [go_sem]; rw [IntKind.wrap_i64]; omega)
  go_enter Try.func76, Try.ntmps76
  go_wp2
  go_ret
  exact ⟨rfl, rfl⟩
end Go.Proofs.Ytffdpmejilmnnaa.Once
namespace Go.Proofs.Ytffdpmejilmnnaa
open Go.RowKit

/-! ### Plain lists -/
theorem set_map_lt {f g : Nat → Value} {m j0 : Nat} {y : Value} (h0 : g j0 = y) (h : ∀ j, j < m → j ≠ j0 → g j = f j) : ((List.range m).map f).set j0 y = (List.range m).map g := by
  apply List.ext_getElem
  · simp
  · intro i h1 h2
    have him : i < m := by simpa using h2
    simp only [List.getElem_set, List.getElem_map, List.getElem_range]
    by_cases e : j0 = i
    · subst e; rw [if_pos rfl, h0]
    · rw [if_neg e, h i him (Ne.symm e)]
def expAt (k i : Nat) : Value := .int .i64 (if i < k ∨ (8191 ≤ i ∧ i < 8191 + k) then (Gf.pw i : Int) else 0)
noncomputable def logAt (k x : Nat) : Value := .int .i64 (if 0 < x ∧ Gf.log x < k then (Gf.log x : Int) else 0)
def expV (k : Nat) : List Value := (List.range 16382).map (expAt k)
noncomputable def logV (k : Nat) : List Value := (List.range 8192).map (logAt k)
theorem expV_length (k : Nat) : (expV k).length = 16382 := by simp [expV]
theorem logV_length (k : Nat) : (logV k).length = 8192 := by simp [logV]
theorem expV_zero : expV 0 = List.replicate 16382 (.int .i64 0) := by
  apply List.ext_getElem
  · rw [List.length_replicate, expV_length]
  · intro i h1 h2
    simp only [expV, expAt, List.getElem_map, List.getElem_range, List.getElem_replicate]
    rw [if_neg (by omega)]
theorem logV_zero : logV 0 = List.replicate 8192 (.int .i64 0) := by
  apply List.ext_getElem
  · rw [List.length_replicate, logV_length]
  · intro i h1 h2
    simp only [logV, logAt, List.getElem_map, List.getElem_range, List.getElem_replicate]
    rw [if_neg (by omega)]
theorem expV_step {k : Nat} (hk : k < 8191) : ((expV k).set k (.int .i64 (Gf.pw k : Int))).set (k + 8191) (.int .i64 (Gf.pw k : Int)) = expV (k + 1) := by
  have h1 : (expV k).set k (.int .i64 (Gf.pw k : Int)) = (List.range 16382).map (fun j => if j = k then .int .i64 (Gf.pw k : Int) else expAt k j) := by
    refine set_map_lt (by simp) (fun j _ hj => by rw [if_neg hj])
  rw [h1]
  refine set_map_lt ?_ (fun j hj hne => ?_)
  · unfold expAt
    rw [if_pos (by omega), Gf.pw_add_order]
  · by_cases e : j = k
    · subst e
      rw [if_pos rfl]
      unfold expAt
      rw [if_pos (by omega)]
    · rw [if_neg e]
      unfold expAt
      by_cases h : j < k ∨ (8191 ≤ j ∧ j < 8191 + k)
      · rw [if_pos h, if_pos (by omega)]
      · rw [if_neg h, if_neg (by omega)]
theorem logV_step {k : Nat} (hk : k < 8191) : (logV k).set (Gf.pw k) (.int .i64 (k : Int)) = logV (k + 1) := by
  have hp := Gf.pw_pos k
  refine set_map_lt ?_ (fun j hj hne => ?_)
  · unfold logAt
    rw [Gf.log_pw hk, if_pos (by omega)]
  · unfold logAt
    by_cases h0 : 0 < j
    · have hl : Gf.log j ≠ k := fun e => hne (by rw [← e, (Gf.log_spec h0 hj).2])
      by_cases h : 0 < j ∧ Gf.log j < k
      · rw [if_pos h, if_pos (by omega)]
      · rw [if_neg h, if_neg (by omega)]
    · rw [if_neg (by omega), if_neg (by omega)]
theorem expV_get {k i : Nat} (h : i < 16382) : (expV k)[i]? = some (expAt k i) := by simp [expV, h]
theorem logV_get {k i : Nat} (h : i < 8192) : (logV k)[i]? = some (logAt k i) := by simp [logV, h]

/-! ### A field in memory: one block of six cells -/
/-- What stands around the field in its block. -/
class Host where
  x0 : Value
  x1 : Value
  x2 : Value
  x3 : Value
  x4 : Value
  x11 : Value
  x12 : Value
def FB [Host] (w : World) (f : Nat) (d s m ev lv p : Value) : Prop := w.heap[f]? = some (.cells #[Host.x0, Host.x1, Host.x2, Host.x3, Host.x4, d, s, m, ev, lv, p, Host.x11, Host.x12] 87)
section
variable {w w' : World} {f : Nat} {d s m ev lv p : Value}
theorem FB.lt [Host] (h : FB w f d s m ev lv p) : f < w.heap.size := (Array.getElem?_eq_some_iff.1 h).1
theorem FB.cell [Host] (h : FB w f d s m ev lv p) {i : Nat} {v : Value} (hv : (#[Host.x0, Host.x1, Host.x2, Host.x3, Host.x4, d, s, m, ev, lv, p, Host.x11, Host.x12] : Array Value)[i]? = some v) : w.cell? ⟨f, i, none⟩ = some v := (cell_of_row w f i _ _ _ h).trans hv
theorem FB.free [Host] (h : FB w f d s m ev lv p) (i : Nat) : w.frozen? ⟨f, i, none⟩ = false := by
  unfold FB at h
  simp only [World.frozen?, h]
  simp
theorem FB.set [Host] (h : FB w f d s m ev lv p) (i : Nat) (v : Value) : (w.setCell ⟨f, i, none⟩ v).heap[f]? = some (.cells ((#[Host.x0, Host.x1, Host.x2, Host.x3, Host.x4, d, s, m, ev, lv, p, Host.x11, Host.x12] : Array Value).setIfInBounds i v) 87) := by
  unfold FB at h
  simp [World.setCell, Array.getElem?_modify, h]
theorem FB.set0 [Host] (h : FB w f d s m ev lv p) (v : Value) : FB (w.setCell ⟨f, 5, none⟩ v) f v s m ev lv p := h.set 5 v
theorem FB.set1 [Host] (h : FB w f d s m ev lv p) (v : Value) : FB (w.setCell ⟨f, 6, none⟩ v) f d v m ev lv p := h.set 6 v
theorem FB.set3 [Host] (h : FB w f d s m ev lv p) (v : Value) : FB (w.setCell ⟨f, 8, none⟩ v) f d s m v lv p := h.set 8 v
theorem FB.set4 [Host] (h : FB w f d s m ev lv p) (v : Value) : FB (w.setCell ⟨f, 9, none⟩ v) f d s m ev v p := h.set 9 v
theorem FB.set5 [Host] (h : FB w f d s m ev lv p) (v : Value) : FB (w.setCell ⟨f, 10, none⟩ v) f d s m ev lv v := h.set 10 v
theorem FB.kept [Host] (h : FB w f d s m ev lv p) {row : Option Nat} (hg : w.grownBy w' row) (hne : some f ≠ row) : FB w' f d s m ev lv p := (hg.block f h.lt hne).trans h
theorem FB.drew [Host] (h : FB w f d s m ev lv p) : FB w.drew f d s m ev lv p := h
theorem grownBy_setCell (w : World) (f i : Nat) (v : Value) : w.grownBy (w.setCell ⟨f, i, none⟩ v) (some f) :=
  ⟨rfl, rfl, rfl, by simp [World.setCell], fun k _ hne => Below.heap_setCell _ _ _ _ (fun e => hne (by rw [e]))⟩
end

abbrev ExpR (w : World) (g k : Nat) : Prop := Row w 0 3 1 (.slice (some ⟨g, 0, none⟩) 16382 16382) 16382 (expV k)
abbrev LogR (w : World) (g k : Nat) : Prop := Row w 0 3 1 (.slice (some ⟨g, 0, none⟩) 8192 8192) 8192 (logV k)
/-- The tables as far as k and j powers; all but the field's own block is as it was. -/
structure TInv [Host] (w0 : World) (f bx : Nat) (d s m p : Value) (ge gl k j : Nat) (w : World) : Prop where
  fb : FB w f d s m (.slice (some ⟨ge, 0, none⟩) 16382 16382) (.slice (some ⟨gl, 0, none⟩) 8192 8192) p
  ex : ExpR w ge k
  lg : LogR w gl j
  box : w.cell? ⟨bx, 0, none⟩ = some (.pointer (some ⟨f, 5, none⟩))
  gr : w0.grownBy w (some f)
  old : w0.heap.size ≤ ge ∧ w0.heap.size ≤ gl ∧ ge ≠ gl ∧ f < w0.heap.size ∧ bx < w0.heap.size ∧ bx ≠ f
theorem TInv.drew [Host] {w0 : World} {f bx : Nat} {d s m p : Value} {ge gl k j : Nat} {w : World} (h : TInv w0 f bx d s m p ge gl k j w) : TInv w0 f bx d s m p ge gl k j w.drew :=
  ⟨h.fb, h.ex.drew, h.lg.drew, h.box, ⟨h.gr.os, h.gr.tape, h.gr.output, h.gr.size, h.gr.block⟩, h.old⟩
theorem cell_setCell_far (w : World) {a b : Nat} (i j : Nat) (v : Value) (h : a ≠ b) : (w.setCell ⟨a, i, none⟩ v).cell? ⟨b, j, none⟩ = w.cell? ⟨b, j, none⟩ := by
  apply World.cell?_setCell_other
  intro e
  injection e with e
  exact h e
/-- One power more. -/
theorem TInv.step1 [Host] {w0 : World} {f bx : Nat} {d s m p : Value} {ge gl k : Nat} {w : World} (h : TInv w0 f bx d s m p ge gl k k w) (hk : k < 8191) :
    TInv w0 f bx d s m p ge gl (k + 1) k ((w.setCell ⟨ge, k, none⟩ (.int .i64 (Gf.pw k : Int))).setCell ⟨ge, k + 8191, none⟩ (.int .i64 (Gf.pw k : Int))) := by
  have o := h.old
  have g1 := grownBy_setCell w ge k (.int .i64 (Gf.pw k : Int))
  have g2 := grownBy_setCell (w.setCell ⟨ge, k, none⟩ (.int .i64 (Gf.pw k : Int))) ge (k + 8191) (.int .i64 (Gf.pw k : Int))
  have e1 := (h.ex.store rfl k (by omega) (.int .i64 (Gf.pw k : Int))).1
  rw [Nat.zero_add] at e1
  have e2 := (e1.store rfl (k + 8191) (by omega) (.int .i64 (Gf.pw k : Int))).1
  rw [Nat.zero_add, expV_step hk] at e2
  refine ⟨(h.fb.kept g1 (by simp; omega)).kept g2 (by simp; omega), e2, h.lg.kept (World.grownBy.trans g1 g2) (.inr (by simp only [Value.ownBlock, ne_eq, Option.some.injEq]; omega)), ?_, ?_, o⟩
  · rw [cell_setCell_far _ _ _ _ (by omega), cell_setCell_far _ _ _ _ (by omega)]
    exact h.box
  · refine World.grownBy.andThen (World.grownBy.andThen h.gr g1 ?_) g2 ?_
    all_goals (intro j hj; injection hj with hj; left; omega)
theorem TInv.step2 [Host] {w0 : World} {f bx : Nat} {d s m p : Value} {ge gl k : Nat} {w : World} (h : TInv w0 f bx d s m p ge gl (k + 1) k w) (hk : k < 8191) :
    TInv w0 f bx d s m p ge gl (k + 1) (k + 1) (w.setCell ⟨gl, Gf.pw k, none⟩ (.int .i64 (k : Int))) := by
  have o := h.old
  have hp := Gf.pw_lt k
  have g3 := grownBy_setCell w gl (Gf.pw k) (.int .i64 (k : Int))
  have e4 := (h.lg.store rfl (Gf.pw k) (by omega) (.int .i64 (k : Int))).1
  rw [Nat.zero_add, logV_step hk] at e4
  refine ⟨h.fb.kept g3 (by simp; omega), h.ex.kept g3 (.inr (by simp only [Value.ownBlock, ne_eq, Option.some.injEq]; omega)), e4, ?_, ?_, o⟩
  · rw [cell_setCell_far _ _ _ _ (by omega)]
    exact h.box
  · refine World.grownBy.andThen h.gr g3 ?_
    intro j hj; injection hj with hj; left; omega
end Go.Proofs.Ytffdpmejilmnnaa
namespace Go.Proofs.Ytffdpmejilmnnaa

theorem i64_toNat {a : Nat} (ha : a < 9223372036854775808) : (BitVec.ofInt 64 (a : Int)).toNat = a := ofInt_u64 a (by omega)
theorem i64_xor_nat {a b : Nat} (ha : a < 9223372036854775808) (hb : b < 9223372036854775808) : bits .xor .i64 (a : Int) (b : Int) = ((a ^^^ b : Nat) : Int) := by
  have hx : a ^^^ b < 2 ^ 63 := Nat.xor_lt_two_pow (by omega) (by omega)
  show IntKind.i64.wrap ((BitVec.ofInt 64 (a : Int) ^^^ BitVec.ofInt 64 (b : Int)).toNat : Int) = _
  rw [BitVec.toNat_xor, i64_toNat ha, i64_toNat hb, IntKind.wrap_i64]
  omega
theorem i64_and_nat {a b : Nat} (ha : a < 9223372036854775808) (hb : b < 9223372036854775808) : bits .and .i64 (a : Int) (b : Int) = ((a &&& b : Nat) : Int) := by
  have hx : a &&& b < 2 ^ 63 := Nat.and_lt_two_pow _ (by omega)
  show IntKind.i64.wrap ((BitVec.ofInt 64 (a : Int) &&& BitVec.ofInt 64 (b : Int)).toNat : Int) = _
  rw [BitVec.toNat_and, i64_toNat ha, i64_toNat hb, IntKind.wrap_i64]
  omega
theorem i64_and8191 (n : Int) : bits .and .i64 n 8191 = n % 8192 := by
  have h127 : (BitVec.ofInt 64 8191).toNat = 2 ^ 13 - 1 := by decide
  have key : (BitVec.ofInt 64 n &&& BitVec.ofInt 64 8191).toNat = (n % ((2 ^ 64 : Nat) : Int)).toNat % 2 ^ 13 := by
    rw [BitVec.toNat_and, BitVec.toNat_ofInt, h127, Nat.and_two_pow_sub_one_eq_mod]
  show IntKind.i64.wrap ((BitVec.ofInt 64 n &&& BitVec.ofInt 64 8191).toNat : Nat) = n % 8192
  rw [key, IntKind.wrap_i64]
  omega
theorem xor_mod (x y n : Nat) : (x ^^^ y) % 2 ^ n = x % 2 ^ n ^^^ y % 2 ^ n := by
  apply Nat.eq_of_testBit_eq
  intro i
  simp only [Nat.testBit_mod_two_pow, Nat.testBit_xor]
  by_cases h : i < n <;> simp [h]
/-- The lowest thirteen bits. -/
def lowN (a : Int) : Nat := (a % 8192).toNat
theorem lowN_lt (a : Int) : lowN a < 8192 := by unfold lowN; omega
theorem lowN_cast (a : Int) : (lowN a : Int) = a % 8192 := by unfold lowN; omega
theorem lowN_nat (a : Nat) : lowN (a : Int) = a % 8192 := by unfold lowN; omega
theorem lowN_of_lt {a : Nat} (h : a < 8192) : lowN (a : Int) = a := by unfold lowN; omega
theorem lowN_xor (a b : Int) : lowN (bits .xor .i64 a b) = lowN a ^^^ lowN b := by
  have e : ∀ z : Int, lowN z = (BitVec.ofInt 64 z).toNat % 2 ^ 13 := fun z => by
    rw [BitVec.toNat_ofInt]
    unfold lowN
    omega
  have e2 : bits .xor .i64 a b = IntKind.i64.wrap ((BitVec.ofInt 64 a ^^^ BitVec.ofInt 64 b).toNat : Int) := rfl
  have e3 : lowN (IntKind.i64.wrap ((BitVec.ofInt 64 a ^^^ BitVec.ofInt 64 b).toNat : Int)) = (BitVec.ofInt 64 a ^^^ BitVec.ofInt 64 b).toNat % 2 ^ 13 := by
    generalize (BitVec.ofInt 64 a ^^^ BitVec.ofInt 64 b).toNat = x
    rw [IntKind.wrap_i64]
    unfold lowN
    omega
  rw [e2, e3, BitVec.toNat_xor, xor_mod, ← e, ← e]
theorem and8191 (a : Int) : bits .and .i64 a 8191 = (lowN a : Int) := by rw [i64_and8191, lowN_cast]
end Go.Proofs.Ytffdpmejilmnnaa
namespace Go.Proofs.Ytffdpmejilmnnaa
open Go.RowKit

theorem makeTab (m : Nat) (h : m ≤ 1000000) (W : World) :
    (Instr.makeSlice 37 (.int .i64 (m : Int)) (.int .i64 (m : Int))).run Try.prog W = .ok (.slice (some ⟨W.heap.size, 0, none⟩) m m) (W.alloc (.cells (madeCells #[.int .i64 0] m) 3)) :=
  run_make_row' 37 3 (.int .i64 0) 8 Try.underlying37 infoInt rfl .i64 .i64 m (by omega) (by omega) W

theorem size_setCell' (w : World) (a : Addr) (v : Value) : (w.setCell a v).heap.size = w.heap.size := by simp [World.setCell]
/-- A new row of noughts, and its slice in the field's block. -/
theorem fill_lay (w : World) (f i n : Nat) (v : Value) (hn : n ≤ 1000000) :
    Row ((w.setCell ⟨f, i, none⟩ v).alloc (.cells (madeCells #[.int .i64 0] n) 3)) 0 3 1 (.slice (some ⟨w.heap.size, 0, none⟩) n n) n (List.replicate n (.int .i64 0)) ∧
    w.grownBy ((w.setCell ⟨f, i, none⟩ v).alloc (.cells (madeCells #[.int .i64 0] n) 3)) (some f) := by
  have h := Row.zeros (w.setCell ⟨f, i, none⟩ v) 0 3 (.int .i64 0) n (Nat.zero_le _) (by simp only [maxLen]; omega)
  rw [size_setCell'] at h
  exact ⟨h, World.grownBy.trans (grownBy_setCell w f i v) (World.grownBy_alloc _ _ _)⟩
theorem grownBy_drew {w w' : World} {row : Option Nat} (h : w.grownBy w' row) : w.grownBy w'.drew row := ⟨h.os, h.tape, h.output, h.size, h.block⟩

set_option maxRecDepth 100000 in
set_option maxHeartbeats 1600000 in
theorem tables_fill [Host] (f bx : Nat) (d s m p : Value) (w : World) (hF : FB w f d s m (.slice none 0 0) (.slice none 0 0) p) (hbx : w.cell? ⟨bx, 0, none⟩ = some (.pointer (some ⟨f, 5, none⟩))) (hne : bx ≠ f) (hlt : bx < w.heap.size) :
    Calls Try.prog 88 #[.pointer (some ⟨bx, 0, none⟩)] w fun e w' => e = .returned (.tuple #[]) ∧ ∃ ge gl, TInv w f bx d s m p ge gl 8191 8191 w' := by
  go_enter Try.func88, Try.ntmps88
  have hf := hF.lt
  have c3 : w.cell? ⟨f, 8, none⟩ = some (.slice none 0 0) := hF.cell (i := 8) rfl
  have z3 := hF.free 8
  have hmk : ∀ W : World, (Instr.makeSlice 37 (.int .i64 16382) (.int .i64 16382)).run Try.prog W = .ok (.slice (some ⟨W.heap.size, 0, none⟩) 16382 16382) (W.alloc (.cells (madeCells #[.int .i64 0] 16382) 3)) := makeTab 16382 (by omega)
  have hmk2 : ∀ W : World, (Instr.makeSlice 37 (.int .i64 8192) (.int .i64 8192)).run Try.prog W = .ok (.slice (some ⟨W.heap.size, 0, none⟩) 8192 8192) (W.alloc (.cells (madeCells #[.int .i64 0] 8192) 3)) := makeTab 8192 (by omega)
  obtain ⟨cE, hcE⟩ : ∃ c, c = madeCells #[Value.int .i64 0] 16382 := ⟨_, rfl⟩
  obtain ⟨cL, hcL⟩ : ∃ c, c = madeCells #[Value.int .i64 0] 8192 := ⟨_, rfl⟩
  rw [← hcE] at hmk
  rw [← hcL] at hmk2
  have HE := Aside.mk (And.intro hcE hcL)
  clear hcE hcL
  go_upto_region 0 with fail
  go_cut [1] (fun _ wx => ∃ ge, w.heap.size ≤ ge ∧ ge < wx.heap.size ∧ FB wx f d s m (.slice (some ⟨ge, 0, none⟩) 16382 16382) (.slice none 0 0) p ∧ ExpR wx ge 0 ∧ w.grownBy wx (some f))
  case first =>
    go_region
    all_goals
      go_wp2
      go_meet
      have h1 := fill_lay w f 8 16382 (.slice (some ⟨w.heap.size, 0, none⟩) 16382 16382) (by omega)
      rw [← HE.out.1, ← expV_zero] at h1
      refine ⟨w.heap.size, Nat.le_refl _, by simp, ((hF.set3 _).kept (World.grownBy_alloc _ _ none) (by simp)).drew, h1.1.drew, grownBy_drew h1.2⟩
  case rest =>
    obtain ⟨ge, hge, hgl, hFB, hE, hgr⟩ := hcut
    have hb2 : wc.cell? ⟨bx, 0, none⟩ = some (.pointer (some ⟨f, 5, none⟩)) := hgr.cell hbx (by simp; omega)
    have hf2 := hFB.lt
    have hlt2 : bx < wc.heap.size := by have := hgr.size; omega
    have c4 : wc.cell? ⟨f, 9, none⟩ = some (.slice none 0 0) := hFB.cell (i := 9) rfl
    have z4 := hFB.free 9
    have HK := Aside.mk (And.intro hFB (And.intro hE (And.intro hgr (And.intro hge hgl))))
    clear c3 z3 hFB hE hgr hge hgl hmk
    go_upto_region 1 with fail
    go_cut [1] (fun _ wx => ∃ gl, TInv w f bx d s m p ge gl 0 0 wx)
    case first =>
      go_region
      all_goals
        go_wp2
        go_meet
        obtain ⟨hFB, hE, hgr, hge, hgl⟩ := HK.out
        have h1 := fill_lay wc f 9 8192 (.slice (some ⟨wc.heap.size, 0, none⟩) 8192 8192) (by omega)
        rw [← HE.out.2, ← logV_zero] at h1
        have hw := hgr.size
        refine ⟨wc.heap.size, ((hFB.set4 _).kept (World.grownBy_alloc _ _ none) (by simp)).drew, (hE.kept h1.2 (.inr (by simp only [Value.ownBlock, ne_eq, Option.some.injEq]; omega))).drew, h1.1.drew, ?_, grownBy_drew (World.grownBy.trans hgr h1.2), hge, by omega, by omega, hf, hlt, hne⟩
        exact h1.2.cell hb2 (by simp; omega)
    case rest =>
      obtain ⟨gl, hI⟩ := hcut
      clear HK hb2 c4 z4 hf2 HE hmk2 hlt2
      go_wp2
      go_loopw [1, 11] (fun s1 s11 wr => ∃ k : Nat, k ≤ 8191 ∧ s11 = .int .i64 k ∧ s1 = .int .i64 (Gf.pw k : Nat) ∧ TInv w f bx d s m p ge gl k k wr) (fun _ s11 _ => 8191 - (intOf s11).toNat)
      case atStart => exact ⟨0, by omega, rfl, rfl, hI⟩
      case round =>
        obtain ⟨k, hk, rfl, rfl, hJ⟩ := hrel
        have hk1 : IntKind.i64.wrap ((k : Int) + 1) = (k : Int) + 1 := by rw [IntKind.wrap_i64]; omega
        have hlp := Gf.pw_lt k
        by_cases hlt2 : k < 8191
        · have o := hJ.old
          obtain ⟨k2, hk2e⟩ : ∃ k2, k2 = k + 8191 := ⟨_, rfl⟩
          have hk2 : IntKind.i64.wrap ((k : Int) + 8191) = (k2 : Int) := by rw [IntKind.wrap_i64]; omega
          have hk3 : (k : Int) < 16382 := by omega
          have hk4 : (k2 : Int) < 16382 := by omega
          have b0 := hJ.box
          have c3 : wr.cell? ⟨f, 8, none⟩ = some (.slice (some ⟨ge, 0, none⟩) 16382 16382) := hJ.fb.cell (i := 8) rfl
          obtain ⟨x1, z1⟩ := hJ.ex.at_ rfl k (by omega)
          obtain ⟨x2, z2⟩ := hJ.ex.at_ rfl k2 (by omega)
          rw [Nat.zero_add] at x1 z1 x2 z2
          have hS := hJ.step1 hlt2
          rw [← hk2e] at hS
          have HS := Aside.mk (And.intro hJ (And.intro hk2e hS))
          obtain ⟨q, hq⟩ : ∃ q, q = Gf.pw k := ⟨_, rfl⟩
          rw [← hq] at HS hlp ⊢
          have HQ := Aside.mk hq
          have hne1 : k ≠ k2 := by omega
          have hk5 : (0 : Int) ≤ (k : Int) := by omega
          have hk6 : (0 : Int) ≤ (k2 : Int) := by omega
          generalize (expV k).getD k undef = y1 at *
          generalize (expV k).getD k2 undef = y2 at *
          clear hJ hS hq o hk2e
          go_upto_region 6 with fail
          go_region
          all_goals
            have hT := HS.out.2.2.drew
            clear HS x1 x2 z1 z2 c3 b0 hk2 hk3 hk4
            generalize ((wr.setCell ⟨ge, k, none⟩ (.int .i64 (q : Int))).setCell ⟨ge, k2, none⟩ (.int .i64 (q : Int))).drew = w5 at *
            have b0 := hT.box
            have c4 : w5.cell? ⟨f, 9, none⟩ = some (.slice (some ⟨gl, 0, none⟩) 8192 8192) := hT.fb.cell (i := 9) rfl
            obtain ⟨x1, z1⟩ := hT.lg.at_ rfl q (by omega)
            rw [Nat.zero_add] at x1 z1
            generalize (logV k).getD q undef = y3 at *
            have hS := hT.step2 hlt2
            rw [← HQ.out] at hS
            have HS := Aside.mk hS
            have hq1 : (0 : Int) ≤ (q : Int) := by omega
            have hq2 : (q : Int) < 8192 := by omega
            clear hT hS
            go_upto_region 8 with fail
            clear b0 c4 x1 z1
            generalize w5.setCell ⟨gl, q, none⟩ (.int .i64 (k : Int)) = w6 at *
            go_upto_region 9 with fail
            have hpq : Gf.pw (k + 1) = Gf.stp q := by rw [HQ.out]; rfl
            have HP := Aside.mk hpq
            clear hpq
            by_cases h8 : 8192 ≤ 2 * q
            · have hx : bits .xor .i64 ((q : Int) * 2) 8219 = ((Gf.stp q : Nat) : Int) := by
                have h := i64_xor_nat (a := 2 * q) (b := 8219) (by omega) (by omega)
                have e : Gf.stp q = 2 * q ^^^ 8219 := by unfold Gf.stp; rw [if_pos h8]
                rw [show (q : Int) * 2 = ((2 * q : Nat) : Int) by omega, e]
                exact h
              have h9 : (8192 : Int) ≤ (q : Int) * 2 := by omega
              clear h8
              go_wp2
              go_roundw
              case rel => exact ⟨k + 1, by omega, by go_num, by rw [HP.out], HS.out⟩
              case measure => simp [intOf]; omega
            · have h9 : ¬ (8192 : Int) ≤ (q : Int) * 2 := by omega
              have hst : Gf.stp q = 2 * q := by unfold Gf.stp; rw [if_neg h8]
              have HT := Aside.mk hst
              clear h8 hst
              go_wp2
              go_roundw
              case rel => exact ⟨k + 1, by omega, by go_num, by rw [HP.out, HT.out]; go_num, HS.out⟩
              case measure => simp [intOf]; omega
        · obtain rfl : k = 8191 := by omega
          have HJ := Aside.mk hJ
          clear hJ
          go_wp2
          go_end0
          exact ⟨rfl, ge, gl, HJ.out⟩
end Go.Proofs.Ytffdpmejilmnnaa
