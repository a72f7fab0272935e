/-
  Slices whose places may be written, wherever they begin in their block and whatever marks lie behind their capacity; what reading, storing, appending, cutting and converting do to them.
  A region that draws its order: each operation shown alone, from what the operations that it looks at have left; every order at once.
  A region that draws its order and ends in one operation that waits for all others: each operation shown alone, the last one behind them.
-/
import Derived.WalkKit
import Derived.Laws.BytesArg
import Derived.Maps.AppendAt
import Derived.Deep.OwnRows
import Derived.Lib.ConvBytes
import Derived.Deep.Draws
import Derived.Still
namespace Go.Proofs.YtkgacnenmflegaaGreatDoor
open Go.RowKit

/-- A fact that the walk does not look into. -/
structure Aside (p : Prop) : Prop where mk :: (out : p)

/-- n elements of `size` cells each, cells xs, in a block of type e whose number is at least base; all places up to the capacity may be written. -/
def Row (w : World) (base : Nat) (e : TypeId) (size : Nat) (v : Value) (n : Nat) (xs : List Value) : Prop :=
  xs.length = n * size ∧
  ((v = .slice none 0 0 ∧ n = 0) ∨
   ∃ g off cap cur fr, v = .slice (some ⟨g, off, none⟩) n cap ∧ base ≤ g ∧ w.heap[g]? = some (.cells cur e fr) ∧ n ≤ cap ∧ cap ≤ maxLen ∧ off + cap * size ≤ cur.size ∧
     (∀ i, i < cap * size → ¬ (fr.1 ≤ off + i ∧ off + i < fr.2)) ∧ (cur.toList.drop off).take (n * size) = xs)

theorem add_plain (g o j : Nat) : (⟨g, o, none⟩ : Addr).add j = ⟨g, o + j, none⟩ := by unfold Addr.add; split <;> simp_all

section
variable {w : World} {base : Nat} {e : TypeId} {size : Nat} {v : Value} {n : Nat} {xs : List Value}

theorem Row.nil (w : World) (base : Nat) (e : TypeId) (size : Nat) : Row w base e size (.slice none 0 0) 0 [] := ⟨by simp, .inl ⟨rfl, rfl⟩⟩
theorem Row.len (h : Row w base e size v n xs) : xs.length = n * size := h.1
theorem Row.max (h : Row w base e size v n xs) : n ≤ maxLen := by
  rcases h.2 with ⟨_, rfl⟩ | ⟨g, off, cap, cur, fr, _, _, _, h1, h2, _⟩
  · exact Nat.zero_le _
  · exact Nat.le_trans h1 h2
theorem Row.slice (h : Row w base e size v n xs) : ∃ A c, v = .slice A n c ∧ n ≤ c := by
  rcases h.2 with ⟨rfl, rfl⟩ | ⟨g, off, cap, cur, fr, rfl, _, _, h1, _⟩
  · exact ⟨none, 0, rfl, Nat.le_refl _⟩
  · exact ⟨_, cap, rfl, h1⟩
/-- Where there is an element the slice has a block. -/
theorem Row.form (h : Row w base e size v n xs) (h0 : 0 < n) : ∃ g off cap, v = .slice (some ⟨g, off, none⟩) n cap ∧ base ≤ g ∧ g < w.heap.size ∧ n ≤ cap ∧ cap ≤ maxLen := by
  rcases h.2 with ⟨_, rfl⟩ | ⟨g, off, cap, cur, fr, rfl, hb, hg, hc, hm, _⟩
  · omega
  · exact ⟨g, off, cap, rfl, hb, (Array.getElem?_eq_some_iff.1 hg).1, hc, hm⟩
theorem Row.blk (h : Row w base e size v n xs) : ∀ k, v.ownBlock = some k → base ≤ k ∧ k < w.heap.size ∧ ∃ cur fr, w.heap[k]? = some (.cells cur e fr) := by
  intro k hk
  rcases h.2 with ⟨rfl, _⟩ | ⟨g, off, cap, cur, fr, rfl, hb, hg, _⟩
  · simp [Value.ownBlock] at hk
  · simp only [Value.ownBlock, Option.some.injEq] at hk
    subst hk
    exact ⟨hb, (Array.getElem?_eq_some_iff.1 hg).1, cur, fr, hg⟩
theorem Row.mono {base' : Nat} (h : Row w base e size v n xs) (hb : base' ≤ base) : Row w base' e size v n xs := by
  refine ⟨h.1, ?_⟩
  rcases h.2 with hn | ⟨g, off, cap, cur, fr, rfl, hbg, rest⟩
  · exact .inl hn
  · exact .inr ⟨g, off, cap, cur, fr, rfl, Nat.le_trans hb hbg, rest⟩
/-- Another block was written, or new ones came. -/
theorem Row.kept {w' : World} {row : Option Nat} (h : Row w base e size v n xs) (hg : w.grownBy w' row) (hne : v.ownBlock = none ∨ v.ownBlock ≠ row) : Row w' base e size v n xs := by
  refine ⟨h.1, ?_⟩
  rcases h.2 with hn | ⟨g, off, cap, cur, fr, rfl, hb, hgg, rest⟩
  · exact .inl hn
  · refine .inr ⟨g, off, cap, cur, fr, rfl, hb, ?_, rest⟩
    rw [hg.block g (Array.getElem?_eq_some_iff.1 hgg).1 (by simpa [Value.ownBlock] using hne)]
    exact hgg
theorem grownBy_of_below {w w' : World} (h : Below w.heap.size w w') (row : Option Nat) : w.grownBy w' row := ⟨h.os, h.tape, h.output, h.size, fun i hi _ => h.block i hi⟩
theorem Row.below {w' : World} (h : Row w base e size v n xs) (hb : Below w.heap.size w w') : Row w' base e size v n xs :=
  h.kept (grownBy_of_below hb none) (by cases v.ownBlock <;> simp)
theorem Row.alloc (h : Row w base e size v n xs) (o : Obj) : Row (w.alloc o) base e size v n xs := h.kept (World.grownBy_alloc w o none) (by cases v.ownBlock <;> simp)
theorem Row.drewN (h : Row w base e size v n xs) (m : Nat) : Row (w.drewN m) base e size v n xs := h
theorem Row.drew (h : Row w base e size v n xs) : Row w.drew base e size v n xs := h
theorem Row.cells (h : Row w base e size v n xs) {a : Addr} {cap : Nat} (hv : v = .slice (some a) n cap) : ∀ j u, xs[j]? = some u → w.cell? (a.add j) = some u := by
  intro j u hu
  rcases h.2 with ⟨rfl, _⟩ | ⟨g, off, cap', cur, fr, rfl, _, hgg, _, _, _, _, htake⟩
  · cases hv
  · injection hv with hv
    injection hv with hv
    subst hv
    rw [add_plain, cell_of_row w g (off + j) cur e fr hgg]
    rw [← htake, List.getElem?_take] at hu
    split at hu
    · rw [List.getElem?_drop] at hu
      simpa using hu
    · cases hu
theorem Row.free (h : Row w base e size v n xs) {g off cap : Nat} (hv : v = .slice (some ⟨g, off, none⟩) n cap) (i : Nat) (hi : i < cap * size) : w.frozen? ⟨g, off + i, none⟩ = false := by
  rcases h.2 with ⟨rfl, _⟩ | ⟨g', off', cap', cur, fr, rfl, _, hgg, _, _, _, hf, _⟩
  · cases hv
  · injection hv with hv _ hc
    injection hv with hv
    injection hv with hb ho
    subst hb; subst ho; subst hc
    have := hf i hi
    simp only [World.frozen?, hgg]
    simpa using this
/-- One of n elements of one cell each. -/
theorem Row.at_ {xs : List Value} (h : Row w base e 1 v n xs) {g off cap : Nat} (hv : v = .slice (some ⟨g, off, none⟩) n cap) (i : Nat) (hi : i < n) : w.cell? ⟨g, off + i, none⟩ = some (xs.getD i undef) ∧ w.frozen? ⟨g, off + i, none⟩ = false := by
  have hl : xs.length = n := by have := h.1; omega
  constructor
  · have := h.cells hv i (xs.getD i undef) (by simp [List.getD_eq_getElem?_getD, List.getElem?_eq_getElem (show i < xs.length by omega)])
    rwa [add_plain] at this
  · refine h.free hv i ?_
    obtain ⟨A, c, he, hc⟩ := h.slice
    rw [hv] at he
    injection he with _ _ he
    omega
/-- A store into one of its places. -/
theorem Row.store {xs : List Value} (h : Row w base e size v n xs) {g off cap : Nat} (hv : v = .slice (some ⟨g, off, none⟩) n cap) (i : Nat) (hi : i < n * size) (y : Value) :
    Row (w.setCell ⟨g, off + i, none⟩ y) base e size v n (xs.set i y) ∧ w.grownBy (w.setCell ⟨g, off + i, none⟩ y) (some g) := by
  refine ⟨⟨by simpa using h.1, ?_⟩, ⟨rfl, rfl, rfl, by simp [World.setCell], fun k hk hne => Below.heap_setCell _ _ _ _ (by simpa using fun e => hne (by simp [e]))⟩⟩
  rcases h.2 with ⟨rfl, _⟩ | ⟨g', off', cap', cur, fr, rfl, hb, hgg, hc, hm, hs, hf, htake⟩
  · cases hv
  · injection hv with hv _ hcc
    injection hv with hv
    injection hv with hb' ho
    subst hb'; subst ho; subst hcc
    refine .inr ⟨g', off', cap', cur.setIfInBounds (off' + i) y, fr, rfl, hb, ?_, hc, hm, by simpa using hs, hf, ?_⟩
    · have hlt : g' < w.heap.size := (Array.getElem?_eq_some_iff.1 hgg).1
      have hval : w.heap[g'] = .cells cur e fr := (Array.getElem?_eq_some_iff.1 hgg).2
      simp [World.setCell, Array.getElem?_modify, hgg]
    · rw [← htake, Array.toList_setIfInBounds]
      apply List.ext_getElem?
      intro j
      have hsz : off' + n * size ≤ cur.toList.length := by
        have := Nat.mul_le_mul_right size hc
        simp only [Array.length_toList]
        omega
      simp only [List.getElem?_take, List.getElem?_drop, List.getElem?_set, List.length_take, List.length_drop]
      by_cases hj : j < n * size
      · by_cases hij : i = j
        · subst hij
          simp only [hj, if_true]
          rw [if_pos (by omega), if_pos (by omega)]
        · rw [if_pos hj, if_neg (by omega), if_neg hij, if_pos hj]
      · rw [if_neg hj]
        by_cases hij : i = j
        · omega
        · rw [if_neg hij, if_neg hj]
/-- A part of it, from i to j. -/
theorem Row.part (h : Row w base e size v n xs) {g off cap : Nat} (hv : v = .slice (some ⟨g, off, none⟩) n cap) (i j : Nat) (hij : i ≤ j) (hj : j ≤ n) :
    Row w base e size (.slice (some ⟨g, off + i * size, none⟩) (j - i) (cap - i)) (j - i) ((xs.drop (i * size)).take ((j - i) * size)) := by
  have hl := h.1
  have hjs : j * size ≤ n * size := Nat.mul_le_mul_right _ hj
  have his : i * size ≤ j * size := Nat.mul_le_mul_right _ hij
  have hd : (j - i) * size = j * size - i * size := Nat.sub_mul ..
  refine ⟨by rw [List.length_take, List.length_drop]; omega, ?_⟩
  rcases h.2 with ⟨rfl, _⟩ | ⟨g', off', cap', cur, fr, rfl, hb, hgg, hc, hm, hs, hf, htake⟩
  · cases hv
  · injection hv with hv _ hcc
    injection hv with hv
    injection hv with hb' ho
    subst hb'; subst ho; subst hcc
    have hcs : (cap' - i) * size = cap' * size - i * size := Nat.sub_mul ..
    have hcc : n * size ≤ cap' * size := Nat.mul_le_mul_right _ hc
    refine .inr ⟨g', off' + i * size, cap' - i, cur, fr, rfl, hb, hgg, by omega, by omega, by omega, fun k hk => by have := hf (i * size + k) (by omega); omega, ?_⟩
    rw [← htake, List.drop_take, List.take_take, List.drop_drop]
    congr 1
    omega
end

/-- A slice that is read: element k's one cell holds f k. -/
def Rd (w : World) (A : Option Addr) (n : Nat) (f : Nat → Value) : Prop := ∀ k, k < n → ∃ b off, A = some ⟨b, off, none⟩ ∧ b < w.heap.size ∧ w.cell? ⟨b, off + k, none⟩ = some (f k)
theorem Rd.below {w w' : World} {A : Option Addr} {n : Nat} {f : Nat → Value} (h : Rd w A n f) {B : Nat} (hB : w.heap.size ≤ B) (hb : Below B w w') : Rd w' A n f := by
  intro k hk
  obtain ⟨b, off, rfl, hlt, hc⟩ := h k hk
  exact ⟨b, off, rfl, Nat.lt_of_lt_of_le hlt hb.size, (hb.cell (p := ⟨b, off + k, none⟩) (Nat.lt_of_lt_of_le hlt hB)).trans hc⟩
theorem Rd.drewN {w : World} {A : Option Addr} {n : Nat} {f : Nat → Value} (h : Rd w A n f) (m : Nat) : Rd (w.drewN m) A n f := h
theorem Rd.of_row {w : World} {base : Nat} {e : TypeId} {A : Option Addr} {n c : Nat} {xs : List Value} (h : Row w base e 1 (.slice A n c) n xs) : Rd w A n (fun k => xs.getD k undef) := by
  intro k hk
  obtain ⟨g, off, cap, hv, _, hlt, _, _⟩ := h.form (by omega)
  injection hv with hA
  subst hA
  exact ⟨g, off, rfl, hlt, (h.at_ rfl k hk).1⟩

/-! What comes new -/
theorem Row.made (w : World) (base : Nat) (e : TypeId) (size : Nat) (cur : Array Value) (n cap : Nat) (fr : Nat × Nat) (hb : base ≤ w.heap.size) (hm : cap ≤ maxLen) (hn : n ≤ cap) (hs : cap * size ≤ cur.size) (hf : ∀ i, i < cap * size → ¬ (fr.1 ≤ i ∧ i < fr.2)) :
    Row (w.alloc (.cells cur e fr)) base e size (.slice (some ⟨w.heap.size, 0, none⟩) n cap) n (cur.toList.take (n * size)) :=
  ⟨by have := Nat.mul_le_mul_right size hn; rw [List.length_take, Array.length_toList]; omega,
   .inr ⟨w.heap.size, 0, cap, cur, fr, rfl, hb, heap_alloc_new w _, hn, hm, by omega, fun i hi => by have := hf i hi; omega, by simp⟩⟩
/-- A block that was laid with just these cells. -/
theorem Row.lit (w : World) (base : Nat) (e : TypeId) (size : Nat) (cur : Array Value) (n : Nat) (hb : base ≤ w.heap.size) (hm : n ≤ maxLen) (hs : cur.size = n * size) :
    Row (w.alloc (.cells cur e)) base e size (.slice (some ⟨w.heap.size, 0, none⟩) n n) n cur.toList := by
  have h := Row.made w base e size cur n n (0, 0) hb hm (Nat.le_refl _) (by omega) (fun i _ => by omega)
  rwa [List.take_of_length_le (by simp; omega)] at h
theorem Row.of_owns {w : World} {base : Nat} {e : TypeId} {size : Nat} {v : Value} {n : Nat} {xs : List Value} (h : w.ownsRow base e size v n xs) : Row w base e size v n xs := by
  refine ⟨h.1, ?_⟩
  rcases h.2 with hn | ⟨g, cap, cur, rfl, hb, hg, hc, hm, hs, ht⟩
  · exact .inl hn
  · exact .inr ⟨g, 0, cap, cur, (0, 0), rfl, hb, hg, hc, hm, by omega, fun i _ => by omega, by simpa using ht⟩

/-! append -/
section
variable {P : Program} (w : World)

theorem run_storeCells_free (g o : Nat) (t : TypeId) (fr : Nat × Nat) : ∀ (vs : List Value) (i : Nat) (cur : Array Value) (w : World), w.heap[g]? = some (.cells cur t fr) → o + i + vs.length ≤ cur.size → (∀ v ∈ vs, v.oneCell' = true) → (∀ j, j < vs.length → ¬ (fr.1 ≤ o + i + j ∧ o + i + j < fr.2)) →
    (storeCells ⟨g, o, none⟩ vs i).run P w = .ok () (w.setRow g (cur.toList.take (o + i) ++ vs ++ cur.toList.drop (o + i + vs.length)).toArray)
  | [], i, cur, w, hg, _, _, _ => by
    simp only [storeCells, List.append_nil, List.length_nil, Nat.add_zero, List.take_append_drop, Array.toArray_toList]
    rw [setRow_self w g cur t fr hg]
    rfl
  | v :: rest, i, cur, w, hg, hl, h1, hf => by
    have hi : o + i < cur.size := by simp at hl; omega
    have hcell : w.cell? ⟨g, o + i, none⟩ = some cur[o + i] := by simp [World.cell?, hg, hi]
    have hfr : w.frozen? ⟨g, o + i, none⟩ = false := by
      have := hf 0 (by simp)
      simp only [World.frozen?, hg]
      simpa using this
    have hst : (store ((⟨g, o, none⟩ : Addr).add i) v).run P w = .ok () (w.setRow g (cur.setIfInBounds (o + i) v)) := by
      rw [add_plain, run_store P w _ v _ (h1 v (by simp)), hcell]
      simp [hfr, setCell_eq_setRow w g (o + i) cur t fr v hg]
    have ih := run_storeCells_free g o t fr rest (i + 1) (cur.setIfInBounds (o + i) v) (w.setRow g (cur.setIfInBounds (o + i) v)) (setRow_heap w g cur _ t _ hg) (by simp at hl ⊢; omega) (fun x hx => h1 x (by simp [hx])) (fun j hj => by have := hf (j + 1) (by simp; omega); omega)
    simp only [storeCells, Sem.run_bind, hst, Result.andThen_ok, ih, setRow_setRow]
    congr 3
    have e := list_seg_step cur.toList (o + i) v rest (by simp at hl ⊢; omega)
    simpa [Array.toList_setIfInBounds, Nat.add_assoc] using e

/-- Whatever slice is appended: nil, or its cells are there. -/
def Src (w : World) (size : Nat) (x : Value) (m : Nat) (news : List Value) : Prop :=
  news.length = m * size ∧ ((∃ c, x = .slice none m c) ∧ m = 0 ∨ ∃ a c, x = .slice (some a) m c ∧ ∀ j u, news[j]? = some u → w.cell? (a.add j) = some u)

theorem Row.src {w : World} {base : Nat} {e : TypeId} {size : Nat} {v : Value} {n : Nat} {xs : List Value} (h : Row w base e size v n xs) : Src w size v n xs := by
  refine ⟨h.1, ?_⟩
  rcases h.2 with ⟨rfl, rfl⟩ | ⟨g, off, cap, cur, fr, rfl, _⟩
  · exact .inl ⟨⟨0, rfl⟩, rfl⟩
  · exact .inr ⟨_, cap, rfl, h.cells rfl⟩

theorem run_append_row (base : Nat) (t ty e : TypeId) (size bytes : Nat) (z : Value) (ht : P.underlying t = some (.slice e)) (hinfo : (P.info? e).map (fun i => (i.zero, i.size, i.bytes)) = some (some z, size, bytes))
    (hzs : z.cells.size = size) (hsz : 0 < size) (v : Value) (n : Nat) (xs : List Value) (h : Row w base e size v n xs)
    (x : Value) (m : Nat) (news : List Value) (hx : Src w size x m news) (h1 : ∀ u ∈ news, u.oneCell' = true) (h63 : n + m ≤ maxLen) (hbytes : (n + m) * bytes ≤ 140737488355328) (hbase : base ≤ w.heap.size) :
    ∃ v' w', (Builtin.append_ #[t, t] ty #[v, x]).run P w = .ok v' w' ∧ Row w' base e size v' (n + m) (xs ++ news) ∧ w.grownBy w' v.ownBlock ∧ (v'.ownBlock = v.ownBlock ∨ v'.ownBlock = some w.heap.size) := by
  obtain ⟨i, hi, hzz⟩ := Option.map_eq_some_iff.1 hinfo
  simp only [Prod.mk.injEq] at hzz
  obtain ⟨hz, rfl, rfl⟩ := hzz
  have hsmall : n + m ≤ 9223372036854775807 := by simp only [maxLen] at h63; omega
  have hlen : (xs ++ news).length = (n + m) * i.size := by rw [List.length_append, h.1, hx.1, Nat.add_mul]
  have grown : ∀ (old : Nat) (row : Option Nat),
      Row (w.drew.alloc (.cells (xs.toArray ++ news.toArray ++ Builtin.zeroCells z.cells (grownCap w (n + m) old e - (n + m))) e)) base e i.size
        (.slice (some ⟨w.heap.size, 0, none⟩) (n + m) (grownCap w (n + m) old e)) (n + m) (xs ++ news) ∧
      w.grownBy (w.drew.alloc (.cells (xs.toArray ++ news.toArray ++ Builtin.zeroCells z.cells (grownCap w (n + m) old e - (n + m))) e)) row := by
    intro old row
    have hge := grownCap_ge w (n + m) old e
    have hcm : grownCap w (n + m) old e ≤ maxLen := grownCap_le_maxLen w (n + m) old e h63
    refine ⟨?_, ⟨rfl, rfl, rfl, by simp, fun k hk _ => Below.heap_alloc w.drew _ k hk⟩⟩
    have hc : (xs.toArray ++ news.toArray ++ Builtin.zeroCells z.cells (grownCap w (n + m) old e - (n + m))).size = grownCap w (n + m) old e * i.size := by
      simp only [Array.size_append, List.size_toArray, size_zeroCells, hzs, h.1, hx.1, ← Nat.add_mul]
      congr 1
      omega
    have hr := Row.made w.drew base e i.size (n := n + m) (cap := grownCap w (n + m) old e) (fr := (0, 0)) hbase hcm hge (by omega) (fun i _ => by omega) (cur := xs.toArray ++ news.toArray ++ Builtin.zeroCells z.cells (grownCap w (n + m) old e - (n + m)))
    have hl : (xs.toArray ++ news.toArray ++ Builtin.zeroCells z.cells (grownCap w (n + m) old e - (n + m))).toList.take ((n + m) * i.size) = xs ++ news := by
      simp only [Array.toList_append, List.append_assoc]
      rw [← List.append_assoc, ← hlen]
      exact List.take_left
    rwa [hl] at hr
  obtain ⟨hxl, hxk⟩ := hx
  rcases h.2 with ⟨rfl, rfl⟩ | ⟨g, off, cap, cur, fr, rfl, hbg, hg, hnc, hcm, hcs, hf, htake⟩
  · have hx0 : xs = [] := List.eq_nil_of_length_eq_zero (by simpa using h.1)
    subst hx0
    rcases hxk with ⟨⟨c, rfl⟩, rfl⟩ | ⟨a, c, rfl, hnews⟩
    · have hn : news = [] := List.eq_nil_of_length_eq_zero (by simpa using hxl)
      subst hn
      refine ⟨.slice none 0 0, w, ?_, Row.nil w base e i.size, ⟨rfl, rfl, rfl, Nat.le_refl _, fun _ _ _ => rfl⟩, .inl rfl⟩
      simp [Builtin.append_, run_underlying ht, sizeOf, typeInfo, hi, Builtin.lenOf, Builtin.firstCells]
    · by_cases hm : m = 0
      · subst hm
        have hn : news = [] := List.eq_nil_of_length_eq_zero (by simpa using hxl)
        subst hn
        refine ⟨.slice none 0 0, w, ?_, Row.nil w base e i.size, ⟨rfl, rfl, rfl, Nat.le_refl _, fun _ _ _ => rfl⟩, .inl rfl⟩
        simp [Builtin.append_, run_underlying ht, sizeOf, typeInfo, hi, Builtin.lenOf, Builtin.firstCells, loadCells, loadCellsFrom]
      · have hr := run_append_nil (P := P) w t ty e i z ht hi hz a m c news hxl hnews (by omega) (by omega) (by have hb := hbytes; simp only [Nat.zero_add] at hb; omega)
        have hgr := grown 0 (Value.ownBlock (.slice none 0 0))
        simp only [Nat.zero_add, List.nil_append, Array.empty_append] at hgr ⊢
        exact ⟨_, _, hr, hgr.1, hgr.2, .inr rfl⟩
  · have holds := h.cells (a := ⟨g, off, none⟩) rfl
    rcases hxk with ⟨⟨c, rfl⟩, rfl⟩ | ⟨a, c, rfl, hnews⟩
    · have hn : news = [] := List.eq_nil_of_length_eq_zero (by simpa using hxl)
      subst hn
      refine ⟨_, w, ?_, by simpa using h, ⟨rfl, rfl, rfl, Nat.le_refl _, fun _ _ _ => rfl⟩, .inl rfl⟩
      simp [Builtin.append_, run_underlying ht, sizeOf, typeInfo, hi, Builtin.lenOf, hnc, Builtin.firstCells, storeCells]
    · by_cases hroom : n + m ≤ cap
      · have hfs := run_firstCells_some (P := P) w i.size m a m c news hxl hnews
        have hms : (n + m) * i.size ≤ cap * i.size := Nat.mul_le_mul_right _ hroom
        have hnm : (n + m) * i.size = n * i.size + m * i.size := Nat.add_mul ..
        have hst := run_storeCells_free (P := P) g (off + n * i.size) e fr news 0 cur w hg (by omega) h1 (fun j hj => by have := hf (n * i.size + j) (by omega); omega)
        simp only [Nat.add_zero] at hst
        refine ⟨.slice (some ⟨g, off, none⟩) (n + m) cap, w.setRow g (cur.toList.take (off + n * i.size) ++ news ++ cur.toList.drop (off + n * i.size + news.length)).toArray, ?_, ⟨hlen, .inr ⟨g, off, cap, _, fr, rfl, hbg, setRow_heap w g cur _ e _ hg, hroom, hcm, ?_, hf, ?_⟩⟩, ⟨rfl, rfl, rfl, by simp, fun k _ hk => setRow_other w g k _ (fun e => hk (by simp [Value.ownBlock, e]))⟩, .inl rfl⟩
        · simp [Builtin.append_, run_underlying ht, sizeOf, typeInfo, hi, Builtin.lenOf, hroom, hfs, add_plain, hst]
        · simp only [List.size_toArray, List.length_append, List.length_take, List.length_drop, Array.length_toList]
          omega
        · have htk : cur.toList.take (off + n * i.size) = cur.toList.take off ++ xs := by
            rw [List.take_add, htake]
          have hlo : (cur.toList.take off).length = off := by rw [List.length_take, Array.length_toList]; omega
          simp only [htk, List.append_assoc]
          rw [List.drop_append_of_le_length (by omega), List.drop_of_length_le (by omega), List.nil_append, ← List.append_assoc, ← hlen]
          exact List.take_left
      · have hr := run_append_grow (P := P) w t ty e i z ht hi hz ⟨g, off, none⟩ n cap xs h.1 holds a m c news hxl hnews (by omega) (by omega) (growslice_fits (by omega) hbytes)
        have hgr := grown cap (Value.ownBlock (.slice (some ⟨g, off, none⟩) n cap))
        exact ⟨_, _, hr, hgr.1, hgr.2, .inr rfl⟩
end

section
variable {P : Program} {ops : Array Oper} {rest : List Oper} {o : Oper} {a : Act} {Q : Exit → Act → World → Prop}
/-- append(s, x...) -/
theorem wpList_append_row {W w0 : World} (base : Nat) (hgd : o.guard = none) (s x : Operand) (t e : TypeId) (size bytes : Nat) (z : Value)
    (ho : o.op = .call { callee := .builtin .append, args := #[s, x], argTypes := #[t, t] })
    (ht : P.underlying t = some (.slice e)) (hinfo : (P.info? e).map (fun i => (i.zero, i.size, i.bytes)) = some (some z, size, bytes)) (hzs : z.cells.size = size) (hsz : 0 < size)
    (v : Value) (n : Nat) (xs : List Value) (y : Value) (m : Nat) (ys : List Value) (hs : a.eval s = v) (hx : a.eval x = y)
    (HR : Row W base e size v n xs) (HS : Src W size y m ys) (h1 : ∀ u ∈ ys, u.oneCell' = true) (HB : Below base w0 W) (hbase : base ≤ W.heap.size) (hl : (n + m) * bytes ≤ 140737488355328) (hm : n + m ≤ maxLen)
    (h : ∀ v1 w1, Row w1 base e size v1 (n + m) (xs ++ ys) → Below base w0 w1 → W.grownBy w1 v.ownBlock → (v1.ownBlock = v.ownBlock ∨ v1.ownBlock = some W.heap.size) → wpList P ops Q rest (a.put o.dst v1) w1) :
    wpList P ops Q (o :: rest) a W := by
  obtain ⟨v1, w1, hr, h2, h3, h4⟩ := run_append_row (P := P) W base t o.type e size bytes z ht hinfo hzs hsz v n xs HR y m ys HS h1 hm hl hbase
  refine wpList_plain hgd fun K hK => ?_
  unfold Oper.wp execOp
  simp only [ho, resolve, invoke, builtin, Sem.run_bind, Sem.run_pure, Result.andThen_ok, List.map_toArray, List.map_cons, List.map_nil, hs, hx, hr]
  exact hK _ _ (h v1 w1 h2 (HB.grown h3 hbase (fun k hk => (HR.blk k hk).1)) h3 h4)

/-- append(s, x) of one element: its cells were laid as a block just before. -/
theorem wpList_append_one {W w0 : World} (base : Nat) (hgd : o.guard = none) (s x : Operand) (t e : TypeId) (size bytes : Nat) (z : Value)
    (ho : o.op = .call { callee := .builtin .append, args := #[s, x], argTypes := #[t, t] })
    (ht : P.underlying t = some (.slice e)) (hinfo : (P.info? e).map (fun i => (i.zero, i.size, i.bytes)) = some (some z, size, bytes)) (hzs : z.cells.size = size) (hsz : 0 < size)
    (v : Value) (n : Nat) (xs : List Value) (ys : Array Value) (hys : ys.size = size) (hs : a.eval s = v) (hx : a.eval x = .slice (some ⟨W.heap.size, 0, none⟩) 1 1)
    (HR : Row W base e size v n xs) (h1 : ∀ u ∈ ys.toList, u.oneCell' = true) (HB : Below base w0 W) (hbase : base ≤ W.heap.size) (hl : (n + 1) * bytes ≤ 140737488355328) (hm : n + 1 ≤ maxLen)
    (h : ∀ v1 w1, Row w1 base e size v1 (n + 1) (xs ++ ys.toList) → Below base w0 w1 → W.grownBy w1 v.ownBlock → (v1.ownBlock = v.ownBlock ∨ ∃ b, v1.ownBlock = some b ∧ W.heap.size ≤ b) → wpList P ops Q rest (a.put o.dst v1) w1) :
    wpList P ops Q (o :: rest) a (W.alloc (.cells ys e)) := by
  have HS : Src (W.alloc (.cells ys e)) size (.slice (some ⟨W.heap.size, 0, none⟩) 1 1) 1 ys.toList := by
    refine ⟨by simpa using hys, .inr ⟨_, 1, rfl, fun j u hu => ?_⟩⟩
    rw [add_plain, cell_of_row _ W.heap.size (0 + j) ys e (0, 0) (heap_alloc_new W _)]
    simpa using hu
  refine wpList_append_row (w0 := w0) base hgd s x t e size bytes z ho ht hinfo hzs hsz v n xs _ 1 ys.toList hs hx (HR.alloc _) HS h1 (HB.alloc hbase _) (by simp; omega) hl hm ?_
  intro v1 w1 hr hb hg hat
  refine h v1 w1 hr hb (World.grownBy.trans (World.grownBy_alloc W _ _) hg) ?_
  rcases hat with hat | hat
  · exact .inl hat
  · exact .inr ⟨_, hat, by simp⟩
end


/-! make([]T, n) -/
theorem madeCells_list (z : Value) (n : Nat) : (madeCells #[z] n).toList = List.replicate n z := by
  apply List.ext_getElem
  · simp [madeCells]
  · intro i h1 h2
    simp [madeCells, Nat.mod_one]
theorem Row.zeros (w : World) (base : Nat) (e : TypeId) (z : Value) (n : Nat) (hb : base ≤ w.heap.size) (hm : n ≤ maxLen) :
    Row (w.alloc (.cells (madeCells #[z] n) e)) base e 1 (.slice (some ⟨w.heap.size, 0, none⟩) n n) n (List.replicate n z) := by
  have h := Row.lit w base e 1 (madeCells #[z] n) n hb hm (by simp [size_madeCells])
  rwa [madeCells_list] at h

/-! bytes and strings -/
def bytesV (l : List UInt8) : List Value := l.map fun b => .int .u8 (b.toNat : Int)
theorem bytesV_length (l : List UInt8) : (bytesV l).length = l.length := by simp [bytesV]
theorem bytesV_append (l m : List UInt8) : bytesV (l ++ m) = bytesV l ++ bytesV m := by simp [bytesV]
theorem bytesV_one (l : List UInt8) : ∀ u ∈ bytesV l, u.oneCell' = true := by
  intro u hu
  simp only [bytesV, List.mem_map] at hu
  obtain ⟨b, _, rfl⟩ := hu
  rfl
/-- A byte of it, read and written. -/
theorem Row.byteAt {w : World} {base n g cap : Nat} {e : TypeId} {l : List UInt8} (h : Row w base e 1 (.slice (some ⟨g, 0, none⟩) n cap) n (bytesV l)) (i : Nat) (hi : i < l.length) :
    w.cell? ⟨g, i, none⟩ = some (.int .u8 (l[i].toNat : Int)) ∧ w.frozen? ⟨g, i, none⟩ = false := by
  have hl : l.length = n := by have := h.1; rw [bytesV_length] at this; omega
  have h1 := h.at_ rfl i (by omega)
  rw [Nat.zero_add] at h1
  refine ⟨h1.1.trans ?_, h1.2⟩
  simp [bytesV, List.getD_eq_getElem?_getD, List.getElem?_eq_getElem hi]
theorem Row.byteSet {w : World} {base n g cap : Nat} {e : TypeId} {l : List UInt8} (h : Row w base e 1 (.slice (some ⟨g, 0, none⟩) n cap) n (bytesV l)) (i : Nat) (hi : i < l.length) (x : UInt8) :
    Row (w.setCell ⟨g, i, none⟩ (.int .u8 (x.toNat : Int))) base e 1 (.slice (some ⟨g, 0, none⟩) n cap) n (bytesV (l.set i x)) ∧ Below base w (w.setCell ⟨g, i, none⟩ (.int .u8 (x.toNat : Int))) := by
  have hl : l.length = n := by have := h.1; rw [bytesV_length] at this; omega
  have h1 := h.store rfl i (by omega) (.int .u8 (x.toNat : Int))
  rw [Nat.zero_add] at h1
  have hg : base ≤ g := by
    rcases h.2 with ⟨h, _⟩ | ⟨g', off, cap', cur, fr, hv, hb, _⟩
    · cases h
    · injection hv with hv; injection hv with hv; injection hv with hv; omega
  refine ⟨?_, (Below.refl _ _).setCell hg _⟩
  have e1 : bytesV (l.set i x) = (bytesV l).set i (.int .u8 (x.toNat : Int)) := by simp [bytesV, List.map_set]
  rw [e1]
  exact h1.1
theorem bytesV_zeros (n : Nat) : List.replicate n (Value.int .u8 0) = bytesV (List.replicate n 0) := by simp [bytesV]
theorem data_len (s : ByteArray) : s.data.toList.length = s.size := by rw [Array.length_toList]; rfl
/-- []byte(s) -/
theorem Row.ofString (w : World) (base : Nat) (e : TypeId) (s : ByteArray) (hb : base ≤ w.heap.size) (hs : s.size ≤ 9223372036854775807) :
    Row (Lib.bytesWorld w e s) base e 1 (.slice (some ⟨w.heap.size, 0, none⟩) s.size (grownCap w s.size 0 e)) s.size (bytesV s.data.toList) := by
  have hge := grownCap_ge w s.size 0 e
  have hcm := grownCap_le_maxLen w s.size 0 e (by simpa [maxLen] using hs)
  have hsz : (Lib.bytesCells w e s).size = grownCap w s.size 0 e := by
    simp only [Lib.bytesCells, Array.size_append, Array.size_map, Array.size_replicate]
    have : s.data.size = s.size := rfl
    omega
  refine ⟨by rw [bytesV_length, data_len]; omega, .inr ⟨_, 0, _, _, _, rfl, hb, Lib.bytesWorld_at_new w e s, hge, hcm, by omega, fun i hi => by simp only []; omega, ?_⟩⟩
  simp only [Lib.bytesCells, Array.toList_append, Array.toList_map, List.drop_zero, Nat.mul_one]
  rw [List.take_append_of_le_length (by simp), List.take_of_length_le (by simp)]
  rfl
theorem below_ofString {B : Nat} {w0 w : World} (h : Below B w0 w) (hB : B ≤ w.heap.size) (e : TypeId) (s : ByteArray) : Below B w0 (Lib.bytesWorld w e s) :=
  h.trans ⟨rfl, rfl, rfl, by rw [Lib.bytesWorld_size]; omega, fun i hi => Lib.bytesWorld_at_old w e s i (by omega)⟩
theorem grownBy_ofString (w : World) (e : TypeId) (s : ByteArray) (row : Option Nat) : w.grownBy (Lib.bytesWorld w e s) row :=
  ⟨rfl, rfl, rfl, by rw [Lib.bytesWorld_size]; omega, fun i hi _ => Lib.bytesWorld_at_old w e s i hi⟩
/-- string(v) -/
theorem Row.toString {P : Program} {w : World} {base n : Nat} {e' src dst e : TypeId} {v : Value} {l : List UInt8} (hs : P.underlying src = some (.slice e)) (he : P.underlying e = some (.int .u8)) (hd : P.underlying dst = some .string)
    (h : Row w base e' 1 v n (bytesV l)) : (convert src dst v).run P w = .ok (.string ⟨l.toArray⟩) w := by
  have hl : l.length = n := by have := h.1; rw [bytesV_length] at this; omega
  have hstr : strOfNums (l.map fun b => (b.toNat : Int)) = ⟨l.toArray⟩ := by
    have e : (l.map fun b => (b.toNat : Int)).map (fun n => UInt8.ofNat n.toNat) = l := by
      rw [List.map_map]
      exact (List.map_congr_left fun b _ => by simp).trans (List.map_id l)
    show (⟨((l.map fun b => (b.toNat : Int)).map fun n => UInt8.ofNat n.toNat).toArray⟩ : ByteArray) = _
    rw [e]
  rcases h.2 with ⟨rfl, rfl⟩ | ⟨g, off, cap, cur, fr, rfl, _⟩
  · obtain rfl : l = [] := List.eq_nil_of_length_eq_zero hl
    exact run_convert_bytes_nil w src e hs he 0 0 dst hd
  · rw [← hstr]
    refine run_convert_bytes_arg w src e hs he g off n cap _ (by simpa using hl) (fun i hi => ?_) dst hd
    have hc := h.cells (a := ⟨g, off, none⟩) rfl i (.int .u8 ((l.map fun b => (b.toNat : Int)).getD i 0)) (by
      simp [bytesV, List.getD_eq_getElem?_getD, List.getElem?_eq_getElem (show i < l.length by omega)])
    rwa [add_plain] at hc
end Go.Proofs.YtkgacnenmflegaaGreatDoor
namespace Go.Proofs.YtkgacnenmflegaaGreatDoor
open Go.RowKit

/-- Slot t is written by one of these operations. -/
def relWrites (l : List Oper) (t : Nat) : Bool := l.any fun o => o.dst == some t
/-- Every operation has a slot of its own and no guard, and waits for those whose slots it looks at. -/
def relB (l : List Oper) : Bool :=
  (List.range l.length).all fun i => match l[i]? with
    | none => false
    | some o => o.guard.isNone && o.dst.isSome && (o.after.toList.all fun e => e.on < i) &&
        ((List.range l.length).all fun j => match l[j]? with
          | none => false
          | some o' => (j == i || o'.dst != o.dst) && (match o'.dst with
            | none => false
            | some t => !((o.looksAt l.toArray).contains t) || o.after.toList.any fun e => Region.binds .any e && e.on == j))
/-- The way on. -/
def relQ (K : Act → World → Prop) (Q : Exit → Act → World → Prop) : Exit → Act → World → Prop
  | .normal => K
  | x => Q x
theorem relQ_lets {K : Act → World → Prop} {Q : Exit → Act → World → Prop} (h : LetsOut (relQ K Q)) : LetsOut Q := h

/-- What is asked of one operation. -/
def relStep (P : Program) (l : List Oper) (V : Nat → Value → World → Prop) (Q : Exit → Act → World → Prop) (w : World) (a0 : Act) (o : Oper) : Prop :=
  ∀ (f : Nat → Value) (W : World), Below w.heap.size w W → (∀ t, relWrites l t = false → f t = a0.tmps.getD t undef) → (∀ t, relWrites l t = true → (o.looksAt l.toArray).contains t = true → V t (f t) W) →
    ∀ K : Act → World → Prop, (∀ v W', Below W.heap.size W W' → V (o.dst.getD 0) v W' → K (({ tmps := ((List.range a0.tmps.size).map f).toArray, defers := a0.defers } : Act).put o.dst v) W') →
      wpList P #[o] (relQ K Q) [o] { tmps := ((List.range a0.tmps.size).map f).toArray, defers := a0.defers } W
def relAll (P : Program) (l : List Oper) (V : Nat → Value → World → Prop) (Q : Exit → Act → World → Prop) (w : World) (a0 : Act) : List Oper → Prop
  | [] => True
  | o :: r => relStep P l V Q w a0 o ∧ relAll P l V Q w a0 r
theorem relAll_mem {P : Program} {l : List Oper} {V : Nat → Value → World → Prop} {Q : Exit → Act → World → Prop} {w : World} {a0 : Act} {r : List Oper} (h : relAll P l V Q w a0 r) (o : Oper) (ho : o ∈ r) : relStep P l V Q w a0 o := by
  induction r with
  | nil => cases ho
  | cons x r ih =>
    unfold relAll at h
    rcases List.mem_cons.1 ho with rfl | ho
    · exact h.1
    · exact ih h.2 ho

/-- How it stands between two operations. -/
structure RelInv (l : List Oper) (V : Nat → Value → World → Prop) (w : World) (a0 : Act) (listed : Array Bool) (a : Act) (W : World) : Prop where
  bel : Below w.heap.size w W
  dfr : a.defers = a0.defers
  size : a.tmps.size = a0.tmps.size
  old : ∀ t, relWrites l t = false → a.tmps.getD t undef = a0.tmps.getD t undef
  new : ∀ (j : Nat) (o : Oper) (t : Nat), l[j]? = some o → o.dst = some t → listed.getD j false = true → V t (a.tmps.getD t undef) W

theorem rel_frame (a a0 : Act) (hd : a.defers = a0.defers) (hs : a.tmps.size = a0.tmps.size) : a = { tmps := ((List.range a0.tmps.size).map fun t => a.tmps.getD t undef).toArray, defers := a0.defers } := by
  obtain ⟨tmps, defers⟩ := a
  simp only at hd hs
  subst hd
  congr 1
  apply Array.ext'
  apply List.ext_getElem
  · simp [hs]
  · intro n h1 h2
    simp only [Array.length_toList] at h1
    simp [h1]

theorem relB_spec {l : List Oper} (h : relB l = true) {i : Nat} {o : Oper} (ho : l[i]? = some o) : o.guard = none ∧ (∃ t, o.dst = some t) ∧ (∀ e ∈ o.after, e.on < i) ∧ ∀ (j : Nat) (o' : Oper) (t : Nat), l[j]? = some o' → o'.dst = some t → (j ≠ i → o.dst ≠ some t) ∧ ((o.looksAt l.toArray).contains t = true → ∃ e ∈ o.after, Region.binds .any e = true ∧ e.on = j) := by
  have hi : i < l.length := (List.getElem?_eq_some_iff.1 ho).1
  unfold relB at h
  have h1 := List.all_eq_true.1 h i (List.mem_range.2 hi)
  simp only [ho, Bool.and_eq_true, Option.isNone_iff_eq_none] at h1
  obtain ⟨⟨⟨hg, hd⟩, hlt⟩, hall⟩ := h1
  refine ⟨hg, Option.isSome_iff_exists.1 hd, fun e he => by simpa using List.all_eq_true.1 hlt e (Array.mem_toList_iff.2 he), fun j o' t hj ht => ?_⟩
  have hjl : j < l.length := (List.getElem?_eq_some_iff.1 hj).1
  have h2 := List.all_eq_true.1 hall j (List.mem_range.2 hjl)
  simp only [hj, ht, Bool.and_eq_true, Bool.or_eq_true, beq_iff_eq, bne_iff_ne, ne_eq, Bool.not_eq_true', List.any_eq_true] at h2
  refine ⟨fun hne he => ?_, fun hc => ?_⟩
  · rcases h2.1 with h3 | h3
    · exact hne h3
    · exact h3 he.symm
  · rcases h2.2 with h3 | h3
    · rw [hc] at h3; cases h3
    · obtain ⟨e, he, hb, hon⟩ := h3
      exact ⟨e, Array.mem_toList_iff.1 he, hb, hon⟩

theorem getD_put (a : Act) (d : Nat) (v : Value) (t : Nat) (h : t ≠ d) : (a.put (some d) v).tmps.getD t undef = a.tmps.getD t undef := by
  simp only [Act.put, Array.getD_eq_getD_getElem?, Array.getElem?_setIfInBounds_ne (Ne.symm h)]
theorem getD_put_self (a : Act) (d : Nat) (v : Value) (h : d < a.tmps.size) : (a.put (some d) v).tmps.getD d undef = v := by
  simp [Act.put, h]

theorem writes_mem {l : List Oper} {t : Nat} (h : relWrites l t = true) : ∃ (j : Nat) (o : Oper), l[j]? = some o ∧ o.dst = some t := by
  obtain ⟨o, ho, hd⟩ := List.any_eq_true.1 h
  obtain ⟨j, hj⟩ := List.getElem?_of_mem ho
  exact ⟨j, o, hj, by simpa using hd⟩
theorem mem_writes {l : List Oper} {t j : Nat} {o : Oper} (hj : l[j]? = some o) (hd : o.dst = some t) : relWrites l t = true :=
  List.any_eq_true.2 ⟨o, List.mem_of_getElem? hj, by simp [hd]⟩

theorem all_listed {l : List Oper} (hB : relB l = true) {listed : Array Bool} (hr : Region.ready .any l.toArray listed = []) : ∀ (j : Nat), j < l.length → listed.getD j true = true
  | j, hj => by
    have ho : l[j]? = some l[j] := List.getElem?_eq_getElem hj
    obtain ⟨_, _, hlt, _⟩ := relB_spec hB ho
    cases hq : listed.getD j true with
    | true => rfl
    | false =>
      have hm : j ∈ Region.ready .any l.toArray listed := by
        rw [mem_ready]
        refine ⟨hq, l[j], by simp, fun e he _ => ?_⟩
        have hlte := hlt e he
        have ih := all_listed hB hr e.on (by omega)
        have hsz : j < listed.size := by
          rcases Nat.lt_or_ge j listed.size with h | h
          · exact h
          · simp [Array.getD_eq_getD_getElem?, Array.getElem?_eq_none h] at hq
        have hes : e.on < listed.size := by omega
        simpa [Array.getD_eq_getD_getElem?, hes] using ih
      rw [hr] at hm
      cases hm
termination_by j => j

theorem rel_any {P : Program} {l : List Oper} {V : Nat → Value → World → Prop} {Q : Exit → Act → World → Prop} {w : World} {a0 : Act} (hB : relB l = true)
    (hN : ∀ t, relWrites l t = true → t < a0.tmps.size)
    (hV : ∀ t v W W', V t v W → Below W.heap.size W W' → V t v W') (hop : relAll P l V Q w a0 l)
    (hend : ∀ (f : Nat → Value) (W : World), Below w.heap.size w W → (∀ t, relWrites l t = false → f t = a0.tmps.getD t undef) → (∀ t, relWrites l t = true → V t (f t) W) →
      Q .normal { tmps := ((List.range a0.tmps.size).map f).toArray, defers := a0.defers } W) : ∀ (fuel : Nat) (listed : Array Bool) (a : Act) (W : World),
    listed.size = l.length → listed.toList.countP (fun b => !b) ≤ fuel → RelInv l V w a0 listed a W → wpAny P .any l.toArray Q fuel listed a W := by
  have fin : ∀ (listed : Array Bool) (a : Act) (W : World), listed.size = l.length → RelInv l V w a0 listed a W → Region.ready .any l.toArray listed = [] → Q .normal a W := by
    intro listed a W hsz hI hr
    rw [rel_frame a a0 hI.dfr hI.size]
    refine hend _ W hI.bel hI.old fun t ht => ?_
    obtain ⟨j, o, hj, hd⟩ := writes_mem ht
    refine hI.new j o t hj hd ?_
    have hjl := (List.getElem?_eq_some_iff.1 hj).1
    have := all_listed hB hr j hjl
    have hjs : j < listed.size := by omega
    simpa [Array.getD_eq_getD_getElem?, hjs] using this
  intro fuel
  induction fuel with
  | zero =>
    intro listed a W hsz hc hI
    have hr : Region.ready .any l.toArray listed = [] := by
      rw [List.eq_nil_iff_forall_not_mem]
      intro i hi
      obtain ⟨h0, o, ho, _⟩ := mem_ready.1 hi
      have hil : i < l.length := (List.getElem?_eq_some_iff.1 (by simpa using ho)).1
      have his : i < listed.size := by omega
      have h0' : listed[i] = false := by simpa [Array.getD_eq_getD_getElem?, his] using h0
      have := List.countP_eq_zero.1 (Nat.le_zero.1 hc) listed[i] (by simp)
      rw [h0'] at this
      exact this rfl
    exact ⟨hr, fin listed a W hsz hI hr⟩
  | succ fuel ih =>
    intro listed a W hsz hc hI
    refine ⟨fin listed a W hsz hI, fun i hi => ?_⟩
    obtain ⟨h0, o, ho, hdep⟩ := mem_ready.1 hi
    have hol : l[i]? = some o := by simpa using ho
    have hil := (List.getElem?_eq_some_iff.1 hol).1
    have his : i < listed.size := by omega
    have h0' : listed[i] = false := by simpa [Array.getD_eq_getD_getElem?, his] using h0
    obtain ⟨hg, ⟨d, hd⟩, _, hdst⟩ := relB_spec hB hol
    have hstep := relAll_mem hop o (List.mem_of_getElem? hol) (fun t => a.tmps.getD t undef) W hI.bel hI.old (fun t ht hl => by
      obtain ⟨j, o', hj, hd'⟩ := writes_mem ht
      obtain ⟨e, he, hb, hon⟩ := (hdst j o' t hj hd').2 hl
      refine hI.new j o' t hj hd' ?_
      rw [← hon]
      exact hdep e he hb) (wpAny P .any l.toArray Q fuel (listed.setIfInBounds i true)) (by
      intro v W' hb hv
      rw [← rel_frame a a0 hI.dfr hI.size, hd]
      rw [hd] at hv
      have hda : d < a.tmps.size := by rw [hI.size]; exact hN d (mem_writes hol hd)
      refine ih _ _ _ (by simpa using hsz) ?_ ⟨hI.bel.trans (hb.mono hI.bel.size), hI.dfr, by simpa [Act.put] using hI.size, fun t ht => ?_, fun j o' t hj hd' hl => ?_⟩
      · rw [Array.toList_setIfInBounds, List.countP_set (by simpa using his)]
        simp only [Array.getElem_toList, h0', Bool.not_false, Bool.not_true, if_true, Bool.false_eq_true, if_false]
        have := List.countP_pos_iff (p := fun b => !b) (l := listed.toList) |>.2 ⟨listed[i], by simp, by rw [h0']; rfl⟩
        omega
      · have htd : t ≠ d := by rintro rfl; rw [mem_writes hol hd] at ht; cases ht
        rw [getD_put a d v t htd]
        exact hI.old t ht
      · by_cases hji : j = i
        · subst hji
          obtain rfl : o' = o := by rw [hol] at hj; exact (Option.some.inj hj).symm
          obtain rfl : t = d := by rw [hd] at hd'; exact (Option.some.inj hd').symm
          rw [getD_put_self a t v hda]
          exact hv
        · have htd : t ≠ d := by
            rintro rfl
            exact (hdst j o' t hj hd').1 hji hd
          rw [getD_put a d v t htd]
          rw [getD_set_ne false (Ne.symm hji)] at hl
          exact hV t _ W W' (hI.new j o' t hj hd' hl) hb)
    rw [← rel_frame a a0 hI.dfr hI.size] at hstep
    unfold wpOp
    simp only [ho]
    have hw : ∀ (y : Nat → Option Bool), Region.wanted o y = true := fun y => by simp [Region.wanted, hg]
    unfold wpList at hstep
    rw [if_pos (hw _)] at hstep
    rw [if_pos (hw _)]
    rcases hstep with hs | ⟨hs1, hs2⟩
    · left
      unfold Oper.wp at *
      generalize (execOp a.eval o).run P W = r at *
      cases r with
      | ok n w' =>
        cases n <;> simp only [Oper.upon] at hs ⊢ <;> first | exact hs | exact Calls.mono hs (fun e w'' he => by cases e <;> exact he) | exact Rows.mono hs (fun _ _ he => he)
      | halt x w' => cases x <;> simp only [Oper.upon] at hs ⊢ <;> exact hs
    · exact .inr ⟨hs1, hs2⟩

/-- THE LAW. -/
theorem wp_region_rel {P : Program} {id : Nat} {Q : Exit → Act → World → Prop} {a : Act} {w : World} {l : List Oper} (hm : P.follows .mixedOrders = true) (hB : relB l = true)
    (hN : ∀ t, relWrites l t = true → t < a.tmps.size) (V : Nat → Value → World → Prop)
    (hV : ∀ t v W W', V t v W → Below W.heap.size W W' → V t v W') (hop : relAll P l V Q w a l)
    (hend : ∀ (f : Nat → Value) (W : World), Below w.heap.size w W → (∀ t, relWrites l t = false → f t = a.tmps.getD t undef) → (∀ t, relWrites l t = true → V t (f t) W) →
      ∀ a', a' = ({ tmps := ((List.range a.tmps.size).map f).toArray, defers := a.defers } : Act) → Q .normal a' W) : (Code.region id l.toArray true).wp P Q a w := by
  refine wp_region_any hm ?_
  refine rel_any (w := w) (a0 := a) hB hN hV hop (fun f W h1 h2 h3 => hend f W h1 h2 h3 _ rfl) _ _ a _ (by simp) ?_ ⟨(Below.refl _ w).drew, rfl, rfl, fun _ _ => rfl, fun j o t hj hd hl => ?_⟩
  · rw [show l.toArray.size = l.length by simp]
    exact Nat.le_trans (List.countP_le_length) (by simp)
  · simp [Array.getD_eq_getD_getElem?, Array.getElem?_replicate] at hl
    split at hl <;> simp at hl

theorem rel_small {l : List Oper} {n : Nat} (h : (l.all fun o => (o.dst.map fun d => decide (d < n)).getD true) = true) : ∀ t, relWrites l t = true → t < n := by
  intro t ht
  obtain ⟨j, o, hj, hd⟩ := writes_mem ht
  have := List.all_eq_true.1 h o (List.mem_of_getElem? hj)
  simpa [hd] using this

/-- What a slot holds once its operation is done: a value, or a slice of a block of its own. -/
inductive RV where
  | val (x : Value)
  | row (cs : Array Value) (e : TypeId) (n : Nat)
def RV.holds : RV → Value → World → Prop
  | .val x => fun v _ => v = x
  | .row cs e n => fun v W => ∃ b, v = .slice (some ⟨b, 0, none⟩) n n ∧ W.heap[b]? = some (.cells cs e (0, 0))
def relV (tab : List (Nat × RV)) (t : Nat) (v : Value) (W : World) : Prop :=
  match tab.lookup t with
  | some r => r.holds v W
  | none => True
theorem relV_stable (tab : List (Nat × RV)) (t : Nat) (v : Value) (W W' : World) (h : relV tab t v W) (hb : Below W.heap.size W W') : relV tab t v W' := by
  unfold relV at *
  cases hl : tab.lookup t with
  | none => trivial
  | some r =>
    rw [hl] at h
    cases r with
    | val x => exact h
    | row cs e n =>
      obtain ⟨b, h1, h2⟩ := h
      refine ⟨b, h1, (hb.block b ?_).trans h2⟩
      rcases Nat.lt_or_ge b W.heap.size with h3 | h3
      · exact h3
      · rw [Array.getElem?_eq_none h3] at h2; cases h2
end Go.Proofs.YtkgacnenmflegaaGreatDoor
namespace Go.Proofs.YtkgacnenmflegaaGreatDoor
open Go.RowKit

/-- As relB, for the operations ahead of the last; and the last waits for all, through others. -/
def tailB (l : List Oper) : Bool :=
  decide (1 ≤ l.length) &&
  ((List.range (l.length - 1)).all fun i => match l[i]? with
    | none => false
    | some o => o.guard.isNone && o.dst.isSome && (o.after.toList.all fun e => e.on < i) &&
        ((List.range (l.length - 1)).all fun j => match l[j]? with
          | none => false
          | some o' => (j == i || o'.dst != o.dst) && (match o'.dst with
            | none => false
            | some t => !((o.looksAt l.toArray).contains t) || o.after.toList.any fun e => Region.binds .any e && e.on == j))) &&
  ((List.range (l.length - 1)).all fun j => (List.range l.length).any fun k => decide (j < k) && match l[k]? with
    | none => false
    | some o => o.after.toList.any fun e => Region.binds .any e && e.on == j) &&
  (match l[l.length - 1]? with
    | none => false
    | some o => o.guard.isNone && o.dst.isNone && o.after.toList.all fun e => e.on < l.length - 1)

theorem tailB_spec {l : List Oper} (h : tailB l = true) : 1 ≤ l.length ∧
    (∀ (i : Nat) (o : Oper), i < l.length - 1 → l[i]? = some o → o.guard = none ∧ (∃ t, o.dst = some t) ∧ (∀ e ∈ o.after, e.on < i) ∧
      ∀ (j : Nat) (o' : Oper) (t : Nat), j < l.length - 1 → l[j]? = some o' → o'.dst = some t → (j ≠ i → o.dst ≠ some t) ∧ ((o.looksAt l.toArray).contains t = true → ∃ e ∈ o.after, Region.binds .any e = true ∧ e.on = j)) ∧
    (∀ j, j < l.length - 1 → ∃ (k : Nat) (o : Oper), j < k ∧ l[k]? = some o ∧ ∃ e ∈ o.after, Region.binds .any e = true ∧ e.on = j) ∧
    (∃ o, l[l.length - 1]? = some o ∧ o.guard = none ∧ o.dst = none ∧ ∀ e ∈ o.after, e.on < l.length - 1) := by
  unfold tailB at h
  simp only [Bool.and_eq_true] at h
  obtain ⟨⟨⟨h0, h1⟩, h2⟩, h3⟩ := h
  refine ⟨by simpa using h0, fun i o hi ho => ?_, fun j hj => ?_, ?_⟩
  · have hx := List.all_eq_true.1 h1 i (List.mem_range.2 hi)
    simp only [ho, Bool.and_eq_true, Option.isNone_iff_eq_none] at hx
    obtain ⟨⟨⟨hg, hd⟩, hlt⟩, hall⟩ := hx
    refine ⟨hg, Option.isSome_iff_exists.1 hd, fun e he => by simpa using List.all_eq_true.1 hlt e (Array.mem_toList_iff.2 he), fun j o' t hjl hj ht => ?_⟩
    have hy := List.all_eq_true.1 hall j (List.mem_range.2 hjl)
    simp only [hj, ht, Bool.and_eq_true, Bool.or_eq_true, beq_iff_eq, bne_iff_ne, ne_eq, Bool.not_eq_true', List.any_eq_true] at hy
    refine ⟨fun hne he => ?_, fun hc => ?_⟩
    · rcases hy.1 with h4 | h4
      · exact hne h4
      · exact h4 he.symm
    · rcases hy.2 with h4 | h4
      · rw [hc] at h4; cases h4
      · obtain ⟨e, he, hb, hon⟩ := h4
        exact ⟨e, Array.mem_toList_iff.1 he, hb, hon⟩
  · obtain ⟨k, _, hk⟩ := List.any_eq_true.1 (List.all_eq_true.1 h2 j (List.mem_range.2 hj))
    simp only [Bool.and_eq_true, decide_eq_true_eq] at hk
    obtain ⟨hjk, hk⟩ := hk
    cases ho : l[k]? with
    | none => rw [ho] at hk; cases hk
    | some o =>
      rw [ho] at hk
      obtain ⟨e, he, hb⟩ := List.any_eq_true.1 hk
      simp only [Bool.and_eq_true, beq_iff_eq] at hb
      exact ⟨k, o, hjk, ho, e, Array.mem_toList_iff.1 he, hb.1, hb.2⟩
  · cases ho : l[l.length - 1]? with
    | none => rw [ho] at h3; cases h3
    | some o =>
      rw [ho] at h3
      simp only [Bool.and_eq_true, Option.isNone_iff_eq_none] at h3
      exact ⟨o, rfl, h3.1.1, h3.1.2, fun e he => by simpa using List.all_eq_true.1 h3.2 e (Array.mem_toList_iff.2 he)⟩

/-- How it stands between two operations ahead of the last. -/
structure TailInv (l : List Oper) (V : Nat → Value → World → Prop) (w : World) (a0 : Act) (listed : Array Bool) (a : Act) (W : World) : Prop where
  inv : RelInv l V w a0 listed a W
  last : listed.getD (l.length - 1) true = false
  down : ∀ (j : Nat) (o : Oper), l[j]? = some o → listed.getD j false = true → ∀ e ∈ o.after, Region.binds .any e = true → listed.getD e.on false = true

theorem getD_ft {listed : Array Bool} {j : Nat} (h : j < listed.size) : listed.getD j false = listed.getD j true := by
  simp [Array.getD_eq_getD_getElem?, h]

theorem tail_any {P : Program} {l : List Oper} {V : Nat → Value → World → Prop} {Q : Exit → Act → World → Prop} {w : World} {a0 : Act} (hB : tailB l = true)
    (hN : ∀ t, relWrites l t = true → t < a0.tmps.size)
    (hV : ∀ t v W W', V t v W → Below W.heap.size W W' → V t v W') (hop : ∀ (i : Nat) (o : Oper), i < l.length - 1 → l[i]? = some o → relStep P l V Q w a0 o)
    (hlast : ∀ o, l[l.length - 1]? = some o → ∀ (f : Nat → Value) (W : World), Below w.heap.size w W → (∀ t, relWrites l t = false → f t = a0.tmps.getD t undef) → (∀ t, relWrites l t = true → V t (f t) W) →
      ∀ (K : Act → World → Prop), (∀ a' W', Q .normal a' W' → K a' W') → wpList P #[o] (relQ K Q) [o] { tmps := ((List.range a0.tmps.size).map f).toArray, defers := a0.defers } W) : ∀ (fuel : Nat) (listed : Array Bool) (a : Act) (W : World),
    listed.size = l.length → listed.toList.countP (fun b => !b) ≤ fuel → TailInv l V w a0 listed a W → wpAny P .any l.toArray Q fuel listed a W := by
  obtain ⟨hlen, hS, hcov, lo, hlo, hlg, hld, hla⟩ := tailB_spec hB
  intro fuel
  induction fuel with
  | zero =>
    intro listed a W hsz hc hI
    exfalso
    have hls : l.length - 1 < listed.size := by omega
    have h0 : listed[l.length - 1] = false := by simpa [Array.getD_eq_getD_getElem?, hls] using hI.last
    have := List.countP_eq_zero.1 (Nat.le_zero.1 hc) listed[l.length - 1] (by simp)
    rw [h0] at this
    exact this rfl
  | succ fuel ih =>
    intro listed a W hsz hc hI
    refine ⟨fun hr => ?_, fun i hi => ?_⟩
    · -- nothing is ready: impossible, as the last is not listed
      exfalso
      have hall : ∀ (j : Nat), j < l.length → listed.getD j true = true := by
        intro j
        induction j using Nat.strongRecOn with
        | _ j ihj =>
          intro hj
          have ho : l[j]? = some l[j] := List.getElem?_eq_getElem hj
          have hlt : ∀ e ∈ l[j].after, e.on < j := by
            by_cases hj1 : j < l.length - 1
            · exact (hS j _ hj1 ho).2.2.1
            · obtain rfl : j = l.length - 1 := by omega
              rw [hlo] at ho
              rw [← Option.some.inj ho]
              exact hla
          cases hq : listed.getD j true with
          | true => rfl
          | false =>
            have hm : j ∈ Region.ready .any l.toArray listed := by
              rw [mem_ready]
              refine ⟨hq, l[j], by simp, fun e he _ => ?_⟩
              have hlte := hlt e he
              have ih := ihj e.on hlte (by omega)
              have hes : e.on < listed.size := by omega
              simpa [Array.getD_eq_getD_getElem?, hes] using ih
            rw [hr] at hm
            cases hm
      have := hall (l.length - 1) (by omega)
      rw [hI.last] at this
      cases this
    · obtain ⟨h0, o, ho, hdep⟩ := mem_ready.1 hi
      have hol : l[i]? = some o := by simpa using ho
      have hil := (List.getElem?_eq_some_iff.1 hol).1
      have his : i < listed.size := by omega
      have h0' : listed[i] = false := by simpa [Array.getD_eq_getD_getElem?, his] using h0
      by_cases hil1 : i < l.length - 1
      · obtain ⟨hg, ⟨d, hd⟩, _, hdst⟩ := hS i o hil1 hol
        have hwr : ∀ (j : Nat) (o' : Oper) (t : Nat), l[j]? = some o' → o'.dst = some t → j < l.length - 1 := by
          intro j o' t hj ht
          have hjl := (List.getElem?_eq_some_iff.1 hj).1
          rcases Nat.lt_or_ge j (l.length - 1) with h | h
          · exact h
          · obtain rfl : j = l.length - 1 := by omega
            rw [hlo] at hj
            rw [← Option.some.inj hj, hld] at ht
            cases ht
        have hstep := hop i o hil1 hol (fun t => a.tmps.getD t undef) W hI.inv.bel hI.inv.old (fun t ht hl => by
          obtain ⟨j, o', hj, hd'⟩ := writes_mem ht
          obtain ⟨e, he, hb, hon⟩ := (hdst j o' t (hwr j o' t hj hd') hj hd').2 hl
          refine hI.inv.new j o' t hj hd' ?_
          rw [← hon]
          exact hdep e he hb) (wpAny P .any l.toArray Q fuel (listed.setIfInBounds i true)) (by
          intro v W' hb hv
          rw [← rel_frame a a0 hI.inv.dfr hI.inv.size, hd]
          rw [hd] at hv
          have hda : d < a.tmps.size := by rw [hI.inv.size]; exact hN d (mem_writes hol hd)
          refine ih _ _ _ (by simpa using hsz) ?_ ⟨⟨hI.inv.bel.trans (hb.mono hI.inv.bel.size), hI.inv.dfr, by simpa [Act.put] using hI.inv.size, fun t ht => ?_, fun j o' t hj hd' hl => ?_⟩, ?_, fun j o' hj hl e he hbi => ?_⟩
          · rw [Array.toList_setIfInBounds, List.countP_set (by simpa using his)]
            simp only [Array.getElem_toList, h0', Bool.not_false, Bool.not_true, if_true, Bool.false_eq_true, if_false]
            have := List.countP_pos_iff (p := fun b => !b) (l := listed.toList) |>.2 ⟨listed[i], by simp, by rw [h0']; rfl⟩
            omega
          · have htd : t ≠ d := by rintro rfl; rw [mem_writes hol hd] at ht; cases ht
            rw [getD_put a d v t htd]
            exact hI.inv.old t ht
          · by_cases hji : j = i
            · subst hji
              obtain rfl : o' = o := by rw [hol] at hj; exact (Option.some.inj hj).symm
              obtain rfl : t = d := by rw [hd] at hd'; exact (Option.some.inj hd').symm
              rw [getD_put_self a t v hda]
              exact hv
            · have htd : t ≠ d := by
                rintro rfl
                exact (hdst j o' t (hwr j o' t hj hd') hj hd').1 hji hd
              rw [getD_put a d v t htd]
              rw [getD_set_ne false (Ne.symm hji)] at hl
              exact hV t _ W W' (hI.inv.new j o' t hj hd' hl) hb
          · have hne : i ≠ l.length - 1 := by omega
            rw [getD_set_ne true hne]
            exact hI.last
          · by_cases hei : e.on = i
            · rw [hei]
              simp [his]
            · rw [getD_set_ne false (Ne.symm hei)]
              by_cases hji : j = i
              · subst hji
                obtain rfl : o' = o := by rw [hol] at hj; exact (Option.some.inj hj).symm
                exact hdep e he hbi
              · rw [getD_set_ne false (Ne.symm hji)] at hl
                exact hI.down j o' hj hl e he hbi)
        rw [← rel_frame a a0 hI.inv.dfr hI.inv.size] at hstep
        unfold wpOp
        simp only [ho]
        have hw : ∀ (y : Nat → Option Bool), Region.wanted o y = true := fun y => by simp [Region.wanted, hg]
        unfold wpList at hstep
        rw [if_pos (hw _)] at hstep
        rw [if_pos (hw _)]
        rcases hstep with hs | ⟨hs1, hs2⟩
        · left
          unfold Oper.wp at *
          generalize (execOp a.eval o).run P W = r at *
          cases r with
          | ok n w' =>
            cases n <;> simp only [Oper.upon] at hs ⊢ <;> first | exact hs | exact Calls.mono hs (fun e w'' he => by cases e <;> exact he) | exact Rows.mono hs (fun _ _ he => he)
          | halt x w' => cases x <;> simp only [Oper.upon] at hs ⊢ <;> exact hs
        · exact .inr ⟨hs1, hs2⟩
      · -- the last one
        obtain rfl : i = l.length - 1 := by omega
        obtain rfl : o = lo := by rw [hlo] at hol; exact (Option.some.inj hol).symm
        have hcl : ∀ (n j : Nat), l.length - 1 - j ≤ n → j < l.length - 1 → listed.getD j false = true := by
          intro n
          induction n with
          | zero => intro j h1 h2; omega
          | succ n ihn =>
            intro j h1 h2
            obtain ⟨k, o', hjk, hk, e, he, hb, hon⟩ := hcov j h2
            have hkl := (List.getElem?_eq_some_iff.1 hk).1
            rw [← hon]
            by_cases hk1 : k < l.length - 1
            · exact hI.down k o' hk (ihn k (by omega) hk1) e he hb
            · obtain rfl : k = l.length - 1 := by omega
              obtain rfl : o = o' := by rw [hlo] at hk; exact Option.some.inj hk
              exact hdep e he hb
        have hready : Region.ready .any l.toArray (listed.setIfInBounds (l.length - 1) true) = [] := by
          rw [List.eq_nil_iff_forall_not_mem]
          intro j hj
          obtain ⟨hj0, o', ho', _⟩ := mem_ready.1 hj
          have hjl : j < l.length := (List.getElem?_eq_some_iff.1 (by simpa using ho')).1
          by_cases hj1 : j = l.length - 1
          · rw [hj1] at hj0
            simp [his] at hj0
          · rw [getD_set_ne true (Ne.symm hj1)] at hj0
            have := hcl _ j (Nat.le_refl _) (by omega)
            rw [getD_ft (by omega), hj0] at this
            cases this
        have hstep := hlast o hlo (fun t => a.tmps.getD t undef) W hI.inv.bel hI.inv.old (fun t ht => by
          obtain ⟨j, o', hj, hd'⟩ := writes_mem ht
          refine hI.inv.new j o' t hj hd' (hcl _ j (Nat.le_refl _) ?_)
          have hjl := (List.getElem?_eq_some_iff.1 hj).1
          rcases Nat.lt_or_ge j (l.length - 1) with h | h
          · exact h
          · obtain rfl : j = l.length - 1 := by omega
            rw [hlo] at hj
            rw [← Option.some.inj hj, hld] at hd'
            cases hd') (wpAny P .any l.toArray Q fuel (listed.setIfInBounds (l.length - 1) true)) (by
          intro a' W' hq
          cases fuel with
          | zero => exact ⟨hready, hq⟩
          | succ fuel => exact ⟨fun _ => hq, fun i hi => by rw [hready] at hi; cases hi⟩)
        rw [← rel_frame a a0 hI.inv.dfr hI.inv.size] at hstep
        unfold wpOp
        simp only [ho]
        have hw : ∀ (y : Nat → Option Bool), Region.wanted o y = true := fun y => by simp [Region.wanted, hlg]
        unfold wpList at hstep
        rw [if_pos (hw _)] at hstep
        rw [if_pos (hw _)]
        rcases hstep with hs | ⟨hs1, hs2⟩
        · left
          unfold Oper.wp at *
          generalize (execOp a.eval o).run P W = r at *
          cases r with
          | ok n w' =>
            cases n <;> simp only [Oper.upon] at hs ⊢ <;> first | exact hs | exact Calls.mono hs (fun e w'' he => by cases e <;> exact he) | exact Rows.mono hs (fun _ _ he => he)
          | halt x w' => cases x <;> simp only [Oper.upon] at hs ⊢ <;> exact hs
        · exact .inr ⟨hs1, hs2⟩

def relInit (P : Program) (l : List Oper) (V : Nat → Value → World → Prop) (Q : Exit → Act → World → Prop) (w : World) (a0 : Act) : List Oper → Prop
  | [] => True
  | [o] => ∀ (f : Nat → Value) (W : World), Below w.heap.size w W → (∀ t, relWrites l t = false → f t = a0.tmps.getD t undef) → (∀ t, relWrites l t = true → V t (f t) W) →
      ∀ (K : Act → World → Prop), (∀ a' W', Q .normal a' W' → K a' W') → wpList P #[o] (relQ K Q) [o] { tmps := ((List.range a0.tmps.size).map f).toArray, defers := a0.defers } W
  | o :: p :: r => relStep P l V Q w a0 o ∧ relInit P l V Q w a0 (p :: r)
theorem relInit_step {P : Program} {l : List Oper} {V : Nat → Value → World → Prop} {Q : Exit → Act → World → Prop} {w : World} {a0 : Act} : ∀ {r : List Oper}, relInit P l V Q w a0 r → ∀ (i : Nat) (o : Oper), i < r.length - 1 → r[i]? = some o → relStep P l V Q w a0 o
  | [], _, i, o, h, _ => by simp at h
  | [_], _, i, o, h, _ => by simp at h
  | x :: y :: r, hr, 0, o, _, ho => by
    obtain rfl : x = o := by simpa using ho
    exact hr.1
  | x :: y :: r, hr, i + 1, o, h, ho => relInit_step (r := y :: r) hr.2 i o (by simp at h ⊢; omega) (by simpa using ho)
theorem relInit_last {P : Program} {l : List Oper} {V : Nat → Value → World → Prop} {Q : Exit → Act → World → Prop} {w : World} {a0 : Act} : ∀ {r : List Oper}, relInit P l V Q w a0 r → ∀ o, r[r.length - 1]? = some o → relInit P l V Q w a0 [o]
  | [], _, o, h => by simp at h
  | [x], hr, o, h => by
    obtain rfl : x = o := by simpa using h
    exact hr
  | x :: y :: r, hr, o, h => relInit_last (r := y :: r) hr.2 o (by simpa using h)

/-- THE LAW. -/
theorem wp_region_tail {P : Program} {id : Nat} {Q : Exit → Act → World → Prop} {a : Act} {w : World} {l : List Oper} (hm : P.follows .mixedOrders = true) (hB : tailB l = true)
    (hN : ∀ t, relWrites l t = true → t < a.tmps.size) (V : Nat → Value → World → Prop)
    (hV : ∀ t v W W', V t v W → Below W.heap.size W W' → V t v W') (hop : relInit P l V Q w a l) : (Code.region id l.toArray true).wp P Q a w := by
  have hlen := (tailB_spec hB).1
  refine wp_region_any hm ?_
  refine tail_any (w := w) (a0 := a) hB hN hV (relInit_step hop) (fun o ho => relInit_last hop o ho) _ _ a _ (by simp) ?_ ⟨⟨(Below.refl _ w).drew, rfl, rfl, fun _ _ => rfl, fun j o t hj hd hl => ?_⟩, ?_, fun j o hj hl => ?_⟩
  · rw [show l.toArray.size = l.length by simp]
    exact Nat.le_trans (List.countP_le_length) (by simp)
  · simp [Array.getD_eq_getD_getElem?, Array.getElem?_replicate] at hl
    split at hl <;> simp at hl
  · simp [Array.getD_eq_getD_getElem?, show l.length - 1 < l.length by omega]
  · simp [Array.getD_eq_getD_getElem?, Array.getElem?_replicate] at hl
    split at hl <;> simp at hl

/-- What a slot holds: a value; a slice of a block of its own; a block of its own, with these cells. -/
inductive TV where
  | val (x : Value)
  | row (cs : Array Value) (e : TypeId) (n : Nat)
  | own (cs : Array Value) (e : TypeId) (base : Nat)
  | that (p : Value → World → Prop)
def TV.holds : TV → Value → World → Prop
  | .val x => fun v _ => v = x
  | .row cs e n => fun v W => ∃ b, v = .slice (some ⟨b, 0, none⟩) n n ∧ W.heap[b]? = some (.cells cs e (0, 0))
  | .own cs e base => fun v W => ∃ b, v = .pointer (some ⟨b, 0, none⟩) ∧ base ≤ b ∧ W.heap[b]? = some (.cells cs e (0, 0))
  | .that p => fun v W => ∃ W0, p v W0 ∧ Below W0.heap.size W0 W
def tailV (tab : List (Nat × TV)) (t : Nat) (v : Value) (W : World) : Prop :=
  match tab.lookup t with
  | some r => r.holds v W
  | none => True
theorem below_blk {W W' : World} {b : Nat} {o : Obj} (h : W.heap[b]? = some o) (hb : Below W.heap.size W W') : W'.heap[b]? = some o := by
  refine (hb.block b ?_).trans h
  rcases Nat.lt_or_ge b W.heap.size with h3 | h3
  · exact h3
  · rw [Array.getElem?_eq_none h3] at h; cases h
theorem tailV_stable (tab : List (Nat × TV)) (t : Nat) (v : Value) (W W' : World) (h : tailV tab t v W) (hb : Below W.heap.size W W') : tailV tab t v W' := by
  unfold tailV at *
  cases hl : tab.lookup t with
  | none => trivial
  | some r =>
    rw [hl] at h
    cases r with
    | val x => exact h
    | row cs e n =>
      obtain ⟨b, h1, h2⟩ := h
      exact ⟨b, h1, below_blk h2 hb⟩
    | own cs e base =>
      obtain ⟨b, h1, h0, h2⟩ := h
      exact ⟨b, h1, h0, below_blk h2 hb⟩
    | that p =>
      obtain ⟨W0, h1, h2⟩ := h
      exact ⟨W0, h1, h2.trans (hb.mono h2.size)⟩
end Go.Proofs.YtkgacnenmflegaaGreatDoor
