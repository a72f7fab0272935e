/-
  The packer's builder: a strings.Builder that lies in a struct, one cell behind its head.
-/
import Derived.Test.YtdjkcmjhknabnaaDoorLzUnpacks
import Derived.Lib.Builder
import Derived.Laws.Externs
import Derived.Lib.AppendStr
import Derived.Lib.UnsafeStr
import Derived.Laws.AppendOwn
namespace Go.Proofs.YtdjkcmjhknabnaaDoor
open Go.RowKit

theorem sizeBld : (Tryd.prog.info? 49).map (·.size) = some 2 := by kernel_rfl
theorem liesBld : liesAt Tryd.prog Tryd.prog.depth 51 (5 / Tryd.prog.cellsOf 51) 1 49 1 = true := by kernel_rfl
set_option maxHeartbeats 1000000 in
theorem bld_check1 (g : Nat) (w : World) (c1 : w.cell? ⟨g, 1, none⟩ = some (.pointer (some ⟨g, 1, none⟩))) :
    Calls Tryd.prog 29 #[.pointer (some ⟨g, 1, none⟩)] w fun e w' => e = .returned (.tuple #[]) ∧ w' = w := by
  obtain ⟨j, hj, _⟩ := Option.map_eq_some_iff.1 sizeBld
  go_enter Tryd.func29, Tryd.ntmps29
  go_wp2
  rw [Lib.run_neq_ptr_same _ _ Tryd.underlying47 hj]
  go_wp2
  go_end0
  exact ⟨rfl, rfl⟩
set_option maxHeartbeats 1000000 in
theorem bld_check0 (g : Nat) (w : World) (c1 : w.cell? ⟨g, 1, none⟩ = some (.pointer none)) (f1 : w.frozen? ⟨g, 1, none⟩ = false) (hsh : w.shape? g = some (51, 5)) :
    Calls Tryd.prog 29 #[.pointer (some ⟨g, 1, none⟩)] w fun e w' => e = .returned (.tuple #[]) ∧ w' = w.setCell ⟨g, 1, none⟩ (.pointer (some ⟨g, 1, none⟩)) := by
  obtain ⟨j, hj, hjs⟩ := Option.map_eq_some_iff.1 sizeBld
  go_enter Tryd.func29, Tryd.ntmps29
  go_wp2
  rw [Lib.run_to_unsafe (e := 51) (cells := 5) _ ⟨g, 1, none⟩ Tryd.underlying47 Tryd.underlying74 hj (by rw [hjs]; decide) hsh (show 1 < 5 by decide)]
  simp only [Result.andThen]
  rw [Oper.upon_value]
  go_wp2
  rw [run_callFunc_extern Tryd.func31 (by kernel_rfl) (by kernel_rfl) (by kernel_rfl) (e := Extern.AbiNoEscape.same) (by kernel_rfl)]
  rw [Lib.run_noEscape]
  simp only [Result.andThen]
  rw [Oper.upon_value]
  go_wp2
  rw [Lib.run_from_unsafe (e := 51) (cells := 5) _ ⟨g, 1, none⟩ Tryd.underlying74 Tryd.underlying47 hj hsh liesBld]
  simp only [Result.andThen]
  rw [Oper.upon_value]
  go_wp2
  go_end0
  exact ⟨rfl, rfl⟩

/-- The packer's block: its text, the builder's two cells, how far it is told, the map; the buffer's bytes. -/
def PkAt (g gm : Nat) (s : ByteArray) (p buf : Value) (k : Nat) (l : List UInt8) (w : World) : Prop :=
  w.heap[g]? = some (.cells #[.string s, p, buf, .int .i64 (k : Int), .map (some gm)] 51 (0, 0)) ∧ w.ownsRow (g + 1) 5 1 buf l.length (bytesV l) ∧ (l = [] → buf = .slice none 0 0)
def Pk (g gm : Nat) (s : ByteArray) (k : Nat) (l : List UInt8) (w : World) : Prop :=
  ∃ p buf, (p = .pointer none ∨ p = .pointer (some ⟨g, 1, none⟩)) ∧ PkAt g gm s p buf k l w
section
variable {g gm k : Nat} {s : ByteArray} {p buf : Value} {l : List UInt8} {w : World}
theorem PkAt.lt (h : PkAt g gm s p buf k l w) : g < w.heap.size := (Array.getElem?_eq_some_iff.1 h.1).1
theorem Pk.lt (h : Pk g gm s k l w) : g < w.heap.size := by obtain ⟨p, buf, _, h⟩ := h; exact h.lt
theorem PkAt.ne (h : PkAt g gm s p buf k l w) : buf.ownBlock ≠ some g := fun e => by have := (h.2.1.lt g e).1; omega
theorem PkAt.cell (h : PkAt g gm s p buf k l w) (j : Nat) : w.cell? ⟨g, j, none⟩ = (#[.string s, p, buf, .int .i64 (k : Int), .map (some gm)] : Array Value)[j]? := Lib.cell_of_heap h.1 j
theorem PkAt.free (h : PkAt g gm s p buf k l w) (j : Nat) : w.frozen? ⟨g, j, none⟩ = false := Lib.frozen_of_heap h.1 j
/-- Another block than its own and the buffer's was written, or new ones came. -/
theorem PkAt.kept {w' : World} {row : Option Nat} (h : PkAt g gm s p buf k l w) (hg : w.grownBy w' row) (h1 : some g ≠ row) (h2 : buf.ownBlock = none ∨ buf.ownBlock ≠ row) : PkAt g gm s p buf k l w' :=
  ⟨(hg.block g h.lt h1).trans h.1, h.2.1.kept hg h2, h.2.2⟩
theorem PkAt.drew (h : PkAt g gm s p buf k l w) : PkAt g gm s p buf k l w.drew := h
theorem PkAt.alloc (h : PkAt g gm s p buf k l w) (o : Obj) : PkAt g gm s p buf k l (w.alloc o) := h.kept (World.grownBy_alloc w o none) (by simp) (by cases buf.ownBlock <;> simp)
theorem Pk.kept {w' : World} {row : Option Nat} (h : Pk g gm s k l w) (hg : w.grownBy w' row) (h1 : ∀ r, row = some r → r < g) : Pk g gm s k l w' := by
  obtain ⟨p, buf, hp, h⟩ := h
  refine ⟨p, buf, hp, h.kept hg (fun e => by have := h1 g e.symm; omega) ?_⟩
  cases hb : buf.ownBlock with
  | none => exact .inl rfl
  | some b => exact .inr fun e => by have := h1 b e.symm; have := (h.2.1.lt b hb).1; omega
theorem Pk.alloc (h : Pk g gm s k l w) (o : Obj) : Pk g gm s k l (w.alloc o) := h.kept (World.grownBy_alloc w o none) (by simp)
theorem grownBy_setCell (w : World) (a : Addr) (u : Value) : w.grownBy (w.setCell a u) (some a.block) :=
  ⟨rfl, rfl, rfl, by simp [World.setCell], fun k _ hk => Below.heap_setCell _ _ _ _ (fun e => hk (by simp [e]))⟩
theorem PkAt.setAddr (h : PkAt g gm s p buf k l w) (q : Value) : PkAt g gm s q buf k l (w.setCell ⟨g, 1, none⟩ q) := by
  refine ⟨?_, h.2.1.kept (grownBy_setCell w _ q) (.inr h.ne), h.2.2⟩
  have := h.1
  simp [World.setCell, Array.getElem?_modify, this]
theorem PkAt.setPlain (h : PkAt g gm s p buf k l w) (j : Nat) : PkAt g gm s p buf j l (w.setCell ⟨g, 3, none⟩ (.int .i64 (j : Int))) := by
  refine ⟨?_, h.2.1.kept (grownBy_setCell w _ _) (.inr h.ne), h.2.2⟩
  have := h.1
  simp [World.setCell, Array.getElem?_modify, this]
theorem PkAt.setBuf {buf' : Value} {l' : List UInt8} (h : w.heap[g]? = some (.cells #[.string s, p, buf, .int .i64 (k : Int), .map (some gm)] 51 (0, 0))) (ho : w.ownsRow (g + 1) 5 1 buf' l'.length (bytesV l')) (h0 : l' ≠ []) : PkAt g gm s p buf' k l' (w.setCell ⟨g, 2, none⟩ buf') := by
  refine ⟨?_, ho.kept (grownBy_setCell w _ _) (.inr fun e => by have := (ho.lt g e).1; omega), fun e => absurd e h0⟩
  simp [World.setCell, Array.getElem?_modify, h]
/-- copyCheck: behind it the builder is used. -/
theorem bld_check (h : Pk g gm s k l w) :
    Calls Tryd.prog 29 #[.pointer (some ⟨g, 1, none⟩)] w fun e w' => e = .returned (.tuple #[]) ∧ (∃ buf, PkAt g gm s (.pointer (some ⟨g, 1, none⟩)) buf k l w') ∧ w.grownBy w' (some g) := by
  obtain ⟨p, buf, hp, h⟩ := h
  rcases hp with rfl | rfl
  · refine (bld_check0 g w (by rw [h.cell]; rfl) (h.free 1) (by simp [World.shape?, h.1])).mono ?_
    rintro e w' ⟨rfl, rfl⟩
    exact ⟨rfl, ⟨buf, h.setAddr _⟩, grownBy_setCell w _ _⟩
  · refine (bld_check1 g w (by rw [h.cell]; rfl)).mono ?_
    rintro e w' ⟨rfl, rfl⟩
    exact ⟨rfl, ⟨buf, h⟩, ⟨rfl, rfl, rfl, Nat.le_refl _, fun _ _ _ => rfl⟩⟩
end
theorem infoU8L : (Tryd.prog.info? 5).map (fun i => (i.zero, i.size, i.bytes)) = some (some (.int .u8 0), 1, 1) := by kernel_rfl
theorem below_of_grownBy {g : Nat} {w w' : World} {row : Option Nat} (h : w.grownBy w' row) (hg : g ≤ w.heap.size) (hr : ∀ r, row = some r → g ≤ r) : Below g w w' := (Below.refl g w).grown h hg hr
set_option maxHeartbeats 1000000 in
theorem bld_writeByte (g gm k : Nat) (s : ByteArray) (l : List UInt8) (c : UInt8) (w : World) (h : Pk g gm s k l w) (hl : l.length ≤ 1073741824) :
    Calls Tryd.prog 27 #[.pointer (some ⟨g, 1, none⟩), .int .u8 (c.toNat : Int)] w fun e w' => e = .returned .nilIface ∧ Pk g gm s k (l ++ [c]) w' ∧ Below g w w' := by
  obtain ⟨i0, hi, hz⟩ := Option.map_eq_some_iff.1 infoU8L
  simp only [Prod.mk.injEq] at hz
  obtain ⟨hz0, hz1, hz2⟩ := hz
  have hgl := h.lt
  go_enter Tryd.func27, Tryd.ntmps27
  go_wp2_with (go_at_call 29; refine (bld_check h).mono ?_)
  rintro e w1 ⟨rfl, ⟨buf, h1⟩, hg1⟩
  have c2 : w1.cell? ⟨g, 2, none⟩ = some buf := by rw [h1.cell]; rfl
  have hs1 := h1.lt
  go_wp2_with (at_builtin; refine wpList_append_own _ rfl _ _ 42 rfl (g + 1) 5 i0 (.int .u8 0) 1 1 Tryd.underlying42 hi hz0 hz1 hz2 rfl (by decide) buf l.length (bytesV l) rfl (h1.2.1.kept (World.grownBy_alloc _ _ none) (by cases buf.ownBlock <;> simp)) ⟨w1.heap.size, 0, none⟩ 1 1 [.int .u8 (c.toNat : Int)] rfl rfl ?c1 ?c2 ?c3 ?c4 ?c5 ?_)
  case c1 =>
    intro j u hj
    match j, hj with
    | 0, hj => simp at hj; subst hj; simp [Addr.add]
  case c2 => intro u hu; simp at hu; subst hu; rfl
  case c3 => unfold maxLen; omega
  case c4 => omega
  case c5 => simp; omega
  intro v' w2 hown' hgrow _
  have hb2 : w2.heap[g]? = some (.cells #[.string s, .pointer (some ⟨g, 1, none⟩), buf, .int .i64 (k : Int), .map (some gm)] 51 (0, 0)) := by
    rw [hgrow.block g (by simp; omega) (fun e => h1.ne e.symm)]
    exact (h1.alloc _).1
  have d2 : w2.cell? ⟨g, 2, none⟩ = some buf := by rw [Lib.cell_of_heap hb2]; rfl
  have f2 : w2.frozen? ⟨g, 2, none⟩ = false := Lib.frozen_of_heap hb2 2
  obtain ⟨b, cap, rfl⟩ : ∃ b cap, v' = .slice (some ⟨b, 0, none⟩) (l.length + 1) cap := by
    rcases hown'.2 with ⟨_, h0⟩ | ⟨b, cap, cur, hv, _⟩
    · omega
    · exact ⟨b, cap, hv⟩
  go_wp2
  go_ret
  have hbl : bytesV (l ++ [c]) = bytesV l ++ [.int .u8 (c.toNat : Int)] := by rw [bytesV_append]; rfl
  refine ⟨rfl, ⟨_, _, .inr rfl, PkAt.setBuf hb2 (l' := l ++ [c]) (by rw [hbl, List.length_append]; exact hown') (by simp)⟩, ?_⟩
  have e1 : Below g w w1 := below_of_grownBy hg1 (by omega) (by simp)
  have e2 : Below g w1 w2 := ((Below.refl g w1).alloc (by omega) _).grown hgrow (by simp; omega) (fun r hr => by have := (h1.2.1.lt r hr).1; omega)
  exact (e1.trans e2).setCell (p := ⟨g, 2, none⟩) (Nat.le_refl _) _
set_option maxHeartbeats 1000000 in
theorem bld_writeString (g gm k : Nat) (s : ByteArray) (l : List UInt8) (x : ByteArray) (w : World) (h : Pk g gm s k l w) (hl : l.length ≤ 1073741824) (hx : x.size ≤ 1073741824) (h0 : l ≠ []) :
    Calls Tryd.prog 28 #[.pointer (some ⟨g, 1, none⟩), .string x] w fun e w' => (∃ r, e = .returned r) ∧ Pk g gm s k (l ++ x.data.toList) w' ∧ Below g w w' := by
  obtain ⟨i0, hi, hz⟩ := Option.map_eq_some_iff.1 infoU8L
  simp only [Prod.mk.injEq] at hz
  obtain ⟨hz0, hz1, hz2⟩ := hz
  have hgl := h.lt
  go_enter Tryd.func28, Tryd.ntmps28
  go_wp2_with (go_at_call 29; refine (bld_check h).mono ?_)
  rintro e w1 ⟨rfl, ⟨buf, h1⟩, hg1⟩
  have c2 : w1.cell? ⟨g, 2, none⟩ = some buf := by rw [h1.cell]; rfl
  have hs1 := h1.lt
  go_wp2_with (at_builtin; refine Lib.wpList_append_own_string _ rfl _ _ 42 9 rfl (g + 1) 5 i0 Tryd.underlying42 Tryd.underlying9 hi hz0 hz1 hz2 buf l.length (bytesV l) rfl h1.2.1 x rfl ?c3 ?c4 ?c5 ?_)
  case c3 => unfold maxLen; omega
  case c4 => omega
  case c5 => omega
  intro v' w2 hown' hgrow _
  have hb2 : w2.heap[g]? = some (.cells #[.string s, .pointer (some ⟨g, 1, none⟩), buf, .int .i64 (k : Int), .map (some gm)] 51 (0, 0)) := by
    rw [hgrow.block g (by omega) (fun e => h1.ne e.symm)]
    exact h1.1
  have d2 : w2.cell? ⟨g, 2, none⟩ = some buf := by rw [Lib.cell_of_heap hb2]; rfl
  have f2 : w2.frozen? ⟨g, 2, none⟩ = false := Lib.frozen_of_heap hb2 2
  obtain ⟨b, n, cap, rfl⟩ : ∃ b n cap, v' = .slice b n cap := by
    rcases hown'.2 with ⟨hv, h0⟩ | ⟨b, cap, cur, hv, _⟩
    · exact ⟨_, _, _, hv⟩
    · exact ⟨_, _, _, hv⟩
  go_wp2
  go_ret2
  have hbl : bytesV (l ++ x.data.toList) = bytesV l ++ Lib.strCells x := by rw [bytesV_append]; rfl
  refine ⟨⟨_, rfl⟩, ⟨_, _, .inr rfl, PkAt.setBuf hb2 (l' := l ++ x.data.toList) (by rw [hbl, List.length_append, data_len]; exact hown') (by simp [h0])⟩, ?_⟩
  have e1 : Below g w w1 := below_of_grownBy hg1 (by omega) (by simp)
  have e2 : Below g w1 w2 := (Below.refl g w1).grown hgrow (by omega) (fun r hr => by have := (h1.2.1.lt r hr).1; omega)
  exact (e1.trans e2).setCell (p := ⟨g, 2, none⟩) (Nat.le_refl _) _
set_option maxHeartbeats 1000000 in
theorem bld_write (g gm k : Nat) (s : ByteArray) (l : List UInt8) (b : Nat) (x : List UInt8) (w : World) (h : Pk g gm s k l w) (hl : l.length ≤ 1073741824) (hx : x.length ≤ 1073741824) (h0 : x ≠ []) (hb : b ≠ g)
    (hc : ∀ j u, (bytesV x)[j]? = some u → w.cell? ((⟨b, 0, none⟩ : Addr).add j) = some u) (hbl : b < w.heap.size) (n c : Nat) (hn : n = x.length) :
    Calls Tryd.prog 19 #[.pointer (some ⟨g, 1, none⟩), .slice (some ⟨b, 0, none⟩) n c] w fun e w' => (∃ r, e = .returned r) ∧ Pk g gm s k (l ++ x) w' ∧ Below g w w' := by
  obtain ⟨i0, hi, hz⟩ := Option.map_eq_some_iff.1 infoU8L
  simp only [Prod.mk.injEq] at hz
  obtain ⟨hz0, hz1, hz2⟩ := hz
  have hgl := h.lt
  have HN := Aside.mk hn
  clear hn
  go_enter Tryd.func19, Tryd.ntmps19
  go_wp2_with (go_at_call 29; refine (bld_check h).mono ?_)
  rintro e w1 ⟨rfl, ⟨buf, h1⟩, hg1⟩
  have c2 : w1.cell? ⟨g, 2, none⟩ = some buf := by rw [h1.cell]; rfl
  have hs1 := h1.lt
  have hc1 : ∀ j u, (bytesV x)[j]? = some u → w1.cell? ((⟨b, 0, none⟩ : Addr).add j) = some u := fun j u hu => by
    have := hc j u hu
    rw [add_plain] at this ⊢
    simp only [World.cell?] at this ⊢
    rw [hg1.block b hbl (by simpa using hb)]
    exact this
  go_wp2_with (at_builtin; refine wpList_append_own _ rfl _ _ 42 rfl (g + 1) 5 i0 (.int .u8 0) 1 1 Tryd.underlying42 hi hz0 hz1 hz2 rfl (by decide) buf l.length (bytesV l) rfl h1.2.1 ⟨b, 0, none⟩ n c (bytesV x) rfl ?c0 hc1 (bytesV_one x) ?c3 ?c4 ?c5 ?_)
  case c0 => rw [bytesV_length, HN.out]; omega
  case c3 => have := HN.out; unfold maxLen; omega
  case c4 => have := HN.out; omega
  case c5 => omega
  intro v' w2 hown' hgrow _
  have hb2 : w2.heap[g]? = some (.cells #[.string s, .pointer (some ⟨g, 1, none⟩), buf, .int .i64 (k : Int), .map (some gm)] 51 (0, 0)) := by
    rw [hgrow.block g (by omega) (fun e => h1.ne e.symm)]
    exact h1.1
  have d2 : w2.cell? ⟨g, 2, none⟩ = some buf := by rw [Lib.cell_of_heap hb2]; rfl
  have f2 : w2.frozen? ⟨g, 2, none⟩ = false := Lib.frozen_of_heap hb2 2
  obtain ⟨b1, n1, cap, rfl⟩ : ∃ b n cap, v' = .slice b n cap := by
    rcases hown'.2 with ⟨hv, h0⟩ | ⟨b, cap, cur, hv, _⟩
    · exact ⟨_, _, _, hv⟩
    · exact ⟨_, _, _, hv⟩
  go_wp2
  go_ret2
  refine ⟨⟨_, rfl⟩, ⟨_, _, .inr rfl, PkAt.setBuf hb2 (l' := l ++ x) (by rw [bytesV_append, List.length_append, ← HN.out]; exact hown') (by simp [h0])⟩, ?_⟩
  have e1 : Below g w w1 := below_of_grownBy hg1 (by omega) (by simp)
  have e2 : Below g w1 w2 := (Below.refl g w1).grown hgrow (by omega) (fun r hr => by have := (h1.2.1.lt r hr).1; omega)
  exact (e1.trans e2).setCell (p := ⟨g, 2, none⟩) (Nat.le_refl _) _
theorem cellsU8 : Tryd.prog.cellsOf 5 = 1 := by kernel_rfl
set_option maxHeartbeats 1000000 in
theorem bld_string (g gm k : Nat) (s : ByteArray) (l : List UInt8) (w : World) (h : Pk g gm s k l w) :
    Calls Tryd.prog 20 #[.pointer (some ⟨g, 1, none⟩)] w fun e w' => e = .returned (.string ⟨l.toArray⟩) ∧ Below g w w' := by
  obtain ⟨p, buf, hp, h⟩ := h
  have c2 : w.cell? ⟨g, 2, none⟩ = some buf := by rw [h.cell]; rfl
  have c1 : w.drew.cell? ⟨g, 2, none⟩ = some buf := c2
  have hgl := h.lt
  by_cases h0 : l = []
  · subst h0
    obtain rfl := h.2.2 rfl
    have hUS := fun (W : World) (q : Option Addr) => Lib.run_unsafeString_none (P := Tryd.prog) W 72 3 9 q
    have hSD : (Builtin.unsafeSliceData_ #[42] 72 #[.slice none 0 0]).run Tryd.prog w.drew = .ok (.pointer none) w.drew := rfl
    clear hp h
    go_enter Tryd.func20, Tryd.ntmps20
    go_wp2
    go_region
    all_goals (go_wp2; go_ret; exact ⟨rfl, (Below.refl _ _).drew⟩)
  · have hl0 : l.length ≠ 0 := by simpa using h0
    obtain ⟨b, cap, cur, rfl, hbg, hg, hnc, hcm, hcs, htake⟩ : ∃ b cap cur, buf = .slice (some ⟨b, 0, none⟩) l.length cap ∧ g + 1 ≤ b ∧ w.heap[b]? = some (.cells cur 5 (0, 0)) ∧ l.length ≤ cap ∧ cap ≤ maxLen ∧ cur.size = cap * 1 ∧ cur.toList.take (l.length * 1) = bytesV l := by
      rcases h.2.1.2 with ⟨_, hz⟩ | ⟨b, cap, cur, hv, r⟩
      · exact absurd hz hl0
      · exact ⟨b, cap, cur, hv, r⟩
    have hSD : (Builtin.unsafeSliceData_ #[42] 72 #[.slice (some ⟨b, 0, none⟩) l.length cap]).run Tryd.prog w.drew = .ok (.pointer (some ⟨b, 0, none⟩)) w.drew :=
      Lib.run_unsafeSliceData_row _ _ _ _ _ _ (by omega)
    have hUS : (Builtin.unsafeString_ #[72, 3] 9 #[.pointer (some ⟨b, 0, none⟩), .int .i64 l.length]).run Tryd.prog w.drew = .ok (.string ⟨l.toArray⟩) (w.drew.freeze ⟨b, 0, none⟩ l.length) := by
      refine Lib.run_unsafeString_row w.drew 72 3 9 5 Tryd.underlying72 cellsU8 b cur.size (by have hg' : w.drew.heap[b]? = some (.cells cur 5 (0, 0)) := hg; simp [World.shape?, hg']) l h0 (by omega) (by unfold maxLen at hcm; omega) ?_
      intro j x hx
      have := h.2.1.cells (g := b) rfl j (.int .u8 x.toNat) (by simp [bytesV, hx])
      exact this
    have HX := Aside.mk hbg
    clear hp h hbg hg hnc hcm hcs htake hl0 h0
    go_enter Tryd.func20, Tryd.ntmps20
    go_wp2
    go_region
    all_goals (go_wp2; go_ret; exact ⟨rfl, Lib.below_freeze (Below.drew (Below.refl _ w)) (p := ⟨b, 0, none⟩) (Nat.le_of_succ_le HX.out) _⟩)
end Go.Proofs.YtdjkcmjhknabnaaDoor
