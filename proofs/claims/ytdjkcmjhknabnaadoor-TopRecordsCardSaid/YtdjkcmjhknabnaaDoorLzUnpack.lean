/-
  What the program's Unpack answers: it jumps from token to token.
-/
import Derived.Test.YtdjkcmjhknabnaaDoorLzRef
import Derived.WalkMore
import Derived.Scope
import Derived.Lib.AppendStr
namespace Go.Proofs.YtdjkcmjhknabnaaDoor
open Go.RowKit

/-- As Q; by a jump to label l: J l. -/
def jumps (J : Nat → Act → World → Prop) (Q : Exit → Act → World → Prop) : Exit → Act → World → Prop
  | .goto l, a, w => J l a w
  | e, a, w => Q e a w
/-- A scope in which the run jumps to several labels. -/
theorem wp_scope_many {P : Program} {a : Act} {w : World} {Q : Exit → Act → World → Prop} {c : Code} (J : Nat → Act → World → Prop) (μ : Nat → Act → World → Nat)
    (first : (∀ l a w, J l a w → ∃ r, findLabel c l = some (Code.skip.seq r) ∧ r.wp P (jumps J Q) a w) → c.wp P (jumps J Q) a w)
    (pass : ∀ l a w, J l a w → ∃ r, findLabel c l = some (Code.skip.seq r) ∧ r.wp P (jumps (fun l' a' w' => J l' a' w' ∧ μ l' a' w' < μ l a w) Q) a w) : (Code.scope c).wp P Q a w := by
  intro b k cs
  have key : ∀ n l a w, μ l a w = n → J l a w → ∃ r, findLabel c l = some r ∧ ∃ e a' w', Q e a' w' ∧ Arrives P (lone (b.at a (.code r :: .inScope c :: k)) cs w) b k cs e a' w' := by
    intro n
    induction n using Nat.strongRecOn with
    | _ n ih =>
      intro l a w hn hJ
      obtain ⟨r, hf, hp⟩ := pass l a w hJ
      have hp := wp_seq (wp_skip (P := P) (Q := Exit.then (r.wp P (jumps (fun l' a' w' => J l' a' w' ∧ μ l' a' w' < μ l a w) Q)) (jumps (fun l' a' w' => J l' a' w' ∧ μ l' a' w' < μ l a w) Q)) hp)
      refine ⟨_, hf, ?_⟩
      obtain ⟨e, a₁, w₁, hq, harr⟩ := hp b (.inScope c :: k) cs
      cases e with
      | normal => exact ⟨.normal, a₁, w₁, hq, Steps.trans harr (.one step_inScope)⟩
      | exit id => exact ⟨.exit id, a₁, w₁, hq, fun k' hk => harr k' (by simp [exitTo, hk])⟩
      | goto l' =>
        obtain ⟨hJ', hlt⟩ := hq
        obtain ⟨r', hf', e₂, a₂, w₂, hq₂, harr₂⟩ := ih _ (by omega) l' a₁ w₁ rfl hJ'
        have hg : gotoIn l' (.inScope c :: k) = some (.code r' :: .inScope c :: k) := by simp [gotoIn, hf']
        exact ⟨e₂, a₂, w₂, hq₂, .of_steps (harr _ hg) harr₂⟩
      | ret => exact ⟨_, a₁, w₁, hq, harr⟩
      | panic ch => exact ⟨_, a₁, w₁, hq, harr⟩
      | outgrown => exact ⟨_, a₁, w₁, hq, harr⟩
  have back : ∀ l a w, J l a w → ∃ r, findLabel c l = some (Code.skip.seq r) ∧ r.wp P (jumps J Q) a w := fun l a w hJ => by
    obtain ⟨r, hf, hp⟩ := pass l a w hJ
    refine ⟨r, hf, fun b k cs => ?_⟩
    obtain ⟨e, a₁, w₁, hq, harr⟩ := hp b k cs
    refine ⟨e, a₁, w₁, ?_, harr⟩
    cases e with
    | goto l' => exact hq.1
    | _ => exact hq
  obtain ⟨e, a₁, w₁, hq, harr⟩ := first back b (.inScope c :: k) cs
  cases e with
  | normal => exact ⟨.normal, a₁, w₁, hq, .head step_scope (Steps.trans harr (.one step_inScope))⟩
  | exit id => exact ⟨.exit id, a₁, w₁, hq, fun k' hk => .head step_scope (harr k' (by simp [exitTo, hk]))⟩
  | goto l' =>
    obtain ⟨r', hf', e₂, a₂, w₂, hq₂, harr₂⟩ := key _ l' a₁ w₁ rfl hq
    have hg : gotoIn l' (.inScope c :: k) = some (.code r' :: .inScope c :: k) := by simp [gotoIn, hf']
    exact ⟨e₂, a₂, w₂, hq₂, .of_steps (.head step_scope (harr _ hg)) harr₂⟩
  | ret => exact ⟨_, a₁, w₁, hq, .of_steps (.one step_scope) harr⟩
  | panic ch => exact ⟨_, a₁, w₁, hq, .of_steps (.one step_scope) harr⟩
  | outgrown => exact ⟨_, a₁, w₁, hq, .of_steps (.one step_scope) harr⟩

theorem back_to {P : Program} {Q : Exit → Act → World → Prop} {c r : Code} {J : Nat → Act → World → Prop} (B : ∀ l a w, J l a w → ∃ r, findLabel c l = some (Code.skip.seq r) ∧ r.wp P (jumps J Q) a w) (l : Nat) (hf : findLabel c l = some (Code.skip.seq r)) {a : Act} {w : World} (hJ : J l a w) : r.wp P (jumps J Q) a w := by
  obtain ⟨r', h1, h2⟩ := B l a w hJ
  rw [hf] at h1
  cases h1
  exact h2
theorem nat_or8 (x y : Nat) (hx : x < 256) : x ||| (y * 256) = x + 256 * y := by
  have h := Nat.two_pow_add_eq_or_of_lt (i := 8) (b := x) hx y
  rw [Nat.or_comm, show y * 256 = 2 ^ 8 * y by omega, ← h]
  omega
def strLen : Value → Nat | .string s => s.size | _ => 0
/-- The frame at the first label. -/
def AtToken (m : Nat) (t : ByteArray) (v : Value) (a : Act) : Prop := ∃ u : Nat → Value, a = { tmps := #[.string t, .int .i64 (m : Int), u 2, u 3, u 4, u 5, v, .int .i64 4, u 8, u 9, u 10, u 11, u 12, u 13, u 14, u 15, u 16, u 17, u 18, u 19, u 20, u 21, u 22, u 23, u 24, u 25, u 26, u 27, u 28, u 29, u 30, u 31, u 32, u 33, u 34, u 35, u 36, u 37, u 38, u 39, u 40, u 41, u 42, u 43, u 44, u 45, u 46, u 47, u 48, u 49, u 50, u 51, u 52, u 53, u 54, u 55, u 56, u 57, u 58, u 59, u 60, u 61, u 62, u 63, u 64, u 65, u 66, u 67, u 68, u 69, u 70, u 71, u 72, u 73, u 74, u 75, u 76, u 77, u 78, u 79, u 80, u 81, u 82, u 83, u 84, u 85, u 86, u 87, u 88, u 89, u 90, u 91, u 92, u 93, u 94, u 95, u 96, u 97, u 98, u 99, u 100, u 101, u 102, u 103, u 104, u 105, u 106], defers := [] }
/-- The frame at the others. -/
def AtWrong (a : Act) : Prop := ∃ u : Nat → Value, a = { tmps := #[u 0, u 1, u 2, u 3, u 4, u 5, u 6, .int .i64 4, u 8, u 9, u 10, u 11, u 12, u 13, u 14, u 15, u 16, u 17, u 18, u 19, u 20, u 21, u 22, u 23, u 24, u 25, u 26, u 27, u 28, u 29, u 30, u 31, u 32, u 33, u 34, u 35, u 36, u 37, u 38, u 39, u 40, u 41, u 42, u 43, u 44, u 45, u 46, u 47, u 48, u 49, u 50, u 51, u 52, u 53, u 54, u 55, u 56, u 57, u 58, u 59, u 60, u 61, u 62, u 63, u 64, u 65, u 66, u 67, u 68, u 69, u 70, u 71, u 72, u 73, u 74, u 75, u 76, u 77, u 78, u 79, u 80, u 81, u 82, u 83, u 84, u 85, u 86, u 87, u 88, u 89, u 90, u 91, u 92, u 93, u 94, u 95, u 96, u 97, u 98, u 99, u 100, u 101, u 102, u 103, u 104, u 105, u 106], defers := [] }
theorem range_all (f : Nat → Value) : (List.range 107).map f = [f 0, f 1, f 2, f 3, f 4, f 5, f 6, f 7, f 8, f 9, f 10, f 11, f 12, f 13, f 14, f 15, f 16, f 17, f 18, f 19, f 20, f 21, f 22, f 23, f 24, f 25, f 26, f 27, f 28, f 29, f 30, f 31, f 32, f 33, f 34, f 35, f 36, f 37, f 38, f 39, f 40, f 41, f 42, f 43, f 44, f 45, f 46, f 47, f 48, f 49, f 50, f 51, f 52, f 53, f 54, f 55, f 56, f 57, f 58, f 59, f 60, f 61, f 62, f 63, f 64, f 65, f 66, f 67, f 68, f 69, f 70, f 71, f 72, f 73, f 74, f 75, f 76, f 77, f 78, f 79, f 80, f 81, f 82, f 83, f 84, f 85, f 86, f 87, f 88, f 89, f 90, f 91, f 92, f 93, f 94, f 95, f 96, f 97, f 98, f 99, f 100, f 101, f 102, f 103, f 104, f 105, f 106] := rfl
theorem frame_all (t : Array Value) (h : t.size = 107) : t = #[t.getD 0 undef, t.getD 1 undef, t.getD 2 undef, t.getD 3 undef, t.getD 4 undef, t.getD 5 undef, t.getD 6 undef, t.getD 7 undef, t.getD 8 undef, t.getD 9 undef, t.getD 10 undef, t.getD 11 undef, t.getD 12 undef, t.getD 13 undef, t.getD 14 undef, t.getD 15 undef, t.getD 16 undef, t.getD 17 undef, t.getD 18 undef, t.getD 19 undef, t.getD 20 undef, t.getD 21 undef, t.getD 22 undef, t.getD 23 undef, t.getD 24 undef, t.getD 25 undef, t.getD 26 undef, t.getD 27 undef, t.getD 28 undef, t.getD 29 undef, t.getD 30 undef, t.getD 31 undef, t.getD 32 undef, t.getD 33 undef, t.getD 34 undef, t.getD 35 undef, t.getD 36 undef, t.getD 37 undef, t.getD 38 undef, t.getD 39 undef, t.getD 40 undef, t.getD 41 undef, t.getD 42 undef, t.getD 43 undef, t.getD 44 undef, t.getD 45 undef, t.getD 46 undef, t.getD 47 undef, t.getD 48 undef, t.getD 49 undef, t.getD 50 undef, t.getD 51 undef, t.getD 52 undef, t.getD 53 undef, t.getD 54 undef, t.getD 55 undef, t.getD 56 undef, t.getD 57 undef, t.getD 58 undef, t.getD 59 undef, t.getD 60 undef, t.getD 61 undef, t.getD 62 undef, t.getD 63 undef, t.getD 64 undef, t.getD 65 undef, t.getD 66 undef, t.getD 67 undef, t.getD 68 undef, t.getD 69 undef, t.getD 70 undef, t.getD 71 undef, t.getD 72 undef, t.getD 73 undef, t.getD 74 undef, t.getD 75 undef, t.getD 76 undef, t.getD 77 undef, t.getD 78 undef, t.getD 79 undef, t.getD 80 undef, t.getD 81 undef, t.getD 82 undef, t.getD 83 undef, t.getD 84 undef, t.getD 85 undef, t.getD 86 undef, t.getD 87 undef, t.getD 88 undef, t.getD 89 undef, t.getD 90 undef, t.getD 91 undef, t.getD 92 undef, t.getD 93 undef, t.getD 94 undef, t.getD 95 undef, t.getD 96 undef, t.getD 97 undef, t.getD 98 undef, t.getD 99 undef, t.getD 100 undef, t.getD 101 undef, t.getD 102 undef, t.getD 103 undef, t.getD 104 undef, t.getD 105 undef, t.getD 106 undef] := by
  have e : t = ((List.range 107).map fun i => t.getD i undef).toArray := by
    apply Array.ext
    · simp [h]
    · intro i h1 h2
      simp [Array.getD, h1]
  rw [range_all] at e
  exact e
theorem atWrong_of {a : Act} (hd : a.defers = []) (hs : a.tmps.size = 107) (h7 : a.tmps.getD 7 undef = .int .i64 4) : AtWrong a := by
  obtain ⟨t, d⟩ := a
  simp only at hd hs h7
  subst hd
  refine ⟨fun i => t.getD i undef, ?_⟩
  simp only [← h7]
  exact congrArg (fun x => (⟨x, []⟩ : Act)) (frame_all t hs)
theorem atToken_of {a : Act} {m : Nat} {t : ByteArray} {v : Value} (hd : a.defers = []) (hs : a.tmps.size = 107) (h0 : a.tmps.getD 0 undef = .string t) (h1 : a.tmps.getD 1 undef = .int .i64 (m : Int)) (h6 : a.tmps.getD 6 undef = v) (h7 : a.tmps.getD 7 undef = .int .i64 4) : AtToken m t v a := by
  obtain ⟨x, d⟩ := a
  simp only at hd hs h0 h1 h6 h7
  subst hd
  subst h6
  refine ⟨fun i => x.getD i undef, ?_⟩
  simp only [← h7, ← h0, ← h1]
  exact congrArg (fun y => (⟨y, []⟩ : Act)) (frame_all x hs)
/-- What holds at each jump. -/
def JAt (w : World) (m : Nat) (R1 : ByteArray) (R2 : Nat) : Nat → Act → World → Prop
  | 0, a, w' => ∃ (t : ByteArray) (v : Value) (o : List UInt8), AtToken m t v a ∧ w'.ownsRow w.heap.size 5 1 v o.length (bytesV o) ∧ o.length ≤ m ∧ unp m t.data.toList o = (R1, R2) ∧ Below w.heap.size w w' ∧ t.size ≤ 140737488351232
  | 1, a, w' => AtWrong a ∧ R1 = ⟨#[]⟩ ∧ R2 = 4 ∧ Below w.heap.size w w'
  | 2, a, w' => AtWrong a ∧ R1 = ⟨#[]⟩ ∧ R2 = 2 ∧ Below w.heap.size w w'
  | _, _, _ => False
def JMu : Nat → Act → World → Nat
  | 0, a, _ => 1 + strLen (a.tmps.getD 0 undef)
  | _, _, _ => 0

theorem lz_or64 (a b : Nat) (ha : a < 4611686018427387904) (hb : b < 4611686018427387904) : bits .or .i64 (a : Int) (b : Int) = ((a ||| b : Nat) : Int) := by
  have hx : a ||| b < 2 ^ 62 := Nat.or_lt_two_pow (by omega) (by omega)
  show IntKind.i64.wrap ((BitVec.ofInt 64 (a : Int) ||| BitVec.ofInt 64 (b : Int)).toNat : Int) = _
  rw [BitVec.toNat_or, ofInt_u64 a (by omega), ofInt_u64 b (by omega), IntKind.wrap_i64]
  omega
theorem or8 (x y : UInt8) : bits .or .i64 (x.toNat : Int) (wrap64 ((y.toNat : Int) * 256)) = ((x.toNat + 256 * y.toNat : Nat) : Int) := by
  have hx : x.toNat < 256 := x.toNat_lt
  have hy : y.toNat < 256 := y.toNat_lt
  have e : wrap64 ((y.toNat : Int) * 256) = ((y.toNat * 256 : Nat) : Int) := by
    simp only [wrap64]
    omega
  rw [e, lz_or64 _ _ (by omega) (by omega), nat_or8 _ _ hx]
theorem news_new (w : World) (x : Value) (t : TypeId) : ∀ j u, [x][j]? = some u → (w.alloc (.cells #[x] t)).cell? ((⟨w.heap.size, 0, none⟩ : Addr).add j) = some u := fun j u hu => by
  rw [add_plain, cell_of_row _ w.heap.size (0 + j) #[x] t (0, 0) (heap_alloc_new w _)]
  simpa using hu
set_option maxRecDepth 20000 in
set_option maxHeartbeats 8000000 in
theorem lz_unpack (s : ByteArray) (n : Int) (w : World) (hs : s.size ≤ 140737488351232) :
    Calls Tryd.prog 9 #[.string s, .int .i64 n] w fun e w' => e = .returned (.tuple #[.string (unpack s.data.toList n).1, .int .i64 ((unpack s.data.toList n).2 : Int)]) ∧ Below w.heap.size w w' := by
  obtain ⟨m, hm⟩ : ∃ m, m = mostN n := ⟨_, rfl⟩
  have hm2 : m ≤ 65536 := by rw [hm]; unfold mostN; omega
  have HM := Aside.mk hm
  have hmc : (n < 0 ∧ m = 0) ∨ (65536 < n ∧ m = 65536) ∨ (n = (m : Int)) := by rw [hm]; unfold mostN; omega
  clear hm
  generalize hR : unpack s.data.toList n = R
  obtain ⟨R1, R2⟩ := R
  have HR := Aside.mk hR
  clear hR
  go_enter Tryd.func9, Tryd.ntmps9
  go_wp2
  refine wp_scope_many (JAt w m R1 R2) JMu ?_ ?_
  · intro back
    have BACK := Aside.mk back
    clear back
    go_upto_region 3 with fail
    go_cut [1] (fun s1 wx => s1 = .int .i64 (m : Int) ∧ w = wx)
    case first =>
      rcases hmc with ⟨h1, h2⟩ | ⟨h1, h2⟩ | h1
      · have H2 := Aside.mk h2
        clear h2
        go_wp2
        go_meet
        exact ⟨by rw [H2.out]; rfl, rfl⟩
      · have H2 := Aside.mk h2
        have hn : ¬ n < 0 := by omega
        clear h2
        go_wp2
        go_meet
        exact ⟨by rw [H2.out]; rfl, rfl⟩
      · have H1 := Aside.mk h1
        have hn : ¬ n < 0 := by omega
        have hn2 : ¬ 65536 < n := by omega
        clear h1
        go_wp2
        go_meet
        exact ⟨by rw [H1.out], rfl⟩
    case rest =>
      obtain ⟨rfl, rfl⟩ := hcut
      clear hmc
      by_cases h0 : s.size = 0
      · have hl0 : s.data.toList = [] := List.eq_nil_of_length_eq_zero (by rw [data_len]; exact h0)
        have hR := HR.out
        rw [hl0, unpack_nil] at hR
        injection hR with hR1 hR2
        subst hR1; subst hR2
        have hem : s.toList.isEmpty = true := by rw [ByteArray.toList_eq, hl0]; rfl
        clear hl0 BACK
        go_wp2
        simp only [jumps]
        go_ret2
        exact ⟨rfl, Below.refl _ _⟩
      · have hl : s.data.toList = s[0] :: s.data.toList.drop 1 := by
          have := drop_at s 0 (by omega)
          rwa [List.drop_zero] at this
        have hlen : (s.data.toList.drop 1).length = s.size - 1 := by rw [List.length_drop, data_len]
        have hs0 : 0 < s.size := by omega
        have hem : s.toList.isEmpty = false := by rw [ByteArray.toList_eq, hl]; rfl
        have hR := HR.out
        have x0 := fun W => index_str (s := s) (j := 0) hs0 (x := 0) rfl W
        by_cases hf : 1 < s[0].toNat
        · rw [hl, unpack_form hf] at hR
          injection hR with hR1 hR2
          subst hR1; subst hR2
          clear hl hlen BACK
          go_wp2
          simp only [jumps]
          go_ret2
          exact ⟨rfl, Below.refl _ _⟩
        · have hf2 : (1 : Int) < (s[0].toNat : Int) → False := by omega
          by_cases hf0 : s[0].toNat = 0
          · by_cases hlg : m < s.size - 1
            · rw [hl, unpack_long hf0 (by rw [← HM.out, hlen]; exact hlg)] at hR
              injection hR with hR1 hR2
              subst hR1; subst hR2
              clear hl hlen BACK
              go_wp2_with fail
              go_region
              go_wp2
              simp only [jumps]
              go_ret2
              exact ⟨rfl, (Below.refl _ _).drew⟩
            · rw [hl, unpack_plain hf0 (by rw [← HM.out, hlen]; exact hlg)] at hR
              injection hR with hR1 hR2
              rw [← extract_end s 1] at hR1
              subst hR1; subst hR2
              clear hl hlen BACK
              go_wp2_with fail
              go_region
              go_wp2
              simp only [jumps]
              go_ret2
              exact ⟨rfl, (Below.refl _ _).drew⟩
          · have hf1 : s[0].toNat = 1 := by omega
            rw [hl, unpack_tokens hf1, ← HM.out] at hR
            have HR := Aside.mk hR
            have hn1 : ¬ 1 < s[0].toNat := by omega
            have hn0 : ¬ s[0].toNat = 0 := by omega
            clear hR hl hf hf0 hlen
            rw [hf1] at hn1 hn0 x0
            go_wp2_with fail
            go_region
            go_wp2
            go_step3
            simp only [Exit.then]
            apply_assumption
            refine back_to BACK.out 0 rfl ?_
            refine ⟨s.extract 1 s.size, .slice none 0 0, [], atToken_of rfl rfl rfl rfl rfl rfl, World.ownsRow_nil _ _ _ _, Nat.zero_le _, ?_, (Below.refl _ _).drew, ?_⟩
            · rw [extract_end]; exact HR.out
            · simp; omega
  · intro l a w' hJ
    clear hmc hs HR
    match l, hJ with
    | 1, hJ =>
      obtain ⟨⟨u, rfl⟩, hR1, hR2, hb⟩ := hJ
      subst hR1; subst hR2
      refine ⟨_, rfl, ?_⟩
      go_wp2
      simp only [jumps]
      go_ret2
      exact ⟨rfl, hb⟩
    | 2, hJ =>
      obtain ⟨⟨u, rfl⟩, hR1, hR2, hb⟩ := hJ
      subst hR1; subst hR2
      refine ⟨_, rfl, ?_⟩
      go_wp2
      go_step3
      simp only [Exit.then]
      apply_assumption
      go_wp2
      simp only [jumps]
      go_ret2
      exact ⟨rfl, hb⟩
    | 0, hJ =>
      obtain ⟨t, v, o, ⟨u, rfl⟩, hown, hom, hR, hb, ht⟩ := hJ
      refine ⟨_, rfl, ?_⟩
      obtain ⟨A6, c6, rfl, hc6⟩ := (Row.of_owns hown).slice
      have hrow := Row.of_owns hown
      by_cases h0 : t.size = 0
      · have hl0 : t.data.toList = [] := List.eq_nil_of_length_eq_zero (by rw [data_len]; exact h0)
        rw [hl0, unp_nil] at hR
        injection hR with hR1 hR2
        subst hR1; subst hR2
        have hem : t.toList.isEmpty = true := by rw [ByteArray.toList_eq, hl0]; rfl
        have hst := hrow.toString (P := Tryd.prog) Tryd.underlying42 Tryd.underlying5 Tryd.underlying9
        clear hl0 hown hrow
        go_wp2
        simp only [jumps]
        go_ret2
        exact ⟨rfl, hb⟩
      · have hl : t.data.toList = t[0] :: t.data.toList.drop 1 := by
          have := drop_at t 0 (by omega)
          rwa [List.drop_zero] at this
        have hrl : (t.data.toList.drop 1).length = t.size - 1 := by rw [List.length_drop, data_len]
        have ht0 : 0 < t.size := by omega
        have hem : t.toList.isEmpty = false := by rw [ByteArray.toList_eq, hl]; rfl
        have hbl := t[0].toNat_lt
        have hcb := conv_byte t[0]
        rw [hl] at hR
        by_cases h128 : t[0].toNat < 128
        · by_cases hsh : t.size - 1 < t[0].toNat + 1
          · rw [unp_short h128 (by rw [hrl]; exact hsh)] at hR
            injection hR with hR1 hR2
            subst hR1; subst hR2
            clear hrl hl
            go_wp2
            go_step3
            simp only [Exit.then]
            exact ⟨⟨atWrong_of rfl rfl rfl, rfl, rfl, hb⟩, by simp only [JMu]; omega⟩
          · by_cases hlg : m < o.length + t[0].toNat + 1
            · rw [unp_long h128 (by rw [hrl]; exact hsh) hlg] at hR
              injection hR with hR1 hR2
              subst hR1; subst hR2
              clear hrl hl
              go_wp2
              go_step3
              simp only [Exit.then]
              exact ⟨⟨atWrong_of rfl rfl rfl, rfl, rfl, hb⟩, by simp only [JMu]; omega⟩
            · rw [unp_lit h128 (by rw [hrl]; exact hsh) hlg, List.drop_drop] at hR
              have HR := Aside.mk hR
              have HRL := Aside.mk hrl
              have HL := Aside.mk hl
              clear hR hrl hl
              obtain ⟨i0, hi0, hz0⟩ := Option.map_eq_some_iff.1 infoU8
              simp only [Prod.mk.injEq] at hz0
              obtain ⟨hz0, hs0, hb0⟩ := hz0
              have hse : (t.extract 1 (t[0].toNat + 2)).size = t[0].toNat + 1 := by simp; omega
              have HI := Aside.mk (And.intro hi0 (And.intro hz0 (And.intro hs0 (And.intro hb0 (And.intro hse hb.size)))))
              have HO := Aside.mk (And.intro hown hb)
              clear hi0 hz0 hs0 hb0 hse hown hrow hb
              go_wp2_with (at_builtin; go_loud (refine Go.Lib.wpList_append_own_string w' rfl _ _ 42 9 rfl w.heap.size 5 i0 Tryd.underlying42 Tryd.underlying9 HI.out.1 HI.out.2.1 HI.out.2.2.1 HI.out.2.2.2.1 (.slice A6 o.length c6) o.length (bytesV o) rfl HO.out.1 (t.extract 1 (t[0].toNat + 2)) rfl (by rw [HI.out.2.2.2.2.1]; simp only [maxLen]; omega) (by rw [HI.out.2.2.2.2.1]; omega) HI.out.2.2.2.2.2 ?_); intro v1 w1 hown1 hg1 hnil1)
              go_step3
              simp only [Exit.then]
              change JAt w m R1 R2 0 _ _ ∧ JMu 0 _ _ < JMu 0 _ _
              have hse := HI.out.2.2.2.2.1
              have hxt : t.extract 1 (t[0].toNat + 2) = ⟨((t.data.toList.drop 1).take (t[0].toNat + 1)).toArray⟩ := extract_toArray t 1 (t[0].toNat + 2)
              have hxd : (t.extract 1 (t[0].toNat + 2)).data.toList = (t.data.toList.drop 1).take (t[0].toNat + 1) := by rw [hxt]
              have hol : (o ++ (t.data.toList.drop 1).take (t[0].toNat + 1)).length = o.length + (t[0].toNat + 1) := by
                rw [List.length_append, List.length_take, HRL.out]; omega
              have hes : (t.extract (t[0].toNat + 2) t.size).size = t.size - (t[0].toNat + 2) := by simp
              have hcells : bytesV (o ++ (t.data.toList.drop 1).take (t[0].toNat + 1)) = bytesV o ++ Go.Lib.strCells (t.extract 1 (t[0].toNat + 2)) := by
                rw [bytesV_append, ← hxd]; rfl
              refine ⟨⟨t.extract (t[0].toNat + 2) t.size, v1, o ++ (t.data.toList.drop 1).take (t[0].toNat + 1), atToken_of rfl rfl rfl rfl rfl rfl, ?_, by rw [hol]; omega, ?_, HO.out.2.grown hg1 HI.out.2.2.2.2.2 (fun k hk => ((Row.of_owns HO.out.1).blk k hk).1), by rw [hes]; omega⟩, ?_⟩
              · rw [hol, hcells, ← hse]; exact hown1
              · rw [extract_end, show t[0].toNat + 2 = 1 + (t[0].toNat + 1) by omega]; exact HR.out
              · show 1 + (t.extract (t[0].toNat + 2) t.size).size < 1 + t.size
                rw [hes]; omega
        · have hcut : ∀ (hl : 1 + 1 < t.size), backOf (t.data.toList.drop 1) = t[1].toNat + 256 * t[1 + 1].toNat := fun hl => by
            unfold backOf
            rw [drop_at t 1 (by omega), drop_at t (1 + 1) hl]
            rfl
          by_cases hsh : t.size - 1 < 2
          · rw [unp_short2 h128 (by rw [hrl]; exact hsh)] at hR
            injection hR with hR1 hR2
            subst hR1; subst hR2
            clear hrl hl hcut
            go_wp2
            go_step3
            simp only [Exit.then]
            exact ⟨⟨atWrong_of rfl rfl rfl, rfl, rfl, hb⟩, by simp only [JMu]; omega⟩
          · have hi2 : 1 + 1 < t.size := by omega
            have hcc := hcut hi2
            have hbk := backOf_lt (t.data.toList.drop 1)
            clear hcut
            obtain ⟨bk, hbe⟩ : ∃ bk, bk = backOf (t.data.toList.drop 1) := ⟨_, rfl⟩
            rw [← hbe] at hcc hbk
            have HBE := Aside.mk hbe
            have HCC := Aside.mk hcc
            have HRR := Aside.mk hR
            have HRL := Aside.mk hrl
            have HB := Aside.mk (And.intro hown hb)
            clear hbe hcc hR hrl hown hrow hb hl
            go_upto_region 20 with fail
            go_cut [10] (fun s10 wx => s10 = .int .i64 (bk : Int) ∧ wx.ownsRow w.heap.size 5 1 (.slice A6 o.length c6) o.length (bytesV o) ∧ Below w.heap.size w wx)
            case first =>
              have hb1 := t[1].toNat_lt
              have hb2 := t[1 + 1].toNat_lt
              have hc1 := conv_byte t[1]
              have hc2 := conv_byte t[1 + 1]
              have x1 := fun W => index_str (s := t) (j := 1) (by omega) (x := 1) rfl W
              have x2 := fun W => index_str (s := t) (j := 1 + 1) (by omega) (x := 2) rfl W
              have hor := or8 t[1] t[1 + 1]
              rw [← HCC.out] at hor
              go_region
              all_goals (go_wp2; go_meet; exact ⟨by first | rfl | exact congrArg (Value.int .i64) hor, by first | exact HB.out.1 | exact HB.out.1.drew, by first | exact HB.out.2 | exact HB.out.2.drew⟩)
            case rest =>
              obtain ⟨rfl, hown, hb⟩ := hcut
              have hR := HRR.out
              have hrl := HRL.out
              by_cases hfar : o.length ≤ bk
              · rw [unp_far h128 (by rw [hrl]; exact hsh) (by rw [← HBE.out]; exact hfar)] at hR
                injection hR with hR1 hR2
                subst hR1; subst hR2
                clear hrl
                go_wp2
                go_step3
                simp only [Exit.then]
                exact ⟨⟨atWrong_of rfl rfl rfl, rfl, rfl, hb⟩, by simp only [JMu]; omega⟩
              · by_cases hlg : m < o.length + (t[0].toNat - 125)
                · rw [unp_long2 h128 (by rw [hrl]; exact hsh) (by rw [← HBE.out]; exact hfar) hlg] at hR
                  injection hR with hR1 hR2
                  subst hR1; subst hR2
                  clear hrl
                  go_wp2
                  go_step3
                  simp only [Exit.then]
                  exact ⟨⟨atWrong_of rfl rfl rfl, rfl, rfl, hb⟩, by simp only [JMu]; omega⟩
                · rw [unp_copy h128 (by rw [hrl]; exact hsh) (by rw [← HBE.out]; exact hfar) hlg, List.drop_drop, ← HBE.out] at hR
                  have HR := Aside.mk hR
                  clear hR hrl HRR
                  obtain ⟨N, hN⟩ : ∃ N, N = t[0].toNat - 125 := ⟨_, rfl⟩
                  rw [← hN] at HR
                  have HN := Aside.mk hN
                  clear hN
                  have hN3 : 3 ≤ N := by have := HN.out; omega
                  go_wp2
                  go_loopw [6, 90] (fun s6 s90 wq => ∃ k : Nat, s90 = .int .i64 k ∧ k ≤ N ∧ wq.ownsRow w.heap.size 5 1 s6 (o.length + k) (bytesV (copyL o bk k)) ∧ Below w.heap.size w wq) (fun _ s90 _ => N - (intOf s90).toNat)
                  case atStart => exact ⟨0, rfl, by omega, hown, hb⟩
                  case round =>
                    obtain ⟨k, rfl, hk, hownk, hbk'⟩ := hrel
                    clear hown hb
                    have hrk := Row.of_owns hownk
                    obtain ⟨A7, c7, rfl, hc7⟩ := hrk.slice
                    have hNe := HN.out
                    have hk1 : IntKind.i64.wrap ((k : Int) + 1) = (k : Int) + 1 := by rw [IntKind.wrap_i64]; omega
                    by_cases hkl : k < N
                    · have hkle : (k : Int) < (t[0].toNat : Int) - 128 + 3 := by omega
                      obtain ⟨g, off, cp, hv, _, _, _, _⟩ := hrk.form (by omega)
                      injection hv with hv hv2 hv3
                      subst hv
                      clear hv2 hv3
                      have hat := hrk.byteGet (show o.length + k - 1 - bk < o.length + k by omega)
                      have hlx : copyL o bk (k + 1) = copyL o bk k ++ [(copyL o bk k).getD (o.length + k - 1 - bk) 0] := by
                        show copyL o bk k ++ [(copyL o bk k).getD ((copyL o bk k).length - 1 - bk) 0] = _
                        rw [copyL_len]
                      generalize (copyL o bk k).getD (o.length + k - 1 - bk) 0 = y at *
                      have HLX := Aside.mk hlx
                      have hw6 : IntKind.i64.wrap ((o.length : Int) + (k : Int) - 1 - (bk : Int)) = ((o.length + k - 1 - bk : Nat) : Int) := by rw [IntKind.wrap_i64]; omega
                      have hbs := hbk'.size
                      have hib : o.length + k - 1 - bk < o.length + k := by omega
                      obtain ⟨i0, hi0, hz0⟩ := Option.map_eq_some_iff.1 infoU8
                      simp only [Prod.mk.injEq] at hz0
                      obtain ⟨hz0, hs0, hb0⟩ := hz0
                      have HI := Aside.mk (And.intro hi0 (And.intro hz0 (And.intro hs0 hb0)))
                      clear hi0 hz0 hs0 hb0
                      have HO := Aside.mk (And.intro hownk (And.intro hbk' hbs))
                      clear hlx hNe hownk hrk hbk' hbs
                      have hsa : w.heap.size ≤ (wr.alloc (.cells #[.int .u8 (y.toNat : Int)] 5)).heap.size := by rw [World.size_alloc]; have := HO.out.2.2; omega
                      have HSA := Aside.mk hsa
                      clear hsa
                      go_wp2_with (at_builtin; go_loud (refine wpList_append_own (wr.alloc (.cells #[.int .u8 (y.toNat : Int)] 5)) rfl _ _ 42 rfl w.heap.size 5 i0 (.int .u8 0) 1 1 Tryd.underlying42 HI.out.1 HI.out.2.1 HI.out.2.2.1 HI.out.2.2.2 rfl (by decide) (.slice (some ⟨g, off, none⟩) (o.length + k) c7) (o.length + k) (bytesV (copyL o bk k)) rfl (HO.out.1.alloc _) ⟨wr.heap.size, 0, none⟩ 1 1 [.int .u8 (y.toNat : Int)] rfl rfl (news_new wr _ _) (by simp [Value.oneCell']) (by simp only [maxLen]; omega) (by omega) HSA.out ?_); intro v1 w1 hown1 hg1 hnil1)
                      go_roundw
                      case rel =>
                        have hrn : w1.ownsRow w.heap.size 5 1 v1 (o.length + (k + 1)) (bytesV (copyL o bk (k + 1))) := by
                          rw [HLX.out, bytesV_append]
                          exact hown1
                        have hbn : Below w.heap.size w w1 := (HO.out.2.1.alloc HO.out.2.2 _).grown hg1 HSA.out (fun k hk => ((Row.of_owns HO.out.1).blk k hk).1)
                        exact ⟨k + 1, by go_num, by omega, hrn, hbn⟩
                      case measure => simp [intOf]; omega
                    · obtain rfl : N = k := by omega
                      have hkle : ¬ (N : Int) < (t[0].toNat : Int) - 128 + 3 := by omega
                      have HBK := Aside.mk (And.intro hownk hbk')
                      clear hNe hbk' hownk hrk
                      go_wp2
                      go_step3
                      simp only [Exit.then]
                      change JAt w m R1 R2 0 _ _ ∧ JMu 0 _ _ < JMu 0 _ _
                      have hNN := HN.out
                      have hll := copyL_len o bk N
                      have hes : (t.extract 3 t.size).size = t.size - 3 := by simp
                      refine ⟨⟨t.extract 3 t.size, _, copyL o bk N, atToken_of rfl rfl rfl rfl rfl rfl, ?_, by rw [hll]; omega, ?_, HBK.out.2, by rw [hes]; omega⟩, ?_⟩
                      · rw [hll]; exact HBK.out.1
                      · rw [extract_end]; exact HR.out
                      · show 1 + (t.extract 3 t.size).size < 1 + t.size
                        rw [hes]; omega
end Go.Proofs.YtdjkcmjhknabnaaDoor
