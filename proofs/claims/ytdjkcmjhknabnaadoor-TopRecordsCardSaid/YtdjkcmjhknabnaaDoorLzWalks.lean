/-
  The packer's helpers: how many bytes stand alike, and the bytes told as they are.
-/
import Derived.Test.YtdjkcmjhknabnaaDoorLzBuild
import Derived.Test.YtdjkcmjhknabnaaDoorLzPackLaw
import Derived.Test.YtdjkcmjhknabnaaDoorDrew
import Derived.Deep.QuietTactic
import Derived.BigQuiet
namespace Go.Proofs.YtdjkcmjhknabnaaDoor
open Go.RowKit

theorem Pk.cell0 {g gm k : Nat} {s : ByteArray} {l : List UInt8} {w : World} (h : Pk g gm s k l w) : w.cell? ⟨g, 0, none⟩ = some (.string s) := by
  obtain ⟨p, buf, _, h⟩ := h; rw [h.cell]; rfl
theorem Pk.cell3 {g gm k : Nat} {s : ByteArray} {l : List UInt8} {w : World} (h : Pk g gm s k l w) : w.cell? ⟨g, 3, none⟩ = some (.int .i64 (k : Int)) := by
  obtain ⟨p, buf, _, h⟩ := h; rw [h.cell]; rfl
theorem Pk.cell4 {g gm k : Nat} {s : ByteArray} {l : List UInt8} {w : World} (h : Pk g gm s k l w) : w.cell? ⟨g, 4, none⟩ = some (.map (some gm)) := by
  obtain ⟨p, buf, _, h⟩ := h; rw [h.cell]; rfl
theorem Pk.free3 {g gm k : Nat} {s : ByteArray} {l : List UInt8} {w : World} (h : Pk g gm s k l w) : w.frozen? ⟨g, 3, none⟩ = false := by
  obtain ⟨p, buf, _, h⟩ := h; exact h.free 3
theorem Pk.below {g gm k : Nat} {s : ByteArray} {l : List UInt8} {w w' : World} (h : Pk g gm s k l w) (hb : Below w.heap.size w w') : Pk g gm s k l w' := h.kept (grownBy_of_below hb none) (by simp)
theorem Pk.drew {g gm k : Nat} {s : ByteArray} {l : List UInt8} {w : World} (h : Pk g gm s k l w) : Pk g gm s k l w.drew := h
theorem Pk.setPlain {g gm k : Nat} {s : ByteArray} {l : List UInt8} {w : World} (h : Pk g gm s k l w) (j : Nat) : Pk g gm s j l (w.setCell ⟨g, 3, none⟩ (.int .i64 (j : Int))) := by
  obtain ⟨p, buf, hp, h⟩ := h; exact ⟨p, buf, hp, h.setPlain j⟩
theorem common_more {s : ByteArray} {a b i : Nat} (h1 : i < 130) (hab : a ≤ b) (h2 : b + i < s.size) : common (130 - i) (s.data.toList.drop (a + i)) (s.data.toList.drop (b + i)) =
    if s[a + i]'(by omega) = s[b + i] then common (130 - (i + 1)) (s.data.toList.drop (a + (i + 1))) (s.data.toList.drop (b + (i + 1))) + 1 else 0 := by
  rw [drop_at s (a + i) (by omega), drop_at s (b + i) h2, show 130 - i = (130 - (i + 1)) + 1 by omega]
  rfl
theorem common_end {s : ByteArray} {a b i k : Nat} (h2 : ¬ b + i < s.size) : common k (s.data.toList.drop a) (s.data.toList.drop (b + i)) = 0 := by
  have := (common_le k (s.data.toList.drop a) (s.data.toList.drop (b + i))).2.2
  rw [List.length_drop, data_len] at this
  omega
set_option maxHeartbeats 1000000 in
theorem lz_same (g gm k : Nat) (s : ByteArray) (l : List UInt8) (a b : Nat) (w : World) (h : Pk g gm s k l w) (hab : a ≤ b) (hs : s.size ≤ 65536) (hb : b ≤ s.size) :
    Calls Tryd.prog 17 #[.pointer (some ⟨g, 0, none⟩), .int .i64 (a : Int), .int .i64 (b : Int)] w fun e w' => e = .returned (.int .i64 (common 130 (s.data.toList.drop a) (s.data.toList.drop b) : Nat)) ∧ DrewOf w w' := by
  have c0 := h.cell0
  obtain ⟨C, hC⟩ : ∃ C, C = common 130 (s.data.toList.drop a) (s.data.toList.drop b) := ⟨_, rfl⟩
  rw [← hC]
  have HC := Aside.mk hC
  have HA := Aside.mk hab
  clear hC h hab
  go_enter Tryd.func17, Tryd.ntmps17
  go_wp2
  go_loopw [7] (fun s7 wr => ∃ i : Nat, i ≤ 130 ∧ b + i ≤ s.size ∧ s7 = .int .i64 i ∧ Aside (C = i + common (130 - i) (s.data.toList.drop (a + i)) (s.data.toList.drop (b + i))) ∧ DrewOf w wr) (fun s7 _ => 130 - (intOf s7).toNat)
  case atStart => exact ⟨0, by omega, by omega, rfl, ⟨by rw [HC.out]; simp⟩, DrewOf.refl _⟩
  case round =>
    obtain ⟨i, hi, hbi, rfl, HR, hD⟩ := hrel
    have y0 : wr.cell? ⟨g, 0, none⟩ = some (.string s) := by obtain ⟨m, rfl⟩ := hD; exact c0
    have hk1 : IntKind.i64.wrap ((i : Int) + 1) = ((i + 1 : Nat) : Int) := by rw [IntKind.wrap_i64]; omega
    have HAB := HA.out
    obtain ⟨n1, hn1⟩ : ∃ n, n = a + i := ⟨_, rfl⟩
    obtain ⟨n2, hn2⟩ : ∃ n, n = b + i := ⟨_, rfl⟩
    have w1 : IntKind.i64.wrap ((a : Int) + (i : Int)) = (n1 : Int) := by rw [IntKind.wrap_i64]; omega
    have w2 : IntKind.i64.wrap ((b : Int) + (i : Int)) = (n2 : Int) := by rw [IntKind.wrap_i64]; omega
    have HD := Aside.mk hD
    by_cases h130 : i < 130
    · have hi130 : (i : Int) < 130 := by omega
      by_cases hend : b + i < s.size
      · have hlt : (n2 : Int) < (s.size : Int) := by omega
        have x1 := fun W => index_str (s := s) (j := n1) (by omega) (x := (n1 : Int)) rfl W
        have x2 := fun W => index_str (s := s) (j := n2) (by omega) (x := (n2 : Int)) rfl W
        have hm := HR.out
        rw [common_more h130 HAB hend] at hm
        by_cases heq : s[n1]'(by omega) = s[n2]'(by omega)
        · have hq : ((s[n1]'(by omega)).toNat : Int) == ((s[n2]'(by omega)).toNat : Int) := by rw [heq]; exact beq_self_eq_true _
          rw [if_pos (by subst hn1; subst hn2; exact heq)] at hm
          have HM := Aside.mk hm
          have HI := Aside.mk (And.intro hi130 (And.intro h130 hend))
          clear hm heq HR
          generalize (s[n1]'_).toNat = q1 at *
          generalize (s[n2]'_).toNat = q2 at *
          clear hn1 hn2 hD hend h130
          go_upto_region 2 with fail
          go_quiet (fail)
          go_wp2
          go_roundw
          case rel => exact ⟨i + 1, by have := HI.out; omega, by have := HI.out; omega, rfl, ⟨by rw [HM.out]; omega⟩, HD.out.more _⟩
          case measure => have := HI.out; simp [intOf]; omega
        · have hq : (((s[n1]'(by omega)).toNat : Int) == ((s[n2]'(by omega)).toNat : Int)) = false := by
            simp only [beq_eq_false_iff_ne, ne_eq]
            intro e
            exact heq (UInt8.toNat_inj.1 (by omega))
          rw [if_neg (by subst hn1; subst hn2; exact heq)] at hm
          have HM := Aside.mk hm
          clear hm heq HR
          generalize (s[n1]'_).toNat = q1 at *
          generalize (s[n2]'_).toNat = q2 at *
          clear hn1 hn2 hD hend h130
          go_upto_region 2 with fail
          go_quiet (fail)
          go_wp2
          go_ret
          exact ⟨by rw [HM.out]; rfl, HD.out.more _⟩
      · have hlt : ¬ (n2 : Int) < (s.size : Int) := by omega
        have hm := HR.out
        rw [common_end hend] at hm
        have HM := Aside.mk hm
        clear hn1 hn2 hm HR hD hend h130
        go_upto_region 2 with fail
        go_quiet (fail)
        go_wp2
        go_ret
        exact ⟨by rw [HM.out]; rfl, HD.out.more _⟩
    · have hi130 : ¬ (i : Int) < 130 := by omega
      have hm := HR.out
      rw [show 130 - i = 0 by omega] at hm
      have HM := Aside.mk hm
      clear hn1 hn2 hm HR hD h130
      go_upto_region 2 with fail
      go_quiet (fail)
      go_wp2
      go_ret
      exact ⟨by rw [HM.out]; rfl, HD.out.more _⟩
/-- How far the packer is told. -/
def plainOf (w : World) (g : Nat) : Nat := match w.cell? ⟨g, 3, none⟩ with | some (.int _ x) => x.toNat | _ => 0
theorem Pk.plainOf {g gm k : Nat} {s : ByteArray} {l : List UInt8} {w : World} (h : Pk g gm s k l w) : plainOf w g = k := by
  unfold Go.Proofs.YtdjkcmjhknabnaaDoor.plainOf; rw [h.cell3]; simp
theorem litsTo_more {t : List UInt8} {a b n : Nat} (h : a < b) (hb : b ≤ t.length) (hn : n = min (b - a) 128) : litsTo t a b = UInt8.ofNat (n - 1) :: ((t.drop a).take n ++ litsTo t (a + n) b) := by
  subst hn
  have hl : ((t.drop a).take (b - a)).length = b - a := by rw [List.length_take, List.length_drop]; omega
  unfold litsTo
  rw [tok_cons (by rw [hl]; omega), hl, List.take_take, List.drop_take, List.drop_drop]
  by_cases h128 : b - a ≤ 128
  · rw [show min (b - a) 128 = b - a by omega, show min 128 (b - a) = b - a by omega, show b - a - 128 = 0 by omega, show b - (a + (b - a)) = 0 by omega, List.take_zero, List.take_zero]
  · rw [show min (b - a) 128 = 128 by omega, show min 128 (b - a) = 128 by omega, show b - a - 128 = b - (a + 128) by omega]
theorem litsTo_self0 (t : List UInt8) (a : Nat) : litsTo t a a = [] := by unfold litsTo; rw [Nat.sub_self, List.take_zero, tok_nil]
theorem lits_le {t : List UInt8} {a b : Nat} : (litsTo t a b).length ≤ 2 * (b - a) := by
  have := tok_len t.length ((t.drop a).take (b - a)) (by rw [List.length_take, List.length_drop]; omega)
  rw [List.length_take, List.length_drop] at this
  unfold litsTo
  omega
set_option maxHeartbeats 1000000 in
theorem lz_literals (g gm k tz : Nat) (s : ByteArray) (l : List UInt8) (w : World) (h : Pk g gm s k l w) (hk : k ≤ tz) (hs : s.size ≤ 65536) (ht : tz ≤ s.size) (hl : l.length ≤ 1000000) :
    Calls Tryd.prog 18 #[.pointer (some ⟨g, 0, none⟩), .int .i64 (tz : Int)] w fun e w' => e = .returned (.tuple #[]) ∧ Pk g gm s tz (l ++ litsTo s.data.toList k tz) w' ∧ Below g w w' := by
  obtain ⟨R, hR⟩ : ∃ R, R = l ++ litsTo s.data.toList k tz := ⟨_, rfl⟩
  have hRl : R.length ≤ 1200000 := by
    have := lits_le (t := s.data.toList) (a := k) (b := tz)
    rw [hR, List.length_append]; omega
  rw [← hR]
  have HR := Aside.mk (And.intro hR hRl)
  clear hR hRl
  go_enter Tryd.func18, Tryd.ntmps18
  go_wp2
  go_loopw [4] (fun _ wr => ∃ (j : Nat) (m : List UInt8), j ≤ tz ∧ Pk g gm s j m wr ∧ Aside (R = m ++ litsTo s.data.toList j tz) ∧ Below g w wr) (fun _ wr => tz - plainOf wr g)
  case atStart => exact ⟨k, l, hk, h, ⟨HR.out.1⟩, Below.refl _ _⟩
  case round =>
    clear h hk hl
    obtain ⟨j, m, hj, hp, HM, hb⟩ := hrel
    have c3 := hp.cell3
    by_cases hlt : j < tz
    · have hlt2 : (j : Int) < (tz : Int) := by omega
      have hml : m.length ≤ 1200000 := by have := HR.out.2; rw [HM.out, List.length_append] at this; omega
      obtain ⟨n, hn⟩ : ∃ n, n = min (tz - j) 128 := ⟨_, rfl⟩
      have hm := HM.out
      rw [litsTo_more hlt (by rw [data_len]; exact ht) hn] at hm
      obtain ⟨d, hd⟩ : ∃ d, d = tz - j := ⟨_, rfl⟩
      have w1 : IntKind.i64.wrap ((tz : Int) - (j : Int)) = (d : Int) := by rw [IntKind.wrap_i64]; omega
      obtain ⟨n1, hn1⟩ : ∃ n1, n1 = n - 1 := ⟨_, rfl⟩
      have w2 : IntKind.i64.wrap ((n : Int) - 1) = (n1 : Int) := by rw [IntKind.wrap_i64]; omega
      obtain ⟨jn, hjn⟩ : ∃ jn, jn = j + n := ⟨_, rfl⟩
      have w3 : IntKind.i64.wrap ((j : Int) + (n : Int)) = (jn : Int) := by rw [IntKind.wrap_i64]; omega
      obtain ⟨c, hc⟩ : ∃ c, c = UInt8.ofNat (n - 1) := ⟨_, rfl⟩
      have hcn : c.toNat = n - 1 := by rw [hc]; exact toNat_of _ (by omega)
      have w4 : IntKind.u8.wrap (n1 : Int) = (c.toNat : Int) := by rw [IntKind.wrap_u8, hcn]; omega
      rw [← hc, ← hjn] at hm
      have HH := Aside.mk (And.intro hlt (And.intro hn (And.intro hd (And.intro hn1 (And.intro hjn (And.intro hml (And.intro hm hc)))))))
      have HP := Aside.mk (And.intro hp hb)
      clear hlt hn1 hjn hml hm hc hcn HM hp hb
      go_upto_region 1 with fail
      go_cut [4] (fun s4 wx => s4 = .int .i64 (n : Int) ∧ wr = wx)
      case first =>
        by_cases hd2 : d < 128
        · have hd3 : ¬ (128 : Int) < (d : Int) := by omega
          have hd4 : (d : Int) < 128 := by omega
          have hnd : n = d := by omega
          have HND := Aside.mk hnd
          clear hn hd hnd
          go_wp2
          go_meet
          exact ⟨by rw [HND.out], rfl⟩
        · have hnd : n = 128 := by omega
          have hd3 : ¬ (d : Int) < 128 := by omega
          have HND := Aside.mk hnd
          by_cases hd5 : d = 128
          · have hd4 : (d : Int) ≤ 128 := by omega
            have HD5 := Aside.mk hd5
            clear hn hd hnd hd2 hd5
            go_wp2
            go_meet
            exact ⟨by rw [HND.out, HD5.out], rfl⟩
          · have hd4 : ¬ (d : Int) ≤ 128 := by omega
            clear hn hd hnd hd2 hd5
            go_wp2
            go_meet
            exact ⟨by rw [HND.out]; rfl, rfl⟩
      case rest =>
        obtain ⟨rfl, rfl⟩ := hcut
        clear hn hd c3
        go_upto_region 3 with (go_at_call 27; refine (bld_writeByte g gm j s m c _ HP.out.1 (by have := HH.out.2.2.2.2.2.1; omega)).mono ?_; rintro e w1 ⟨rfl, hp1, hb1⟩)
        have y0 := hp1.cell0
        have y3 := hp1.cell3
        have hx1 : (0 : Int) ≤ (j : Int) := by omega
        have hx2 : (j : Int) ≤ (jn : Int) := by have := HH.out.2.2.2.2.1; omega
        have hx3 : (jn : Int) ≤ (s.size : Int) := by have := HH.out; omega
        have HQ := Aside.mk (And.intro hp1 hb1)
        clear hp1 hb1
        have hes : (s.extract j jn).size ≤ 128 := by have := HH.out.2.1; have := HH.out.2.2.2.2.1; simp; omega
        have HES := Aside.mk hes
        clear hes
        have hml := HH.out.2.2.2.2.2.1
        have HML := Aside.mk (show (m ++ [c]).length ≤ 1073741824 by rw [List.length_append]; simp; omega)
        clear hml
        go_region_with ((go_at_call 28; refine (bld_writeString g gm j s (m ++ [c]) (s.extract j jn) _ HQ.out.1.drew HML.out (Nat.le_trans HES.out (by decide)) (by simp)).mono ?_; rintro e w2 ⟨⟨r, rfl⟩, hp2, hb2⟩; have z3 := hp2.cell3; have z4 := hp2.free3))
        all_goals
          go_wp2
          go_roundw
          case rel =>
            refine ⟨jn, m ++ [c] ++ (s.extract j jn).data.toList, by have := HH.out; omega, hp2.setPlain jn, ⟨?_⟩, ((HP.out.2.trans HQ.out.2).trans (Below.trans ?_ hb2)).setCell (p := ⟨g, 3, none⟩) (Nat.le_refl _) _⟩
            · have := HH.out.2.2.2.2.2.2.1
              rw [this, extract_toArray, show jn - j = n by have := HH.out; omega]
              simp [List.append_assoc]
            · exact (Below.refl _ _).drew
          case measure =>
            rw [(hp2.setPlain jn).plainOf, HP.out.1.plainOf]
            have := HH.out
            omega
    · have hlt2 : ¬ (j : Int) < (tz : Int) := by omega
      have hjt : j = tz := by omega
      have hm := HM.out
      rw [hjt, litsTo_self0, List.append_nil] at hm
      clear HM
      subst hjt
      go_wp2
      go_end0
      exact ⟨rfl, hm ▸ hp, hb⟩
end Go.Proofs.YtdjkcmjhknabnaaDoor
