/-
  A new code; the parity of a chunk, and its length.
-/
import Derived.Test.YtkdfbganhohbfaaDoorBchDivide
namespace Go.Proofs.YtkdfbganhohbfaaDoor
open Go.RowKit

/-- The parity of a chunk. -/
def encD (t : Nat) (l : List UInt8) (s : ByteArray) : ByteArray := ⟨(divD l (List.replicate (lowN8 t) 0) s.data.toList).toArray⟩
def EncPost (w : World) (c t n : Nat) (s : ByteArray) (e : Ending) (w' : World) : Prop :=
  ∃ g l q, e = .returned (.tuple #[.string (encD t l s), .int .i64 0]) ∧ BReady w' c t n g l q ∧ w.grownBy w' (some c)
def EncPostAt (w : World) (t : Nat) (l : List UInt8) (s : ByteArray) (e : Ending) (w' : World) : Prop :=
  e = .returned (.tuple #[.string (encD t l s), .int .i64 0]) ∧ Below w.heap.size w w'
set_option maxRecDepth 100000 in
set_option maxHeartbeats 1000000 in
theorem bch_encode_at (c t n g q : Nat) (l : List UInt8) (s : ByteArray) (w : World) (ht8 : t ≤ 8) (ht1 : 1 ≤ t) (hR : BReady w c t n g l q) (hs : s.size = n) (hn : n ≤ 256) :
    Calls Tryd.prog 6 #[.pointer (some ⟨c, 0, none⟩), .string s] w (EncPostAt w t l s) := by
  have c1 := hR.code.c1
  have hsn : (s.size : Int) = (n : Int) := by omega
  have HRD := Aside.mk (bch_ready_at c t n g q l w hR)
  have HDV : Aside (∀ w1, Below w.heap.size w w1 → Calls Tryd.prog 10 #[.pointer (some ⟨c, 0, none⟩), .string s] w1 fun e w2 => ∃ h, e = .returned (.slice (some ⟨h, 0, none⟩) (lowN8 t) (lowN8 t)) ∧ (convert 24 9 (.slice (some ⟨h, 0, none⟩) (lowN8 t) (lowN8 t))).run Tryd.prog w2 = .ok (.string (encD t l s)) w2 ∧ Aside (Below w.heap.size w w2)) := ⟨fun w1 hb => by
    refine (bch_divide c t n g q l s w1 ht8 ht1 (hR.below hb) (by omega)).mono ?_
    rintro e w2 ⟨h, rfl, hr, hb2⟩
    exact ⟨h, rfl, hr.toString (P := Tryd.prog) Tryd.underlying24 Tryd.underlying5 Tryd.underlying9, ⟨hb.trans (hb2.mono hb.size)⟩⟩⟩
  clear hR hs hn ht8 ht1
  go_enter Tryd.func6, Tryd.ntmps6
  go_wp2_with (first | (go_at_call 9; refine HRD.out.mono ?_; rintro e w1 ⟨rfl, hb1⟩; have HB1 := Aside.mk hb1; clear hb1) | (go_at_call 10; refine (HDV.out _ HB1.out).mono ?_; rintro e w2 ⟨h, rfl, hcv, HB2⟩))
  go_ret2
  exact ⟨rfl, HB2.out⟩
set_option maxRecDepth 100000 in
theorem bch_parity_at (c t n g q : Nat) (l : List UInt8) (w : World) (hR : BReady w c t n g l q) :
    Calls Tryd.prog 7 #[.pointer (some ⟨c, 0, none⟩)] w fun e w' => e = .returned (.int .i64 (lowN8 t : Int)) ∧ Below w.heap.size w w' := by
  have HRD : Aside (Calls Tryd.prog 9 #[.pointer (some ⟨c, 0, none⟩)] w fun e w1 => e = .returned (.tuple #[]) ∧ w1.cell? ⟨c, 12, none⟩ = some (.slice (some ⟨g, 0, none⟩) (lowN8 t) (lowN8 t)) ∧ Aside (Below w.heap.size w w1)) := ⟨by
    refine (bch_ready_at c t n g q l w hR).mono ?_
    rintro e w1 ⟨rfl, hb⟩
    exact ⟨rfl, (hR.below hb).code.c12, ⟨hb⟩⟩⟩
  clear hR
  go_enter Tryd.func7, Tryd.ntmps7
  go_wp2_with (go_at_call 9; refine HRD.out.mono ?_; rintro e w1 ⟨rfl, c12, HB⟩)
  go_ret
  exact ⟨rfl, HB.out⟩
set_option maxRecDepth 100000 in
set_option maxHeartbeats 1000000 in
theorem bch_encode (c t n : Nat) (s : ByteArray) (w : World) (ht8 : t ≤ 8) (ht1 : 1 ≤ t) (hF : BNew w c t n) (hs : s.size = n) (hn : n ≤ 256) :
    Calls Tryd.prog 6 #[.pointer (some ⟨c, 0, none⟩), .string s] w (EncPost w c t n s) := by
  have c1 := CF.c1 hF
  have hsn : (s.size : Int) = (n : Int) := by omega
  have HRD : Aside (Calls Tryd.prog 9 #[.pointer (some ⟨c, 0, none⟩)] w fun e w1 => e = .returned (.tuple #[]) ∧ Aside (Calls Tryd.prog 10 #[.pointer (some ⟨c, 0, none⟩), .string s] w1 fun e w2 => ∃ h, e = .returned (.slice (some ⟨h, 0, none⟩) (lowN8 t) (lowN8 t)) ∧ ∃ l, (convert 24 9 (.slice (some ⟨h, 0, none⟩) (lowN8 t) (lowN8 t))).run Tryd.prog w2 = .ok (.string (encD t l s)) w2 ∧ Aside (EncPost w c t n s (.returned (.tuple #[.string (encD t l s), .int .i64 0])) w2))) := ⟨by
    refine (bch_ready c t n w ht1 ht8 hF).mono ?_
    rintro e w1 ⟨rfl, ⟨g, l, q, hR⟩, hg⟩
    refine ⟨rfl, ⟨?_⟩⟩
    refine (bch_divide c t n g q l s w1 ht8 ht1 hR (by omega)).mono ?_
    rintro e w2 ⟨h, rfl, hr, hb2⟩
    exact ⟨h, rfl, l, hr.toString (P := Tryd.prog) Tryd.underlying24 Tryd.underlying5 Tryd.underlying9, ⟨g, l, q, rfl, hR.below hb2, World.grownBy.trans hg (grownBy_of_below hb2 (some c))⟩⟩⟩
  clear hF hs hn ht8 ht1
  go_enter Tryd.func6, Tryd.ntmps6
  go_wp2_with (first | (go_at_call 9; refine HRD.out.mono ?_; rintro e w1 ⟨rfl, HDV⟩) | (go_at_call 10; refine HDV.out.mono ?_; rintro e w2 ⟨h, rfl, l, hcv, HB2⟩))
  go_ret2
  exact HB2.out
set_option maxRecDepth 100000 in
theorem bch_new (t n : Nat) (w : World) (ht8 : t ≤ 8) (ht1 : 1 ≤ t) (hn1 : 1 ≤ n) (hn : n ≤ 256) :
    Calls Tryd.prog 5 #[.int .i64 (t : Int), .int .i64 (n : Int)] w fun e w' => e = .returned (.tuple #[.pointer (some ⟨w.heap.size, 0, none⟩), .int .i64 0]) ∧ Aside (BNew w' w.heap.size t n ∧ Below w.heap.size w w') := by
  have h1 : ¬ (t : Int) < 1 := by omega
  have h2 : ¬ (8 : Int) < (t : Int) := by omega
  have h3 : ¬ (n : Int) < 1 := by omega
  have h4 : ¬ (256 : Int) < (n : Int) := by omega
  have HN := Aside.mk (And.intro (CF.new w t n) ((Below.refl w.heap.size w).alloc (Nat.le_refl _) (.cells #[.int .i64 (t : Int), .int .i64 (n : Int), .int .u32 0, .int .i32 0, .int .u32 0, .int .u32 0, .int .i32 0, .int .u32 0, .slice none 0 0, .slice none 0 0, .int .i64 0, .int .i64 0, .slice none 0 0] 52)))
  clear ht8 ht1 hn1 hn
  go_enter Tryd.func5, Tryd.ntmps5
  go_wp2
  go_ret2
  exact ⟨rfl, HN⟩
end Go.Proofs.YtkdfbganhohbfaaDoor
