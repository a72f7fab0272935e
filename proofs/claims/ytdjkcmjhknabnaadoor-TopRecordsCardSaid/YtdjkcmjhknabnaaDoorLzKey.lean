/-
  The map's keys: three bytes, read as one text.
-/
import Derived.Test.YtdjkcmjhknabnaaDoorProg
import Derived.WalkKit
import Derived.DeepKeys4
import Derived.Maps.OwnSet
namespace Go.Proofs.YtdjkcmjhknabnaaDoor
open Go.RowKit Go.Maps
theorem laidOutK : laidOutB Tryd.prog = true := by kernel_rfl
theorem rowKey : (52 : TypeId) < Tryd.prog.types.size := of_decide_eq_true (by kernel_rfl)
theorem wideKey : (match Tryd.prog.underlying 52 with | some (.array _ _) | some (.struct _) => true | _ => false) = true := by rw [Tryd.underlying52]
theorem keyedThree : Keyed Tryd.prog 52 := Keyed.of_law (deep_law_laid laidOutK (m := 2) (by omega) rowKey (by kernel_rfl) wideKey)
theorem cellsKey : Tryd.prog.cellsOf 52 = 3 := by kernel_rfl
theorem cellsKeyE : Tryd.prog.cellsOf 5 = 1 := by kernel_rfl
theorem keyTypeThree : Tryd.prog.keyType 52 = true := by kernel_rfl
theorem lits_one (b : UInt8) (d : Nat) : Tryd.prog.keyLits (d + 1) 5 [.int .u8 (b.toNat : Int)] = some [.int .u8 (b.toNat : Int)] := by
  have h : (Lit.int .u8 (b.toNat : Int)).wf = true := by
    have h1 := b.toNat_lt
    have e1 : IntKind.u8.min = 0 := rfl
    have e2 : IntKind.u8.max = 255 := rfl
    simp only [Lit.wf, e1, e2, Bool.and_eq_true, decide_eq_true_eq]
    omega
  simp [Program.keyLits, Tryd.underlying5, h]
theorem key_three (b0 b1 b2 : UInt8) : keyOf Tryd.prog 52 (.agg #[.int .u8 (b0.toNat : Int), .int .u8 (b1.toNat : Int), .int .u8 (b2.toNat : Int)]) = some (.string [b0, b1, b2]) := by
  have hf : (Value.agg #[.int .u8 (b0.toNat : Int), .int .u8 (b1.toNat : Int), .int .u8 (b2.toNat : Int)]).formed Tryd.prog 52 = true := by kernel_rfl
  have hr : List.range 3 = [0, 1, 2] := rfl
  obtain ⟨d, hd⟩ : ∃ d, Tryd.prog.types.size + 1 = d + 1 + 1 := ⟨Tryd.prog.types.size - 1, by have h : (52 : Nat) < Tryd.prog.types.size := rowKey; omega⟩
  have h3 : Tryd.prog.keyLits (d + 1 + 1) 52 [.int .u8 (b0.toNat : Int), .int .u8 (b1.toNat : Int), .int .u8 (b2.toNat : Int)] = some [.int .u8 (b0.toNat : Int), .int .u8 (b1.toNat : Int), .int .u8 (b2.toNat : Int)] := by
    rw [Program.keyLits.eq_def]
    simp only [Tryd.underlying52]
    simp only [cellsKey, cellsKeyE, hr, List.length_cons, List.length_nil, if_true]
    simp [lits_one]
  have hc : (Value.agg #[.int .u8 (b0.toNat : Int), .int .u8 (b1.toNat : Int), .int .u8 (b2.toNat : Int)]).cells.toList = [.int .u8 (b0.toNat : Int), .int .u8 (b1.toNat : Int), .int .u8 (b2.toNat : Int)] := rfl
  have hb : ∀ b : UInt8, Lit.keyBytes (.int .u8 (b.toNat : Int)) = [b] := fun b => by
    have h1 := b.toNat_lt
    have e1 : ((b.toNat : Int) % 2 ^ IntKind.u8.bits).toNat = b.toNat := by
      have : (2 : Int) ^ IntKind.u8.bits = 256 := by decide
      rw [this]; omega
    simp only [Lit.keyBytes, e1]
    have e2 : IntKind.u8.bits / 8 = 1 := by decide
    rw [e2]
    simp [bytesBE, bytesLE]
  unfold keyOf
  rw [Tryd.underlying52]
  simp only [keyTypeThree, hf, Bool.and_self, if_true]
  rw [hd, hc, h3]
  simp [keyBytes, hb]
end Go.Proofs.YtdjkcmjhknabnaaDoor
