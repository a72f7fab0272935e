/-
  Any bytes unpacked, or what is wrong with them.
-/
import Derived.Test.YtdjkcmjhknabnaaDoorLzUnpack
namespace Go.Proofs.YtdjkcmjhknabnaaDoor
open Go.RowKit

theorem speaks_list : (⟨#[1, 0, 97, 130, 0, 0]⟩ : ByteArray).data.toList = [1, 0, 97, 130, 0, 0] := rfl
theorem lz_unpack_six (w : World) :
    Calls Tryd.prog 9 #[.string ⟨#[1, 0, 97, 130, 0, 0]⟩, .int .i64 9] w fun e w' => e = .returned (.tuple #[.string ⟨#[97, 97, 97, 97, 97, 97]⟩, .int .i64 0]) ∧ Below w.heap.size w w' :=
  (lz_unpack ⟨#[1, 0, 97, 130, 0, 0]⟩ 9 w (by decide)).mono fun e w' ⟨he, hb⟩ => ⟨by rw [he, speaks_list, unpack_speaks]; rfl, hb⟩
end Go.Proofs.YtdjkcmjhknabnaaDoor
