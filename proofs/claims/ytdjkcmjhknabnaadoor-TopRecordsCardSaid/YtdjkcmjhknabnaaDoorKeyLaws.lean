/-
  The laws of keys.
-/
import Derived.Test.YtdjkcmjhknabnaaDoorKeyCodes
import Derived.Test.YtdjkcmjhknabnaaDoorKeyOrder
import Derived.Test.YtdjkcmjhknabnaaDoorArgs
import Derived.Test.YtdjkcmjhknabnaaDoorHeld
namespace Go.Proofs.YtdjkcmjhknabnaaDoor.K
open Go.RowKit

theorem key_speaks_text : hd 1 3 ++ be 4 2 = ⟨#[0, 0, 0, 0, 0, 0, 0, 1, 3, 0, 0, 0, 2]⟩ := ByteArray.ext (by decide)

theorem info_int : (Tryd.prog.info? 3).map (·.size) = some 1 := by kernel_rfl
theorem pow8 : (256 : Nat) ^ 8 = 18446744073709551616 := by decide
end Go.Proofs.YtdjkcmjhknabnaaDoor.K
