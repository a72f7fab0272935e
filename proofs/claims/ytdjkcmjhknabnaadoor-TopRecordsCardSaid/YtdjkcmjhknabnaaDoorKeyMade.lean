/-
  The keys that a law makes of its arguments; keys read back from texts.
-/
import Derived.Test.YtdjkcmjhknabnaaDoorKeyNames
namespace Go.Proofs.YtdjkcmjhknabnaaDoor.K
open Go.RowKit

end Go.Proofs.YtdjkcmjhknabnaaDoor.K
