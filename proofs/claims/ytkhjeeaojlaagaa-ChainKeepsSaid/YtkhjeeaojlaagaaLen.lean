/-
  bits.Len64.
-/
import Derived.Test.YtkhjeeaojlaagaaChecked
import Derived.Lib.Strings
import Derived.Lib.Slices
import Derived.Lib.Small
import Derived.Lib.Walk
import Derived.Lib.BitFns
namespace Go.Proofs.Ytkhjeeaojlaagaa
end Go.Proofs.Ytkhjeeaojlaagaa
