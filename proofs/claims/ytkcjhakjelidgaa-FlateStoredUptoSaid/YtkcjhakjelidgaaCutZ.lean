/-
  A long run: its parts joined.
-/
import Derived.Test.YtkcjhakjelidgaaCut1
import Derived.Test.YtkcjhakjelidgaaCut2
import Derived.Test.YtkcjhakjelidgaaCut3
namespace Go.Proofs.Ytkcjhakjelidgaa.Lit
open Go Go.Vabs
set_option maxRecDepth 100000
theorem e2 : ∃ s, denC (tabOf tab) 100000 g2 = some (.bool true, s) := cut_last last
theorem e1 : ∃ s, denC (tabOf tab) 100000 g1 = some (.bool true, s) := cut_in q2 e2
theorem e0 : ∃ s, denC (tabOf tab) 100000 g0 = some (.bool true, s) := cut_on q1 e1
theorem runs : isTrue (callF (tabOf tab) 100000 61 10 [] st0) = true := whole (fn := c10) (by kernel_rfl) e0
end Go.Proofs.Ytkcjhakjelidgaa.Lit
