/-
  A long run, part by part.
-/
import Derived.Test.YtjolgdfagnlgnaaCut1
namespace Go.Proofs.Ytjolgdfagnlgnaa.Lit
open Go Go.Vabs
set_option maxRecDepth 100000
theorem last : isDone (stepsC (tabOf tab) 100000 82472 g2) = true := by kernel_rfl
theorem e2 : ∃ s, denC (tabOf tab) 100000 g2 = some (.bool true, s) := cut_last last
theorem e1 : ∃ s, denC (tabOf tab) 100000 g1 = some (.bool true, s) := cut_on q2 e2
theorem e0 : ∃ s, denC (tabOf tab) 100000 g0 = some (.bool true, s) := cut_on q1 e1
theorem runs : isTrue (callF (tabOf tab) 100000 301 3 [] st0) = true := whole (fn := c3) (by kernel_rfl) e0
end Go.Proofs.Ytjolgdfagnlgnaa.Lit
