/-
  A long run, part by part.
-/
import Derived.Test.YtkcjhakjelidgaaCutD1
namespace Go.Proofs.Ytkcjhakjelidgaa.Lit
open Go Go.Vabs
set_option maxRecDepth 100000
theorem last : isDone (stepsC (tabOf tab) 100000 38832 g2) = true := by kernel_rfl
end Go.Proofs.Ytkcjhakjelidgaa.Lit
