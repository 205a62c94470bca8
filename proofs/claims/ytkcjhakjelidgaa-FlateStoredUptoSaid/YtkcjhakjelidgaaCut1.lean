/-
  A long run, part by part.
-/
import Derived.Test.YtkcjhakjelidgaaCutD1
namespace Go.Proofs.Ytkcjhakjelidgaa.Lit
open Go Go.Vabs
set_option maxRecDepth 100000
theorem q1 : cutE (tabOf tab) 100000 41879 g0 (idsOf l1) = cutR (tabOf tab) 100000 41879 g0 53 ks1 (dropO 1 (opsOf (subC c73.code [1, 0, 0, 1, 0, 0, 1, 0, 0, 1, 1]))) f1 596 allV allV (objsOf l1) := by kernel_rfl
end Go.Proofs.Ytkcjhakjelidgaa.Lit
