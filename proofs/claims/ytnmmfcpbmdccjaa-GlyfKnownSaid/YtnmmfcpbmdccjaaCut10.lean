/-
  A long run, part by part.
-/
import Derived.Test.YtnmmfcpbmdccjaaCutD2
namespace Go.Proofs.Ytnmmfcpbmdccjaa.Lit
open Go Go.Vabs
set_option maxRecDepth 100000
theorem q28 : cutE (tabOf tab) 100000 121340 g27 (idsOf l28) = cutR (tabOf tab) 100000 121340 g27 292 ks28 (dropO 3 (opsOf (subC c73.code [1, 1, 1, 0, 1, 1, 1, 1, 0]))) f28 18275 allV allV (objsOf l28) := by kernel_rfl
theorem q29 : cutE (tabOf tab) 100000 121417 g28 (idsOf l29) = cutR (tabOf tab) 100000 121417 g28 290 ks29 (dropO 1 (opsOf (subC c69.code [1, 1, 1, 0]))) f29 18804 allV allV (objsOf l29) := by kernel_rfl
theorem q30 : cutE (tabOf tab) 100000 121442 g29 (idsOf l30) = cutR (tabOf tab) 100000 121442 g29 293 ks30 (dropO 4 (opsOf (subC c34.code [1, 0, 0, 0]))) f30 19332 allV allV (objsOf l30) := by kernel_rfl
end Go.Proofs.Ytnmmfcpbmdccjaa.Lit
