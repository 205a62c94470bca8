/-
  A long run, part by part.
-/
import Derived.Test.YtnmmfcpbmdccjaaCutD2
namespace Go.Proofs.Ytnmmfcpbmdccjaa.Lit
open Go Go.Vabs
set_option maxRecDepth 100000
theorem q19 : cutE (tabOf tab) 100000 121403 g18 (idsOf l19) = cutR (tabOf tab) 100000 121403 g18 290 ks19 (dropO 2 (opsOf (subC c44.code [1, 0]))) f19 13515 allV allV (objsOf l19) := by kernel_rfl
theorem q20 : cutE (tabOf tab) 100000 121353 g19 (idsOf l20) = cutR (tabOf tab) 100000 121353 g19 288 ks20 (dropO 12 (opsOf (subC c58.code [1, 0]))) f20 14045 allV allV (objsOf l20) := by kernel_rfl
theorem q21 : cutE (tabOf tab) 100000 121387 g20 (idsOf l21) = cutR (tabOf tab) 100000 121387 g20 289 ks21 (dropO 0 (opsOf (subC c57.code [1, 1, 1, 0, 1, 0, 0, 1, 1, 1]))) f21 14575 allV allV (objsOf l21) := by kernel_rfl
end Go.Proofs.Ytnmmfcpbmdccjaa.Lit
