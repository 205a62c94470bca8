/-
  A long run, part by part.
-/
import Derived.Test.YtnmmfcpbmdccjaaCutD2
namespace Go.Proofs.Ytnmmfcpbmdccjaa.Lit
open Go Go.Vabs
set_option maxRecDepth 100000
theorem q16 : cutE (tabOf tab) 100000 121404 g15 (idsOf l16) = cutR (tabOf tab) 100000 121404 g15 293 ks16 (dropO 0 (opsOf (subC c67.code [1, 1, 0, 0]))) f16 11918 allV allV (objsOf l16) := by kernel_rfl
theorem q17 : cutE (tabOf tab) 100000 121383 g16 (idsOf l17) = cutR (tabOf tab) 100000 121383 g16 290 ks17 (dropO 1 (opsOf (subC c57.code [1, 1, 1, 0, 0]))) f17 12447 allV allV (objsOf l17) := by kernel_rfl
theorem q18 : cutE (tabOf tab) 100000 121371 g17 (idsOf l18) = cutR (tabOf tab) 100000 121371 g17 294 ks18 (dropO 0 (opsOf (subC c55.code [1, 1, 0, 0, 0, 1, 1, 1, 0, 0]))) f18 12976 allV allV (objsOf l18) := by kernel_rfl
end Go.Proofs.Ytnmmfcpbmdccjaa.Lit
