/-
  A long run, part by part.
-/
import Derived.Test.YtnmmfcpbmdccjaaCutD2
namespace Go.Proofs.Ytnmmfcpbmdccjaa.Lit
open Go Go.Vabs
set_option maxRecDepth 100000
theorem q13 : cutE (tabOf tab) 100000 121399 g12 (idsOf l13) = cutR (tabOf tab) 100000 121399 g12 293 ks13 (dropO 1 (opsOf (subC c67.code [1, 0]))) f13 10331 allV allV (objsOf l13) := by kernel_rfl
theorem q14 : cutE (tabOf tab) 100000 121384 g13 (idsOf l14) = cutR (tabOf tab) 100000 121384 g13 290 ks14 (dropO 0 (opsOf (subC c57.code [1, 1, 0]))) f14 10861 allV allV (objsOf l14) := by kernel_rfl
theorem q15 : cutE (tabOf tab) 100000 121413 g14 (idsOf l15) = cutR (tabOf tab) 100000 121413 g14 290 ks15 (dropO 3 (opsOf (subC c57.code [1, 1, 1, 0, 1, 0, 0, 1, 1, 0, 0, 1]))) f15 11388 allV allV (objsOf l15) := by kernel_rfl
end Go.Proofs.Ytnmmfcpbmdccjaa.Lit
