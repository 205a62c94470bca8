/-
  A long run, part by part.
-/
import Derived.Test.YtocblgajooeehaaCutD2
namespace Go.Proofs.Ytocblgajooeehaa.Lit
open Go Go.Vabs
set_option maxRecDepth 100000
set_option linter.unusedVariables false
theorem q14 : cutE (tabOf tab) 20000 37035 g13 (idsOf l14) = cutR (tabOf tab) 20000 37035 g13 97 ks14 (dropO 4 (opsOf (subC c25.code [1, 1, 1, 1, 1, 1, 0, 1, 0, 1, 1, 1, 1, 0, 1, 0, 0, 1, 0, 0, 0]))) f14 13199 allV allV (objsOf l14) := by kernel_rfl
theorem q15 : cutE (tabOf tab) 20000 35080 g14 (idsOf l15) = cutR (tabOf tab) 20000 35080 g14 97 ks15 (dropO 4 (opsOf (subC c25.code [1, 1, 1, 1, 1, 1, 0, 1, 0, 1, 1, 1, 1, 0, 1, 0, 0, 1, 0, 0, 0]))) f15 14079 allV allV (objsOf l15) := by kernel_rfl
theorem q16 : cutE (tabOf tab) 20000 33326 g15 (idsOf l16) = cutR (tabOf tab) 20000 33326 g15 97 ks16 (dropO 4 (opsOf (subC c25.code [1, 1, 1, 1, 1, 1, 0, 1, 0, 1, 1, 1, 1, 0, 1, 0, 0, 1, 0, 0, 0]))) f16 14915 allV allV (objsOf l16) := by kernel_rfl
theorem q17 : cutE (tabOf tab) 20000 32227 g16 (idsOf l17) = cutR (tabOf tab) 20000 32227 g16 97 ks17 (dropO 5 (opsOf (subC c25.code [1, 1, 1, 1, 1, 1, 0, 1, 0, 1, 1, 1, 1, 0, 1, 0, 0, 1, 0, 0, 0]))) f17 15721 allV allV (objsOf l17) := by kernel_rfl
end Go.Proofs.Ytocblgajooeehaa.Lit
