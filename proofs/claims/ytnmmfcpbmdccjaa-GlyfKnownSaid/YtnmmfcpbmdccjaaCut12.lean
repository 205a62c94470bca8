/-
  A long run, part by part.
-/
import Derived.Test.YtnmmfcpbmdccjaaCutD2
namespace Go.Proofs.Ytnmmfcpbmdccjaa.Lit
open Go Go.Vabs
set_option maxRecDepth 100000
theorem q34 : cutE (tabOf tab) 100000 121402 g33 (idsOf l34) = cutR (tabOf tab) 100000 121402 g33 290 ks34 (dropO 2 (opsOf (subC c69.code [1, 0]))) f34 21450 allV allV (objsOf l34) := by kernel_rfl
theorem q35 : cutE (tabOf tab) 100000 121370 g34 (idsOf l35) = cutR (tabOf tab) 100000 121370 g34 291 ks35 (dropO 0 (opsOf (subC c62.code [0]))) f35 21980 allV allV (objsOf l35) := by kernel_rfl
theorem q36 : cutE (tabOf tab) 100000 121408 g35 (idsOf l36) = cutR (tabOf tab) 100000 121408 g35 290 ks36 (dropO 0 (opsOf (subC c57.code [1, 1, 1, 0, 1, 0, 0, 1, 1, 0, 0, 0]))) f36 22510 allV allV (objsOf l36) := by kernel_rfl
end Go.Proofs.Ytnmmfcpbmdccjaa.Lit
