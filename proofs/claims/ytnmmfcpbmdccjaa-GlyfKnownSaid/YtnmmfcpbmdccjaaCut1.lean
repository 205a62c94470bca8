/-
  A long run, part by part.
-/
import Derived.Test.YtnmmfcpbmdccjaaCutD2
namespace Go.Proofs.Ytnmmfcpbmdccjaa.Lit
open Go Go.Vabs
set_option maxRecDepth 100000
theorem q1 : cutE (tabOf tab) 100000 139228 g0 (idsOf l1) = cutR (tabOf tab) 100000 139228 g0 293 ks1 (dropO 3 (opsOf (subC c53.code [1, 1, 1, 0]))) f1 3841 allV allV (objsOf l1) := by kernel_rfl
theorem q2 : cutE (tabOf tab) 100000 122364 g1 (idsOf l2) = cutR (tabOf tab) 100000 122364 g1 291 ks2 (dropO 0 (opsOf (subC c50.code [1, 0]))) f2 4509 allV allV (objsOf l2) := by kernel_rfl
theorem q3 : cutE (tabOf tab) 100000 121402 g2 (idsOf l3) = cutR (tabOf tab) 100000 121402 g2 291 ks3 (dropO 2 (opsOf (subC c61.code [1, 0, 1, 0, 0, 1, 1, 0, 0, 1, 0]))) f3 5038 allV allV (objsOf l3) := by kernel_rfl
end Go.Proofs.Ytnmmfcpbmdccjaa.Lit
