/-
  A long run, part by part.
-/
import Derived.Test.YtnmmfcpbmdccjaaCutD2
namespace Go.Proofs.Ytnmmfcpbmdccjaa.Lit
open Go Go.Vabs
set_option maxRecDepth 100000
theorem q22 : cutE (tabOf tab) 100000 121438 g21 (idsOf l22) = cutR (tabOf tab) 100000 121438 g21 291 ks22 (dropO 1 (opsOf (subC c57.code [1, 1, 1, 0, 1, 0, 0, 1, 1, 0, 0, 0]))) f22 15101 allV allV (objsOf l22) := by kernel_rfl
theorem q23 : cutE (tabOf tab) 100000 121374 g22 (idsOf l23) = cutR (tabOf tab) 100000 121374 g22 289 ks23 (dropO 1 (opsOf (subC c57.code [1, 0, 0]))) f23 15631 allV allV (objsOf l23) := by kernel_rfl
theorem q24 : cutE (tabOf tab) 100000 121387 g23 (idsOf l24) = cutR (tabOf tab) 100000 121387 g23 289 ks24 (dropO 0 (opsOf (subC c57.code [1, 1, 1, 0, 1, 0, 0, 0]))) f24 16161 allV allV (objsOf l24) := by kernel_rfl
end Go.Proofs.Ytnmmfcpbmdccjaa.Lit
