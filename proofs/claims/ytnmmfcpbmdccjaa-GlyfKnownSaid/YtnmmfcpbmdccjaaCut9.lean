/-
  A long run, part by part.
-/
import Derived.Test.YtnmmfcpbmdccjaaCutD2
namespace Go.Proofs.Ytnmmfcpbmdccjaa.Lit
open Go Go.Vabs
set_option maxRecDepth 100000
theorem q25 : cutE (tabOf tab) 100000 121376 g24 (idsOf l25) = cutR (tabOf tab) 100000 121376 g24 289 ks25 (dropO 0 (opsOf (subC c57.code [0]))) f25 16691 allV allV (objsOf l25) := by kernel_rfl
theorem q26 : cutE (tabOf tab) 100000 121371 g25 (idsOf l26) = cutR (tabOf tab) 100000 121371 g25 291 ks26 (dropO 7 (opsOf (subC c50.code [1, 0]))) f26 17217 allV allV (objsOf l26) := by kernel_rfl
theorem q27 : cutE (tabOf tab) 100000 121426 g26 (idsOf l27) = cutR (tabOf tab) 100000 121426 g26 292 ks27 (dropO 1 (opsOf (subC c52.code [1, 0]))) f27 17746 allV allV (objsOf l27) := by kernel_rfl
end Go.Proofs.Ytnmmfcpbmdccjaa.Lit
