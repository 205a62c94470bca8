/-
  A long run, part by part.
-/
import Derived.Test.YtnmmfcpbmdccjaaCutD2
namespace Go.Proofs.Ytnmmfcpbmdccjaa.Lit
open Go Go.Vabs
set_option maxRecDepth 100000
theorem q4 : cutE (tabOf tab) 100000 121360 g3 (idsOf l4) = cutR (tabOf tab) 100000 121360 g3 292 ks4 (dropO 3 (opsOf (subC c73.code [1, 1, 1, 0, 1, 1, 0]))) f4 5567 allV allV (objsOf l4) := by kernel_rfl
theorem q5 : cutE (tabOf tab) 100000 121410 g4 (idsOf l5) = cutR (tabOf tab) 100000 121410 g4 290 ks5 (dropO 4 (opsOf (subC c69.code [1, 0]))) f5 6096 allV allV (objsOf l5) := by kernel_rfl
theorem q6 : cutE (tabOf tab) 100000 121374 g5 (idsOf l6) = cutR (tabOf tab) 100000 121374 g5 291 ks6 (dropO 0 (opsOf (subC c62.code [1, 0]))) f6 6626 allV allV (objsOf l6) := by kernel_rfl
end Go.Proofs.Ytnmmfcpbmdccjaa.Lit
