/-
  A long run, part by part.
-/
import Derived.Test.YtnmmfcpbmdccjaaCutD2
namespace Go.Proofs.Ytnmmfcpbmdccjaa.Lit
open Go Go.Vabs
set_option maxRecDepth 100000
theorem q31 : cutE (tabOf tab) 100000 121336 g30 (idsOf l31) = cutR (tabOf tab) 100000 121336 g30 292 ks31 (dropO 5 (opsOf (subC c73.code [1, 1, 1, 0, 1, 1, 1, 1, 0]))) f31 19861 allV allV (objsOf l31) := by kernel_rfl
theorem q32 : cutE (tabOf tab) 100000 121421 g31 (idsOf l32) = cutR (tabOf tab) 100000 121421 g31 291 ks32 (dropO 2 (opsOf (subC c62.code [1, 0]))) f32 20390 allV allV (objsOf l32) := by kernel_rfl
theorem q33 : cutE (tabOf tab) 100000 121378 g32 (idsOf l33) = cutR (tabOf tab) 100000 121378 g32 288 ks33 (dropO 1 (opsOf (subC c58.code [1, 0]))) f33 20920 allV allV (objsOf l33) := by kernel_rfl
end Go.Proofs.Ytnmmfcpbmdccjaa.Lit
