/-
  A long run, part by part.
-/
import Derived.Test.YtocblgajooeehaaCutD2
namespace Go.Proofs.Ytocblgajooeehaa.Lit
open Go Go.Vabs Go.Vabs.Ph
set_option maxRecDepth 100000
set_option linter.unusedVariables false
theorem q62 (X0 : Int) : cutE (tabOf tab) 1000 26365 (h1 X0 (.ofNat 13)) (idsOf l62) = cutR (tabOf tab) 1000 26365 (h1 X0 (.ofNat 13)) 99 ks62 (dropO 0 (opsOf (subC c13.code [1, 1, 1, 0]))) f62 471 allV allV (objsOf l62) := by kernel_rfl
theorem q63 : cutE (tabOf tab) 1000 128118 g62 (idsOf l63) = cutR (tabOf tab) 1000 128118 g62 89 ks63 (dropO 1 (opsOf (subC c34.code [1, 1, 1, 1, 1, 1, 0, 1, 0, 0, 1, 1, 0, 0, 1, 0]))) f63 1178 allV allV (objsOf l63) := by kernel_rfl
theorem q64 : cutE (tabOf tab) 1000 112322 g63 (idsOf l64) = cutR (tabOf tab) 1000 112322 g63 90 ks64 (dropO 1 (opsOf (subC c34.code [1, 1, 1, 1, 1, 1, 0, 1, 0, 0, 1, 1, 0, 0, 1, 0]))) f64 1778 allV allV (objsOf l64) := by kernel_rfl
theorem q65 : cutE (tabOf tab) 1000 113934 g64 (idsOf l65) = cutR (tabOf tab) 1000 113934 g64 89 ks65 (dropO 1 (opsOf (subC c34.code [1, 1, 1, 1, 1, 1, 0, 1, 0, 0, 1, 1, 0, 0, 1, 0]))) f65 2383 allV allV (objsOf l65) := by kernel_rfl
theorem q66 : cutE (tabOf tab) 1000 112404 g65 (idsOf l66) = cutR (tabOf tab) 1000 112404 g65 91 ks66 (dropO 1 (opsOf (subC c34.code [1, 1, 1, 1, 1, 1, 0, 1, 0, 0, 1, 1, 0, 0, 1, 0]))) f66 2986 allV allV (objsOf l66) := by kernel_rfl
theorem q67 : cutE (tabOf tab) 1000 115596 g66 (idsOf l67) = cutR (tabOf tab) 1000 115596 g66 89 ks67 (dropO 1 (opsOf (subC c34.code [1, 1, 1, 1, 1, 1, 0, 1, 0, 0, 1, 1, 0, 0, 1, 0]))) f67 3599 allV allV (objsOf l67) := by kernel_rfl
theorem q68 : isDone (stepsC (tabOf tab) 1000 130936 g67) = true := by kernel_rfl
theorem q69 (X0 : Int) : cutE (tabOf tab) 1000 26388 (h1 X0 (.ofNat 14)) (idsOf l69) = cutR (tabOf tab) 1000 26388 (h1 X0 (.ofNat 14)) 99 ks69 (dropO 0 (opsOf (subC c13.code [1, 1, 1, 0]))) f69 473 allV allV (objsOf l69) := by kernel_rfl
theorem q70 : cutE (tabOf tab) 1000 131860 g69 (idsOf l70) = cutR (tabOf tab) 1000 131860 g69 88 ks70 (dropO 1 (opsOf (subC c34.code [1, 1, 1, 1, 1, 1, 0, 1, 0, 0, 1, 1, 0, 0, 1, 0]))) f70 1189 allV allV (objsOf l70) := by kernel_rfl
theorem q71 : cutE (tabOf tab) 1000 114338 g70 (idsOf l71) = cutR (tabOf tab) 1000 114338 g70 89 ks71 (dropO 1 (opsOf (subC c34.code [1, 1, 1, 1, 1, 1, 0, 1, 0, 0, 1, 1, 0, 0, 1, 0]))) f71 1789 allV allV (objsOf l71) := by kernel_rfl
end Go.Proofs.Ytocblgajooeehaa.Lit
