/-
  A long run, part by part.
-/
import Derived.Test.YtocblgajooeehaaCutD2
namespace Go.Proofs.Ytocblgajooeehaa.Lit
open Go Go.Vabs
set_option maxRecDepth 100000
set_option linter.unusedVariables false
theorem q38 : cutE (tabOf tab) 20000 15294 g37 (idsOf l38) = cutR (tabOf tab) 20000 15294 g37 99 ks38 (dropO 1 (opsOf (subC c12.code [1, 1, 1, 0]))) f38 29405 allV allV (objsOf l38) := by kernel_rfl
theorem q39 : cutE (tabOf tab) 20000 123115 g38 (idsOf l39) = cutR (tabOf tab) 20000 123115 g38 96 ks39 (dropO 1 (opsOf (subC c73.code [1, 1, 0, 1, 0, 0, 1, 1, 0, 0, 1, 0]))) f39 30371 allV allV (objsOf l39) := by kernel_rfl
theorem q40 : cutE (tabOf tab) 20000 107384 g39 (idsOf l40) = cutR (tabOf tab) 20000 107384 g39 96 ks40 (dropO 0 (opsOf (subC c73.code [1, 1, 0, 1, 0, 0, 1, 1, 0, 0, 1, 1]))) f40 31189 allV allV (objsOf l40) := by kernel_rfl
theorem q41 : cutE (tabOf tab) 20000 109954 g40 (idsOf l41) = cutD (tabOf tab) 20000 109954 g40 98 ks41 (dropD 12 (dopsOf (subC c31.code [1, 1, 1, 1, 1, 1, 1, 1, 1, 1, 1, 1, 1, 1, 1, 1, 0, 1, 1, 0, 1, 1, 1, 0, 0, 1, 0, 0]))) 12 [⟨32081, 32081, .call⟩, ⟨32081, 32081, .call⟩, ⟨32081, 32081, .call⟩, ⟨32081, 32081, .call⟩, ⟨32081, 32081, .call⟩, ⟨32081, 32081, .call⟩, ⟨32081, 32081, .call⟩, ⟨32081, 32081, (.dir [31580] [])⟩, ⟨32081, 32081, .call⟩, ⟨32081, 32081, .call⟩, ⟨32081, 32081, .call⟩, ⟨32081, 32081, .call⟩] f41 32081 allV allV (objsOf l41) := by kernel_rfl
end Go.Proofs.Ytocblgajooeehaa.Lit
