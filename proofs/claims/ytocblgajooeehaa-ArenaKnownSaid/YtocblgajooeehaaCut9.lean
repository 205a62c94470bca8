/-
  A long run, part by part.
-/
import Derived.Test.YtocblgajooeehaaCutD2
namespace Go.Proofs.Ytocblgajooeehaa.Lit
open Go Go.Vabs
set_option maxRecDepth 100000
set_option linter.unusedVariables false
theorem q34 : cutE (tabOf tab) 20000 23678 g33 (idsOf l34) = cutR (tabOf tab) 20000 23678 g33 97 ks34 (dropO 3 (opsOf (subC c25.code [1, 1, 1, 1, 1, 1, 0, 1, 0, 1, 1, 1, 1, 0, 1, 0, 0, 1, 0, 0, 0]))) f34 27335 allV allV (objsOf l34) := by kernel_rfl
theorem q35 : cutE (tabOf tab) 20000 22803 g34 (idsOf l35) = cutR (tabOf tab) 20000 22803 g34 97 ks35 (dropO 4 (opsOf (subC c25.code [1, 1, 1, 1, 1, 1, 0, 1, 0, 1, 1, 1, 1, 0, 1, 0, 0, 1, 0, 0, 0]))) f35 27907 allV allV (objsOf l35) := by kernel_rfl
theorem q36 : cutE (tabOf tab) 20000 22601 g35 (idsOf l36) = cutD (tabOf tab) 20000 22601 g35 97 ks36 (dropD 17 (dopsOf (subC c25.code [1, 1, 1, 1, 1, 1, 0, 1, 0, 1, 1, 1, 1, 0, 1, 0, 0, 1, 0, 0, 1]))) 17 [⟨28471, 28471, .call⟩, ⟨28471, 28471, (.dir [3224] [])⟩, ⟨28471, 28471, .call⟩, ⟨28471, 28471, .call⟩, ⟨28471, 28471, .call⟩, ⟨28471, 28471, .call⟩, ⟨28471, 28471, .call⟩, ⟨28471, 28471, .call⟩, ⟨28471, 28471, .call⟩, ⟨28471, 28471, .call⟩, ⟨28471, 28471, .call⟩, ⟨28471, 28471, .call⟩, ⟨28471, 28471, (.dir [3224] [])⟩, ⟨28471, 28471, .call⟩, ⟨28471, 28471, .call⟩, ⟨28471, 28471, .call⟩, ⟨28471, 28471, .call⟩] f36 28471 allV allV (objsOf l36) := by kernel_rfl
theorem q37 : cutE (tabOf tab) 20000 22125 g36 (idsOf l37) = cutR (tabOf tab) 20000 22125 g36 97 ks37 (dropO 3 (opsOf (subC c25.code [1, 1, 1, 1, 1, 1, 0, 1, 0, 1, 1, 1, 1, 0, 1, 0, 0, 1, 0, 0, 0]))) f37 29029 allV allV (objsOf l37) := by kernel_rfl
end Go.Proofs.Ytocblgajooeehaa.Lit
