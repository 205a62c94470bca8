/-
  A long run, part by part.
-/
import Derived.Test.YtocblgajooeehaaCutD2
namespace Go.Proofs.Ytocblgajooeehaa.Lit
open Go Go.Vabs
set_option maxRecDepth 100000
set_option linter.unusedVariables false
theorem q6 : cutE (tabOf tab) 20000 22854 g5 (idsOf l6) = cutR (tabOf tab) 20000 22854 g5 99 ks6 (dropO 3 (opsOf (subC c8.code [1, 1, 1, 1, 1, 1, 1, 1, 1, 1, 1, 1, 1, 1, 1, 1, 1, 1, 1, 1, 1, 1, 1, 1, 1, 1, 1, 1, 0, 1, 0, 0, 1, 0, 0, 0]))) f6 5290 allV allV (objsOf l6) := by kernel_rfl
theorem q7 : cutE (tabOf tab) 20000 29238 g6 (idsOf l7) = cutR (tabOf tab) 20000 29238 g6 99 ks7 (dropO 3 (opsOf (subC c8.code [1, 1, 1, 1, 1, 1, 1, 1, 1, 1, 1, 1, 1, 1, 1, 1, 1, 1, 1, 1, 1, 1, 1, 1, 1, 1, 1, 1, 0, 1, 0, 0, 1, 0, 0, 0]))) f7 6012 allV allV (objsOf l7) := by kernel_rfl
theorem q8 : cutE (tabOf tab) 20000 49411 g7 (idsOf l8) = cutD (tabOf tab) 20000 49411 g7 98 ks8 (dropD 17 (dopsOf (subC c25.code [1, 1, 1, 1, 1, 1, 0, 1, 0, 1, 1, 1, 1, 0, 1, 0, 0, 1, 0, 0, 1]))) 17 [⟨7252, 7252, .call⟩, ⟨7252, 7252, (.dir [3224] [])⟩, ⟨7252, 7252, .call⟩, ⟨7252, 7252, .call⟩, ⟨7252, 7252, .call⟩, ⟨7252, 7252, .call⟩, ⟨7252, 7252, .call⟩, ⟨7252, 7252, .call⟩, ⟨7252, 7252, .call⟩, ⟨7252, 7252, .call⟩, ⟨7252, 7252, .call⟩, ⟨7252, 7252, .call⟩, ⟨7252, 7252, (.dir [3224] [])⟩, ⟨7252, 7252, .call⟩, ⟨7252, 7252, .call⟩, ⟨7252, 7252, .call⟩, ⟨7252, 7252, .call⟩] f8 7252 allV allV (objsOf l8) := by kernel_rfl
theorem q9 : cutE (tabOf tab) 20000 44928 g8 (idsOf l9) = cutR (tabOf tab) 20000 44928 g8 98 ks9 (dropO 4 (opsOf (subC c25.code [1, 1, 1, 1, 1, 1, 0, 1, 0, 1, 1, 1, 1, 0, 1, 0, 0, 1, 0, 0, 0]))) f9 8382 allV allV (objsOf l9) := by kernel_rfl
end Go.Proofs.Ytocblgajooeehaa.Lit
