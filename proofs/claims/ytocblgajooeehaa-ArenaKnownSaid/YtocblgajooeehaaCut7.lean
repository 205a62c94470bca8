/-
  A long run, part by part.
-/
import Derived.Test.YtocblgajooeehaaCutD2
namespace Go.Proofs.Ytocblgajooeehaa.Lit
open Go Go.Vabs
set_option maxRecDepth 100000
set_option linter.unusedVariables false
theorem q26 : cutE (tabOf tab) 20000 27187 g25 (idsOf l26) = cutD (tabOf tab) 20000 27187 g25 97 ks26 (dropD 17 (dopsOf (subC c25.code [1, 1, 1, 1, 1, 1, 0, 1, 0, 1, 1, 1, 1, 0, 1, 0, 0, 1, 0, 0, 1]))) 17 [⟨22375, 22375, .call⟩, ⟨22375, 22375, (.dir [3224] [])⟩, ⟨22375, 22375, .call⟩, ⟨22375, 22375, .call⟩, ⟨22375, 22375, .call⟩, ⟨22375, 22375, .call⟩, ⟨22375, 22375, .call⟩, ⟨22375, 22375, .call⟩, ⟨22375, 22375, .call⟩, ⟨22375, 22375, .call⟩, ⟨22375, 22375, .call⟩, ⟨22375, 22375, .call⟩, ⟨22375, 22375, (.dir [3224] [])⟩, ⟨22375, 22375, .call⟩, ⟨22375, 22375, .call⟩, ⟨22375, 22375, .call⟩, ⟨22375, 22375, .call⟩] f26 22375 allV allV (objsOf l26) := by kernel_rfl
theorem q27 : cutE (tabOf tab) 20000 26310 g26 (idsOf l27) = cutD (tabOf tab) 20000 26310 g26 97 ks27 (dropD 17 (dopsOf (subC c25.code [1, 1, 1, 1, 1, 1, 0, 1, 0, 1, 1, 1, 1, 0, 1, 0, 0, 1, 0, 0, 1]))) 17 [⟨23035, 23035, .call⟩, ⟨23035, 23035, (.dir [3224] [])⟩, ⟨23035, 23035, .call⟩, ⟨23035, 23035, .call⟩, ⟨23035, 23035, .call⟩, ⟨23035, 23035, .call⟩, ⟨23035, 23035, .call⟩, ⟨23035, 23035, .call⟩, ⟨23035, 23035, .call⟩, ⟨23035, 23035, .call⟩, ⟨23035, 23035, .call⟩, ⟨23035, 23035, .call⟩, ⟨23035, 23035, (.dir [3224] [])⟩, ⟨23035, 23035, .call⟩, ⟨23035, 23035, .call⟩, ⟨23035, 23035, .call⟩, ⟨23035, 23035, .call⟩] f27 23035 allV allV (objsOf l27) := by kernel_rfl
theorem q28 : cutE (tabOf tab) 20000 25634 g27 (idsOf l28) = cutR (tabOf tab) 20000 25634 g27 97 ks28 (dropO 4 (opsOf (subC c25.code [1, 1, 1, 1, 1, 1, 0, 1, 0, 1, 1, 1, 1, 0, 1, 0, 0, 1, 0, 0, 0]))) f28 23681 allV allV (objsOf l28) := by kernel_rfl
theorem q29 : cutE (tabOf tab) 20000 24556 g28 (idsOf l29) = cutR (tabOf tab) 20000 24556 g28 97 ks29 (dropO 4 (opsOf (subC c25.code [1, 1, 1, 1, 1, 1, 0, 1, 0, 1, 1, 1, 1, 0, 1, 0, 0, 1, 0, 0, 0]))) f29 24297 allV allV (objsOf l29) := by kernel_rfl
end Go.Proofs.Ytocblgajooeehaa.Lit
