/-
  A long run, part by part.
-/
import Derived.Test.YtocblgajooeehaaCutD2
namespace Go.Proofs.Ytocblgajooeehaa.Lit
open Go Go.Vabs
set_option maxRecDepth 100000
set_option linter.unusedVariables false
theorem q10 : cutE (tabOf tab) 20000 41219 g9 (idsOf l10) = cutR (tabOf tab) 20000 41219 g9 98 ks10 (dropO 4 (opsOf (subC c25.code [1, 1, 1, 1, 1, 1, 0, 1, 0, 1, 1, 1, 1, 0, 1, 0, 0, 1, 0, 0, 0]))) f10 9416 allV allV (objsOf l10) := by kernel_rfl
theorem q11 : cutE (tabOf tab) 20000 38588 g10 (idsOf l11) = cutR (tabOf tab) 20000 38588 g10 98 ks11 (dropO 4 (opsOf (subC c25.code [1, 1, 1, 1, 1, 1, 0, 1, 0, 1, 1, 1, 1, 0, 1, 0, 0, 1, 0, 0, 0]))) f11 10384 allV allV (objsOf l11) := by kernel_rfl
theorem q12 : cutE (tabOf tab) 20000 36833 g11 (idsOf l12) = cutR (tabOf tab) 20000 36833 g11 98 ks12 (dropO 3 (opsOf (subC c25.code [1, 1, 1, 1, 1, 1, 0, 1, 0, 1, 1, 1, 1, 0, 1, 0, 0, 1, 0, 0, 0]))) f12 11308 allV allV (objsOf l12) := by kernel_rfl
theorem q13 : cutE (tabOf tab) 20000 37934 g12 (idsOf l13) = cutD (tabOf tab) 20000 37934 g12 97 ks13 (dropD 17 (dopsOf (subC c25.code [1, 1, 1, 1, 1, 1, 0, 1, 0, 1, 1, 1, 1, 0, 1, 0, 0, 1, 0, 0, 1]))) 17 [⟨12267, 12267, .call⟩, ⟨12267, 12267, (.dir [3224] [])⟩, ⟨12267, 12267, .call⟩, ⟨12267, 12267, .call⟩, ⟨12267, 12267, .call⟩, ⟨12267, 12267, .call⟩, ⟨12267, 12267, .call⟩, ⟨12267, 12267, .call⟩, ⟨12267, 12267, .call⟩, ⟨12267, 12267, .call⟩, ⟨12267, 12267, .call⟩, ⟨12267, 12267, .call⟩, ⟨12267, 12267, (.dir [3224] [])⟩, ⟨12267, 12267, .call⟩, ⟨12267, 12267, .call⟩, ⟨12267, 12267, .call⟩, ⟨12267, 12267, .call⟩] f13 12267 allV allV (objsOf l13) := by kernel_rfl
end Go.Proofs.Ytocblgajooeehaa.Lit
