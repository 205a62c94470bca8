/-
  A long run, part by part.
-/
import Derived.Test.YtocblgajooeehaaCutD2
namespace Go.Proofs.Ytocblgajooeehaa.Lit
open Go Go.Vabs
set_option maxRecDepth 100000
set_option linter.unusedVariables false
theorem q42 : cutE (tabOf tab) 20000 105489 g41 (idsOf l42) = cutD (tabOf tab) 20000 105489 g41 98 ks42 (dropD 15 (dopsOf (subC c31.code [1, 1, 1, 1, 1, 1, 1, 1, 1, 1, 1, 1, 1, 1, 1, 1, 0, 1, 1, 0, 1, 1, 1, 0, 0, 1, 0, 0]))) 15 [⟨33017, 33018, (.dir [] [])⟩, ⟨33017, 33017, .call⟩, ⟨33017, 33017, .call⟩, ⟨33017, 33017, .call⟩, ⟨33017, 33017, .call⟩, ⟨33017, 33017, .call⟩, ⟨33017, 33017, .call⟩, ⟨33017, 33017, .call⟩, ⟨33017, 33017, .call⟩, ⟨33017, 33017, .call⟩, ⟨33017, 33017, (.dir [31580] [])⟩, ⟨33017, 33017, .call⟩, ⟨33017, 33017, .call⟩, ⟨33017, 33017, .call⟩, ⟨33017, 33017, .call⟩] f42 33018 allV allV (objsOf l42) := by kernel_rfl
theorem q43 : cutE (tabOf tab) 20000 80352 g42 (idsOf l43) = cutR (tabOf tab) 20000 80352 g42 100 ks43 (dropO 1 (opsOf (subC c3.code [1, 1, 1, 0]))) f43 33718 allV allV (objsOf l43) := by kernel_rfl
theorem q44 : cutE (tabOf tab) 20000 80694 g43 (idsOf l44) = cutR (tabOf tab) 20000 80694 g43 100 ks44 (dropO 12 (opsOf (subC c3.code [1, 1, 1, 1, 1, 1, 1, 1, 1, 1, 1, 1, 0]))) f44 34479 allV allV (objsOf l44) := by kernel_rfl
theorem q45 : cutE (tabOf tab) 20000 74084 g44 (idsOf l45) = cutD (tabOf tab) 20000 74084 g44 96 ks45 (dropD 10 (dopsOf (subC c34.code [1, 1, 0]))) 10 [⟨34767, 35280, .call⟩, ⟨34767, 34767, .call⟩, ⟨34767, 34767, (.dir [34765] [])⟩, ⟨34767, 34767, .call⟩, ⟨34767, 34767, .call⟩, ⟨34767, 34767, .call⟩, ⟨34767, 34767, (.dir [34765] [])⟩, ⟨34767, 34767, .call⟩, ⟨34767, 34767, .call⟩, ⟨34767, 34767, .call⟩] f45 35280 allV allV (objsOf l45) := by kernel_rfl
end Go.Proofs.Ytocblgajooeehaa.Lit
