/-
  A long run, part by part.
-/
import Derived.Test.YtocblgajooeehaaCutD2
namespace Go.Proofs.Ytocblgajooeehaa.Lit
open Go Go.Vabs
set_option maxRecDepth 100000
set_option linter.unusedVariables false
theorem q46 : cutE (tabOf tab) 20000 111851 g45 (idsOf l46) = cutR (tabOf tab) 20000 111851 g45 96 ks46 (dropO 0 (opsOf (subC c34.code [1, 1, 1, 1, 1, 1, 0, 1, 0, 0, 1, 1, 0, 0, 1, 0]))) f46 36003 allV allV (objsOf l46) := by kernel_rfl
theorem q47 : cutE (tabOf tab) 20000 89424 g46 (idsOf l47) = cutR (tabOf tab) 20000 89424 g46 96 ks47 (dropO 0 (opsOf (subC c34.code [1, 1, 1, 1, 1, 1, 0, 1, 0, 0, 1, 1, 0, 0, 1, 0]))) f47 36579 allV allV (objsOf l47) := by kernel_rfl
theorem q48 : cutE (tabOf tab) 20000 76971 g47 (idsOf l48) = cutD (tabOf tab) 20000 76971 g47 96 ks48 (dropD 10 (dopsOf (subC c34.code [1, 1, 1, 1, 1, 1, 0, 1, 0, 0, 1, 1, 0, 0, 1, 1, 1]))) 10 [⟨37075, 37075, .call⟩, ⟨37074, 37075, .call⟩, ⟨37073, 37074, (.dir [] [])⟩, ⟨37073, 37073, .call⟩, ⟨37073, 37073, (.dir [37072] [])⟩, ⟨37073, 37073, (.dir [34768] [])⟩, ⟨37073, 37073, .call⟩, ⟨37073, 37073, .call⟩, ⟨37073, 37073, .call⟩, ⟨37073, 37073, .call⟩] f48 37075 allV allV (objsOf l48) := by kernel_rfl
theorem q49 : cutE (tabOf tab) 20000 40665 g48 (idsOf l49) = cutR (tabOf tab) 20000 40665 g48 97 ks49 (dropO 1 (opsOf (subC c16.code [1, 1, 0]))) f49 37364 allV allV (objsOf l49) := by kernel_rfl
end Go.Proofs.Ytocblgajooeehaa.Lit
