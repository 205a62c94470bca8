/-
  A long run, part by part.
-/
import Derived.Test.YtocblgajooeehaaCutD2
namespace Go.Proofs.Ytocblgajooeehaa.Lit
open Go Go.Vabs
set_option maxRecDepth 100000
set_option linter.unusedVariables false
theorem q50 : cutE (tabOf tab) 20000 113817 g49 (idsOf l50) = cutR (tabOf tab) 20000 113817 g49 95 ks50 (dropO 0 (opsOf (subC c34.code [1, 1, 1, 1, 1, 1, 0, 1, 0, 0, 1, 1, 0, 0, 1, 0]))) f50 38364 allV allV (objsOf l50) := by kernel_rfl
theorem q51 : cutE (tabOf tab) 20000 94243 g50 (idsOf l51) = cutD (tabOf tab) 20000 94243 g50 95 ks51 (dropD 10 (dopsOf (subC c34.code [1, 1, 1, 1, 1, 1, 0, 1, 0, 0, 1, 1, 0, 0, 1, 1, 1]))) 10 [⟨38956, 38956, .call⟩, ⟨38955, 38956, .call⟩, ⟨38954, 38955, (.dir [] [])⟩, ⟨38954, 38954, .call⟩, ⟨38954, 38954, (.dir [38953] [])⟩, ⟨38954, 38954, (.dir [37377] [])⟩, ⟨38954, 38954, .call⟩, ⟨38954, 38954, .call⟩, ⟨38954, 38954, .call⟩, ⟨38954, 38954, .call⟩] f51 38956 allV allV (objsOf l51) := by kernel_rfl
theorem q52 : cutE (tabOf tab) 20000 66303 g51 (idsOf l52) = cutR (tabOf tab) 20000 66303 g51 96 ks52 (dropO 1 (opsOf (subC c34.code [1, 1, 1, 1, 1, 1, 0, 1, 0, 0, 1, 1, 0, 0, 1, 0]))) f52 39372 allV allV (objsOf l52) := by kernel_rfl
theorem q53 : cutE (tabOf tab) 20000 112544 g52 (idsOf l53) = cutR (tabOf tab) 20000 112544 g52 95 ks53 (dropO 0 (opsOf (subC c34.code [1, 1, 1, 1, 1, 1, 0, 1, 0, 0, 1, 1, 0, 0, 1, 0]))) f53 40362 allV allV (objsOf l53) := by kernel_rfl
end Go.Proofs.Ytocblgajooeehaa.Lit
