/-
  A long run, part by part.
-/
import Derived.Test.YtocblgajooeehaaCutD2
namespace Go.Proofs.Ytocblgajooeehaa.Lit
open Go Go.Vabs
set_option maxRecDepth 100000
set_option linter.unusedVariables false
theorem q58 : cutE (tabOf tab) 20000 70092 g57 (idsOf l58) = cutR (tabOf tab) 20000 70092 g57 96 ks58 (dropO 1 (opsOf (subC c34.code [1, 1, 1, 1, 1, 1, 0, 1, 0, 0, 1, 1, 0, 0, 1, 0]))) f58 43377 allV allV (objsOf l58) := by kernel_rfl
theorem q59 : cutE (tabOf tab) 20000 111270 g58 (idsOf l59) = cutR (tabOf tab) 20000 111270 g58 95 ks59 (dropO 0 (opsOf (subC c34.code [1, 1, 1, 1, 1, 1, 0, 1, 0, 0, 1, 1, 0, 0, 1, 0]))) f59 44359 allV allV (objsOf l59) := by kernel_rfl
theorem q60 : cutE (tabOf tab) 20000 92969 g59 (idsOf l60) = cutD (tabOf tab) 20000 92969 g59 95 ks60 (dropD 10 (dopsOf (subC c34.code [1, 1, 1, 1, 1, 1, 0, 1, 0, 0, 1, 1, 0, 0, 1, 1, 1]))) 10 [⟨44943, 44943, .call⟩, ⟨44942, 44943, .call⟩, ⟨44941, 44942, (.dir [] [])⟩, ⟨44941, 44941, .call⟩, ⟨44941, 44941, (.dir [44940] [])⟩, ⟨44941, 44941, (.dir [43382] [])⟩, ⟨44941, 44941, .call⟩, ⟨44941, 44941, .call⟩, ⟨44941, 44941, .call⟩, ⟨44941, 44941, .call⟩] f60 44943 allV allV (objsOf l60) := by kernel_rfl
theorem q61 : isDone (stepsC (tabOf tab) 20000 69969 g60) = true := by kernel_rfl
end Go.Proofs.Ytocblgajooeehaa.Lit
