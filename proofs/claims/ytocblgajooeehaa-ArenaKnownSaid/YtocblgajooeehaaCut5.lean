/-
  A long run, part by part.
-/
import Derived.Test.YtocblgajooeehaaCutD2
namespace Go.Proofs.Ytocblgajooeehaa.Lit
open Go Go.Vabs
set_option maxRecDepth 100000
set_option linter.unusedVariables false
theorem q18 : cutE (tabOf tab) 20000 32318 g17 (idsOf l18) = cutD (tabOf tab) 20000 32318 g17 97 ks18 (dropD 17 (dopsOf (subC c25.code [1, 1, 1, 1, 1, 1, 0, 1, 0, 1, 1, 1, 1, 0, 1, 0, 0, 1, 0, 0, 1]))) 17 [⟨16537, 16537, .call⟩, ⟨16537, 16537, (.dir [3224] [])⟩, ⟨16537, 16537, .call⟩, ⟨16537, 16537, .call⟩, ⟨16537, 16537, .call⟩, ⟨16537, 16537, .call⟩, ⟨16537, 16537, .call⟩, ⟨16537, 16537, .call⟩, ⟨16537, 16537, .call⟩, ⟨16537, 16537, .call⟩, ⟨16537, 16537, .call⟩, ⟨16537, 16537, .call⟩, ⟨16537, 16537, (.dir [3224] [])⟩, ⟨16537, 16537, .call⟩, ⟨16537, 16537, .call⟩, ⟨16537, 16537, .call⟩, ⟨16537, 16537, .call⟩] f18 16537 allV allV (objsOf l18) := by kernel_rfl
theorem q19 : cutE (tabOf tab) 20000 31773 g18 (idsOf l19) = cutR (tabOf tab) 20000 31773 g18 97 ks19 (dropO 4 (opsOf (subC c25.code [1, 1, 1, 1, 1, 1, 0, 1, 0, 1, 1, 1, 1, 0, 1, 0, 0, 1, 0, 0, 0]))) f19 17337 allV allV (objsOf l19) := by kernel_rfl
theorem q20 : cutE (tabOf tab) 20000 30695 g19 (idsOf l20) = cutR (tabOf tab) 20000 30695 g19 97 ks20 (dropO 4 (opsOf (subC c25.code [1, 1, 1, 1, 1, 1, 0, 1, 0, 1, 1, 1, 1, 0, 1, 0, 0, 1, 0, 0, 0]))) f20 18107 allV allV (objsOf l20) := by kernel_rfl
theorem q21 : cutE (tabOf tab) 20000 29818 g20 (idsOf l21) = cutR (tabOf tab) 20000 29818 g20 97 ks21 (dropO 4 (opsOf (subC c25.code [1, 1, 1, 1, 1, 1, 0, 1, 0, 1, 1, 1, 1, 0, 1, 0, 0, 1, 0, 0, 0]))) f21 18855 allV allV (objsOf l21) := by kernel_rfl
end Go.Proofs.Ytocblgajooeehaa.Lit
