/-
  A long run, part by part.
-/
import Derived.Test.YtocblgajooeehaaCutD2
namespace Go.Proofs.Ytocblgajooeehaa.Lit
open Go Go.Vabs
set_option maxRecDepth 100000
set_option linter.unusedVariables false
theorem q22 : cutE (tabOf tab) 20000 28740 g21 (idsOf l22) = cutD (tabOf tab) 20000 28740 g21 97 ks22 (dropD 17 (dopsOf (subC c25.code [1, 1, 1, 1, 1, 1, 0, 1, 0, 1, 1, 1, 1, 0, 1, 0, 0, 1, 0, 0, 1]))) 17 [⟨19573, 19573, .call⟩, ⟨19573, 19573, (.dir [3224] [])⟩, ⟨19573, 19573, .call⟩, ⟨19573, 19573, .call⟩, ⟨19573, 19573, .call⟩, ⟨19573, 19573, .call⟩, ⟨19573, 19573, .call⟩, ⟨19573, 19573, .call⟩, ⟨19573, 19573, .call⟩, ⟨19573, 19573, .call⟩, ⟨19573, 19573, .call⟩, ⟨19573, 19573, .call⟩, ⟨19573, 19573, (.dir [3224] [])⟩, ⟨19573, 19573, .call⟩, ⟨19573, 19573, .call⟩, ⟨19573, 19573, .call⟩, ⟨19573, 19573, .call⟩] f22 19573 allV allV (objsOf l22) := by kernel_rfl
theorem q23 : cutE (tabOf tab) 20000 27388 g22 (idsOf l23) = cutR (tabOf tab) 20000 27388 g22 97 ks23 (dropO 4 (opsOf (subC c25.code [1, 1, 1, 1, 1, 1, 0, 1, 0, 1, 1, 1, 1, 0, 1, 0, 0, 1, 0, 0, 0]))) f23 20263 allV allV (objsOf l23) := by kernel_rfl
theorem q24 : cutE (tabOf tab) 20000 28549 g23 (idsOf l24) = cutD (tabOf tab) 20000 28549 g23 97 ks24 (dropD 17 (dopsOf (subC c25.code [1, 1, 1, 1, 1, 1, 0, 1, 0, 1, 1, 1, 1, 0, 1, 0, 0, 1, 0, 0, 1]))) 17 [⟨20989, 20989, .call⟩, ⟨20989, 20989, (.dir [3224] [])⟩, ⟨20989, 20989, .call⟩, ⟨20989, 20989, .call⟩, ⟨20989, 20989, .call⟩, ⟨20989, 20989, .call⟩, ⟨20989, 20989, .call⟩, ⟨20989, 20989, .call⟩, ⟨20989, 20989, .call⟩, ⟨20989, 20989, .call⟩, ⟨20989, 20989, .call⟩, ⟨20989, 20989, .call⟩, ⟨20989, 20989, (.dir [3224] [])⟩, ⟨20989, 20989, .call⟩, ⟨20989, 20989, .call⟩, ⟨20989, 20989, .call⟩, ⟨20989, 20989, .call⟩] f24 20989 allV allV (objsOf l24) := by kernel_rfl
theorem q25 : cutE (tabOf tab) 20000 28064 g24 (idsOf l25) = cutD (tabOf tab) 20000 28064 g24 97 ks25 (dropD 17 (dopsOf (subC c25.code [1, 1, 1, 1, 1, 1, 0, 1, 0, 1, 1, 1, 1, 0, 1, 0, 0, 1, 0, 0, 1]))) 17 [⟨21693, 21693, .call⟩, ⟨21693, 21693, (.dir [3224] [])⟩, ⟨21693, 21693, .call⟩, ⟨21693, 21693, .call⟩, ⟨21693, 21693, .call⟩, ⟨21693, 21693, .call⟩, ⟨21693, 21693, .call⟩, ⟨21693, 21693, .call⟩, ⟨21693, 21693, .call⟩, ⟨21693, 21693, .call⟩, ⟨21693, 21693, .call⟩, ⟨21693, 21693, .call⟩, ⟨21693, 21693, (.dir [3224] [])⟩, ⟨21693, 21693, .call⟩, ⟨21693, 21693, .call⟩, ⟨21693, 21693, .call⟩, ⟨21693, 21693, .call⟩] f25 21693 allV allV (objsOf l25) := by kernel_rfl
end Go.Proofs.Ytocblgajooeehaa.Lit
