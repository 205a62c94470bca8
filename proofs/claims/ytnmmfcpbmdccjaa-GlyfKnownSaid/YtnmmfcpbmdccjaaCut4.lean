/-
  A long run, part by part.
-/
import Derived.Test.YtnmmfcpbmdccjaaCutD2
namespace Go.Proofs.Ytnmmfcpbmdccjaa.Lit
open Go Go.Vabs
set_option maxRecDepth 100000
theorem q10 : cutE (tabOf tab) 100000 121401 g9 (idsOf l10) = cutR (tabOf tab) 100000 121401 g9 289 ks10 (dropO 0 (opsOf (subC c57.code [1, 1, 1, 0, 1, 0, 0, 1, 1, 1]))) f10 8742 allV allV (objsOf l10) := by kernel_rfl
theorem q11 : cutE (tabOf tab) 100000 121386 g10 (idsOf l11) = cutD (tabOf tab) 100000 121386 g10 292 ks11 (dropD 2 (dopsOf (subC c53.code [1, 0]))) 2 [⟨9272, 9272, .call⟩, ⟨9272, 9272, .call⟩] f11 9272 allV allV (objsOf l11) := by kernel_rfl
theorem q12 : cutE (tabOf tab) 100000 121392 g11 (idsOf l12) = cutR (tabOf tab) 100000 121392 g11 290 ks12 (dropO 0 (opsOf (subC c57.code [1, 1, 1, 0, 1, 0, 0, 1, 1, 0, 0, 1]))) f12 9802 allV allV (objsOf l12) := by kernel_rfl
end Go.Proofs.Ytnmmfcpbmdccjaa.Lit
