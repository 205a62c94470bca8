/-
  A long run, part by part.
-/
import Derived.Test.YtnmmfcpbmdccjaaCutD2
namespace Go.Proofs.Ytnmmfcpbmdccjaa.Lit
open Go Go.Vabs
set_option maxRecDepth 100000
theorem q7 : cutE (tabOf tab) 100000 121443 g6 (idsOf l7) = cutD (tabOf tab) 100000 121443 g6 294 ks7 (dropD 11 (dopsOf (subC c53.code [1, 0]))) 11 [⟨7152, 7152, .call⟩, ⟨7152, 7152, .call⟩, ⟨7152, 7152, .call⟩, ⟨7152, 7152, (.dir [4316] [])⟩, ⟨7152, 7152, .call⟩, ⟨7152, 7152, .call⟩, ⟨7152, 7152, .call⟩, ⟨7152, 7152, (.dir [4316] [])⟩, ⟨7152, 7152, .call⟩, ⟨7152, 7152, .call⟩, ⟨7152, 7152, .call⟩] f7 7152 allV allV (objsOf l7) := by kernel_rfl
theorem q8 : cutE (tabOf tab) 100000 121383 g7 (idsOf l8) = cutR (tabOf tab) 100000 121383 g7 290 ks8 (dropO 1 (opsOf (subC c69.code [1, 1, 0, 0]))) f8 7682 allV allV (objsOf l8) := by kernel_rfl
theorem q9 : cutE (tabOf tab) 100000 121371 g8 (idsOf l9) = cutR (tabOf tab) 100000 121371 g8 290 ks9 (dropO 1 (opsOf (subC c69.code [0]))) f9 8212 allV allV (objsOf l9) := by kernel_rfl
end Go.Proofs.Ytnmmfcpbmdccjaa.Lit
