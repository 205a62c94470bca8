/-
  A long run, part by part.
-/
import Derived.Test.YtkcjhakjelidgaaCutD1
namespace Go.Proofs.Ytkcjhakjelidgaa.Lit
open Go Go.Vabs
set_option maxRecDepth 100000
theorem q2 : cutE (tabOf tab) 100000 36598 g1 (idsOf l2) = cutD (tabOf tab) 100000 36598 g1 46 ks2 (dropD 21 (dopsOf (subC c76.code [1, 0, 0, 1, 0, 0]))) 21 [⟨596, 596, .call⟩, ⟨596, 596, (.dir [595] [])⟩, ⟨596, 596, .call⟩, ⟨596, 596, .call⟩, ⟨596, 596, .call⟩, ⟨596, 596, .call⟩, ⟨596, 596, .call⟩, ⟨596, 596, (.dir [595] [])⟩, ⟨596, 596, .call⟩, ⟨596, 596, .call⟩, ⟨596, 596, .call⟩, ⟨596, 596, .call⟩, ⟨596, 596, .call⟩, ⟨596, 596, .call⟩, ⟨596, 596, .call⟩, ⟨596, 596, .call⟩, ⟨596, 596, .call⟩, ⟨596, 596, .call⟩, ⟨596, 596, .call⟩, ⟨596, 596, .call⟩, ⟨596, 596, .call⟩] f2 596 allV allV (objsOf l2) := by kernel_rfl
end Go.Proofs.Ytkcjhakjelidgaa.Lit
