/-
  A long run, part by part.
-/
import Derived.Test.YtnmmfcpbmdccjaaCutD2
namespace Go.Proofs.Ytnmmfcpbmdccjaa.Lit
open Go Go.Vabs
set_option maxRecDepth 100000
theorem last : isDone (stepsC (tabOf tab) 100000 3141 g36) = true := by kernel_rfl
end Go.Proofs.Ytnmmfcpbmdccjaa.Lit
