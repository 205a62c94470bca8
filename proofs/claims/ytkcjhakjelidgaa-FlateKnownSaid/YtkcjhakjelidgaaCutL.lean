/-
  A long run, part by part.
-/
import Derived.Test.YtkcjhakjelidgaaLit1
namespace Go.Proofs.Ytkcjhakjelidgaa.Lit.RL
open Go Go.Vabs
set_option maxRecDepth 100000
noncomputable def g0 : Cfg := .run 60 [.top c8.results] c8.code (initFrame [slOf false [1, 1, 0, 0, 0], .int .i64 (.ofNat 100)] 0 .nil) (memOf false [1, 1, 0, 0, 0])
noncomputable def ans : V := (.tuple [nS, iV 0, iV 2])
noncomputable def left : List (Nat × AObj) := []
theorem last : doneO (idsOf left) (stepsC (tabOf tab) 100000 2480 g0) = some (ans, objsOf left) := by kernel_rfl
theorem e0 : ∃ s, denC (tabOf tab) 100000 g0 = some (ans, s) ∧ HasO left s := cut_lastO last
theorem runs : ∃ s, callF (tabOf tab) 100000 61 8 [slOf false [1, 1, 0, 0, 0], .int .i64 (.ofNat 100)] (memOf false [1, 1, 0, 0, 0]) = some (ans, s) ∧ HasO left s := wholeO (fn := c8) (by kernel_rfl) e0
end Go.Proofs.Ytkcjhakjelidgaa.Lit.RL
