/-
  A long run, part by part.
-/
import Derived.Test.YtocblgajooeehaaCutD1
namespace Go.Proofs.Ytocblgajooeehaa.Lit
open Go Go.Vabs Go.Vabs.Ph
set_option maxRecDepth 100000
set_option linter.unusedVariables false
theorem q239 : isDone (stepsC (tabOf tab) 1000 47782 (g236 2)) = true := by kernel_rfl
theorem q240 : isDone (stepsC (tabOf tab) 1000 48237 (g236 3)) = true := by kernel_rfl
theorem q241 : isDone (stepsC (tabOf tab) 1000 48692 (g236 4)) = true := by kernel_rfl
theorem q242 : isDone (stepsC (tabOf tab) 1000 49147 (g236 5)) = true := by kernel_rfl
theorem q243 : isDone (stepsC (tabOf tab) 1000 49602 (g236 6)) = true := by kernel_rfl
theorem q244 : isDone (stepsC (tabOf tab) 1000 50057 (g236 7)) = true := by kernel_rfl
theorem q245 : isDone (stepsC (tabOf tab) 1000 49812 (g236 8)) = true := by kernel_rfl
theorem q246 : isDone (stepsC (tabOf tab) 1000 49567 (g236 9)) = true := by kernel_rfl
theorem q247 : isDone (stepsC (tabOf tab) 1000 49322 (g236 10)) = true := by kernel_rfl
theorem q248 : isDone (stepsC (tabOf tab) 1000 49077 (g236 11)) = true := by kernel_rfl
theorem q249 : isDone (stepsC (tabOf tab) 1000 48832 (g236 12)) = true := by kernel_rfl
theorem q250 : isDone (stepsC (tabOf tab) 1000 48587 (g236 13)) = true := by kernel_rfl
theorem q251 : isDone (stepsC (tabOf tab) 1000 48342 (g236 14)) = true := by kernel_rfl
theorem q252 : isDone (stepsC (tabOf tab) 1000 48097 (g236 15)) = true := by kernel_rfl
theorem q253 : isDone (stepsC (tabOf tab) 1000 47852 (g236 16)) = true := by kernel_rfl
theorem q254 : isDone (stepsC (tabOf tab) 1000 47607 (g236 17)) = true := by kernel_rfl
theorem q255 : isDone (stepsC (tabOf tab) 1000 47362 (g236 18)) = true := by kernel_rfl
theorem q256 : isDone (stepsC (tabOf tab) 1000 47117 (g236 19)) = true := by kernel_rfl
theorem q258 (X0 : Int) (X1 : Int) : cutE (tabOf tab) 1000 7 (g257 X0 X1) (idsOf l258) = cutR (tabOf tab) 1000 7 (g257 X0 X1) 100 ks258 (dropO 0 (opsOf (subC c6.code [1, 0]))) (f258 X0 X1) 0 allV allV (objsOf l258) := by kernel_rfl
theorem q259 (X0 : Int) (X1 : Int) : cutE (tabOf tab) 1000 6 (h258 X0 X1 (.ofNat 0)) (idsOf l259) = cutR (tabOf tab) 1000 6 (h258 X0 X1 (.ofNat 0)) 100 ks259 (dropO 0 (opsOf (subC c6.code [1, 1, 0]))) (f259 X0 X1) 0 allV allV (objsOf l259) := by kernel_rfl
theorem q260 (X0 : Int) (X1 : Int) (A0 : Nat) : cutE (tabOf tab) 1000 26066 (h259 X0 X1 (.ofNat A0)) (idsOf l260) = cutR (tabOf tab) 1000 26066 (h259 X0 X1 (.ofNat A0)) 99 (ks260 A0) (dropO 0 (opsOf (subC c13.code [1, 1, 1, 0]))) f260 443 allV allV (objsOf l260) := by kernel_rfl
theorem q261 : isDone (stepsC (tabOf tab) 1000 3106 (g260 0)) = true := by kernel_rfl
theorem q262 (X0 : Int) (X1 : Int) : cutE (tabOf tab) 1000 6 (h258 X0 X1 (.ofNat 1)) (idsOf l262) = cutR (tabOf tab) 1000 6 (h258 X0 X1 (.ofNat 1)) 100 ks262 (dropO 0 (opsOf (subC c6.code [1, 1, 0]))) (f262 X0 X1) 0 allV allV (objsOf l262) := by kernel_rfl
theorem q263 (X0 : Int) (X1 : Int) (A0 : Nat) : cutE (tabOf tab) 1000 28723 (h262 X0 X1 (.ofNat A0)) (idsOf l263) = cutR (tabOf tab) 1000 28723 (h262 X0 X1 (.ofNat A0)) 99 (ks263 A0) (dropO 0 (opsOf (subC c13.code [1, 1, 1, 0]))) f263 503 allV allV (objsOf l263) := by kernel_rfl
theorem q264 : isDone (stepsC (tabOf tab) 1000 6200 (g263 0)) = true := by kernel_rfl
theorem q265 : isDone (stepsC (tabOf tab) 1000 3141 (g263 1)) = true := by kernel_rfl
theorem q266 (X0 : Int) (X1 : Int) : cutE (tabOf tab) 1000 6 (h258 X0 X1 (.ofNat 2)) (idsOf l266) = cutR (tabOf tab) 1000 6 (h258 X0 X1 (.ofNat 2)) 100 ks266 (dropO 0 (opsOf (subC c6.code [1, 1, 0]))) (f266 X0 X1) 0 allV allV (objsOf l266) := by kernel_rfl
theorem q267 (X0 : Int) (X1 : Int) (A0 : Nat) : cutE (tabOf tab) 1000 31380 (h266 X0 X1 (.ofNat A0)) (idsOf l267) = cutR (tabOf tab) 1000 31380 (h266 X0 X1 (.ofNat A0)) 99 (ks267 A0) (dropO 0 (opsOf (subC c13.code [1, 1, 1, 0]))) f267 563 allV allV (objsOf l267) := by kernel_rfl
theorem q268 : isDone (stepsC (tabOf tab) 1000 9457 (g267 0)) = true := by kernel_rfl
theorem q269 : isDone (stepsC (tabOf tab) 1000 6270 (g267 1)) = true := by kernel_rfl
theorem q270 : isDone (stepsC (tabOf tab) 1000 3176 (g267 2)) = true := by kernel_rfl
theorem q271 (X0 : Int) (X1 : Int) : cutE (tabOf tab) 1000 6 (h258 X0 X1 (.ofNat 3)) (idsOf l271) = cutR (tabOf tab) 1000 6 (h258 X0 X1 (.ofNat 3)) 100 ks271 (dropO 0 (opsOf (subC c6.code [1, 1, 0]))) (f271 X0 X1) 0 allV allV (objsOf l271) := by kernel_rfl
theorem q272 (X0 : Int) (X1 : Int) (A0 : Nat) : cutE (tabOf tab) 1000 34037 (h271 X0 X1 (.ofNat A0)) (idsOf l272) = cutR (tabOf tab) 1000 34037 (h271 X0 X1 (.ofNat A0)) 99 (ks272 A0) (dropO 0 (opsOf (subC c13.code [1, 1, 1, 0]))) f272 623 allV allV (objsOf l272) := by kernel_rfl
theorem q273 : isDone (stepsC (tabOf tab) 1000 12877 (g272 0)) = true := by kernel_rfl
theorem q274 : isDone (stepsC (tabOf tab) 1000 9562 (g272 1)) = true := by kernel_rfl
theorem q275 : isDone (stepsC (tabOf tab) 1000 6340 (g272 2)) = true := by kernel_rfl
theorem q276 : isDone (stepsC (tabOf tab) 1000 3211 (g272 3)) = true := by kernel_rfl
theorem q277 (X0 : Int) (X1 : Int) : cutE (tabOf tab) 1000 6 (h258 X0 X1 (.ofNat 4)) (idsOf l277) = cutR (tabOf tab) 1000 6 (h258 X0 X1 (.ofNat 4)) 100 ks277 (dropO 0 (opsOf (subC c6.code [1, 1, 0]))) (f277 X0 X1) 0 allV allV (objsOf l277) := by kernel_rfl
theorem q278 (X0 : Int) (X1 : Int) (A0 : Nat) : cutE (tabOf tab) 1000 36694 (h277 X0 X1 (.ofNat A0)) (idsOf l278) = cutR (tabOf tab) 1000 36694 (h277 X0 X1 (.ofNat A0)) 99 (ks278 A0) (dropO 0 (opsOf (subC c13.code [1, 1, 1, 0]))) f278 683 allV allV (objsOf l278) := by kernel_rfl
theorem q279 : isDone (stepsC (tabOf tab) 1000 16460 (g278 0)) = true := by kernel_rfl
theorem q280 : isDone (stepsC (tabOf tab) 1000 13017 (g278 1)) = true := by kernel_rfl
end Go.Proofs.Ytocblgajooeehaa.Lit
