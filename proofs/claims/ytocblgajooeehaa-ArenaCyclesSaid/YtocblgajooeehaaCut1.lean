/-
  A long run, part by part.
-/
import Derived.Test.YtocblgajooeehaaCutD1
namespace Go.Proofs.Ytocblgajooeehaa.Lit
open Go Go.Vabs Go.Vabs.Ph
set_option maxRecDepth 100000
set_option linter.unusedVariables false
theorem q1 (X0 : Int) (X1 : Int) : cutE (tabOf tab) 1000 7 (g0 X0 X1) (idsOf l1) = cutR (tabOf tab) 1000 7 (g0 X0 X1) 100 ks1 (dropO 0 (opsOf (subC c6.code [1, 0]))) (f1 X0 X1) 0 allV allV (objsOf l1) := by kernel_rfl
theorem q2 (X0 : Int) (X1 : Int) : cutE (tabOf tab) 1000 6 (h1 X0 X1 (.ofNat 0)) (idsOf l2) = cutR (tabOf tab) 1000 6 (h1 X0 X1 (.ofNat 0)) 100 ks2 (dropO 0 (opsOf (subC c6.code [1, 1, 0]))) (f2 X0 X1) 0 allV allV (objsOf l2) := by kernel_rfl
theorem q3 (X0 : Int) (X1 : Int) (A0 : Nat) : cutE (tabOf tab) 1000 27144 (h2 X0 X1 (.ofNat A0)) (idsOf l3) = cutR (tabOf tab) 1000 27144 (h2 X0 X1 (.ofNat A0)) 99 (ks3 A0) (dropO 0 (opsOf (subC c13.code [1, 1, 1, 0]))) f3 467 allV allV (objsOf l3) := by kernel_rfl
theorem q4 : isDone (stepsC (tabOf tab) 1000 4752 (g3 0)) = true := by kernel_rfl
theorem q5 (X0 : Int) (X1 : Int) : cutE (tabOf tab) 1000 6 (h1 X0 X1 (.ofNat 1)) (idsOf l5) = cutR (tabOf tab) 1000 6 (h1 X0 X1 (.ofNat 1)) 100 ks5 (dropO 0 (opsOf (subC c6.code [1, 1, 0]))) (f5 X0 X1) 0 allV allV (objsOf l5) := by kernel_rfl
theorem q6 (X0 : Int) (X1 : Int) (A0 : Nat) : cutE (tabOf tab) 1000 29801 (h5 X0 X1 (.ofNat A0)) (idsOf l6) = cutR (tabOf tab) 1000 29801 (h5 X0 X1 (.ofNat A0)) 99 (ks6 A0) (dropO 0 (opsOf (subC c13.code [1, 1, 1, 0]))) f6 527 allV allV (objsOf l6) := by kernel_rfl
theorem q7 : isDone (stepsC (tabOf tab) 1000 7658 (g6 0)) = true := by kernel_rfl
theorem q8 : isDone (stepsC (tabOf tab) 1000 7693 (g6 1)) = true := by kernel_rfl
theorem q9 (X0 : Int) (X1 : Int) : cutE (tabOf tab) 1000 6 (h1 X0 X1 (.ofNat 2)) (idsOf l9) = cutR (tabOf tab) 1000 6 (h1 X0 X1 (.ofNat 2)) 100 ks9 (dropO 0 (opsOf (subC c6.code [1, 1, 0]))) (f9 X0 X1) 0 allV allV (objsOf l9) := by kernel_rfl
theorem q10 (X0 : Int) (X1 : Int) (A0 : Nat) : cutE (tabOf tab) 1000 32458 (h9 X0 X1 (.ofNat A0)) (idsOf l10) = cutR (tabOf tab) 1000 32458 (h9 X0 X1 (.ofNat A0)) 99 (ks10 A0) (dropO 0 (opsOf (subC c13.code [1, 1, 1, 0]))) f10 587 allV allV (objsOf l10) := by kernel_rfl
theorem q11 : isDone (stepsC (tabOf tab) 1000 10727 (g10 0)) = true := by kernel_rfl
theorem q12 : isDone (stepsC (tabOf tab) 1000 10762 (g10 1)) = true := by kernel_rfl
theorem q13 : isDone (stepsC (tabOf tab) 1000 10797 (g10 2)) = true := by kernel_rfl
theorem q14 (X0 : Int) (X1 : Int) : cutE (tabOf tab) 1000 6 (h1 X0 X1 (.ofNat 3)) (idsOf l14) = cutR (tabOf tab) 1000 6 (h1 X0 X1 (.ofNat 3)) 100 ks14 (dropO 0 (opsOf (subC c6.code [1, 1, 0]))) (f14 X0 X1) 0 allV allV (objsOf l14) := by kernel_rfl
theorem q15 (X0 : Int) (X1 : Int) (A0 : Nat) : cutE (tabOf tab) 1000 35115 (h14 X0 X1 (.ofNat A0)) (idsOf l15) = cutR (tabOf tab) 1000 35115 (h14 X0 X1 (.ofNat A0)) 99 (ks15 A0) (dropO 0 (opsOf (subC c13.code [1, 1, 1, 0]))) f15 647 allV allV (objsOf l15) := by kernel_rfl
theorem q16 : isDone (stepsC (tabOf tab) 1000 13959 (g15 0)) = true := by kernel_rfl
theorem q17 : isDone (stepsC (tabOf tab) 1000 13994 (g15 1)) = true := by kernel_rfl
theorem q18 : isDone (stepsC (tabOf tab) 1000 14029 (g15 2)) = true := by kernel_rfl
theorem q19 : isDone (stepsC (tabOf tab) 1000 14064 (g15 3)) = true := by kernel_rfl
theorem q20 (X0 : Int) (X1 : Int) : cutE (tabOf tab) 1000 6 (h1 X0 X1 (.ofNat 4)) (idsOf l20) = cutR (tabOf tab) 1000 6 (h1 X0 X1 (.ofNat 4)) 100 ks20 (dropO 0 (opsOf (subC c6.code [1, 1, 0]))) (f20 X0 X1) 0 allV allV (objsOf l20) := by kernel_rfl
theorem q21 (X0 : Int) (X1 : Int) (A0 : Nat) : cutE (tabOf tab) 1000 37772 (h20 X0 X1 (.ofNat A0)) (idsOf l21) = cutR (tabOf tab) 1000 37772 (h20 X0 X1 (.ofNat A0)) 99 (ks21 A0) (dropO 0 (opsOf (subC c13.code [1, 1, 1, 0]))) f21 707 allV allV (objsOf l21) := by kernel_rfl
theorem q22 : isDone (stepsC (tabOf tab) 1000 17354 (g21 0)) = true := by kernel_rfl
theorem q23 : isDone (stepsC (tabOf tab) 1000 17389 (g21 1)) = true := by kernel_rfl
theorem q24 : isDone (stepsC (tabOf tab) 1000 17424 (g21 2)) = true := by kernel_rfl
theorem q25 : isDone (stepsC (tabOf tab) 1000 17459 (g21 3)) = true := by kernel_rfl
theorem q26 : isDone (stepsC (tabOf tab) 1000 17494 (g21 4)) = true := by kernel_rfl
theorem q27 (X0 : Int) (X1 : Int) : cutE (tabOf tab) 1000 6 (h1 X0 X1 (.ofNat 5)) (idsOf l27) = cutR (tabOf tab) 1000 6 (h1 X0 X1 (.ofNat 5)) 100 ks27 (dropO 0 (opsOf (subC c6.code [1, 1, 0]))) (f27 X0 X1) 0 allV allV (objsOf l27) := by kernel_rfl
theorem q28 (X0 : Int) (X1 : Int) (A0 : Nat) : cutE (tabOf tab) 1000 40429 (h27 X0 X1 (.ofNat A0)) (idsOf l28) = cutR (tabOf tab) 1000 40429 (h27 X0 X1 (.ofNat A0)) 99 (ks28 A0) (dropO 0 (opsOf (subC c13.code [1, 1, 1, 0]))) f28 767 allV allV (objsOf l28) := by kernel_rfl
theorem q29 : isDone (stepsC (tabOf tab) 1000 20912 (g28 0)) = true := by kernel_rfl
theorem q30 : isDone (stepsC (tabOf tab) 1000 20947 (g28 1)) = true := by kernel_rfl
theorem q31 : isDone (stepsC (tabOf tab) 1000 20982 (g28 2)) = true := by kernel_rfl
theorem q32 : isDone (stepsC (tabOf tab) 1000 21017 (g28 3)) = true := by kernel_rfl
theorem q33 : isDone (stepsC (tabOf tab) 1000 21052 (g28 4)) = true := by kernel_rfl
theorem q34 : isDone (stepsC (tabOf tab) 1000 21087 (g28 5)) = true := by kernel_rfl
theorem q35 (X0 : Int) (X1 : Int) : cutE (tabOf tab) 1000 6 (h1 X0 X1 (.ofNat 6)) (idsOf l35) = cutR (tabOf tab) 1000 6 (h1 X0 X1 (.ofNat 6)) 100 ks35 (dropO 0 (opsOf (subC c6.code [1, 1, 0]))) (f35 X0 X1) 0 allV allV (objsOf l35) := by kernel_rfl
theorem q36 (X0 : Int) (X1 : Int) (A0 : Nat) : cutE (tabOf tab) 1000 43086 (h35 X0 X1 (.ofNat A0)) (idsOf l36) = cutR (tabOf tab) 1000 43086 (h35 X0 X1 (.ofNat A0)) 99 (ks36 A0) (dropO 0 (opsOf (subC c13.code [1, 1, 1, 0]))) f36 827 allV allV (objsOf l36) := by kernel_rfl
theorem q37 : isDone (stepsC (tabOf tab) 1000 24633 (g36 0)) = true := by kernel_rfl
theorem q38 : isDone (stepsC (tabOf tab) 1000 24668 (g36 1)) = true := by kernel_rfl
theorem q39 : isDone (stepsC (tabOf tab) 1000 24703 (g36 2)) = true := by kernel_rfl
theorem q40 : isDone (stepsC (tabOf tab) 1000 24738 (g36 3)) = true := by kernel_rfl
theorem q41 : isDone (stepsC (tabOf tab) 1000 24773 (g36 4)) = true := by kernel_rfl
theorem q42 : isDone (stepsC (tabOf tab) 1000 24808 (g36 5)) = true := by kernel_rfl
theorem q43 : isDone (stepsC (tabOf tab) 1000 24843 (g36 6)) = true := by kernel_rfl
theorem q44 (X0 : Int) (X1 : Int) : cutE (tabOf tab) 1000 6 (h1 X0 X1 (.ofNat 7)) (idsOf l44) = cutR (tabOf tab) 1000 6 (h1 X0 X1 (.ofNat 7)) 100 ks44 (dropO 0 (opsOf (subC c6.code [1, 1, 0]))) (f44 X0 X1) 0 allV allV (objsOf l44) := by kernel_rfl
theorem q45 (X0 : Int) (X1 : Int) (A0 : Nat) : cutE (tabOf tab) 1000 45743 (h44 X0 X1 (.ofNat A0)) (idsOf l45) = cutR (tabOf tab) 1000 45743 (h44 X0 X1 (.ofNat A0)) 99 (ks45 A0) (dropO 0 (opsOf (subC c13.code [1, 1, 1, 0]))) f45 887 allV allV (objsOf l45) := by kernel_rfl
theorem q46 : isDone (stepsC (tabOf tab) 1000 28517 (g45 0)) = true := by kernel_rfl
theorem q47 : isDone (stepsC (tabOf tab) 1000 28552 (g45 1)) = true := by kernel_rfl
theorem q48 : isDone (stepsC (tabOf tab) 1000 28587 (g45 2)) = true := by kernel_rfl
theorem q49 : isDone (stepsC (tabOf tab) 1000 28622 (g45 3)) = true := by kernel_rfl
theorem q50 : isDone (stepsC (tabOf tab) 1000 28657 (g45 4)) = true := by kernel_rfl
theorem q51 : isDone (stepsC (tabOf tab) 1000 28692 (g45 5)) = true := by kernel_rfl
theorem q52 : isDone (stepsC (tabOf tab) 1000 28727 (g45 6)) = true := by kernel_rfl
theorem q53 : isDone (stepsC (tabOf tab) 1000 28762 (g45 7)) = true := by kernel_rfl
theorem q54 (X0 : Int) (X1 : Int) : cutE (tabOf tab) 1000 6 (h1 X0 X1 (.ofNat 8)) (idsOf l54) = cutR (tabOf tab) 1000 6 (h1 X0 X1 (.ofNat 8)) 100 ks54 (dropO 0 (opsOf (subC c6.code [1, 1, 0]))) (f54 X0 X1) 0 allV allV (objsOf l54) := by kernel_rfl
theorem q55 (X0 : Int) (X1 : Int) (A0 : Nat) : cutE (tabOf tab) 1000 48400 (h54 X0 X1 (.ofNat A0)) (idsOf l55) = cutR (tabOf tab) 1000 48400 (h54 X0 X1 (.ofNat A0)) 99 (ks55 A0) (dropO 0 (opsOf (subC c13.code [1, 1, 1, 0]))) f55 947 allV allV (objsOf l55) := by kernel_rfl
theorem q56 : isDone (stepsC (tabOf tab) 1000 32564 (g55 0)) = true := by kernel_rfl
end Go.Proofs.Ytocblgajooeehaa.Lit
