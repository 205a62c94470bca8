/-
  A long run: its parts joined.
-/
import Derived.Test.YtocblgajooeehaaCut1
import Derived.Test.YtocblgajooeehaaCut2
import Derived.Test.YtocblgajooeehaaCut3
import Derived.Test.YtocblgajooeehaaCut4
import Derived.Test.YtocblgajooeehaaCut5
import Derived.Test.YtocblgajooeehaaCut6
import Derived.Test.YtocblgajooeehaaCut7
import Derived.Test.YtocblgajooeehaaCut8
import Derived.Test.YtocblgajooeehaaCut9
import Derived.Test.YtocblgajooeehaaCut10
import Derived.Test.YtocblgajooeehaaCut11
import Derived.Test.YtocblgajooeehaaCut12
import Derived.Test.YtocblgajooeehaaCut13
import Derived.Test.YtocblgajooeehaaCut14
import Derived.Test.YtocblgajooeehaaCut15
namespace Go.Proofs.Ytocblgajooeehaa.Lit
open Go Go.Vabs
set_option maxRecDepth 100000
set_option linter.unusedVariables false
theorem e60 : ∃ s, denC (tabOf tab) 20000 g60 = some (.bool true, s) := by exact cut_last q61
theorem e59 : ∃ s, denC (tabOf tab) 20000 g59 = some (.bool true, s) := by exact cut_in q60 e60
theorem e58 : ∃ s, denC (tabOf tab) 20000 g58 = some (.bool true, s) := by exact cut_on q59 e59
theorem e57 : ∃ s, denC (tabOf tab) 20000 g57 = some (.bool true, s) := by exact cut_on q58 e58
theorem e56 : ∃ s, denC (tabOf tab) 20000 g56 = some (.bool true, s) := by exact cut_on q57 e57
theorem e55 : ∃ s, denC (tabOf tab) 20000 g55 = some (.bool true, s) := by exact cut_on q56 e56
theorem e54 : ∃ s, denC (tabOf tab) 20000 g54 = some (.bool true, s) := by exact cut_on q55 e55
theorem e53 : ∃ s, denC (tabOf tab) 20000 g53 = some (.bool true, s) := by exact cut_on q54 e54
theorem e52 : ∃ s, denC (tabOf tab) 20000 g52 = some (.bool true, s) := by exact cut_on q53 e53
theorem e51 : ∃ s, denC (tabOf tab) 20000 g51 = some (.bool true, s) := by exact cut_on q52 e52
theorem e50 : ∃ s, denC (tabOf tab) 20000 g50 = some (.bool true, s) := by exact cut_in q51 e51
theorem e49 : ∃ s, denC (tabOf tab) 20000 g49 = some (.bool true, s) := by exact cut_on q50 e50
theorem e48 : ∃ s, denC (tabOf tab) 20000 g48 = some (.bool true, s) := by exact cut_on q49 e49
theorem e47 : ∃ s, denC (tabOf tab) 20000 g47 = some (.bool true, s) := by exact cut_in q48 e48
theorem e46 : ∃ s, denC (tabOf tab) 20000 g46 = some (.bool true, s) := by exact cut_on q47 e47
theorem e45 : ∃ s, denC (tabOf tab) 20000 g45 = some (.bool true, s) := by exact cut_on q46 e46
theorem e44 : ∃ s, denC (tabOf tab) 20000 g44 = some (.bool true, s) := by exact cut_in q45 e45
theorem e43 : ∃ s, denC (tabOf tab) 20000 g43 = some (.bool true, s) := by exact cut_on q44 e44
theorem e42 : ∃ s, denC (tabOf tab) 20000 g42 = some (.bool true, s) := by exact cut_on q43 e43
theorem e41 : ∃ s, denC (tabOf tab) 20000 g41 = some (.bool true, s) := by exact cut_in q42 e42
theorem e40 : ∃ s, denC (tabOf tab) 20000 g40 = some (.bool true, s) := by exact cut_in q41 e41
theorem e39 : ∃ s, denC (tabOf tab) 20000 g39 = some (.bool true, s) := by exact cut_on q40 e40
theorem e38 : ∃ s, denC (tabOf tab) 20000 g38 = some (.bool true, s) := by exact cut_on q39 e39
theorem e37 : ∃ s, denC (tabOf tab) 20000 g37 = some (.bool true, s) := by exact cut_on q38 e38
theorem e36 : ∃ s, denC (tabOf tab) 20000 g36 = some (.bool true, s) := by exact cut_on q37 e37
theorem e35 : ∃ s, denC (tabOf tab) 20000 g35 = some (.bool true, s) := by exact cut_in q36 e36
theorem e34 : ∃ s, denC (tabOf tab) 20000 g34 = some (.bool true, s) := by exact cut_on q35 e35
theorem e33 : ∃ s, denC (tabOf tab) 20000 g33 = some (.bool true, s) := by exact cut_on q34 e34
theorem e32 : ∃ s, denC (tabOf tab) 20000 g32 = some (.bool true, s) := by exact cut_on q33 e33
theorem e31 : ∃ s, denC (tabOf tab) 20000 g31 = some (.bool true, s) := by exact cut_on q32 e32
theorem e30 : ∃ s, denC (tabOf tab) 20000 g30 = some (.bool true, s) := by exact cut_on q31 e31
theorem e29 : ∃ s, denC (tabOf tab) 20000 g29 = some (.bool true, s) := by exact cut_on q30 e30
theorem e28 : ∃ s, denC (tabOf tab) 20000 g28 = some (.bool true, s) := by exact cut_on q29 e29
theorem e27 : ∃ s, denC (tabOf tab) 20000 g27 = some (.bool true, s) := by exact cut_on q28 e28
theorem e26 : ∃ s, denC (tabOf tab) 20000 g26 = some (.bool true, s) := by exact cut_in q27 e27
theorem e25 : ∃ s, denC (tabOf tab) 20000 g25 = some (.bool true, s) := by exact cut_in q26 e26
theorem e24 : ∃ s, denC (tabOf tab) 20000 g24 = some (.bool true, s) := by exact cut_in q25 e25
theorem e23 : ∃ s, denC (tabOf tab) 20000 g23 = some (.bool true, s) := by exact cut_in q24 e24
theorem e22 : ∃ s, denC (tabOf tab) 20000 g22 = some (.bool true, s) := by exact cut_on q23 e23
theorem e21 : ∃ s, denC (tabOf tab) 20000 g21 = some (.bool true, s) := by exact cut_in q22 e22
theorem e20 : ∃ s, denC (tabOf tab) 20000 g20 = some (.bool true, s) := by exact cut_on q21 e21
theorem e19 : ∃ s, denC (tabOf tab) 20000 g19 = some (.bool true, s) := by exact cut_on q20 e20
theorem e18 : ∃ s, denC (tabOf tab) 20000 g18 = some (.bool true, s) := by exact cut_on q19 e19
theorem e17 : ∃ s, denC (tabOf tab) 20000 g17 = some (.bool true, s) := by exact cut_in q18 e18
theorem e16 : ∃ s, denC (tabOf tab) 20000 g16 = some (.bool true, s) := by exact cut_on q17 e17
theorem e15 : ∃ s, denC (tabOf tab) 20000 g15 = some (.bool true, s) := by exact cut_on q16 e16
theorem e14 : ∃ s, denC (tabOf tab) 20000 g14 = some (.bool true, s) := by exact cut_on q15 e15
theorem e13 : ∃ s, denC (tabOf tab) 20000 g13 = some (.bool true, s) := by exact cut_on q14 e14
theorem e12 : ∃ s, denC (tabOf tab) 20000 g12 = some (.bool true, s) := by exact cut_in q13 e13
theorem e11 : ∃ s, denC (tabOf tab) 20000 g11 = some (.bool true, s) := by exact cut_on q12 e12
theorem e10 : ∃ s, denC (tabOf tab) 20000 g10 = some (.bool true, s) := by exact cut_on q11 e11
theorem e9 : ∃ s, denC (tabOf tab) 20000 g9 = some (.bool true, s) := by exact cut_on q10 e10
theorem e8 : ∃ s, denC (tabOf tab) 20000 g8 = some (.bool true, s) := by exact cut_on q9 e9
theorem e7 : ∃ s, denC (tabOf tab) 20000 g7 = some (.bool true, s) := by exact cut_in q8 e8
theorem e6 : ∃ s, denC (tabOf tab) 20000 g6 = some (.bool true, s) := by exact cut_on q7 e7
theorem e5 : ∃ s, denC (tabOf tab) 20000 g5 = some (.bool true, s) := by exact cut_on q6 e6
theorem e4 : ∃ s, denC (tabOf tab) 20000 g4 = some (.bool true, s) := by exact cut_on q5 e5
theorem e3 : ∃ s, denC (tabOf tab) 20000 g3 = some (.bool true, s) := by exact cut_on q4 e4
theorem e2 : ∃ s, denC (tabOf tab) 20000 g2 = some (.bool true, s) := by exact cut_on q3 e3
theorem e1 : ∃ s, denC (tabOf tab) 20000 g1 = some (.bool true, s) := by exact cut_on q2 e2
theorem e0 : ∃ s, denC (tabOf tab) 20000 g0 = some (.bool true, s) := by exact cut_on q1 e1
theorem root0 : ∃ s, denC (tabOf tab) 20000 g0 = some (.bool true, s) := e0
end Go.Proofs.Ytocblgajooeehaa.Lit
