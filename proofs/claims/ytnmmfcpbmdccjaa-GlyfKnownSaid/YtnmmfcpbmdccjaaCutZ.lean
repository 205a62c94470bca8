/-
  A long run: its parts joined.
-/
import Derived.Test.YtnmmfcpbmdccjaaCut1
import Derived.Test.YtnmmfcpbmdccjaaCut2
import Derived.Test.YtnmmfcpbmdccjaaCut3
import Derived.Test.YtnmmfcpbmdccjaaCut4
import Derived.Test.YtnmmfcpbmdccjaaCut5
import Derived.Test.YtnmmfcpbmdccjaaCut6
import Derived.Test.YtnmmfcpbmdccjaaCut7
import Derived.Test.YtnmmfcpbmdccjaaCut8
import Derived.Test.YtnmmfcpbmdccjaaCut9
import Derived.Test.YtnmmfcpbmdccjaaCut10
import Derived.Test.YtnmmfcpbmdccjaaCut11
import Derived.Test.YtnmmfcpbmdccjaaCut12
import Derived.Test.YtnmmfcpbmdccjaaCut13
namespace Go.Proofs.Ytnmmfcpbmdccjaa.Lit
open Go Go.Vabs
set_option maxRecDepth 100000
theorem e36 : ∃ s, denC (tabOf tab) 100000 g36 = some (.bool true, s) := cut_last last
theorem e35 : ∃ s, denC (tabOf tab) 100000 g35 = some (.bool true, s) := cut_on q36 e36
theorem e34 : ∃ s, denC (tabOf tab) 100000 g34 = some (.bool true, s) := cut_on q35 e35
theorem e33 : ∃ s, denC (tabOf tab) 100000 g33 = some (.bool true, s) := cut_on q34 e34
theorem e32 : ∃ s, denC (tabOf tab) 100000 g32 = some (.bool true, s) := cut_on q33 e33
theorem e31 : ∃ s, denC (tabOf tab) 100000 g31 = some (.bool true, s) := cut_on q32 e32
theorem e30 : ∃ s, denC (tabOf tab) 100000 g30 = some (.bool true, s) := cut_on q31 e31
theorem e29 : ∃ s, denC (tabOf tab) 100000 g29 = some (.bool true, s) := cut_on q30 e30
theorem e28 : ∃ s, denC (tabOf tab) 100000 g28 = some (.bool true, s) := cut_on q29 e29
theorem e27 : ∃ s, denC (tabOf tab) 100000 g27 = some (.bool true, s) := cut_on q28 e28
theorem e26 : ∃ s, denC (tabOf tab) 100000 g26 = some (.bool true, s) := cut_on q27 e27
theorem e25 : ∃ s, denC (tabOf tab) 100000 g25 = some (.bool true, s) := cut_on q26 e26
theorem e24 : ∃ s, denC (tabOf tab) 100000 g24 = some (.bool true, s) := cut_on q25 e25
theorem e23 : ∃ s, denC (tabOf tab) 100000 g23 = some (.bool true, s) := cut_on q24 e24
theorem e22 : ∃ s, denC (tabOf tab) 100000 g22 = some (.bool true, s) := cut_on q23 e23
theorem e21 : ∃ s, denC (tabOf tab) 100000 g21 = some (.bool true, s) := cut_on q22 e22
theorem e20 : ∃ s, denC (tabOf tab) 100000 g20 = some (.bool true, s) := cut_on q21 e21
theorem e19 : ∃ s, denC (tabOf tab) 100000 g19 = some (.bool true, s) := cut_on q20 e20
theorem e18 : ∃ s, denC (tabOf tab) 100000 g18 = some (.bool true, s) := cut_on q19 e19
theorem e17 : ∃ s, denC (tabOf tab) 100000 g17 = some (.bool true, s) := cut_on q18 e18
theorem e16 : ∃ s, denC (tabOf tab) 100000 g16 = some (.bool true, s) := cut_on q17 e17
theorem e15 : ∃ s, denC (tabOf tab) 100000 g15 = some (.bool true, s) := cut_on q16 e16
theorem e14 : ∃ s, denC (tabOf tab) 100000 g14 = some (.bool true, s) := cut_on q15 e15
theorem e13 : ∃ s, denC (tabOf tab) 100000 g13 = some (.bool true, s) := cut_on q14 e14
theorem e12 : ∃ s, denC (tabOf tab) 100000 g12 = some (.bool true, s) := cut_on q13 e13
theorem e11 : ∃ s, denC (tabOf tab) 100000 g11 = some (.bool true, s) := cut_on q12 e12
theorem e10 : ∃ s, denC (tabOf tab) 100000 g10 = some (.bool true, s) := cut_in q11 e11
theorem e9 : ∃ s, denC (tabOf tab) 100000 g9 = some (.bool true, s) := cut_on q10 e10
theorem e8 : ∃ s, denC (tabOf tab) 100000 g8 = some (.bool true, s) := cut_on q9 e9
theorem e7 : ∃ s, denC (tabOf tab) 100000 g7 = some (.bool true, s) := cut_on q8 e8
theorem e6 : ∃ s, denC (tabOf tab) 100000 g6 = some (.bool true, s) := cut_in q7 e7
theorem e5 : ∃ s, denC (tabOf tab) 100000 g5 = some (.bool true, s) := cut_on q6 e6
theorem e4 : ∃ s, denC (tabOf tab) 100000 g4 = some (.bool true, s) := cut_on q5 e5
theorem e3 : ∃ s, denC (tabOf tab) 100000 g3 = some (.bool true, s) := cut_on q4 e4
theorem e2 : ∃ s, denC (tabOf tab) 100000 g2 = some (.bool true, s) := cut_on q3 e3
theorem e1 : ∃ s, denC (tabOf tab) 100000 g1 = some (.bool true, s) := cut_on q2 e2
theorem e0 : ∃ s, denC (tabOf tab) 100000 g0 = some (.bool true, s) := cut_on q1 e1
theorem runs : isTrue (callF (tabOf tab) 100000 301 3 [] st0) = true := whole (fn := c3) (by kernel_rfl) e0
end Go.Proofs.Ytnmmfcpbmdccjaa.Lit
