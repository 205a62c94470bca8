/-
  A long run: its parts joined.
-/
import Derived.Test.YtocblgajooeehaaCut1
import Derived.Test.YtocblgajooeehaaCut2
import Derived.Test.YtocblgajooeehaaCut3
import Derived.Test.YtocblgajooeehaaCut4
import Derived.Test.YtocblgajooeehaaCut5
import Derived.Test.YtocblgajooeehaaCut6
import Derived.Test.YtocblgajooeehaaCut7
import Derived.Test.YtocblgajooeehaaCut8
import Derived.Test.YtocblgajooeehaaCut9
import Derived.Test.YtocblgajooeehaaCut10
import Derived.Test.YtocblgajooeehaaCut11
import Derived.Test.YtocblgajooeehaaCut12
import Derived.Test.YtocblgajooeehaaCut13
import Derived.Test.YtocblgajooeehaaCut14
import Derived.Test.YtocblgajooeehaaCut15
namespace Go.Proofs.Ytocblgajooeehaa.Lit
open Go Go.Vabs Go.Vabs.Ph
set_option maxRecDepth 100000
set_option linter.unusedVariables false
theorem p1 (X0 : Int) (X1 : Int) : denC (tabOf tab) 1000 (g1 X0 X1) = denC (tabOf tab) 1000 (h1 X0 X1 (pickI X0 20)) := by exact pick_on (g := 22) (fn := c22) (a := (.t (pos 0))) (b := (.c (iV 20))) (dst := pos 16) (os := (dropO 0 (opsOf (subC c6.code [1, 0])))) (os' := (dropO 1 (opsOf (subC c6.code [1, 0])))) (f := (f1 X0 X1)) (x := X0) (m := 20) (by kernel_rfl) (by kernel_rfl) (by kernel_rfl) (by kernel_rfl) (by decide) (by decide)
theorem p2 (X0 : Int) (X1 : Int) : denC (tabOf tab) 1000 (g2 X0 X1) = denC (tabOf tab) 1000 (h2 X0 X1 (pickI X1 1)) := by exact pick_on (g := 22) (fn := c22) (a := (.t (pos 1))) (b := (.t (pos 0))) (dst := pos 20) (os := (dropO 0 (opsOf (subC c6.code [1, 1, 0])))) (os' := (dropO 1 (opsOf (subC c6.code [1, 1, 0])))) (f := (f2 X0 X1)) (x := X1) (m := 1) (by kernel_rfl) (by kernel_rfl) (by kernel_rfl) (by kernel_rfl) (by decide) (by decide)
theorem p5 (X0 : Int) (X1 : Int) : denC (tabOf tab) 1000 (g5 X0 X1) = denC (tabOf tab) 1000 (h5 X0 X1 (pickI X1 2)) := by exact pick_on (g := 22) (fn := c22) (a := (.t (pos 1))) (b := (.t (pos 0))) (dst := pos 20) (os := (dropO 0 (opsOf (subC c6.code [1, 1, 0])))) (os' := (dropO 1 (opsOf (subC c6.code [1, 1, 0])))) (f := (f5 X0 X1)) (x := X1) (m := 2) (by kernel_rfl) (by kernel_rfl) (by kernel_rfl) (by kernel_rfl) (by decide) (by decide)
theorem p9 (X0 : Int) (X1 : Int) : denC (tabOf tab) 1000 (g9 X0 X1) = denC (tabOf tab) 1000 (h9 X0 X1 (pickI X1 3)) := by exact pick_on (g := 22) (fn := c22) (a := (.t (pos 1))) (b := (.t (pos 0))) (dst := pos 20) (os := (dropO 0 (opsOf (subC c6.code [1, 1, 0])))) (os' := (dropO 1 (opsOf (subC c6.code [1, 1, 0])))) (f := (f9 X0 X1)) (x := X1) (m := 3) (by kernel_rfl) (by kernel_rfl) (by kernel_rfl) (by kernel_rfl) (by decide) (by decide)
theorem p14 (X0 : Int) (X1 : Int) : denC (tabOf tab) 1000 (g14 X0 X1) = denC (tabOf tab) 1000 (h14 X0 X1 (pickI X1 4)) := by exact pick_on (g := 22) (fn := c22) (a := (.t (pos 1))) (b := (.t (pos 0))) (dst := pos 20) (os := (dropO 0 (opsOf (subC c6.code [1, 1, 0])))) (os' := (dropO 1 (opsOf (subC c6.code [1, 1, 0])))) (f := (f14 X0 X1)) (x := X1) (m := 4) (by kernel_rfl) (by kernel_rfl) (by kernel_rfl) (by kernel_rfl) (by decide) (by decide)
theorem p20 (X0 : Int) (X1 : Int) : denC (tabOf tab) 1000 (g20 X0 X1) = denC (tabOf tab) 1000 (h20 X0 X1 (pickI X1 5)) := by exact pick_on (g := 22) (fn := c22) (a := (.t (pos 1))) (b := (.t (pos 0))) (dst := pos 20) (os := (dropO 0 (opsOf (subC c6.code [1, 1, 0])))) (os' := (dropO 1 (opsOf (subC c6.code [1, 1, 0])))) (f := (f20 X0 X1)) (x := X1) (m := 5) (by kernel_rfl) (by kernel_rfl) (by kernel_rfl) (by kernel_rfl) (by decide) (by decide)
theorem p27 (X0 : Int) (X1 : Int) : denC (tabOf tab) 1000 (g27 X0 X1) = denC (tabOf tab) 1000 (h27 X0 X1 (pickI X1 6)) := by exact pick_on (g := 22) (fn := c22) (a := (.t (pos 1))) (b := (.t (pos 0))) (dst := pos 20) (os := (dropO 0 (opsOf (subC c6.code [1, 1, 0])))) (os' := (dropO 1 (opsOf (subC c6.code [1, 1, 0])))) (f := (f27 X0 X1)) (x := X1) (m := 6) (by kernel_rfl) (by kernel_rfl) (by kernel_rfl) (by kernel_rfl) (by decide) (by decide)
theorem p35 (X0 : Int) (X1 : Int) : denC (tabOf tab) 1000 (g35 X0 X1) = denC (tabOf tab) 1000 (h35 X0 X1 (pickI X1 7)) := by exact pick_on (g := 22) (fn := c22) (a := (.t (pos 1))) (b := (.t (pos 0))) (dst := pos 20) (os := (dropO 0 (opsOf (subC c6.code [1, 1, 0])))) (os' := (dropO 1 (opsOf (subC c6.code [1, 1, 0])))) (f := (f35 X0 X1)) (x := X1) (m := 7) (by kernel_rfl) (by kernel_rfl) (by kernel_rfl) (by kernel_rfl) (by decide) (by decide)
theorem p44 (X0 : Int) (X1 : Int) : denC (tabOf tab) 1000 (g44 X0 X1) = denC (tabOf tab) 1000 (h44 X0 X1 (pickI X1 8)) := by exact pick_on (g := 22) (fn := c22) (a := (.t (pos 1))) (b := (.t (pos 0))) (dst := pos 20) (os := (dropO 0 (opsOf (subC c6.code [1, 1, 0])))) (os' := (dropO 1 (opsOf (subC c6.code [1, 1, 0])))) (f := (f44 X0 X1)) (x := X1) (m := 8) (by kernel_rfl) (by kernel_rfl) (by kernel_rfl) (by kernel_rfl) (by decide) (by decide)
theorem p54 (X0 : Int) (X1 : Int) : denC (tabOf tab) 1000 (g54 X0 X1) = denC (tabOf tab) 1000 (h54 X0 X1 (pickI X1 9)) := by exact pick_on (g := 22) (fn := c22) (a := (.t (pos 1))) (b := (.t (pos 0))) (dst := pos 20) (os := (dropO 0 (opsOf (subC c6.code [1, 1, 0])))) (os' := (dropO 1 (opsOf (subC c6.code [1, 1, 0])))) (f := (f54 X0 X1)) (x := X1) (m := 9) (by kernel_rfl) (by kernel_rfl) (by kernel_rfl) (by kernel_rfl) (by decide) (by decide)
theorem p65 (X0 : Int) (X1 : Int) : denC (tabOf tab) 1000 (g65 X0 X1) = denC (tabOf tab) 1000 (h65 X0 X1 (pickI X1 10)) := by exact pick_on (g := 22) (fn := c22) (a := (.t (pos 1))) (b := (.t (pos 0))) (dst := pos 20) (os := (dropO 0 (opsOf (subC c6.code [1, 1, 0])))) (os' := (dropO 1 (opsOf (subC c6.code [1, 1, 0])))) (f := (f65 X0 X1)) (x := X1) (m := 10) (by kernel_rfl) (by kernel_rfl) (by kernel_rfl) (by kernel_rfl) (by decide) (by decide)
theorem p77 (X0 : Int) (X1 : Int) : denC (tabOf tab) 1000 (g77 X0 X1) = denC (tabOf tab) 1000 (h77 X0 X1 (pickI X1 11)) := by exact pick_on (g := 22) (fn := c22) (a := (.t (pos 1))) (b := (.t (pos 0))) (dst := pos 20) (os := (dropO 0 (opsOf (subC c6.code [1, 1, 0])))) (os' := (dropO 1 (opsOf (subC c6.code [1, 1, 0])))) (f := (f77 X0 X1)) (x := X1) (m := 11) (by kernel_rfl) (by kernel_rfl) (by kernel_rfl) (by kernel_rfl) (by decide) (by decide)
theorem p90 (X0 : Int) (X1 : Int) : denC (tabOf tab) 1000 (g90 X0 X1) = denC (tabOf tab) 1000 (h90 X0 X1 (pickI X1 12)) := by exact pick_on (g := 22) (fn := c22) (a := (.t (pos 1))) (b := (.t (pos 0))) (dst := pos 20) (os := (dropO 0 (opsOf (subC c6.code [1, 1, 0])))) (os' := (dropO 1 (opsOf (subC c6.code [1, 1, 0])))) (f := (f90 X0 X1)) (x := X1) (m := 12) (by kernel_rfl) (by kernel_rfl) (by kernel_rfl) (by kernel_rfl) (by decide) (by decide)
theorem p104 (X0 : Int) (X1 : Int) : denC (tabOf tab) 1000 (g104 X0 X1) = denC (tabOf tab) 1000 (h104 X0 X1 (pickI X1 13)) := by exact pick_on (g := 22) (fn := c22) (a := (.t (pos 1))) (b := (.t (pos 0))) (dst := pos 20) (os := (dropO 0 (opsOf (subC c6.code [1, 1, 0])))) (os' := (dropO 1 (opsOf (subC c6.code [1, 1, 0])))) (f := (f104 X0 X1)) (x := X1) (m := 13) (by kernel_rfl) (by kernel_rfl) (by kernel_rfl) (by kernel_rfl) (by decide) (by decide)
theorem p119 (X0 : Int) (X1 : Int) : denC (tabOf tab) 1000 (g119 X0 X1) = denC (tabOf tab) 1000 (h119 X0 X1 (pickI X1 14)) := by exact pick_on (g := 22) (fn := c22) (a := (.t (pos 1))) (b := (.t (pos 0))) (dst := pos 20) (os := (dropO 0 (opsOf (subC c6.code [1, 1, 0])))) (os' := (dropO 1 (opsOf (subC c6.code [1, 1, 0])))) (f := (f119 X0 X1)) (x := X1) (m := 14) (by kernel_rfl) (by kernel_rfl) (by kernel_rfl) (by kernel_rfl) (by decide) (by decide)
theorem p135 (X0 : Int) (X1 : Int) : denC (tabOf tab) 1000 (g135 X0 X1) = denC (tabOf tab) 1000 (h135 X0 X1 (pickI X1 15)) := by exact pick_on (g := 22) (fn := c22) (a := (.t (pos 1))) (b := (.t (pos 0))) (dst := pos 20) (os := (dropO 0 (opsOf (subC c6.code [1, 1, 0])))) (os' := (dropO 1 (opsOf (subC c6.code [1, 1, 0])))) (f := (f135 X0 X1)) (x := X1) (m := 15) (by kernel_rfl) (by kernel_rfl) (by kernel_rfl) (by kernel_rfl) (by decide) (by decide)
theorem p152 (X0 : Int) (X1 : Int) : denC (tabOf tab) 1000 (g152 X0 X1) = denC (tabOf tab) 1000 (h152 X0 X1 (pickI X1 16)) := by exact pick_on (g := 22) (fn := c22) (a := (.t (pos 1))) (b := (.t (pos 0))) (dst := pos 20) (os := (dropO 0 (opsOf (subC c6.code [1, 1, 0])))) (os' := (dropO 1 (opsOf (subC c6.code [1, 1, 0])))) (f := (f152 X0 X1)) (x := X1) (m := 16) (by kernel_rfl) (by kernel_rfl) (by kernel_rfl) (by kernel_rfl) (by decide) (by decide)
theorem p171 (X0 : Int) (X1 : Int) : denC (tabOf tab) 1000 (g171 X0 X1) = denC (tabOf tab) 1000 (h171 X0 X1 (pickI X1 17)) := by exact pick_on (g := 22) (fn := c22) (a := (.t (pos 1))) (b := (.t (pos 0))) (dst := pos 20) (os := (dropO 0 (opsOf (subC c6.code [1, 1, 0])))) (os' := (dropO 1 (opsOf (subC c6.code [1, 1, 0])))) (f := (f171 X0 X1)) (x := X1) (m := 17) (by kernel_rfl) (by kernel_rfl) (by kernel_rfl) (by kernel_rfl) (by decide) (by decide)
theorem p191 (X0 : Int) (X1 : Int) : denC (tabOf tab) 1000 (g191 X0 X1) = denC (tabOf tab) 1000 (h191 X0 X1 (pickI X1 18)) := by exact pick_on (g := 22) (fn := c22) (a := (.t (pos 1))) (b := (.t (pos 0))) (dst := pos 20) (os := (dropO 0 (opsOf (subC c6.code [1, 1, 0])))) (os' := (dropO 1 (opsOf (subC c6.code [1, 1, 0])))) (f := (f191 X0 X1)) (x := X1) (m := 18) (by kernel_rfl) (by kernel_rfl) (by kernel_rfl) (by kernel_rfl) (by decide) (by decide)
theorem p212 (X0 : Int) (X1 : Int) : denC (tabOf tab) 1000 (g212 X0 X1) = denC (tabOf tab) 1000 (h212 X0 X1 (pickI X1 19)) := by exact pick_on (g := 22) (fn := c22) (a := (.t (pos 1))) (b := (.t (pos 0))) (dst := pos 20) (os := (dropO 0 (opsOf (subC c6.code [1, 1, 0])))) (os' := (dropO 1 (opsOf (subC c6.code [1, 1, 0])))) (f := (f212 X0 X1)) (x := X1) (m := 19) (by kernel_rfl) (by kernel_rfl) (by kernel_rfl) (by kernel_rfl) (by decide) (by decide)
theorem p234 (X0 : Int) (X1 : Int) : denC (tabOf tab) 1000 (g234 X0 X1) = denC (tabOf tab) 1000 (h234 X0 X1 (pickI X1 20)) := by exact pick_on (g := 22) (fn := c22) (a := (.t (pos 1))) (b := (.t (pos 0))) (dst := pos 20) (os := (dropO 0 (opsOf (subC c6.code [1, 1, 0])))) (os' := (dropO 1 (opsOf (subC c6.code [1, 1, 0])))) (f := (f234 X0 X1)) (x := X1) (m := 20) (by kernel_rfl) (by kernel_rfl) (by kernel_rfl) (by kernel_rfl) (by decide) (by decide)
theorem p258 (X0 : Int) (X1 : Int) : denC (tabOf tab) 1000 (g258 X0 X1) = denC (tabOf tab) 1000 (h258 X0 X1 (pickI X0 20)) := by exact pick_on (g := 22) (fn := c22) (a := (.t (pos 0))) (b := (.c (iV 20))) (dst := pos 16) (os := (dropO 0 (opsOf (subC c6.code [1, 0])))) (os' := (dropO 1 (opsOf (subC c6.code [1, 0])))) (f := (f258 X0 X1)) (x := X0) (m := 20) (by kernel_rfl) (by kernel_rfl) (by kernel_rfl) (by kernel_rfl) (by decide) (by decide)
theorem p259 (X0 : Int) (X1 : Int) : denC (tabOf tab) 1000 (g259 X0 X1) = denC (tabOf tab) 1000 (h259 X0 X1 (pickI X1 1)) := by exact pick_on (g := 22) (fn := c22) (a := (.t (pos 1))) (b := (.t (pos 0))) (dst := pos 20) (os := (dropO 0 (opsOf (subC c6.code [1, 1, 0])))) (os' := (dropO 1 (opsOf (subC c6.code [1, 1, 0])))) (f := (f259 X0 X1)) (x := X1) (m := 1) (by kernel_rfl) (by kernel_rfl) (by kernel_rfl) (by kernel_rfl) (by decide) (by decide)
theorem p262 (X0 : Int) (X1 : Int) : denC (tabOf tab) 1000 (g262 X0 X1) = denC (tabOf tab) 1000 (h262 X0 X1 (pickI X1 2)) := by exact pick_on (g := 22) (fn := c22) (a := (.t (pos 1))) (b := (.t (pos 0))) (dst := pos 20) (os := (dropO 0 (opsOf (subC c6.code [1, 1, 0])))) (os' := (dropO 1 (opsOf (subC c6.code [1, 1, 0])))) (f := (f262 X0 X1)) (x := X1) (m := 2) (by kernel_rfl) (by kernel_rfl) (by kernel_rfl) (by kernel_rfl) (by decide) (by decide)
theorem p266 (X0 : Int) (X1 : Int) : denC (tabOf tab) 1000 (g266 X0 X1) = denC (tabOf tab) 1000 (h266 X0 X1 (pickI X1 3)) := by exact pick_on (g := 22) (fn := c22) (a := (.t (pos 1))) (b := (.t (pos 0))) (dst := pos 20) (os := (dropO 0 (opsOf (subC c6.code [1, 1, 0])))) (os' := (dropO 1 (opsOf (subC c6.code [1, 1, 0])))) (f := (f266 X0 X1)) (x := X1) (m := 3) (by kernel_rfl) (by kernel_rfl) (by kernel_rfl) (by kernel_rfl) (by decide) (by decide)
theorem p271 (X0 : Int) (X1 : Int) : denC (tabOf tab) 1000 (g271 X0 X1) = denC (tabOf tab) 1000 (h271 X0 X1 (pickI X1 4)) := by exact pick_on (g := 22) (fn := c22) (a := (.t (pos 1))) (b := (.t (pos 0))) (dst := pos 20) (os := (dropO 0 (opsOf (subC c6.code [1, 1, 0])))) (os' := (dropO 1 (opsOf (subC c6.code [1, 1, 0])))) (f := (f271 X0 X1)) (x := X1) (m := 4) (by kernel_rfl) (by kernel_rfl) (by kernel_rfl) (by kernel_rfl) (by decide) (by decide)
theorem p277 (X0 : Int) (X1 : Int) : denC (tabOf tab) 1000 (g277 X0 X1) = denC (tabOf tab) 1000 (h277 X0 X1 (pickI X1 5)) := by exact pick_on (g := 22) (fn := c22) (a := (.t (pos 1))) (b := (.t (pos 0))) (dst := pos 20) (os := (dropO 0 (opsOf (subC c6.code [1, 1, 0])))) (os' := (dropO 1 (opsOf (subC c6.code [1, 1, 0])))) (f := (f277 X0 X1)) (x := X1) (m := 5) (by kernel_rfl) (by kernel_rfl) (by kernel_rfl) (by kernel_rfl) (by decide) (by decide)
theorem p284 (X0 : Int) (X1 : Int) : denC (tabOf tab) 1000 (g284 X0 X1) = denC (tabOf tab) 1000 (h284 X0 X1 (pickI X1 6)) := by exact pick_on (g := 22) (fn := c22) (a := (.t (pos 1))) (b := (.t (pos 0))) (dst := pos 20) (os := (dropO 0 (opsOf (subC c6.code [1, 1, 0])))) (os' := (dropO 1 (opsOf (subC c6.code [1, 1, 0])))) (f := (f284 X0 X1)) (x := X1) (m := 6) (by kernel_rfl) (by kernel_rfl) (by kernel_rfl) (by kernel_rfl) (by decide) (by decide)
theorem p292 (X0 : Int) (X1 : Int) : denC (tabOf tab) 1000 (g292 X0 X1) = denC (tabOf tab) 1000 (h292 X0 X1 (pickI X1 7)) := by exact pick_on (g := 22) (fn := c22) (a := (.t (pos 1))) (b := (.t (pos 0))) (dst := pos 20) (os := (dropO 0 (opsOf (subC c6.code [1, 1, 0])))) (os' := (dropO 1 (opsOf (subC c6.code [1, 1, 0])))) (f := (f292 X0 X1)) (x := X1) (m := 7) (by kernel_rfl) (by kernel_rfl) (by kernel_rfl) (by kernel_rfl) (by decide) (by decide)
theorem p301 (X0 : Int) (X1 : Int) : denC (tabOf tab) 1000 (g301 X0 X1) = denC (tabOf tab) 1000 (h301 X0 X1 (pickI X1 8)) := by exact pick_on (g := 22) (fn := c22) (a := (.t (pos 1))) (b := (.t (pos 0))) (dst := pos 20) (os := (dropO 0 (opsOf (subC c6.code [1, 1, 0])))) (os' := (dropO 1 (opsOf (subC c6.code [1, 1, 0])))) (f := (f301 X0 X1)) (x := X1) (m := 8) (by kernel_rfl) (by kernel_rfl) (by kernel_rfl) (by kernel_rfl) (by decide) (by decide)
theorem p311 (X0 : Int) (X1 : Int) : denC (tabOf tab) 1000 (g311 X0 X1) = denC (tabOf tab) 1000 (h311 X0 X1 (pickI X1 9)) := by exact pick_on (g := 22) (fn := c22) (a := (.t (pos 1))) (b := (.t (pos 0))) (dst := pos 20) (os := (dropO 0 (opsOf (subC c6.code [1, 1, 0])))) (os' := (dropO 1 (opsOf (subC c6.code [1, 1, 0])))) (f := (f311 X0 X1)) (x := X1) (m := 9) (by kernel_rfl) (by kernel_rfl) (by kernel_rfl) (by kernel_rfl) (by decide) (by decide)
theorem p322 (X0 : Int) (X1 : Int) : denC (tabOf tab) 1000 (g322 X0 X1) = denC (tabOf tab) 1000 (h322 X0 X1 (pickI X1 10)) := by exact pick_on (g := 22) (fn := c22) (a := (.t (pos 1))) (b := (.t (pos 0))) (dst := pos 20) (os := (dropO 0 (opsOf (subC c6.code [1, 1, 0])))) (os' := (dropO 1 (opsOf (subC c6.code [1, 1, 0])))) (f := (f322 X0 X1)) (x := X1) (m := 10) (by kernel_rfl) (by kernel_rfl) (by kernel_rfl) (by kernel_rfl) (by decide) (by decide)
theorem p334 (X0 : Int) (X1 : Int) : denC (tabOf tab) 1000 (g334 X0 X1) = denC (tabOf tab) 1000 (h334 X0 X1 (pickI X1 11)) := by exact pick_on (g := 22) (fn := c22) (a := (.t (pos 1))) (b := (.t (pos 0))) (dst := pos 20) (os := (dropO 0 (opsOf (subC c6.code [1, 1, 0])))) (os' := (dropO 1 (opsOf (subC c6.code [1, 1, 0])))) (f := (f334 X0 X1)) (x := X1) (m := 11) (by kernel_rfl) (by kernel_rfl) (by kernel_rfl) (by kernel_rfl) (by decide) (by decide)
theorem p347 (X0 : Int) (X1 : Int) : denC (tabOf tab) 1000 (g347 X0 X1) = denC (tabOf tab) 1000 (h347 X0 X1 (pickI X1 12)) := by exact pick_on (g := 22) (fn := c22) (a := (.t (pos 1))) (b := (.t (pos 0))) (dst := pos 20) (os := (dropO 0 (opsOf (subC c6.code [1, 1, 0])))) (os' := (dropO 1 (opsOf (subC c6.code [1, 1, 0])))) (f := (f347 X0 X1)) (x := X1) (m := 12) (by kernel_rfl) (by kernel_rfl) (by kernel_rfl) (by kernel_rfl) (by decide) (by decide)
theorem p361 (X0 : Int) (X1 : Int) : denC (tabOf tab) 1000 (g361 X0 X1) = denC (tabOf tab) 1000 (h361 X0 X1 (pickI X1 13)) := by exact pick_on (g := 22) (fn := c22) (a := (.t (pos 1))) (b := (.t (pos 0))) (dst := pos 20) (os := (dropO 0 (opsOf (subC c6.code [1, 1, 0])))) (os' := (dropO 1 (opsOf (subC c6.code [1, 1, 0])))) (f := (f361 X0 X1)) (x := X1) (m := 13) (by kernel_rfl) (by kernel_rfl) (by kernel_rfl) (by kernel_rfl) (by decide) (by decide)
theorem p376 (X0 : Int) (X1 : Int) : denC (tabOf tab) 1000 (g376 X0 X1) = denC (tabOf tab) 1000 (h376 X0 X1 (pickI X1 14)) := by exact pick_on (g := 22) (fn := c22) (a := (.t (pos 1))) (b := (.t (pos 0))) (dst := pos 20) (os := (dropO 0 (opsOf (subC c6.code [1, 1, 0])))) (os' := (dropO 1 (opsOf (subC c6.code [1, 1, 0])))) (f := (f376 X0 X1)) (x := X1) (m := 14) (by kernel_rfl) (by kernel_rfl) (by kernel_rfl) (by kernel_rfl) (by decide) (by decide)
theorem p392 (X0 : Int) (X1 : Int) : denC (tabOf tab) 1000 (g392 X0 X1) = denC (tabOf tab) 1000 (h392 X0 X1 (pickI X1 15)) := by exact pick_on (g := 22) (fn := c22) (a := (.t (pos 1))) (b := (.t (pos 0))) (dst := pos 20) (os := (dropO 0 (opsOf (subC c6.code [1, 1, 0])))) (os' := (dropO 1 (opsOf (subC c6.code [1, 1, 0])))) (f := (f392 X0 X1)) (x := X1) (m := 15) (by kernel_rfl) (by kernel_rfl) (by kernel_rfl) (by kernel_rfl) (by decide) (by decide)
theorem p409 (X0 : Int) (X1 : Int) : denC (tabOf tab) 1000 (g409 X0 X1) = denC (tabOf tab) 1000 (h409 X0 X1 (pickI X1 16)) := by exact pick_on (g := 22) (fn := c22) (a := (.t (pos 1))) (b := (.t (pos 0))) (dst := pos 20) (os := (dropO 0 (opsOf (subC c6.code [1, 1, 0])))) (os' := (dropO 1 (opsOf (subC c6.code [1, 1, 0])))) (f := (f409 X0 X1)) (x := X1) (m := 16) (by kernel_rfl) (by kernel_rfl) (by kernel_rfl) (by kernel_rfl) (by decide) (by decide)
theorem p428 (X0 : Int) (X1 : Int) : denC (tabOf tab) 1000 (g428 X0 X1) = denC (tabOf tab) 1000 (h428 X0 X1 (pickI X1 17)) := by exact pick_on (g := 22) (fn := c22) (a := (.t (pos 1))) (b := (.t (pos 0))) (dst := pos 20) (os := (dropO 0 (opsOf (subC c6.code [1, 1, 0])))) (os' := (dropO 1 (opsOf (subC c6.code [1, 1, 0])))) (f := (f428 X0 X1)) (x := X1) (m := 17) (by kernel_rfl) (by kernel_rfl) (by kernel_rfl) (by kernel_rfl) (by decide) (by decide)
theorem p448 (X0 : Int) (X1 : Int) : denC (tabOf tab) 1000 (g448 X0 X1) = denC (tabOf tab) 1000 (h448 X0 X1 (pickI X1 18)) := by exact pick_on (g := 22) (fn := c22) (a := (.t (pos 1))) (b := (.t (pos 0))) (dst := pos 20) (os := (dropO 0 (opsOf (subC c6.code [1, 1, 0])))) (os' := (dropO 1 (opsOf (subC c6.code [1, 1, 0])))) (f := (f448 X0 X1)) (x := X1) (m := 18) (by kernel_rfl) (by kernel_rfl) (by kernel_rfl) (by kernel_rfl) (by decide) (by decide)
theorem p469 (X0 : Int) (X1 : Int) : denC (tabOf tab) 1000 (g469 X0 X1) = denC (tabOf tab) 1000 (h469 X0 X1 (pickI X1 19)) := by exact pick_on (g := 22) (fn := c22) (a := (.t (pos 1))) (b := (.t (pos 0))) (dst := pos 20) (os := (dropO 0 (opsOf (subC c6.code [1, 1, 0])))) (os' := (dropO 1 (opsOf (subC c6.code [1, 1, 0])))) (f := (f469 X0 X1)) (x := X1) (m := 19) (by kernel_rfl) (by kernel_rfl) (by kernel_rfl) (by kernel_rfl) (by decide) (by decide)
theorem p491 (X0 : Int) (X1 : Int) : denC (tabOf tab) 1000 (g491 X0 X1) = denC (tabOf tab) 1000 (h491 X0 X1 (pickI X1 20)) := by exact pick_on (g := 22) (fn := c22) (a := (.t (pos 1))) (b := (.t (pos 0))) (dst := pos 20) (os := (dropO 0 (opsOf (subC c6.code [1, 1, 0])))) (os' := (dropO 1 (opsOf (subC c6.code [1, 1, 0])))) (f := (f491 X0 X1)) (x := X1) (m := 20) (by kernel_rfl) (by kernel_rfl) (by kernel_rfl) (by kernel_rfl) (by decide) (by decide)
theorem e3 : ∀ A0, A0 < 1 → ∃ s, denC (tabOf tab) 1000 (g3 A0) = some (.bool true, s)
  | 0, _ => cut_last q4
  | n + 1, h => absurd h (by omega)
theorem y2 (X0 : Int) (X1 : Int) : ∀ n, n < 1 → ∃ s, denC (tabOf tab) 1000 (h2 X0 X1 (.ofNat n)) = some (.bool true, s) := fun A0 hA => cut_on (q3 X0 X1 A0) (e3 A0 hA)
theorem e2 (X0 : Int) (X1 : Int) : ∃ s, denC (tabOf tab) 1000 (g2 X0 X1) = some (.bool true, s) := by obtain ⟨n, hn, e⟩ := pickI_nat X1 (m := 1) (by decide); rw [(p2 X0 X1), show pickI X1 1 = Int.ofNat n from e]; exact (y2 X0 X1) n hn
theorem e6 : ∀ A0, A0 < 2 → ∃ s, denC (tabOf tab) 1000 (g6 A0) = some (.bool true, s)
  | 0, _ => cut_last q7
  | 1, _ => cut_last q8
  | n + 2, h => absurd h (by omega)
theorem y5 (X0 : Int) (X1 : Int) : ∀ n, n < 2 → ∃ s, denC (tabOf tab) 1000 (h5 X0 X1 (.ofNat n)) = some (.bool true, s) := fun A0 hA => cut_on (q6 X0 X1 A0) (e6 A0 hA)
theorem e5 (X0 : Int) (X1 : Int) : ∃ s, denC (tabOf tab) 1000 (g5 X0 X1) = some (.bool true, s) := by obtain ⟨n, hn, e⟩ := pickI_nat X1 (m := 2) (by decide); rw [(p5 X0 X1), show pickI X1 2 = Int.ofNat n from e]; exact (y5 X0 X1) n hn
theorem e10 : ∀ A0, A0 < 3 → ∃ s, denC (tabOf tab) 1000 (g10 A0) = some (.bool true, s)
  | 0, _ => cut_last q11
  | 1, _ => cut_last q12
  | 2, _ => cut_last q13
  | n + 3, h => absurd h (by omega)
theorem y9 (X0 : Int) (X1 : Int) : ∀ n, n < 3 → ∃ s, denC (tabOf tab) 1000 (h9 X0 X1 (.ofNat n)) = some (.bool true, s) := fun A0 hA => cut_on (q10 X0 X1 A0) (e10 A0 hA)
theorem e9 (X0 : Int) (X1 : Int) : ∃ s, denC (tabOf tab) 1000 (g9 X0 X1) = some (.bool true, s) := by obtain ⟨n, hn, e⟩ := pickI_nat X1 (m := 3) (by decide); rw [(p9 X0 X1), show pickI X1 3 = Int.ofNat n from e]; exact (y9 X0 X1) n hn
theorem e15 : ∀ A0, A0 < 4 → ∃ s, denC (tabOf tab) 1000 (g15 A0) = some (.bool true, s)
  | 0, _ => cut_last q16
  | 1, _ => cut_last q17
  | 2, _ => cut_last q18
  | 3, _ => cut_last q19
  | n + 4, h => absurd h (by omega)
theorem y14 (X0 : Int) (X1 : Int) : ∀ n, n < 4 → ∃ s, denC (tabOf tab) 1000 (h14 X0 X1 (.ofNat n)) = some (.bool true, s) := fun A0 hA => cut_on (q15 X0 X1 A0) (e15 A0 hA)
theorem e14 (X0 : Int) (X1 : Int) : ∃ s, denC (tabOf tab) 1000 (g14 X0 X1) = some (.bool true, s) := by obtain ⟨n, hn, e⟩ := pickI_nat X1 (m := 4) (by decide); rw [(p14 X0 X1), show pickI X1 4 = Int.ofNat n from e]; exact (y14 X0 X1) n hn
theorem e21 : ∀ A0, A0 < 5 → ∃ s, denC (tabOf tab) 1000 (g21 A0) = some (.bool true, s)
  | 0, _ => cut_last q22
  | 1, _ => cut_last q23
  | 2, _ => cut_last q24
  | 3, _ => cut_last q25
  | 4, _ => cut_last q26
  | n + 5, h => absurd h (by omega)
theorem y20 (X0 : Int) (X1 : Int) : ∀ n, n < 5 → ∃ s, denC (tabOf tab) 1000 (h20 X0 X1 (.ofNat n)) = some (.bool true, s) := fun A0 hA => cut_on (q21 X0 X1 A0) (e21 A0 hA)
theorem e20 (X0 : Int) (X1 : Int) : ∃ s, denC (tabOf tab) 1000 (g20 X0 X1) = some (.bool true, s) := by obtain ⟨n, hn, e⟩ := pickI_nat X1 (m := 5) (by decide); rw [(p20 X0 X1), show pickI X1 5 = Int.ofNat n from e]; exact (y20 X0 X1) n hn
theorem e28 : ∀ A0, A0 < 6 → ∃ s, denC (tabOf tab) 1000 (g28 A0) = some (.bool true, s)
  | 0, _ => cut_last q29
  | 1, _ => cut_last q30
  | 2, _ => cut_last q31
  | 3, _ => cut_last q32
  | 4, _ => cut_last q33
  | 5, _ => cut_last q34
  | n + 6, h => absurd h (by omega)
theorem y27 (X0 : Int) (X1 : Int) : ∀ n, n < 6 → ∃ s, denC (tabOf tab) 1000 (h27 X0 X1 (.ofNat n)) = some (.bool true, s) := fun A0 hA => cut_on (q28 X0 X1 A0) (e28 A0 hA)
theorem e27 (X0 : Int) (X1 : Int) : ∃ s, denC (tabOf tab) 1000 (g27 X0 X1) = some (.bool true, s) := by obtain ⟨n, hn, e⟩ := pickI_nat X1 (m := 6) (by decide); rw [(p27 X0 X1), show pickI X1 6 = Int.ofNat n from e]; exact (y27 X0 X1) n hn
theorem e36 : ∀ A0, A0 < 7 → ∃ s, denC (tabOf tab) 1000 (g36 A0) = some (.bool true, s)
  | 0, _ => cut_last q37
  | 1, _ => cut_last q38
  | 2, _ => cut_last q39
  | 3, _ => cut_last q40
  | 4, _ => cut_last q41
  | 5, _ => cut_last q42
  | 6, _ => cut_last q43
  | n + 7, h => absurd h (by omega)
theorem y35 (X0 : Int) (X1 : Int) : ∀ n, n < 7 → ∃ s, denC (tabOf tab) 1000 (h35 X0 X1 (.ofNat n)) = some (.bool true, s) := fun A0 hA => cut_on (q36 X0 X1 A0) (e36 A0 hA)
theorem e35 (X0 : Int) (X1 : Int) : ∃ s, denC (tabOf tab) 1000 (g35 X0 X1) = some (.bool true, s) := by obtain ⟨n, hn, e⟩ := pickI_nat X1 (m := 7) (by decide); rw [(p35 X0 X1), show pickI X1 7 = Int.ofNat n from e]; exact (y35 X0 X1) n hn
theorem e45 : ∀ A0, A0 < 8 → ∃ s, denC (tabOf tab) 1000 (g45 A0) = some (.bool true, s)
  | 0, _ => cut_last q46
  | 1, _ => cut_last q47
  | 2, _ => cut_last q48
  | 3, _ => cut_last q49
  | 4, _ => cut_last q50
  | 5, _ => cut_last q51
  | 6, _ => cut_last q52
  | 7, _ => cut_last q53
  | n + 8, h => absurd h (by omega)
theorem y44 (X0 : Int) (X1 : Int) : ∀ n, n < 8 → ∃ s, denC (tabOf tab) 1000 (h44 X0 X1 (.ofNat n)) = some (.bool true, s) := fun A0 hA => cut_on (q45 X0 X1 A0) (e45 A0 hA)
theorem e44 (X0 : Int) (X1 : Int) : ∃ s, denC (tabOf tab) 1000 (g44 X0 X1) = some (.bool true, s) := by obtain ⟨n, hn, e⟩ := pickI_nat X1 (m := 8) (by decide); rw [(p44 X0 X1), show pickI X1 8 = Int.ofNat n from e]; exact (y44 X0 X1) n hn
theorem e55 : ∀ A0, A0 < 9 → ∃ s, denC (tabOf tab) 1000 (g55 A0) = some (.bool true, s)
  | 0, _ => cut_last q56
  | 1, _ => cut_last q57
  | 2, _ => cut_last q58
  | 3, _ => cut_last q59
  | 4, _ => cut_last q60
  | 5, _ => cut_last q61
  | 6, _ => cut_last q62
  | 7, _ => cut_last q63
  | 8, _ => cut_last q64
  | n + 9, h => absurd h (by omega)
theorem y54 (X0 : Int) (X1 : Int) : ∀ n, n < 9 → ∃ s, denC (tabOf tab) 1000 (h54 X0 X1 (.ofNat n)) = some (.bool true, s) := fun A0 hA => cut_on (q55 X0 X1 A0) (e55 A0 hA)
theorem e54 (X0 : Int) (X1 : Int) : ∃ s, denC (tabOf tab) 1000 (g54 X0 X1) = some (.bool true, s) := by obtain ⟨n, hn, e⟩ := pickI_nat X1 (m := 9) (by decide); rw [(p54 X0 X1), show pickI X1 9 = Int.ofNat n from e]; exact (y54 X0 X1) n hn
theorem e66 : ∀ A0, A0 < 10 → ∃ s, denC (tabOf tab) 1000 (g66 A0) = some (.bool true, s)
  | 0, _ => cut_last q67
  | 1, _ => cut_last q68
  | 2, _ => cut_last q69
  | 3, _ => cut_last q70
  | 4, _ => cut_last q71
  | 5, _ => cut_last q72
  | 6, _ => cut_last q73
  | 7, _ => cut_last q74
  | 8, _ => cut_last q75
  | 9, _ => cut_last q76
  | n + 10, h => absurd h (by omega)
theorem y65 (X0 : Int) (X1 : Int) : ∀ n, n < 10 → ∃ s, denC (tabOf tab) 1000 (h65 X0 X1 (.ofNat n)) = some (.bool true, s) := fun A0 hA => cut_on (q66 X0 X1 A0) (e66 A0 hA)
theorem e65 (X0 : Int) (X1 : Int) : ∃ s, denC (tabOf tab) 1000 (g65 X0 X1) = some (.bool true, s) := by obtain ⟨n, hn, e⟩ := pickI_nat X1 (m := 10) (by decide); rw [(p65 X0 X1), show pickI X1 10 = Int.ofNat n from e]; exact (y65 X0 X1) n hn
theorem e78 : ∀ A0, A0 < 11 → ∃ s, denC (tabOf tab) 1000 (g78 A0) = some (.bool true, s)
  | 0, _ => cut_last q79
  | 1, _ => cut_last q80
  | 2, _ => cut_last q81
  | 3, _ => cut_last q82
  | 4, _ => cut_last q83
  | 5, _ => cut_last q84
  | 6, _ => cut_last q85
  | 7, _ => cut_last q86
  | 8, _ => cut_last q87
  | 9, _ => cut_last q88
  | 10, _ => cut_last q89
  | n + 11, h => absurd h (by omega)
theorem y77 (X0 : Int) (X1 : Int) : ∀ n, n < 11 → ∃ s, denC (tabOf tab) 1000 (h77 X0 X1 (.ofNat n)) = some (.bool true, s) := fun A0 hA => cut_on (q78 X0 X1 A0) (e78 A0 hA)
theorem e77 (X0 : Int) (X1 : Int) : ∃ s, denC (tabOf tab) 1000 (g77 X0 X1) = some (.bool true, s) := by obtain ⟨n, hn, e⟩ := pickI_nat X1 (m := 11) (by decide); rw [(p77 X0 X1), show pickI X1 11 = Int.ofNat n from e]; exact (y77 X0 X1) n hn
theorem e91 : ∀ A0, A0 < 12 → ∃ s, denC (tabOf tab) 1000 (g91 A0) = some (.bool true, s)
  | 0, _ => cut_last q92
  | 1, _ => cut_last q93
  | 2, _ => cut_last q94
  | 3, _ => cut_last q95
  | 4, _ => cut_last q96
  | 5, _ => cut_last q97
  | 6, _ => cut_last q98
  | 7, _ => cut_last q99
  | 8, _ => cut_last q100
  | 9, _ => cut_last q101
  | 10, _ => cut_last q102
  | 11, _ => cut_last q103
  | n + 12, h => absurd h (by omega)
theorem y90 (X0 : Int) (X1 : Int) : ∀ n, n < 12 → ∃ s, denC (tabOf tab) 1000 (h90 X0 X1 (.ofNat n)) = some (.bool true, s) := fun A0 hA => cut_on (q91 X0 X1 A0) (e91 A0 hA)
theorem e90 (X0 : Int) (X1 : Int) : ∃ s, denC (tabOf tab) 1000 (g90 X0 X1) = some (.bool true, s) := by obtain ⟨n, hn, e⟩ := pickI_nat X1 (m := 12) (by decide); rw [(p90 X0 X1), show pickI X1 12 = Int.ofNat n from e]; exact (y90 X0 X1) n hn
theorem e105 : ∀ A0, A0 < 13 → ∃ s, denC (tabOf tab) 1000 (g105 A0) = some (.bool true, s)
  | 0, _ => cut_last q106
  | 1, _ => cut_last q107
  | 2, _ => cut_last q108
  | 3, _ => cut_last q109
  | 4, _ => cut_last q110
  | 5, _ => cut_last q111
  | 6, _ => cut_last q112
  | 7, _ => cut_last q113
  | 8, _ => cut_last q114
  | 9, _ => cut_last q115
  | 10, _ => cut_last q116
  | 11, _ => cut_last q117
  | 12, _ => cut_last q118
  | n + 13, h => absurd h (by omega)
theorem y104 (X0 : Int) (X1 : Int) : ∀ n, n < 13 → ∃ s, denC (tabOf tab) 1000 (h104 X0 X1 (.ofNat n)) = some (.bool true, s) := fun A0 hA => cut_on (q105 X0 X1 A0) (e105 A0 hA)
theorem e104 (X0 : Int) (X1 : Int) : ∃ s, denC (tabOf tab) 1000 (g104 X0 X1) = some (.bool true, s) := by obtain ⟨n, hn, e⟩ := pickI_nat X1 (m := 13) (by decide); rw [(p104 X0 X1), show pickI X1 13 = Int.ofNat n from e]; exact (y104 X0 X1) n hn
theorem e120 : ∀ A0, A0 < 14 → ∃ s, denC (tabOf tab) 1000 (g120 A0) = some (.bool true, s)
  | 0, _ => cut_last q121
  | 1, _ => cut_last q122
  | 2, _ => cut_last q123
  | 3, _ => cut_last q124
  | 4, _ => cut_last q125
  | 5, _ => cut_last q126
  | 6, _ => cut_last q127
  | 7, _ => cut_last q128
  | 8, _ => cut_last q129
  | 9, _ => cut_last q130
  | 10, _ => cut_last q131
  | 11, _ => cut_last q132
  | 12, _ => cut_last q133
  | 13, _ => cut_last q134
  | n + 14, h => absurd h (by omega)
theorem y119 (X0 : Int) (X1 : Int) : ∀ n, n < 14 → ∃ s, denC (tabOf tab) 1000 (h119 X0 X1 (.ofNat n)) = some (.bool true, s) := fun A0 hA => cut_on (q120 X0 X1 A0) (e120 A0 hA)
theorem e119 (X0 : Int) (X1 : Int) : ∃ s, denC (tabOf tab) 1000 (g119 X0 X1) = some (.bool true, s) := by obtain ⟨n, hn, e⟩ := pickI_nat X1 (m := 14) (by decide); rw [(p119 X0 X1), show pickI X1 14 = Int.ofNat n from e]; exact (y119 X0 X1) n hn
theorem e136 : ∀ A0, A0 < 15 → ∃ s, denC (tabOf tab) 1000 (g136 A0) = some (.bool true, s)
  | 0, _ => cut_last q137
  | 1, _ => cut_last q138
  | 2, _ => cut_last q139
  | 3, _ => cut_last q140
  | 4, _ => cut_last q141
  | 5, _ => cut_last q142
  | 6, _ => cut_last q143
  | 7, _ => cut_last q144
  | 8, _ => cut_last q145
  | 9, _ => cut_last q146
  | 10, _ => cut_last q147
  | 11, _ => cut_last q148
  | 12, _ => cut_last q149
  | 13, _ => cut_last q150
  | 14, _ => cut_last q151
  | n + 15, h => absurd h (by omega)
theorem y135 (X0 : Int) (X1 : Int) : ∀ n, n < 15 → ∃ s, denC (tabOf tab) 1000 (h135 X0 X1 (.ofNat n)) = some (.bool true, s) := fun A0 hA => cut_on (q136 X0 X1 A0) (e136 A0 hA)
theorem e135 (X0 : Int) (X1 : Int) : ∃ s, denC (tabOf tab) 1000 (g135 X0 X1) = some (.bool true, s) := by obtain ⟨n, hn, e⟩ := pickI_nat X1 (m := 15) (by decide); rw [(p135 X0 X1), show pickI X1 15 = Int.ofNat n from e]; exact (y135 X0 X1) n hn
theorem e154 : ∀ A0, A0 < 16 → ∃ s, denC (tabOf tab) 1000 (g154 A0) = some (.bool true, s)
  | 0, _ => cut_last q155
  | 1, _ => cut_last q156
  | 2, _ => cut_last q157
  | 3, _ => cut_last q158
  | 4, _ => cut_last q159
  | 5, _ => cut_last q160
  | 6, _ => cut_last q161
  | 7, _ => cut_last q162
  | 8, _ => cut_last q163
  | 9, _ => cut_last q164
  | 10, _ => cut_last q165
  | 11, _ => cut_last q166
  | 12, _ => cut_last q167
  | 13, _ => cut_last q168
  | 14, _ => cut_last q169
  | 15, _ => cut_last q170
  | n + 16, h => absurd h (by omega)
theorem e153 (A0 : Nat) : A0 < 16 → ∃ s, denC (tabOf tab) 1000 (g153 A0) = some (.bool true, s) := fun hA => cut_on (q154 A0) (e154 A0 hA)
theorem y152 (X0 : Int) (X1 : Int) : ∀ n, n < 16 → ∃ s, denC (tabOf tab) 1000 (h152 X0 X1 (.ofNat n)) = some (.bool true, s) := fun A0 hA => cut_on (q153 X0 X1 A0) (e153 A0 hA)
theorem e152 (X0 : Int) (X1 : Int) : ∃ s, denC (tabOf tab) 1000 (g152 X0 X1) = some (.bool true, s) := by obtain ⟨n, hn, e⟩ := pickI_nat X1 (m := 16) (by decide); rw [(p152 X0 X1), show pickI X1 16 = Int.ofNat n from e]; exact (y152 X0 X1) n hn
theorem e173 : ∀ A0, A0 < 17 → ∃ s, denC (tabOf tab) 1000 (g173 A0) = some (.bool true, s)
  | 0, _ => cut_last q174
  | 1, _ => cut_last q175
  | 2, _ => cut_last q176
  | 3, _ => cut_last q177
  | 4, _ => cut_last q178
  | 5, _ => cut_last q179
  | 6, _ => cut_last q180
  | 7, _ => cut_last q181
  | 8, _ => cut_last q182
  | 9, _ => cut_last q183
  | 10, _ => cut_last q184
  | 11, _ => cut_last q185
  | 12, _ => cut_last q186
  | 13, _ => cut_last q187
  | 14, _ => cut_last q188
  | 15, _ => cut_last q189
  | 16, _ => cut_last q190
  | n + 17, h => absurd h (by omega)
theorem e172 (A0 : Nat) : A0 < 17 → ∃ s, denC (tabOf tab) 1000 (g172 A0) = some (.bool true, s) := fun hA => cut_on (q173 A0) (e173 A0 hA)
theorem y171 (X0 : Int) (X1 : Int) : ∀ n, n < 17 → ∃ s, denC (tabOf tab) 1000 (h171 X0 X1 (.ofNat n)) = some (.bool true, s) := fun A0 hA => cut_on (q172 X0 X1 A0) (e172 A0 hA)
theorem e171 (X0 : Int) (X1 : Int) : ∃ s, denC (tabOf tab) 1000 (g171 X0 X1) = some (.bool true, s) := by obtain ⟨n, hn, e⟩ := pickI_nat X1 (m := 17) (by decide); rw [(p171 X0 X1), show pickI X1 17 = Int.ofNat n from e]; exact (y171 X0 X1) n hn
theorem e193 : ∀ A0, A0 < 18 → ∃ s, denC (tabOf tab) 1000 (g193 A0) = some (.bool true, s)
  | 0, _ => cut_last q194
  | 1, _ => cut_last q195
  | 2, _ => cut_last q196
  | 3, _ => cut_last q197
  | 4, _ => cut_last q198
  | 5, _ => cut_last q199
  | 6, _ => cut_last q200
  | 7, _ => cut_last q201
  | 8, _ => cut_last q202
  | 9, _ => cut_last q203
  | 10, _ => cut_last q204
  | 11, _ => cut_last q205
  | 12, _ => cut_last q206
  | 13, _ => cut_last q207
  | 14, _ => cut_last q208
  | 15, _ => cut_last q209
  | 16, _ => cut_last q210
  | 17, _ => cut_last q211
  | n + 18, h => absurd h (by omega)
theorem e192 (A0 : Nat) : A0 < 18 → ∃ s, denC (tabOf tab) 1000 (g192 A0) = some (.bool true, s) := fun hA => cut_on (q193 A0) (e193 A0 hA)
theorem y191 (X0 : Int) (X1 : Int) : ∀ n, n < 18 → ∃ s, denC (tabOf tab) 1000 (h191 X0 X1 (.ofNat n)) = some (.bool true, s) := fun A0 hA => cut_on (q192 X0 X1 A0) (e192 A0 hA)
theorem e191 (X0 : Int) (X1 : Int) : ∃ s, denC (tabOf tab) 1000 (g191 X0 X1) = some (.bool true, s) := by obtain ⟨n, hn, e⟩ := pickI_nat X1 (m := 18) (by decide); rw [(p191 X0 X1), show pickI X1 18 = Int.ofNat n from e]; exact (y191 X0 X1) n hn
theorem e214 : ∀ A0, A0 < 19 → ∃ s, denC (tabOf tab) 1000 (g214 A0) = some (.bool true, s)
  | 0, _ => cut_last q215
  | 1, _ => cut_last q216
  | 2, _ => cut_last q217
  | 3, _ => cut_last q218
  | 4, _ => cut_last q219
  | 5, _ => cut_last q220
  | 6, _ => cut_last q221
  | 7, _ => cut_last q222
  | 8, _ => cut_last q223
  | 9, _ => cut_last q224
  | 10, _ => cut_last q225
  | 11, _ => cut_last q226
  | 12, _ => cut_last q227
  | 13, _ => cut_last q228
  | 14, _ => cut_last q229
  | 15, _ => cut_last q230
  | 16, _ => cut_last q231
  | 17, _ => cut_last q232
  | 18, _ => cut_last q233
  | n + 19, h => absurd h (by omega)
theorem e213 (A0 : Nat) : A0 < 19 → ∃ s, denC (tabOf tab) 1000 (g213 A0) = some (.bool true, s) := fun hA => cut_on (q214 A0) (e214 A0 hA)
theorem y212 (X0 : Int) (X1 : Int) : ∀ n, n < 19 → ∃ s, denC (tabOf tab) 1000 (h212 X0 X1 (.ofNat n)) = some (.bool true, s) := fun A0 hA => cut_on (q213 X0 X1 A0) (e213 A0 hA)
theorem e212 (X0 : Int) (X1 : Int) : ∃ s, denC (tabOf tab) 1000 (g212 X0 X1) = some (.bool true, s) := by obtain ⟨n, hn, e⟩ := pickI_nat X1 (m := 19) (by decide); rw [(p212 X0 X1), show pickI X1 19 = Int.ofNat n from e]; exact (y212 X0 X1) n hn
theorem e236 : ∀ A0, A0 < 20 → ∃ s, denC (tabOf tab) 1000 (g236 A0) = some (.bool true, s)
  | 0, _ => cut_last q237
  | 1, _ => cut_last q238
  | 2, _ => cut_last q239
  | 3, _ => cut_last q240
  | 4, _ => cut_last q241
  | 5, _ => cut_last q242
  | 6, _ => cut_last q243
  | 7, _ => cut_last q244
  | 8, _ => cut_last q245
  | 9, _ => cut_last q246
  | 10, _ => cut_last q247
  | 11, _ => cut_last q248
  | 12, _ => cut_last q249
  | 13, _ => cut_last q250
  | 14, _ => cut_last q251
  | 15, _ => cut_last q252
  | 16, _ => cut_last q253
  | 17, _ => cut_last q254
  | 18, _ => cut_last q255
  | 19, _ => cut_last q256
  | n + 20, h => absurd h (by omega)
theorem e235 (A0 : Nat) : A0 < 20 → ∃ s, denC (tabOf tab) 1000 (g235 A0) = some (.bool true, s) := fun hA => cut_on (q236 A0) (e236 A0 hA)
theorem y234 (X0 : Int) (X1 : Int) : ∀ n, n < 20 → ∃ s, denC (tabOf tab) 1000 (h234 X0 X1 (.ofNat n)) = some (.bool true, s) := fun A0 hA => cut_on (q235 X0 X1 A0) (e235 A0 hA)
theorem e234 (X0 : Int) (X1 : Int) : ∃ s, denC (tabOf tab) 1000 (g234 X0 X1) = some (.bool true, s) := by obtain ⟨n, hn, e⟩ := pickI_nat X1 (m := 20) (by decide); rw [(p234 X0 X1), show pickI X1 20 = Int.ofNat n from e]; exact (y234 X0 X1) n hn
theorem y1 (X0 : Int) (X1 : Int) : ∀ n, n < 20 → ∃ s, denC (tabOf tab) 1000 (h1 X0 X1 (.ofNat n)) = some (.bool true, s)
  | 0, _ => cut_on (q2 X0 X1) (e2 X0 X1)
  | 1, _ => cut_on (q5 X0 X1) (e5 X0 X1)
  | 2, _ => cut_on (q9 X0 X1) (e9 X0 X1)
  | 3, _ => cut_on (q14 X0 X1) (e14 X0 X1)
  | 4, _ => cut_on (q20 X0 X1) (e20 X0 X1)
  | 5, _ => cut_on (q27 X0 X1) (e27 X0 X1)
  | 6, _ => cut_on (q35 X0 X1) (e35 X0 X1)
  | 7, _ => cut_on (q44 X0 X1) (e44 X0 X1)
  | 8, _ => cut_on (q54 X0 X1) (e54 X0 X1)
  | 9, _ => cut_on (q65 X0 X1) (e65 X0 X1)
  | 10, _ => cut_on (q77 X0 X1) (e77 X0 X1)
  | 11, _ => cut_on (q90 X0 X1) (e90 X0 X1)
  | 12, _ => cut_on (q104 X0 X1) (e104 X0 X1)
  | 13, _ => cut_on (q119 X0 X1) (e119 X0 X1)
  | 14, _ => cut_on (q135 X0 X1) (e135 X0 X1)
  | 15, _ => cut_on (q152 X0 X1) (e152 X0 X1)
  | 16, _ => cut_on (q171 X0 X1) (e171 X0 X1)
  | 17, _ => cut_on (q191 X0 X1) (e191 X0 X1)
  | 18, _ => cut_on (q212 X0 X1) (e212 X0 X1)
  | 19, _ => cut_on (q234 X0 X1) (e234 X0 X1)
  | n + 20, h => absurd h (by omega)
theorem e1 (X0 : Int) (X1 : Int) : ∃ s, denC (tabOf tab) 1000 (g1 X0 X1) = some (.bool true, s) := by obtain ⟨n, hn, e⟩ := pickI_nat X0 (m := 20) (by decide); rw [(p1 X0 X1), show pickI X0 20 = Int.ofNat n from e]; exact (y1 X0 X1) n hn
theorem e0 (X0 : Int) (X1 : Int) : ∃ s, denC (tabOf tab) 1000 (g0 X0 X1) = some (.bool true, s) := by exact cut_on (q1 X0 X1) (e1 X0 X1)
theorem e260 : ∀ A0, A0 < 1 → ∃ s, denC (tabOf tab) 1000 (g260 A0) = some (.bool true, s)
  | 0, _ => cut_last q261
  | n + 1, h => absurd h (by omega)
theorem y259 (X0 : Int) (X1 : Int) : ∀ n, n < 1 → ∃ s, denC (tabOf tab) 1000 (h259 X0 X1 (.ofNat n)) = some (.bool true, s) := fun A0 hA => cut_on (q260 X0 X1 A0) (e260 A0 hA)
theorem e259 (X0 : Int) (X1 : Int) : ∃ s, denC (tabOf tab) 1000 (g259 X0 X1) = some (.bool true, s) := by obtain ⟨n, hn, e⟩ := pickI_nat X1 (m := 1) (by decide); rw [(p259 X0 X1), show pickI X1 1 = Int.ofNat n from e]; exact (y259 X0 X1) n hn
theorem e263 : ∀ A0, A0 < 2 → ∃ s, denC (tabOf tab) 1000 (g263 A0) = some (.bool true, s)
  | 0, _ => cut_last q264
  | 1, _ => cut_last q265
  | n + 2, h => absurd h (by omega)
theorem y262 (X0 : Int) (X1 : Int) : ∀ n, n < 2 → ∃ s, denC (tabOf tab) 1000 (h262 X0 X1 (.ofNat n)) = some (.bool true, s) := fun A0 hA => cut_on (q263 X0 X1 A0) (e263 A0 hA)
theorem e262 (X0 : Int) (X1 : Int) : ∃ s, denC (tabOf tab) 1000 (g262 X0 X1) = some (.bool true, s) := by obtain ⟨n, hn, e⟩ := pickI_nat X1 (m := 2) (by decide); rw [(p262 X0 X1), show pickI X1 2 = Int.ofNat n from e]; exact (y262 X0 X1) n hn
theorem e267 : ∀ A0, A0 < 3 → ∃ s, denC (tabOf tab) 1000 (g267 A0) = some (.bool true, s)
  | 0, _ => cut_last q268
  | 1, _ => cut_last q269
  | 2, _ => cut_last q270
  | n + 3, h => absurd h (by omega)
theorem y266 (X0 : Int) (X1 : Int) : ∀ n, n < 3 → ∃ s, denC (tabOf tab) 1000 (h266 X0 X1 (.ofNat n)) = some (.bool true, s) := fun A0 hA => cut_on (q267 X0 X1 A0) (e267 A0 hA)
theorem e266 (X0 : Int) (X1 : Int) : ∃ s, denC (tabOf tab) 1000 (g266 X0 X1) = some (.bool true, s) := by obtain ⟨n, hn, e⟩ := pickI_nat X1 (m := 3) (by decide); rw [(p266 X0 X1), show pickI X1 3 = Int.ofNat n from e]; exact (y266 X0 X1) n hn
theorem e272 : ∀ A0, A0 < 4 → ∃ s, denC (tabOf tab) 1000 (g272 A0) = some (.bool true, s)
  | 0, _ => cut_last q273
  | 1, _ => cut_last q274
  | 2, _ => cut_last q275
  | 3, _ => cut_last q276
  | n + 4, h => absurd h (by omega)
theorem y271 (X0 : Int) (X1 : Int) : ∀ n, n < 4 → ∃ s, denC (tabOf tab) 1000 (h271 X0 X1 (.ofNat n)) = some (.bool true, s) := fun A0 hA => cut_on (q272 X0 X1 A0) (e272 A0 hA)
theorem e271 (X0 : Int) (X1 : Int) : ∃ s, denC (tabOf tab) 1000 (g271 X0 X1) = some (.bool true, s) := by obtain ⟨n, hn, e⟩ := pickI_nat X1 (m := 4) (by decide); rw [(p271 X0 X1), show pickI X1 4 = Int.ofNat n from e]; exact (y271 X0 X1) n hn
theorem e278 : ∀ A0, A0 < 5 → ∃ s, denC (tabOf tab) 1000 (g278 A0) = some (.bool true, s)
  | 0, _ => cut_last q279
  | 1, _ => cut_last q280
  | 2, _ => cut_last q281
  | 3, _ => cut_last q282
  | 4, _ => cut_last q283
  | n + 5, h => absurd h (by omega)
theorem y277 (X0 : Int) (X1 : Int) : ∀ n, n < 5 → ∃ s, denC (tabOf tab) 1000 (h277 X0 X1 (.ofNat n)) = some (.bool true, s) := fun A0 hA => cut_on (q278 X0 X1 A0) (e278 A0 hA)
theorem e277 (X0 : Int) (X1 : Int) : ∃ s, denC (tabOf tab) 1000 (g277 X0 X1) = some (.bool true, s) := by obtain ⟨n, hn, e⟩ := pickI_nat X1 (m := 5) (by decide); rw [(p277 X0 X1), show pickI X1 5 = Int.ofNat n from e]; exact (y277 X0 X1) n hn
theorem e285 : ∀ A0, A0 < 6 → ∃ s, denC (tabOf tab) 1000 (g285 A0) = some (.bool true, s)
  | 0, _ => cut_last q286
  | 1, _ => cut_last q287
  | 2, _ => cut_last q288
  | 3, _ => cut_last q289
  | 4, _ => cut_last q290
  | 5, _ => cut_last q291
  | n + 6, h => absurd h (by omega)
theorem y284 (X0 : Int) (X1 : Int) : ∀ n, n < 6 → ∃ s, denC (tabOf tab) 1000 (h284 X0 X1 (.ofNat n)) = some (.bool true, s) := fun A0 hA => cut_on (q285 X0 X1 A0) (e285 A0 hA)
theorem e284 (X0 : Int) (X1 : Int) : ∃ s, denC (tabOf tab) 1000 (g284 X0 X1) = some (.bool true, s) := by obtain ⟨n, hn, e⟩ := pickI_nat X1 (m := 6) (by decide); rw [(p284 X0 X1), show pickI X1 6 = Int.ofNat n from e]; exact (y284 X0 X1) n hn
theorem e293 : ∀ A0, A0 < 7 → ∃ s, denC (tabOf tab) 1000 (g293 A0) = some (.bool true, s)
  | 0, _ => cut_last q294
  | 1, _ => cut_last q295
  | 2, _ => cut_last q296
  | 3, _ => cut_last q297
  | 4, _ => cut_last q298
  | 5, _ => cut_last q299
  | 6, _ => cut_last q300
  | n + 7, h => absurd h (by omega)
theorem y292 (X0 : Int) (X1 : Int) : ∀ n, n < 7 → ∃ s, denC (tabOf tab) 1000 (h292 X0 X1 (.ofNat n)) = some (.bool true, s) := fun A0 hA => cut_on (q293 X0 X1 A0) (e293 A0 hA)
theorem e292 (X0 : Int) (X1 : Int) : ∃ s, denC (tabOf tab) 1000 (g292 X0 X1) = some (.bool true, s) := by obtain ⟨n, hn, e⟩ := pickI_nat X1 (m := 7) (by decide); rw [(p292 X0 X1), show pickI X1 7 = Int.ofNat n from e]; exact (y292 X0 X1) n hn
theorem e302 : ∀ A0, A0 < 8 → ∃ s, denC (tabOf tab) 1000 (g302 A0) = some (.bool true, s)
  | 0, _ => cut_last q303
  | 1, _ => cut_last q304
  | 2, _ => cut_last q305
  | 3, _ => cut_last q306
  | 4, _ => cut_last q307
  | 5, _ => cut_last q308
  | 6, _ => cut_last q309
  | 7, _ => cut_last q310
  | n + 8, h => absurd h (by omega)
theorem y301 (X0 : Int) (X1 : Int) : ∀ n, n < 8 → ∃ s, denC (tabOf tab) 1000 (h301 X0 X1 (.ofNat n)) = some (.bool true, s) := fun A0 hA => cut_on (q302 X0 X1 A0) (e302 A0 hA)
theorem e301 (X0 : Int) (X1 : Int) : ∃ s, denC (tabOf tab) 1000 (g301 X0 X1) = some (.bool true, s) := by obtain ⟨n, hn, e⟩ := pickI_nat X1 (m := 8) (by decide); rw [(p301 X0 X1), show pickI X1 8 = Int.ofNat n from e]; exact (y301 X0 X1) n hn
theorem e312 : ∀ A0, A0 < 9 → ∃ s, denC (tabOf tab) 1000 (g312 A0) = some (.bool true, s)
  | 0, _ => cut_last q313
  | 1, _ => cut_last q314
  | 2, _ => cut_last q315
  | 3, _ => cut_last q316
  | 4, _ => cut_last q317
  | 5, _ => cut_last q318
  | 6, _ => cut_last q319
  | 7, _ => cut_last q320
  | 8, _ => cut_last q321
  | n + 9, h => absurd h (by omega)
theorem y311 (X0 : Int) (X1 : Int) : ∀ n, n < 9 → ∃ s, denC (tabOf tab) 1000 (h311 X0 X1 (.ofNat n)) = some (.bool true, s) := fun A0 hA => cut_on (q312 X0 X1 A0) (e312 A0 hA)
theorem e311 (X0 : Int) (X1 : Int) : ∃ s, denC (tabOf tab) 1000 (g311 X0 X1) = some (.bool true, s) := by obtain ⟨n, hn, e⟩ := pickI_nat X1 (m := 9) (by decide); rw [(p311 X0 X1), show pickI X1 9 = Int.ofNat n from e]; exact (y311 X0 X1) n hn
theorem e323 : ∀ A0, A0 < 10 → ∃ s, denC (tabOf tab) 1000 (g323 A0) = some (.bool true, s)
  | 0, _ => cut_last q324
  | 1, _ => cut_last q325
  | 2, _ => cut_last q326
  | 3, _ => cut_last q327
  | 4, _ => cut_last q328
  | 5, _ => cut_last q329
  | 6, _ => cut_last q330
  | 7, _ => cut_last q331
  | 8, _ => cut_last q332
  | 9, _ => cut_last q333
  | n + 10, h => absurd h (by omega)
theorem y322 (X0 : Int) (X1 : Int) : ∀ n, n < 10 → ∃ s, denC (tabOf tab) 1000 (h322 X0 X1 (.ofNat n)) = some (.bool true, s) := fun A0 hA => cut_on (q323 X0 X1 A0) (e323 A0 hA)
theorem e322 (X0 : Int) (X1 : Int) : ∃ s, denC (tabOf tab) 1000 (g322 X0 X1) = some (.bool true, s) := by obtain ⟨n, hn, e⟩ := pickI_nat X1 (m := 10) (by decide); rw [(p322 X0 X1), show pickI X1 10 = Int.ofNat n from e]; exact (y322 X0 X1) n hn
theorem e335 : ∀ A0, A0 < 11 → ∃ s, denC (tabOf tab) 1000 (g335 A0) = some (.bool true, s)
  | 0, _ => cut_last q336
  | 1, _ => cut_last q337
  | 2, _ => cut_last q338
  | 3, _ => cut_last q339
  | 4, _ => cut_last q340
  | 5, _ => cut_last q341
  | 6, _ => cut_last q342
  | 7, _ => cut_last q343
  | 8, _ => cut_last q344
  | 9, _ => cut_last q345
  | 10, _ => cut_last q346
  | n + 11, h => absurd h (by omega)
theorem y334 (X0 : Int) (X1 : Int) : ∀ n, n < 11 → ∃ s, denC (tabOf tab) 1000 (h334 X0 X1 (.ofNat n)) = some (.bool true, s) := fun A0 hA => cut_on (q335 X0 X1 A0) (e335 A0 hA)
theorem e334 (X0 : Int) (X1 : Int) : ∃ s, denC (tabOf tab) 1000 (g334 X0 X1) = some (.bool true, s) := by obtain ⟨n, hn, e⟩ := pickI_nat X1 (m := 11) (by decide); rw [(p334 X0 X1), show pickI X1 11 = Int.ofNat n from e]; exact (y334 X0 X1) n hn
theorem e348 : ∀ A0, A0 < 12 → ∃ s, denC (tabOf tab) 1000 (g348 A0) = some (.bool true, s)
  | 0, _ => cut_last q349
  | 1, _ => cut_last q350
  | 2, _ => cut_last q351
  | 3, _ => cut_last q352
  | 4, _ => cut_last q353
  | 5, _ => cut_last q354
  | 6, _ => cut_last q355
  | 7, _ => cut_last q356
  | 8, _ => cut_last q357
  | 9, _ => cut_last q358
  | 10, _ => cut_last q359
  | 11, _ => cut_last q360
  | n + 12, h => absurd h (by omega)
theorem y347 (X0 : Int) (X1 : Int) : ∀ n, n < 12 → ∃ s, denC (tabOf tab) 1000 (h347 X0 X1 (.ofNat n)) = some (.bool true, s) := fun A0 hA => cut_on (q348 X0 X1 A0) (e348 A0 hA)
theorem e347 (X0 : Int) (X1 : Int) : ∃ s, denC (tabOf tab) 1000 (g347 X0 X1) = some (.bool true, s) := by obtain ⟨n, hn, e⟩ := pickI_nat X1 (m := 12) (by decide); rw [(p347 X0 X1), show pickI X1 12 = Int.ofNat n from e]; exact (y347 X0 X1) n hn
theorem e362 : ∀ A0, A0 < 13 → ∃ s, denC (tabOf tab) 1000 (g362 A0) = some (.bool true, s)
  | 0, _ => cut_last q363
  | 1, _ => cut_last q364
  | 2, _ => cut_last q365
  | 3, _ => cut_last q366
  | 4, _ => cut_last q367
  | 5, _ => cut_last q368
  | 6, _ => cut_last q369
  | 7, _ => cut_last q370
  | 8, _ => cut_last q371
  | 9, _ => cut_last q372
  | 10, _ => cut_last q373
  | 11, _ => cut_last q374
  | 12, _ => cut_last q375
  | n + 13, h => absurd h (by omega)
theorem y361 (X0 : Int) (X1 : Int) : ∀ n, n < 13 → ∃ s, denC (tabOf tab) 1000 (h361 X0 X1 (.ofNat n)) = some (.bool true, s) := fun A0 hA => cut_on (q362 X0 X1 A0) (e362 A0 hA)
theorem e361 (X0 : Int) (X1 : Int) : ∃ s, denC (tabOf tab) 1000 (g361 X0 X1) = some (.bool true, s) := by obtain ⟨n, hn, e⟩ := pickI_nat X1 (m := 13) (by decide); rw [(p361 X0 X1), show pickI X1 13 = Int.ofNat n from e]; exact (y361 X0 X1) n hn
theorem e377 : ∀ A0, A0 < 14 → ∃ s, denC (tabOf tab) 1000 (g377 A0) = some (.bool true, s)
  | 0, _ => cut_last q378
  | 1, _ => cut_last q379
  | 2, _ => cut_last q380
  | 3, _ => cut_last q381
  | 4, _ => cut_last q382
  | 5, _ => cut_last q383
  | 6, _ => cut_last q384
  | 7, _ => cut_last q385
  | 8, _ => cut_last q386
  | 9, _ => cut_last q387
  | 10, _ => cut_last q388
  | 11, _ => cut_last q389
  | 12, _ => cut_last q390
  | 13, _ => cut_last q391
  | n + 14, h => absurd h (by omega)
theorem y376 (X0 : Int) (X1 : Int) : ∀ n, n < 14 → ∃ s, denC (tabOf tab) 1000 (h376 X0 X1 (.ofNat n)) = some (.bool true, s) := fun A0 hA => cut_on (q377 X0 X1 A0) (e377 A0 hA)
theorem e376 (X0 : Int) (X1 : Int) : ∃ s, denC (tabOf tab) 1000 (g376 X0 X1) = some (.bool true, s) := by obtain ⟨n, hn, e⟩ := pickI_nat X1 (m := 14) (by decide); rw [(p376 X0 X1), show pickI X1 14 = Int.ofNat n from e]; exact (y376 X0 X1) n hn
theorem e393 : ∀ A0, A0 < 15 → ∃ s, denC (tabOf tab) 1000 (g393 A0) = some (.bool true, s)
  | 0, _ => cut_last q394
  | 1, _ => cut_last q395
  | 2, _ => cut_last q396
  | 3, _ => cut_last q397
  | 4, _ => cut_last q398
  | 5, _ => cut_last q399
  | 6, _ => cut_last q400
  | 7, _ => cut_last q401
  | 8, _ => cut_last q402
  | 9, _ => cut_last q403
  | 10, _ => cut_last q404
  | 11, _ => cut_last q405
  | 12, _ => cut_last q406
  | 13, _ => cut_last q407
  | 14, _ => cut_last q408
  | n + 15, h => absurd h (by omega)
theorem y392 (X0 : Int) (X1 : Int) : ∀ n, n < 15 → ∃ s, denC (tabOf tab) 1000 (h392 X0 X1 (.ofNat n)) = some (.bool true, s) := fun A0 hA => cut_on (q393 X0 X1 A0) (e393 A0 hA)
theorem e392 (X0 : Int) (X1 : Int) : ∃ s, denC (tabOf tab) 1000 (g392 X0 X1) = some (.bool true, s) := by obtain ⟨n, hn, e⟩ := pickI_nat X1 (m := 15) (by decide); rw [(p392 X0 X1), show pickI X1 15 = Int.ofNat n from e]; exact (y392 X0 X1) n hn
theorem e411 : ∀ A0, A0 < 16 → ∃ s, denC (tabOf tab) 1000 (g411 A0) = some (.bool true, s)
  | 0, _ => cut_last q412
  | 1, _ => cut_last q413
  | 2, _ => cut_last q414
  | 3, _ => cut_last q415
  | 4, _ => cut_last q416
  | 5, _ => cut_last q417
  | 6, _ => cut_last q418
  | 7, _ => cut_last q419
  | 8, _ => cut_last q420
  | 9, _ => cut_last q421
  | 10, _ => cut_last q422
  | 11, _ => cut_last q423
  | 12, _ => cut_last q424
  | 13, _ => cut_last q425
  | 14, _ => cut_last q426
  | 15, _ => cut_last q427
  | n + 16, h => absurd h (by omega)
theorem e410 (A0 : Nat) : A0 < 16 → ∃ s, denC (tabOf tab) 1000 (g410 A0) = some (.bool true, s) := fun hA => cut_on (q411 A0) (e411 A0 hA)
theorem y409 (X0 : Int) (X1 : Int) : ∀ n, n < 16 → ∃ s, denC (tabOf tab) 1000 (h409 X0 X1 (.ofNat n)) = some (.bool true, s) := fun A0 hA => cut_on (q410 X0 X1 A0) (e410 A0 hA)
theorem e409 (X0 : Int) (X1 : Int) : ∃ s, denC (tabOf tab) 1000 (g409 X0 X1) = some (.bool true, s) := by obtain ⟨n, hn, e⟩ := pickI_nat X1 (m := 16) (by decide); rw [(p409 X0 X1), show pickI X1 16 = Int.ofNat n from e]; exact (y409 X0 X1) n hn
theorem e430 : ∀ A0, A0 < 17 → ∃ s, denC (tabOf tab) 1000 (g430 A0) = some (.bool true, s)
  | 0, _ => cut_last q431
  | 1, _ => cut_last q432
  | 2, _ => cut_last q433
  | 3, _ => cut_last q434
  | 4, _ => cut_last q435
  | 5, _ => cut_last q436
  | 6, _ => cut_last q437
  | 7, _ => cut_last q438
  | 8, _ => cut_last q439
  | 9, _ => cut_last q440
  | 10, _ => cut_last q441
  | 11, _ => cut_last q442
  | 12, _ => cut_last q443
  | 13, _ => cut_last q444
  | 14, _ => cut_last q445
  | 15, _ => cut_last q446
  | 16, _ => cut_last q447
  | n + 17, h => absurd h (by omega)
theorem e429 (A0 : Nat) : A0 < 17 → ∃ s, denC (tabOf tab) 1000 (g429 A0) = some (.bool true, s) := fun hA => cut_on (q430 A0) (e430 A0 hA)
theorem y428 (X0 : Int) (X1 : Int) : ∀ n, n < 17 → ∃ s, denC (tabOf tab) 1000 (h428 X0 X1 (.ofNat n)) = some (.bool true, s) := fun A0 hA => cut_on (q429 X0 X1 A0) (e429 A0 hA)
theorem e428 (X0 : Int) (X1 : Int) : ∃ s, denC (tabOf tab) 1000 (g428 X0 X1) = some (.bool true, s) := by obtain ⟨n, hn, e⟩ := pickI_nat X1 (m := 17) (by decide); rw [(p428 X0 X1), show pickI X1 17 = Int.ofNat n from e]; exact (y428 X0 X1) n hn
theorem e450 : ∀ A0, A0 < 18 → ∃ s, denC (tabOf tab) 1000 (g450 A0) = some (.bool true, s)
  | 0, _ => cut_last q451
  | 1, _ => cut_last q452
  | 2, _ => cut_last q453
  | 3, _ => cut_last q454
  | 4, _ => cut_last q455
  | 5, _ => cut_last q456
  | 6, _ => cut_last q457
  | 7, _ => cut_last q458
  | 8, _ => cut_last q459
  | 9, _ => cut_last q460
  | 10, _ => cut_last q461
  | 11, _ => cut_last q462
  | 12, _ => cut_last q463
  | 13, _ => cut_last q464
  | 14, _ => cut_last q465
  | 15, _ => cut_last q466
  | 16, _ => cut_last q467
  | 17, _ => cut_last q468
  | n + 18, h => absurd h (by omega)
theorem e449 (A0 : Nat) : A0 < 18 → ∃ s, denC (tabOf tab) 1000 (g449 A0) = some (.bool true, s) := fun hA => cut_on (q450 A0) (e450 A0 hA)
theorem y448 (X0 : Int) (X1 : Int) : ∀ n, n < 18 → ∃ s, denC (tabOf tab) 1000 (h448 X0 X1 (.ofNat n)) = some (.bool true, s) := fun A0 hA => cut_on (q449 X0 X1 A0) (e449 A0 hA)
theorem e448 (X0 : Int) (X1 : Int) : ∃ s, denC (tabOf tab) 1000 (g448 X0 X1) = some (.bool true, s) := by obtain ⟨n, hn, e⟩ := pickI_nat X1 (m := 18) (by decide); rw [(p448 X0 X1), show pickI X1 18 = Int.ofNat n from e]; exact (y448 X0 X1) n hn
theorem e471 : ∀ A0, A0 < 19 → ∃ s, denC (tabOf tab) 1000 (g471 A0) = some (.bool true, s)
  | 0, _ => cut_last q472
  | 1, _ => cut_last q473
  | 2, _ => cut_last q474
  | 3, _ => cut_last q475
  | 4, _ => cut_last q476
  | 5, _ => cut_last q477
  | 6, _ => cut_last q478
  | 7, _ => cut_last q479
  | 8, _ => cut_last q480
  | 9, _ => cut_last q481
  | 10, _ => cut_last q482
  | 11, _ => cut_last q483
  | 12, _ => cut_last q484
  | 13, _ => cut_last q485
  | 14, _ => cut_last q486
  | 15, _ => cut_last q487
  | 16, _ => cut_last q488
  | 17, _ => cut_last q489
  | 18, _ => cut_last q490
  | n + 19, h => absurd h (by omega)
theorem e470 (A0 : Nat) : A0 < 19 → ∃ s, denC (tabOf tab) 1000 (g470 A0) = some (.bool true, s) := fun hA => cut_on (q471 A0) (e471 A0 hA)
theorem y469 (X0 : Int) (X1 : Int) : ∀ n, n < 19 → ∃ s, denC (tabOf tab) 1000 (h469 X0 X1 (.ofNat n)) = some (.bool true, s) := fun A0 hA => cut_on (q470 X0 X1 A0) (e470 A0 hA)
theorem e469 (X0 : Int) (X1 : Int) : ∃ s, denC (tabOf tab) 1000 (g469 X0 X1) = some (.bool true, s) := by obtain ⟨n, hn, e⟩ := pickI_nat X1 (m := 19) (by decide); rw [(p469 X0 X1), show pickI X1 19 = Int.ofNat n from e]; exact (y469 X0 X1) n hn
theorem e493 : ∀ A0, A0 < 20 → ∃ s, denC (tabOf tab) 1000 (g493 A0) = some (.bool true, s)
  | 0, _ => cut_last q494
  | 1, _ => cut_last q495
  | 2, _ => cut_last q496
  | 3, _ => cut_last q497
  | 4, _ => cut_last q498
  | 5, _ => cut_last q499
  | 6, _ => cut_last q500
  | 7, _ => cut_last q501
  | 8, _ => cut_last q502
  | 9, _ => cut_last q503
  | 10, _ => cut_last q504
  | 11, _ => cut_last q505
  | 12, _ => cut_last q506
  | 13, _ => cut_last q507
  | 14, _ => cut_last q508
  | 15, _ => cut_last q509
  | 16, _ => cut_last q510
  | 17, _ => cut_last q511
  | 18, _ => cut_last q512
  | 19, _ => cut_last q513
  | n + 20, h => absurd h (by omega)
theorem e492 (A0 : Nat) : A0 < 20 → ∃ s, denC (tabOf tab) 1000 (g492 A0) = some (.bool true, s) := fun hA => cut_on (q493 A0) (e493 A0 hA)
theorem y491 (X0 : Int) (X1 : Int) : ∀ n, n < 20 → ∃ s, denC (tabOf tab) 1000 (h491 X0 X1 (.ofNat n)) = some (.bool true, s) := fun A0 hA => cut_on (q492 X0 X1 A0) (e492 A0 hA)
theorem e491 (X0 : Int) (X1 : Int) : ∃ s, denC (tabOf tab) 1000 (g491 X0 X1) = some (.bool true, s) := by obtain ⟨n, hn, e⟩ := pickI_nat X1 (m := 20) (by decide); rw [(p491 X0 X1), show pickI X1 20 = Int.ofNat n from e]; exact (y491 X0 X1) n hn
theorem y258 (X0 : Int) (X1 : Int) : ∀ n, n < 20 → ∃ s, denC (tabOf tab) 1000 (h258 X0 X1 (.ofNat n)) = some (.bool true, s)
  | 0, _ => cut_on (q259 X0 X1) (e259 X0 X1)
  | 1, _ => cut_on (q262 X0 X1) (e262 X0 X1)
  | 2, _ => cut_on (q266 X0 X1) (e266 X0 X1)
  | 3, _ => cut_on (q271 X0 X1) (e271 X0 X1)
  | 4, _ => cut_on (q277 X0 X1) (e277 X0 X1)
  | 5, _ => cut_on (q284 X0 X1) (e284 X0 X1)
  | 6, _ => cut_on (q292 X0 X1) (e292 X0 X1)
  | 7, _ => cut_on (q301 X0 X1) (e301 X0 X1)
  | 8, _ => cut_on (q311 X0 X1) (e311 X0 X1)
  | 9, _ => cut_on (q322 X0 X1) (e322 X0 X1)
  | 10, _ => cut_on (q334 X0 X1) (e334 X0 X1)
  | 11, _ => cut_on (q347 X0 X1) (e347 X0 X1)
  | 12, _ => cut_on (q361 X0 X1) (e361 X0 X1)
  | 13, _ => cut_on (q376 X0 X1) (e376 X0 X1)
  | 14, _ => cut_on (q392 X0 X1) (e392 X0 X1)
  | 15, _ => cut_on (q409 X0 X1) (e409 X0 X1)
  | 16, _ => cut_on (q428 X0 X1) (e428 X0 X1)
  | 17, _ => cut_on (q448 X0 X1) (e448 X0 X1)
  | 18, _ => cut_on (q469 X0 X1) (e469 X0 X1)
  | 19, _ => cut_on (q491 X0 X1) (e491 X0 X1)
  | n + 20, h => absurd h (by omega)
theorem e258 (X0 : Int) (X1 : Int) : ∃ s, denC (tabOf tab) 1000 (g258 X0 X1) = some (.bool true, s) := by obtain ⟨n, hn, e⟩ := pickI_nat X0 (m := 20) (by decide); rw [(p258 X0 X1), show pickI X0 20 = Int.ofNat n from e]; exact (y258 X0 X1) n hn
theorem e257 (X0 : Int) (X1 : Int) : ∃ s, denC (tabOf tab) 1000 (g257 X0 X1) = some (.bool true, s) := by exact cut_on (q258 X0 X1) (e258 X0 X1)
theorem root0 (X0 : Int) (X1 : Int) : ∃ s, denC (tabOf tab) 1000 (g0 X0 X1) = some (.bool true, s) := (e0 X0 X1)
theorem root1 (X0 : Int) (X1 : Int) : ∃ s, denC (tabOf tab) 1000 (g257 X0 X1) = some (.bool true, s) := (e257 X0 X1)
end Go.Proofs.Ytocblgajooeehaa.Lit
