/-
  A long run: its parts joined.
-/
import Derived.Test.YtocblgajooeehaaCut1
import Derived.Test.YtocblgajooeehaaCut2
import Derived.Test.YtocblgajooeehaaCut3
import Derived.Test.YtocblgajooeehaaCut4
import Derived.Test.YtocblgajooeehaaCut5
import Derived.Test.YtocblgajooeehaaCut6
import Derived.Test.YtocblgajooeehaaCut7
import Derived.Test.YtocblgajooeehaaCut8
import Derived.Test.YtocblgajooeehaaCut9
import Derived.Test.YtocblgajooeehaaCut10
import Derived.Test.YtocblgajooeehaaCut11
namespace Go.Proofs.Ytocblgajooeehaa.Lit
open Go Go.Vabs Go.Vabs.Ph
set_option maxRecDepth 100000
set_option linter.unusedVariables false
theorem p1 (X0 : Int) : denC (tabOf tab) 1000 (g1 X0) = denC (tabOf tab) 1000 (h1 X0 (pickI X0 20)) := by exact pick_on (g := 22) (fn := c22) (a := (.t (pos 0))) (b := (.c (iV 20))) (dst := pos 13) (os := (dropO 0 (opsOf (subC c5.code [1, 0])))) (os' := (dropO 1 (opsOf (subC c5.code [1, 0])))) (f := (f1 X0)) (x := X0) (m := 20) (by kernel_rfl) (by kernel_rfl) (by kernel_rfl) (by kernel_rfl) (by decide) (by decide)
theorem e2 : ∃ s, denC (tabOf tab) 1000 g2 = some (.bool true, s) := by exact cut_last q3
theorem e4 : ∃ s, denC (tabOf tab) 1000 g4 = some (.bool true, s) := by exact cut_last q5
theorem e6 : ∃ s, denC (tabOf tab) 1000 g6 = some (.bool true, s) := by exact cut_last q7
theorem e8 : ∃ s, denC (tabOf tab) 1000 g8 = some (.bool true, s) := by exact cut_last q9
theorem e10 : ∃ s, denC (tabOf tab) 1000 g10 = some (.bool true, s) := by exact cut_last q11
theorem e13 : ∃ s, denC (tabOf tab) 1000 g13 = some (.bool true, s) := by exact cut_last q14
theorem e12 : ∃ s, denC (tabOf tab) 1000 g12 = some (.bool true, s) := by exact cut_on q13 e13
theorem e18 : ∃ s, denC (tabOf tab) 1000 g18 = some (.bool true, s) := by exact cut_last q19
theorem e17 : ∃ s, denC (tabOf tab) 1000 g17 = some (.bool true, s) := by exact cut_on q18 e18
theorem e16 : ∃ s, denC (tabOf tab) 1000 g16 = some (.bool true, s) := by exact cut_on q17 e17
theorem e15 : ∃ s, denC (tabOf tab) 1000 g15 = some (.bool true, s) := by exact cut_on q16 e16
theorem e25 : ∃ s, denC (tabOf tab) 1000 g25 = some (.bool true, s) := by exact cut_last q26
theorem e24 : ∃ s, denC (tabOf tab) 1000 g24 = some (.bool true, s) := by exact cut_on q25 e25
theorem e23 : ∃ s, denC (tabOf tab) 1000 g23 = some (.bool true, s) := by exact cut_on q24 e24
theorem e22 : ∃ s, denC (tabOf tab) 1000 g22 = some (.bool true, s) := by exact cut_on q23 e23
theorem e21 : ∃ s, denC (tabOf tab) 1000 g21 = some (.bool true, s) := by exact cut_on q22 e22
theorem e20 : ∃ s, denC (tabOf tab) 1000 g20 = some (.bool true, s) := by exact cut_on q21 e21
theorem e32 : ∃ s, denC (tabOf tab) 1000 g32 = some (.bool true, s) := by exact cut_last q33
theorem e31 : ∃ s, denC (tabOf tab) 1000 g31 = some (.bool true, s) := by exact cut_on q32 e32
theorem e30 : ∃ s, denC (tabOf tab) 1000 g30 = some (.bool true, s) := by exact cut_on q31 e31
theorem e29 : ∃ s, denC (tabOf tab) 1000 g29 = some (.bool true, s) := by exact cut_on q30 e30
theorem e28 : ∃ s, denC (tabOf tab) 1000 g28 = some (.bool true, s) := by exact cut_on q29 e29
theorem e27 : ∃ s, denC (tabOf tab) 1000 g27 = some (.bool true, s) := by exact cut_on q28 e28
theorem e39 : ∃ s, denC (tabOf tab) 1000 g39 = some (.bool true, s) := by exact cut_last q40
theorem e38 : ∃ s, denC (tabOf tab) 1000 g38 = some (.bool true, s) := by exact cut_on q39 e39
theorem e37 : ∃ s, denC (tabOf tab) 1000 g37 = some (.bool true, s) := by exact cut_on q38 e38
theorem e36 : ∃ s, denC (tabOf tab) 1000 g36 = some (.bool true, s) := by exact cut_on q37 e37
theorem e35 : ∃ s, denC (tabOf tab) 1000 g35 = some (.bool true, s) := by exact cut_on q36 e36
theorem e34 : ∃ s, denC (tabOf tab) 1000 g34 = some (.bool true, s) := by exact cut_on q35 e35
theorem e46 : ∃ s, denC (tabOf tab) 1000 g46 = some (.bool true, s) := by exact cut_last q47
theorem e45 : ∃ s, denC (tabOf tab) 1000 g45 = some (.bool true, s) := by exact cut_on q46 e46
theorem e44 : ∃ s, denC (tabOf tab) 1000 g44 = some (.bool true, s) := by exact cut_on q45 e45
theorem e43 : ∃ s, denC (tabOf tab) 1000 g43 = some (.bool true, s) := by exact cut_on q44 e44
theorem e42 : ∃ s, denC (tabOf tab) 1000 g42 = some (.bool true, s) := by exact cut_on q43 e43
theorem e41 : ∃ s, denC (tabOf tab) 1000 g41 = some (.bool true, s) := by exact cut_on q42 e42
theorem e53 : ∃ s, denC (tabOf tab) 1000 g53 = some (.bool true, s) := by exact cut_last q54
theorem e52 : ∃ s, denC (tabOf tab) 1000 g52 = some (.bool true, s) := by exact cut_on q53 e53
theorem e51 : ∃ s, denC (tabOf tab) 1000 g51 = some (.bool true, s) := by exact cut_on q52 e52
theorem e50 : ∃ s, denC (tabOf tab) 1000 g50 = some (.bool true, s) := by exact cut_on q51 e51
theorem e49 : ∃ s, denC (tabOf tab) 1000 g49 = some (.bool true, s) := by exact cut_on q50 e50
theorem e48 : ∃ s, denC (tabOf tab) 1000 g48 = some (.bool true, s) := by exact cut_on q49 e49
theorem e60 : ∃ s, denC (tabOf tab) 1000 g60 = some (.bool true, s) := by exact cut_last q61
theorem e59 : ∃ s, denC (tabOf tab) 1000 g59 = some (.bool true, s) := by exact cut_on q60 e60
theorem e58 : ∃ s, denC (tabOf tab) 1000 g58 = some (.bool true, s) := by exact cut_on q59 e59
theorem e57 : ∃ s, denC (tabOf tab) 1000 g57 = some (.bool true, s) := by exact cut_on q58 e58
theorem e56 : ∃ s, denC (tabOf tab) 1000 g56 = some (.bool true, s) := by exact cut_on q57 e57
theorem e55 : ∃ s, denC (tabOf tab) 1000 g55 = some (.bool true, s) := by exact cut_on q56 e56
theorem e67 : ∃ s, denC (tabOf tab) 1000 g67 = some (.bool true, s) := by exact cut_last q68
theorem e66 : ∃ s, denC (tabOf tab) 1000 g66 = some (.bool true, s) := by exact cut_on q67 e67
theorem e65 : ∃ s, denC (tabOf tab) 1000 g65 = some (.bool true, s) := by exact cut_on q66 e66
theorem e64 : ∃ s, denC (tabOf tab) 1000 g64 = some (.bool true, s) := by exact cut_on q65 e65
theorem e63 : ∃ s, denC (tabOf tab) 1000 g63 = some (.bool true, s) := by exact cut_on q64 e64
theorem e62 : ∃ s, denC (tabOf tab) 1000 g62 = some (.bool true, s) := by exact cut_on q63 e63
theorem e74 : ∃ s, denC (tabOf tab) 1000 g74 = some (.bool true, s) := by exact cut_last q75
theorem e73 : ∃ s, denC (tabOf tab) 1000 g73 = some (.bool true, s) := by exact cut_on q74 e74
theorem e72 : ∃ s, denC (tabOf tab) 1000 g72 = some (.bool true, s) := by exact cut_on q73 e73
theorem e71 : ∃ s, denC (tabOf tab) 1000 g71 = some (.bool true, s) := by exact cut_on q72 e72
theorem e70 : ∃ s, denC (tabOf tab) 1000 g70 = some (.bool true, s) := by exact cut_on q71 e71
theorem e69 : ∃ s, denC (tabOf tab) 1000 g69 = some (.bool true, s) := by exact cut_on q70 e70
theorem e82 : ∃ s, denC (tabOf tab) 1000 g82 = some (.bool true, s) := by exact cut_last q83
theorem e81 : ∃ s, denC (tabOf tab) 1000 g81 = some (.bool true, s) := by exact cut_on q82 e82
theorem e80 : ∃ s, denC (tabOf tab) 1000 g80 = some (.bool true, s) := by exact cut_on q81 e81
theorem e79 : ∃ s, denC (tabOf tab) 1000 g79 = some (.bool true, s) := by exact cut_on q80 e80
theorem e78 : ∃ s, denC (tabOf tab) 1000 g78 = some (.bool true, s) := by exact cut_on q79 e79
theorem e77 : ∃ s, denC (tabOf tab) 1000 g77 = some (.bool true, s) := by exact cut_on q78 e78
theorem e76 : ∃ s, denC (tabOf tab) 1000 g76 = some (.bool true, s) := by exact cut_on q77 e77
theorem e90 : ∃ s, denC (tabOf tab) 1000 g90 = some (.bool true, s) := by exact cut_last q91
theorem e89 : ∃ s, denC (tabOf tab) 1000 g89 = some (.bool true, s) := by exact cut_on q90 e90
theorem e88 : ∃ s, denC (tabOf tab) 1000 g88 = some (.bool true, s) := by exact cut_on q89 e89
theorem e87 : ∃ s, denC (tabOf tab) 1000 g87 = some (.bool true, s) := by exact cut_on q88 e88
theorem e86 : ∃ s, denC (tabOf tab) 1000 g86 = some (.bool true, s) := by exact cut_on q87 e87
theorem e85 : ∃ s, denC (tabOf tab) 1000 g85 = some (.bool true, s) := by exact cut_on q86 e86
theorem e84 : ∃ s, denC (tabOf tab) 1000 g84 = some (.bool true, s) := by exact cut_on q85 e85
theorem e98 : ∃ s, denC (tabOf tab) 1000 g98 = some (.bool true, s) := by exact cut_last q99
theorem e97 : ∃ s, denC (tabOf tab) 1000 g97 = some (.bool true, s) := by exact cut_on q98 e98
theorem e96 : ∃ s, denC (tabOf tab) 1000 g96 = some (.bool true, s) := by exact cut_on q97 e97
theorem e95 : ∃ s, denC (tabOf tab) 1000 g95 = some (.bool true, s) := by exact cut_on q96 e96
theorem e94 : ∃ s, denC (tabOf tab) 1000 g94 = some (.bool true, s) := by exact cut_on q95 e95
theorem e93 : ∃ s, denC (tabOf tab) 1000 g93 = some (.bool true, s) := by exact cut_on q94 e94
theorem e92 : ∃ s, denC (tabOf tab) 1000 g92 = some (.bool true, s) := by exact cut_on q93 e93
theorem e106 : ∃ s, denC (tabOf tab) 1000 g106 = some (.bool true, s) := by exact cut_last q107
theorem e105 : ∃ s, denC (tabOf tab) 1000 g105 = some (.bool true, s) := by exact cut_on q106 e106
theorem e104 : ∃ s, denC (tabOf tab) 1000 g104 = some (.bool true, s) := by exact cut_on q105 e105
theorem e103 : ∃ s, denC (tabOf tab) 1000 g103 = some (.bool true, s) := by exact cut_on q104 e104
theorem e102 : ∃ s, denC (tabOf tab) 1000 g102 = some (.bool true, s) := by exact cut_on q103 e103
theorem e101 : ∃ s, denC (tabOf tab) 1000 g101 = some (.bool true, s) := by exact cut_on q102 e102
theorem e100 : ∃ s, denC (tabOf tab) 1000 g100 = some (.bool true, s) := by exact cut_on q101 e101
theorem e114 : ∃ s, denC (tabOf tab) 1000 g114 = some (.bool true, s) := by exact cut_last q115
theorem e113 : ∃ s, denC (tabOf tab) 1000 g113 = some (.bool true, s) := by exact cut_on q114 e114
theorem e112 : ∃ s, denC (tabOf tab) 1000 g112 = some (.bool true, s) := by exact cut_on q113 e113
theorem e111 : ∃ s, denC (tabOf tab) 1000 g111 = some (.bool true, s) := by exact cut_on q112 e112
theorem e110 : ∃ s, denC (tabOf tab) 1000 g110 = some (.bool true, s) := by exact cut_on q111 e111
theorem e109 : ∃ s, denC (tabOf tab) 1000 g109 = some (.bool true, s) := by exact cut_on q110 e110
theorem e108 : ∃ s, denC (tabOf tab) 1000 g108 = some (.bool true, s) := by exact cut_on q109 e109
theorem y1 (X0 : Int) : ∀ n, n < 20 → ∃ s, denC (tabOf tab) 1000 (h1 X0 (.ofNat n)) = some (.bool true, s)
  | 0, _ => cut_on (q2 X0) e2
  | 1, _ => cut_on (q4 X0) e4
  | 2, _ => cut_on (q6 X0) e6
  | 3, _ => cut_on (q8 X0) e8
  | 4, _ => cut_on (q10 X0) e10
  | 5, _ => cut_on (q12 X0) e12
  | 6, _ => cut_on (q15 X0) e15
  | 7, _ => cut_on (q20 X0) e20
  | 8, _ => cut_on (q27 X0) e27
  | 9, _ => cut_on (q34 X0) e34
  | 10, _ => cut_on (q41 X0) e41
  | 11, _ => cut_on (q48 X0) e48
  | 12, _ => cut_on (q55 X0) e55
  | 13, _ => cut_on (q62 X0) e62
  | 14, _ => cut_on (q69 X0) e69
  | 15, _ => cut_on (q76 X0) e76
  | 16, _ => cut_on (q84 X0) e84
  | 17, _ => cut_on (q92 X0) e92
  | 18, _ => cut_on (q100 X0) e100
  | 19, _ => cut_on (q108 X0) e108
  | n + 20, h => absurd h (by omega)
theorem e1 (X0 : Int) : ∃ s, denC (tabOf tab) 1000 (g1 X0) = some (.bool true, s) := by obtain ⟨n, hn, e⟩ := pickI_nat X0 (m := 20) (by decide); rw [(p1 X0), show pickI X0 20 = Int.ofNat n from e]; exact (y1 X0) n hn
theorem e0 (X0 : Int) : ∃ s, denC (tabOf tab) 1000 (g0 X0) = some (.bool true, s) := by exact cut_on (q1 X0) (e1 X0)
theorem root0 (X0 : Int) : ∃ s, denC (tabOf tab) 1000 (g0 X0) = some (.bool true, s) := (e0 X0)
end Go.Proofs.Ytocblgajooeehaa.Lit
