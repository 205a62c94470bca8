/-
  No cell of these rows narrows 'for every input' (looked for: loops, veiled, ifaces, maps, wideKeys, modest, calm, conditions, laid).
  DERIVED. THE GIVEN ROWS OF THIS SEAT. 4 by the template 'for every input the law returns true; each argument reads behind the call as it read before'; 0 by the template 'total and deterministic' (their statements: YtefgofmjfaobpaaTotals.lean).
  GIVEN WITH THE SEED: the statements are not yours to turn. If you find one false, say at which input.
  Laid BY PROGRAM, IN A SANDBOX (cutbox-rows.mjs): the forced cells as the released guide's own fill.sh prints them over the translation d08147e732fac6cc… (all of the seat's roots in one cut). By AI agents, Wed Nov 11 2026. No macro, syntax, notation, axiom, sorry.
-/
import Derived.Test.YtefgofmjfaobpaaChecked
import GoSem.Claim
import GoSem.ClaimJoined
import GoSem.ClaimMapViews
import Derived.JoinedTies
import Derived.KernelRfl
namespace Go.Proofs.Ytefgofmjfaobpaa
/- THE CELL 'sum', in the pinned program and in every row, IS THE sha256 OF THE DUMP (.gsa) THAT YtefgofmjfaobpaaProg.lean LOADS. Nothing in Lean hashes anything: it is a label: what it is worth is what the hold of that sum in a sandbox is worth. -/
noncomputable def Try.pinned : Pinned := { name := "ytefgofmjfaobpaa", sum := "d08147e732fac6cc18c4bdbf7f03c990391a5c8cfc668cc7eef12628456b7485", checked := Try.checked }
namespace Rows
def none {H : Type} : Left H := { results := [], args := [] }

/-- 'versallaw20.LineKnown': WHATEVER THE INPUT: true; the input reads as it did. -/
def lineKnownSpec : ChangeSpec := { name := "lineKnown", fn := fun _ => fun
  | [] => { results := [.lit (.bool true)], args := [] }
  | _ => none }
def lineKnownRow : OpenClaim := { program := "ytefgofmjfaobpaa", sum := "d08147e732fac6cc18c4bdbf7f03c990391a5c8cfc668cc7eef12628456b7485", func := "versal/versallaw20.LineKnown", spec := "lineKnown", unfollowed := true, recurses := true, apart := false }
def LineKnownSaid : Prop := lineKnownRow.holds Try.pinned (OpenSpec.ofChange lineKnownSpec)

/-- ITS FALSE NEIGHBOUR: 'it returns false'. Refute it at one input. -/
def lineKnownWrong : ChangeSpec := { name := "lineKnown", fn := fun _ => fun
  | [] => { results := [.lit (.bool false)], args := [] }
  | _ => none }
def LineKnownWrongFalsely : Prop := lineKnownRow.holds Try.pinned (OpenSpec.ofChange lineKnownWrong)

/-- 'versallaw20.LineTells': WHATEVER THE INPUT: true; the input reads as it did. -/
def lineTellsSpec : ChangeSpec := { name := "lineTells", fn := fun _ => fun
  | [d1, d2, d3, d4] => { results := [.lit (.bool true)], args := [d1, d2, d3, d4] }
  | _ => none }
def lineTellsRow : OpenClaim := { program := "ytefgofmjfaobpaa", sum := "d08147e732fac6cc18c4bdbf7f03c990391a5c8cfc668cc7eef12628456b7485", func := "versal/versallaw20.LineTells", spec := "lineTells", unfollowed := true, recurses := true, apart := false }
def LineTellsSaid : Prop := lineTellsRow.holds Try.pinned (OpenSpec.ofChange lineTellsSpec)

/-- ITS FALSE NEIGHBOUR: 'it returns false'. Refute it at one input. -/
def lineTellsWrong : ChangeSpec := { name := "lineTells", fn := fun _ => fun
  | [d1, d2, d3, d4] => { results := [.lit (.bool false)], args := [d1, d2, d3, d4] }
  | _ => none }
def LineTellsWrongFalsely : Prop := lineTellsRow.holds Try.pinned (OpenSpec.ofChange lineTellsWrong)

/-- 'versallaw20.LineBends': WHATEVER THE INPUT: true; the input reads as it did. -/
def lineBendsSpec : ChangeSpec := { name := "lineBends", fn := fun _ => fun
  | [d1, d2, d3, d4] => { results := [.lit (.bool true)], args := [d1, d2, d3, d4] }
  | _ => none }
def lineBendsRow : OpenClaim := { program := "ytefgofmjfaobpaa", sum := "d08147e732fac6cc18c4bdbf7f03c990391a5c8cfc668cc7eef12628456b7485", func := "versal/versallaw20.LineBends", spec := "lineBends", unfollowed := true, recurses := true, apart := false }
def LineBendsSaid : Prop := lineBendsRow.holds Try.pinned (OpenSpec.ofChange lineBendsSpec)

/-- ITS FALSE NEIGHBOUR: 'it returns false'. Refute it at one input. -/
def lineBendsWrong : ChangeSpec := { name := "lineBends", fn := fun _ => fun
  | [d1, d2, d3, d4] => { results := [.lit (.bool false)], args := [d1, d2, d3, d4] }
  | _ => none }
def LineBendsWrongFalsely : Prop := lineBendsRow.holds Try.pinned (OpenSpec.ofChange lineBendsWrong)

/-- 'versallaw20.LineColors': WHATEVER THE INPUT: true; the input reads as it did. -/
def lineColorsSpec : ChangeSpec := { name := "lineColors", fn := fun _ => fun
  | [d1, d2, d3] => { results := [.lit (.bool true)], args := [d1, d2, d3] }
  | _ => none }
def lineColorsRow : OpenClaim := { program := "ytefgofmjfaobpaa", sum := "d08147e732fac6cc18c4bdbf7f03c990391a5c8cfc668cc7eef12628456b7485", func := "versal/versallaw20.LineColors", spec := "lineColors", unfollowed := true, recurses := true, apart := false }
def LineColorsSaid : Prop := lineColorsRow.holds Try.pinned (OpenSpec.ofChange lineColorsSpec)

/-- ITS FALSE NEIGHBOUR: 'it returns false'. Refute it at one input. -/
def lineColorsWrong : ChangeSpec := { name := "lineColors", fn := fun _ => fun
  | [d1, d2, d3] => { results := [.lit (.bool false)], args := [d1, d2, d3] }
  | _ => none }
def LineColorsWrongFalsely : Prop := lineColorsRow.holds Try.pinned (OpenSpec.ofChange lineColorsWrong)

/- THE SECOND FORM. 'bulk': how many values and letters a reading holds, each counted each time it is reached (what is shared counts as often as it is met; a slice's spare places count too). A statement '..UptoSaid' is the law's where the arguments, and the package variables that the reading takes, are together of bulk at most 1048576: NARROWER than '..Said'. Prove '..Said' where nothing that the law and all that it calls make is longer than what came in: it says more and counts as full. Else prove '..UptoSaid'. A law counts once. -/
mutual
def uptoBulk {H : Type} : DataW H → Nat
  | .lit (.string bytes) => bytes.length + 1
  | .lit _ => 1
  | .nil => 1
  | .ptr d => uptoBulk d + 1
  | .slice elems spare => uptoBulkAll elems + uptoBulkAll spare + 1
  | .agg parts => uptoBulkAll parts + 1
  | .iface _ d => uptoBulk d + 1
  | .map entries => uptoBulkEntries entries + 1
  | .held _ => 1
def uptoBulkAll {H : Type} : List (DataW H) → Nat
  | [] => 0
  | d :: r => uptoBulk d + uptoBulkAll r
def uptoBulkEntries {H : Type} : List (Lit × DataW H) → Nat
  | [] => 0
  | x :: r => uptoBulkEntry x + uptoBulkEntries r
def uptoBulkEntry {H : Type} : Lit × DataW H → Nat
  | (.string bytes, d) => bytes.length + uptoBulk d + 1
  | (_, d) => uptoBulk d + 1
 end
def uptoSmall : (H : Type) → List (DataW H) → Bool := fun _ ds => decide (uptoBulkAll ds ≤ 1048576)
def OpenSpec.upto (s : _root_.Go.ChangeSpec) : _root_.Go.OpenSpec := { _root_.Go.OpenSpec.ofChange s with cond := some uptoSmall }

/-- 'versallaw20.LineKnown', WHERE WHAT IT READS IS OF BULK AT MOST 1048576: true; the input reads as it did. -/
def lineKnownUptoRow : OpenClaim := { program := "ytefgofmjfaobpaa", sum := "d08147e732fac6cc18c4bdbf7f03c990391a5c8cfc668cc7eef12628456b7485", func := "versal/versallaw20.LineKnown", spec := "lineKnown", unfollowed := true, recurses := true, apart := false, narrowed := true }
def LineKnownUptoSaid : Prop := lineKnownUptoRow.holds Try.pinned (OpenSpec.upto lineKnownSpec)

/-- 'versallaw20.LineTells', WHERE WHAT IT READS IS OF BULK AT MOST 1048576: true; the input reads as it did. -/
def lineTellsUptoRow : OpenClaim := { program := "ytefgofmjfaobpaa", sum := "d08147e732fac6cc18c4bdbf7f03c990391a5c8cfc668cc7eef12628456b7485", func := "versal/versallaw20.LineTells", spec := "lineTells", unfollowed := true, recurses := true, apart := false, narrowed := true }
def LineTellsUptoSaid : Prop := lineTellsUptoRow.holds Try.pinned (OpenSpec.upto lineTellsSpec)

/-- 'versallaw20.LineBends', WHERE WHAT IT READS IS OF BULK AT MOST 1048576: true; the input reads as it did. -/
def lineBendsUptoRow : OpenClaim := { program := "ytefgofmjfaobpaa", sum := "d08147e732fac6cc18c4bdbf7f03c990391a5c8cfc668cc7eef12628456b7485", func := "versal/versallaw20.LineBends", spec := "lineBends", unfollowed := true, recurses := true, apart := false, narrowed := true }
def LineBendsUptoSaid : Prop := lineBendsUptoRow.holds Try.pinned (OpenSpec.upto lineBendsSpec)

/-- 'versallaw20.LineColors', WHERE WHAT IT READS IS OF BULK AT MOST 1048576: true; the input reads as it did. -/
def lineColorsUptoRow : OpenClaim := { program := "ytefgofmjfaobpaa", sum := "d08147e732fac6cc18c4bdbf7f03c990391a5c8cfc668cc7eef12628456b7485", func := "versal/versallaw20.LineColors", spec := "lineColors", unfollowed := true, recurses := true, apart := false, narrowed := true }
def LineColorsUptoSaid : Prop := lineColorsUptoRow.holds Try.pinned (OpenSpec.upto lineColorsSpec)

end Rows
end Go.Proofs.Ytefgofmjfaobpaa
