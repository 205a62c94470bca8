/-
  No cell of these rows narrows 'for every input' (looked for: loops, veiled, ifaces, maps, wideKeys, modest, calm, conditions, laid).
  DERIVED. THE GIVEN ROWS OF THIS SEAT. 3 by the template 'for every input the law returns true; each argument reads behind the call as it read before'; 0 by the template 'total and deterministic' (their statements: YtghejdmnmfbacaaTotals.lean).
  GIVEN WITH THE SEED: the statements are not yours to turn. If you find one false, say at which input.
  Laid BY PROGRAM, IN A SANDBOX (cutbox-rows.mjs): the forced cells as the released guide's own fill.sh prints them over the translation 0ffd52e16f9c22d9… (all of the seat's roots in one cut). By AI agents, Wed Nov 11 2026. No macro, syntax, notation, axiom, sorry.
-/
import Derived.Test.YtghejdmnmfbacaaChecked
import GoSem.Claim
import GoSem.ClaimJoined
import GoSem.ClaimMapViews
import Derived.JoinedTies
import Derived.KernelRfl
namespace Go.Proofs.Ytghejdmnmfbacaa
/- THE CELL 'sum', in the pinned program and in every row, IS THE sha256 OF THE DUMP (.gsa) THAT YtghejdmnmfbacaaProg.lean LOADS. Nothing in Lean hashes anything: it is a label: what it is worth is what the hold of that sum in a sandbox is worth. -/
noncomputable def Try.pinned : Pinned := { name := "ytghejdmnmfbacaa", sum := "0ffd52e16f9c22d96519f0dc04b90fb89e4cbbec2d04a5de7bd60f25ab277c17", checked := Try.checked }
namespace Rows
def none {H : Type} : Left H := { results := [], args := [] }

/-- 'versallaw15.MetricKnown': WHATEVER THE INPUT: true; the input reads as it did. -/
def metricKnownSpec : ChangeSpec := { name := "metricKnown", fn := fun _ => fun
  | [] => { results := [.lit (.bool true)], args := [] }
  | _ => none }
def metricKnownRow : OpenClaim := { program := "ytghejdmnmfbacaa", sum := "0ffd52e16f9c22d96519f0dc04b90fb89e4cbbec2d04a5de7bd60f25ab277c17", func := "versal/versallaw15.MetricKnown", spec := "metricKnown", unfollowed := true, recurses := true, apart := false }
def MetricKnownSaid : Prop := metricKnownRow.holds Try.pinned (OpenSpec.ofChange metricKnownSpec)

/-- ITS FALSE NEIGHBOUR: 'it returns false'. Refute it at one input. -/
def metricKnownWrong : ChangeSpec := { name := "metricKnown", fn := fun _ => fun
  | [] => { results := [.lit (.bool false)], args := [] }
  | _ => none }
def MetricKnownWrongFalsely : Prop := metricKnownRow.holds Try.pinned (OpenSpec.ofChange metricKnownWrong)

/-- 'versallaw15.MetricTells': WHATEVER THE INPUT: true; the input reads as it did. -/
def metricTellsSpec : ChangeSpec := { name := "metricTells", fn := fun _ => fun
  | [d1, d2, d3, d4, d5, d6, d7, d8, d9, d10, d11] => { results := [.lit (.bool true)], args := [d1, d2, d3, d4, d5, d6, d7, d8, d9, d10, d11] }
  | _ => none }
def metricTellsRow : OpenClaim := { program := "ytghejdmnmfbacaa", sum := "0ffd52e16f9c22d96519f0dc04b90fb89e4cbbec2d04a5de7bd60f25ab277c17", func := "versal/versallaw15.MetricTells", spec := "metricTells", apart := false }
def MetricTellsSaid : Prop := metricTellsRow.holds Try.pinned (OpenSpec.ofChange metricTellsSpec)

/-- ITS FALSE NEIGHBOUR: 'it returns false'. Refute it at one input. -/
def metricTellsWrong : ChangeSpec := { name := "metricTells", fn := fun _ => fun
  | [d1, d2, d3, d4, d5, d6, d7, d8, d9, d10, d11] => { results := [.lit (.bool false)], args := [d1, d2, d3, d4, d5, d6, d7, d8, d9, d10, d11] }
  | _ => none }
def MetricTellsWrongFalsely : Prop := metricTellsRow.holds Try.pinned (OpenSpec.ofChange metricTellsWrong)

/-- 'versallaw15.MetricRanges': WHATEVER THE INPUT: true; the input reads as it did. -/
def metricRangesSpec : ChangeSpec := { name := "metricRanges", fn := fun _ => fun
  | [d1, d2, d3] => { results := [.lit (.bool true)], args := [d1, d2, d3] }
  | _ => none }
def metricRangesRow : OpenClaim := { program := "ytghejdmnmfbacaa", sum := "0ffd52e16f9c22d96519f0dc04b90fb89e4cbbec2d04a5de7bd60f25ab277c17", func := "versal/versallaw15.MetricRanges", spec := "metricRanges", apart := false }
def MetricRangesSaid : Prop := metricRangesRow.holds Try.pinned (OpenSpec.ofChange metricRangesSpec)

/-- ITS FALSE NEIGHBOUR: 'it returns false'. Refute it at one input. -/
def metricRangesWrong : ChangeSpec := { name := "metricRanges", fn := fun _ => fun
  | [d1, d2, d3] => { results := [.lit (.bool false)], args := [d1, d2, d3] }
  | _ => none }
def MetricRangesWrongFalsely : Prop := metricRangesRow.holds Try.pinned (OpenSpec.ofChange metricRangesWrong)

/- THE SECOND FORM. 'bulk': how many values and letters a reading holds, each counted each time it is reached (what is shared counts as often as it is met; a slice's spare places count too). A statement '..UptoSaid' is the law's where the arguments, and the package variables that the reading takes, are together of bulk at most 1048576: NARROWER than '..Said'. Prove '..Said' where nothing that the law and all that it calls make is longer than what came in: it says more and counts as full. Else prove '..UptoSaid'. A law counts once. -/
mutual
def uptoBulk {H : Type} : DataW H → Nat
  | .lit (.string bytes) => bytes.length + 1
  | .lit _ => 1
  | .nil => 1
  | .ptr d => uptoBulk d + 1
  | .slice elems spare => uptoBulkAll elems + uptoBulkAll spare + 1
  | .agg parts => uptoBulkAll parts + 1
  | .iface _ d => uptoBulk d + 1
  | .map entries => uptoBulkEntries entries + 1
  | .held _ => 1
def uptoBulkAll {H : Type} : List (DataW H) → Nat
  | [] => 0
  | d :: r => uptoBulk d + uptoBulkAll r
def uptoBulkEntries {H : Type} : List (Lit × DataW H) → Nat
  | [] => 0
  | x :: r => uptoBulkEntry x + uptoBulkEntries r
def uptoBulkEntry {H : Type} : Lit × DataW H → Nat
  | (.string bytes, d) => bytes.length + uptoBulk d + 1
  | (_, d) => uptoBulk d + 1
 end
def uptoSmall : (H : Type) → List (DataW H) → Bool := fun _ ds => decide (uptoBulkAll ds ≤ 1048576)
def OpenSpec.upto (s : _root_.Go.ChangeSpec) : _root_.Go.OpenSpec := { _root_.Go.OpenSpec.ofChange s with cond := some uptoSmall }

/-- 'versallaw15.MetricKnown', WHERE WHAT IT READS IS OF BULK AT MOST 1048576: true; the input reads as it did. -/
def metricKnownUptoRow : OpenClaim := { program := "ytghejdmnmfbacaa", sum := "0ffd52e16f9c22d96519f0dc04b90fb89e4cbbec2d04a5de7bd60f25ab277c17", func := "versal/versallaw15.MetricKnown", spec := "metricKnown", unfollowed := true, recurses := true, apart := false, narrowed := true }
def MetricKnownUptoSaid : Prop := metricKnownUptoRow.holds Try.pinned (OpenSpec.upto metricKnownSpec)

/-- 'versallaw15.MetricTells', WHERE WHAT IT READS IS OF BULK AT MOST 1048576: true; the input reads as it did. -/
def metricTellsUptoRow : OpenClaim := { program := "ytghejdmnmfbacaa", sum := "0ffd52e16f9c22d96519f0dc04b90fb89e4cbbec2d04a5de7bd60f25ab277c17", func := "versal/versallaw15.MetricTells", spec := "metricTells", apart := false, narrowed := true }
def MetricTellsUptoSaid : Prop := metricTellsUptoRow.holds Try.pinned (OpenSpec.upto metricTellsSpec)

/-- 'versallaw15.MetricRanges', WHERE WHAT IT READS IS OF BULK AT MOST 1048576: true; the input reads as it did. -/
def metricRangesUptoRow : OpenClaim := { program := "ytghejdmnmfbacaa", sum := "0ffd52e16f9c22d96519f0dc04b90fb89e4cbbec2d04a5de7bd60f25ab277c17", func := "versal/versallaw15.MetricRanges", spec := "metricRanges", apart := false, narrowed := true }
def MetricRangesUptoSaid : Prop := metricRangesUptoRow.holds Try.pinned (OpenSpec.upto metricRangesSpec)

end Rows
end Go.Proofs.Ytghejdmnmfbacaa
