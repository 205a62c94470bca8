/-
  No cell of these rows narrows 'for every input' (looked for: loops, veiled, ifaces, maps, wideKeys, modest, calm, conditions, laid).
  DERIVED. THE GIVEN ROWS OF THIS SEAT. 5 by the template 'for every input the law returns true; each argument reads behind the call as it read before'; 0 by the template 'total and deterministic' (their statements: YtnmmfcpbmdccjaaTotals.lean).
  GIVEN WITH THE SEED: the statements are not yours to turn. If you find one false, say at which input.
  Laid BY PROGRAM, IN A SANDBOX (cutbox-rows.mjs): the forced cells as the released guide's own fill.sh prints them over the translation 2c65a33e31611f46… (all of the seat's roots in one cut). By AI agents, Wed Nov 11 2026. No macro, syntax, notation, axiom, sorry.
-/
import Derived.Test.YtnmmfcpbmdccjaaChecked
import GoSem.Claim
import GoSem.ClaimJoined
import GoSem.ClaimMapViews
import Derived.JoinedTies
import Derived.KernelRfl
namespace Go.Proofs.Ytnmmfcpbmdccjaa
/- THE CELL 'sum', in the pinned program and in every row, IS THE sha256 OF THE DUMP (.gsa) THAT YtnmmfcpbmdccjaaProg.lean LOADS. Nothing in Lean hashes anything: it is a label: what it is worth is what the hold of that sum in a sandbox is worth. -/
noncomputable def Try.pinned : Pinned := { name := "ytnmmfcpbmdccjaa", sum := "2c65a33e31611f46dd8eaf5704f91ac5580abfed6b7f1733039ee31f5693efce", checked := Try.checked }
namespace Rows
def none {H : Type} : Left H := { results := [], args := [] }

/-- 'versallaw16.GlyfKnown': WHATEVER THE INPUT: true; the input reads as it did. -/
def glyfKnownSpec : ChangeSpec := { name := "glyfKnown", fn := fun _ => fun
  | [] => { results := [.lit (.bool true)], args := [] }
  | _ => none }
def glyfKnownRow : OpenClaim := { program := "ytnmmfcpbmdccjaa", sum := "2c65a33e31611f46dd8eaf5704f91ac5580abfed6b7f1733039ee31f5693efce", func := "versal/versallaw16.GlyfKnown", spec := "glyfKnown", unfollowed := true, recurses := true, apart := false }
def GlyfKnownSaid : Prop := glyfKnownRow.holds Try.pinned (OpenSpec.ofChange glyfKnownSpec)

/-- ITS FALSE NEIGHBOUR: 'it returns false'. Refute it at one input. -/
def glyfKnownWrong : ChangeSpec := { name := "glyfKnown", fn := fun _ => fun
  | [] => { results := [.lit (.bool false)], args := [] }
  | _ => none }
def GlyfKnownWrongFalsely : Prop := glyfKnownRow.holds Try.pinned (OpenSpec.ofChange glyfKnownWrong)

/-- 'versallaw16.GlyfLays': WHATEVER THE INPUT: true; the input reads as it did. -/
def glyfLaysSpec : ChangeSpec := { name := "glyfLays", fn := fun _ => fun
  | [d1, d2, d3] => { results := [.lit (.bool true)], args := [d1, d2, d3] }
  | _ => none }
def glyfLaysRow : OpenClaim := { program := "ytnmmfcpbmdccjaa", sum := "2c65a33e31611f46dd8eaf5704f91ac5580abfed6b7f1733039ee31f5693efce", func := "versal/versallaw16.GlyfLays", spec := "glyfLays", unfollowed := true, recurses := true, apart := false }
def GlyfLaysSaid : Prop := glyfLaysRow.holds Try.pinned (OpenSpec.ofChange glyfLaysSpec)

/-- ITS FALSE NEIGHBOUR: 'it returns false'. Refute it at one input. -/
def glyfLaysWrong : ChangeSpec := { name := "glyfLays", fn := fun _ => fun
  | [d1, d2, d3] => { results := [.lit (.bool false)], args := [d1, d2, d3] }
  | _ => none }
def GlyfLaysWrongFalsely : Prop := glyfLaysRow.holds Try.pinned (OpenSpec.ofChange glyfLaysWrong)

/-- 'versallaw16.GlyfBack': WHATEVER THE INPUT: true; the input reads as it did. -/
def glyfBackSpec : ChangeSpec := { name := "glyfBack", fn := fun _ => fun
  | [d1, d2] => { results := [.lit (.bool true)], args := [d1, d2] }
  | _ => none }
def glyfBackRow : OpenClaim := { program := "ytnmmfcpbmdccjaa", sum := "2c65a33e31611f46dd8eaf5704f91ac5580abfed6b7f1733039ee31f5693efce", func := "versal/versallaw16.GlyfBack", spec := "glyfBack", unfollowed := true, recurses := true, apart := false }
def GlyfBackSaid : Prop := glyfBackRow.holds Try.pinned (OpenSpec.ofChange glyfBackSpec)

/-- ITS FALSE NEIGHBOUR: 'it returns false'. Refute it at one input. -/
def glyfBackWrong : ChangeSpec := { name := "glyfBack", fn := fun _ => fun
  | [d1, d2] => { results := [.lit (.bool false)], args := [d1, d2] }
  | _ => none }
def GlyfBackWrongFalsely : Prop := glyfBackRow.holds Try.pinned (OpenSpec.ofChange glyfBackWrong)

/-- 'versallaw16.GlyfMoves': WHATEVER THE INPUT: true; the input reads as it did. -/
def glyfMovesSpec : ChangeSpec := { name := "glyfMoves", fn := fun _ => fun
  | [d1, d2, d3, d4, d5] => { results := [.lit (.bool true)], args := [d1, d2, d3, d4, d5] }
  | _ => none }
def glyfMovesRow : OpenClaim := { program := "ytnmmfcpbmdccjaa", sum := "2c65a33e31611f46dd8eaf5704f91ac5580abfed6b7f1733039ee31f5693efce", func := "versal/versallaw16.GlyfMoves", spec := "glyfMoves", unfollowed := true, recurses := true, apart := false }
def GlyfMovesSaid : Prop := glyfMovesRow.holds Try.pinned (OpenSpec.ofChange glyfMovesSpec)

/-- ITS FALSE NEIGHBOUR: 'it returns false'. Refute it at one input. -/
def glyfMovesWrong : ChangeSpec := { name := "glyfMoves", fn := fun _ => fun
  | [d1, d2, d3, d4, d5] => { results := [.lit (.bool false)], args := [d1, d2, d3, d4, d5] }
  | _ => none }
def GlyfMovesWrongFalsely : Prop := glyfMovesRow.holds Try.pinned (OpenSpec.ofChange glyfMovesWrong)

/-- 'versallaw16.GlyfScales': WHATEVER THE INPUT: true; the input reads as it did. -/
def glyfScalesSpec : ChangeSpec := { name := "glyfScales", fn := fun _ => fun
  | [d1, d2, d3] => { results := [.lit (.bool true)], args := [d1, d2, d3] }
  | _ => none }
def glyfScalesRow : OpenClaim := { program := "ytnmmfcpbmdccjaa", sum := "2c65a33e31611f46dd8eaf5704f91ac5580abfed6b7f1733039ee31f5693efce", func := "versal/versallaw16.GlyfScales", spec := "glyfScales", unfollowed := true, recurses := true, apart := false }
def GlyfScalesSaid : Prop := glyfScalesRow.holds Try.pinned (OpenSpec.ofChange glyfScalesSpec)

/-- ITS FALSE NEIGHBOUR: 'it returns false'. Refute it at one input. -/
def glyfScalesWrong : ChangeSpec := { name := "glyfScales", fn := fun _ => fun
  | [d1, d2, d3] => { results := [.lit (.bool false)], args := [d1, d2, d3] }
  | _ => none }
def GlyfScalesWrongFalsely : Prop := glyfScalesRow.holds Try.pinned (OpenSpec.ofChange glyfScalesWrong)

/- THE SECOND FORM. 'bulk': how many values and letters a reading holds, each counted each time it is reached (what is shared counts as often as it is met; a slice's spare places count too). A statement '..UptoSaid' is the law's where the arguments, and the package variables that the reading takes, are together of bulk at most 1048576: NARROWER than '..Said'. Prove '..Said' where nothing that the law and all that it calls make is longer than what came in: it says more and counts as full. Else prove '..UptoSaid'. A law counts once. -/
mutual
def uptoBulk {H : Type} : DataW H → Nat
  | .lit (.string bytes) => bytes.length + 1
  | .lit _ => 1
  | .nil => 1
  | .ptr d => uptoBulk d + 1
  | .slice elems spare => uptoBulkAll elems + uptoBulkAll spare + 1
  | .agg parts => uptoBulkAll parts + 1
  | .iface _ d => uptoBulk d + 1
  | .map entries => uptoBulkEntries entries + 1
  | .held _ => 1
def uptoBulkAll {H : Type} : List (DataW H) → Nat
  | [] => 0
  | d :: r => uptoBulk d + uptoBulkAll r
def uptoBulkEntries {H : Type} : List (Lit × DataW H) → Nat
  | [] => 0
  | x :: r => uptoBulkEntry x + uptoBulkEntries r
def uptoBulkEntry {H : Type} : Lit × DataW H → Nat
  | (.string bytes, d) => bytes.length + uptoBulk d + 1
  | (_, d) => uptoBulk d + 1
 end
def uptoSmall : (H : Type) → List (DataW H) → Bool := fun _ ds => decide (uptoBulkAll ds ≤ 1048576)
def OpenSpec.upto (s : _root_.Go.ChangeSpec) : _root_.Go.OpenSpec := { _root_.Go.OpenSpec.ofChange s with cond := some uptoSmall }

/-- 'versallaw16.GlyfKnown', WHERE WHAT IT READS IS OF BULK AT MOST 1048576: true; the input reads as it did. -/
def glyfKnownUptoRow : OpenClaim := { program := "ytnmmfcpbmdccjaa", sum := "2c65a33e31611f46dd8eaf5704f91ac5580abfed6b7f1733039ee31f5693efce", func := "versal/versallaw16.GlyfKnown", spec := "glyfKnown", unfollowed := true, recurses := true, apart := false, narrowed := true }
def GlyfKnownUptoSaid : Prop := glyfKnownUptoRow.holds Try.pinned (OpenSpec.upto glyfKnownSpec)

/-- 'versallaw16.GlyfLays', WHERE WHAT IT READS IS OF BULK AT MOST 1048576: true; the input reads as it did. -/
def glyfLaysUptoRow : OpenClaim := { program := "ytnmmfcpbmdccjaa", sum := "2c65a33e31611f46dd8eaf5704f91ac5580abfed6b7f1733039ee31f5693efce", func := "versal/versallaw16.GlyfLays", spec := "glyfLays", unfollowed := true, recurses := true, apart := false, narrowed := true }
def GlyfLaysUptoSaid : Prop := glyfLaysUptoRow.holds Try.pinned (OpenSpec.upto glyfLaysSpec)

/-- 'versallaw16.GlyfBack', WHERE WHAT IT READS IS OF BULK AT MOST 1048576: true; the input reads as it did. -/
def glyfBackUptoRow : OpenClaim := { program := "ytnmmfcpbmdccjaa", sum := "2c65a33e31611f46dd8eaf5704f91ac5580abfed6b7f1733039ee31f5693efce", func := "versal/versallaw16.GlyfBack", spec := "glyfBack", unfollowed := true, recurses := true, apart := false, narrowed := true }
def GlyfBackUptoSaid : Prop := glyfBackUptoRow.holds Try.pinned (OpenSpec.upto glyfBackSpec)

/-- 'versallaw16.GlyfMoves', WHERE WHAT IT READS IS OF BULK AT MOST 1048576: true; the input reads as it did. -/
def glyfMovesUptoRow : OpenClaim := { program := "ytnmmfcpbmdccjaa", sum := "2c65a33e31611f46dd8eaf5704f91ac5580abfed6b7f1733039ee31f5693efce", func := "versal/versallaw16.GlyfMoves", spec := "glyfMoves", unfollowed := true, recurses := true, apart := false, narrowed := true }
def GlyfMovesUptoSaid : Prop := glyfMovesUptoRow.holds Try.pinned (OpenSpec.upto glyfMovesSpec)

/-- 'versallaw16.GlyfScales', WHERE WHAT IT READS IS OF BULK AT MOST 1048576: true; the input reads as it did. -/
def glyfScalesUptoRow : OpenClaim := { program := "ytnmmfcpbmdccjaa", sum := "2c65a33e31611f46dd8eaf5704f91ac5580abfed6b7f1733039ee31f5693efce", func := "versal/versallaw16.GlyfScales", spec := "glyfScales", unfollowed := true, recurses := true, apart := false, narrowed := true }
def GlyfScalesUptoSaid : Prop := glyfScalesUptoRow.holds Try.pinned (OpenSpec.upto glyfScalesSpec)

end Rows
end Go.Proofs.Ytnmmfcpbmdccjaa
