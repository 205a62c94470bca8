/-
  No cell of these rows narrows 'for every input' (looked for: loops, veiled, ifaces, maps, wideKeys, modest, calm, conditions, laid).
  DERIVED. THE GIVEN ROWS OF THIS SEAT. 7 by the template 'for every input the law returns true; each argument reads behind the call as it read before'; 0 by the template 'total and deterministic' (their statements: YtbpmmjlolkhloaaGreatTotals.lean).
  GIVEN WITH THE SEED: the statements are not yours to turn. If you find one false, say at which input.
  Laid BY PROGRAM, IN A SANDBOX (cutbox-rows.mjs): the forced cells as the released guide's own fill.sh prints them over the translation 74bd4dd8361d3098… (all of the seat's roots in one cut). By AI agents, Wed Nov 11 2026. No macro, syntax, notation, axiom, sorry.
-/
import Derived.Test.YtbpmmjlolkhloaaGreatChecked
import GoSem.Claim
import GoSem.ClaimJoined
import GoSem.ClaimMapViews
import Derived.JoinedTies
import Derived.KernelRfl
namespace Go.Proofs.YtbpmmjlolkhloaaGreat
/- THE CELL 'sum', in the pinned program and in every row, IS THE sha256 OF THE DUMP (.gsa) THAT YtbpmmjlolkhloaaGreatProg.lean LOADS. Nothing in Lean hashes anything: it is a label: what it is worth is what the hold of that sum in a sandbox is worth. -/
noncomputable def Tryz.pinned : Pinned := { name := "ytbpmmjlolkhloaagreat", sum := "74bd4dd8361d30989c991d14a8510e30ee8593a0e437dc276038592a484076eb", checked := Tryz.checked }
namespace Rows
def none {H : Type} : Left H := { results := [], args := [] }

/-- 'versallaw29.PaintKnown': WHATEVER THE INPUT: true; the input reads as it did. -/
def paintKnownSpec : ChangeSpec := { name := "paintKnown", fn := fun _ => fun
  | [] => { results := [.lit (.bool true)], args := [] }
  | _ => none }
def paintKnownRow : OpenClaim := { program := "ytbpmmjlolkhloaagreat", sum := "74bd4dd8361d30989c991d14a8510e30ee8593a0e437dc276038592a484076eb", func := "versal/versallaw29.PaintKnown", spec := "paintKnown", unfollowed := true, recurses := true, apart := false }
def PaintKnownSaid : Prop := paintKnownRow.holds Tryz.pinned (OpenSpec.ofChange paintKnownSpec)

/-- ITS FALSE NEIGHBOUR: 'it returns false'. Refute it at one input. -/
def paintKnownWrong : ChangeSpec := { name := "paintKnown", fn := fun _ => fun
  | [] => { results := [.lit (.bool false)], args := [] }
  | _ => none }
def PaintKnownWrongFalsely : Prop := paintKnownRow.holds Tryz.pinned (OpenSpec.ofChange paintKnownWrong)

/-- 'versallaw29.PaintTells': WHATEVER THE INPUT: true; the input reads as it did. -/
def paintTellsSpec : ChangeSpec := { name := "paintTells", fn := fun _ => fun
  | [d1, d2, d3, d4, d5, d6, d7, d8] => { results := [.lit (.bool true)], args := [d1, d2, d3, d4, d5, d6, d7, d8] }
  | _ => none }
def paintTellsRow : OpenClaim := { program := "ytbpmmjlolkhloaagreat", sum := "74bd4dd8361d30989c991d14a8510e30ee8593a0e437dc276038592a484076eb", func := "versal/versallaw29.PaintTells", spec := "paintTells", unfollowed := true, recurses := true, apart := false }
def PaintTellsSaid : Prop := paintTellsRow.holds Tryz.pinned (OpenSpec.ofChange paintTellsSpec)

/-- ITS FALSE NEIGHBOUR: 'it returns false'. Refute it at one input. -/
def paintTellsWrong : ChangeSpec := { name := "paintTells", fn := fun _ => fun
  | [d1, d2, d3, d4, d5, d6, d7, d8] => { results := [.lit (.bool false)], args := [d1, d2, d3, d4, d5, d6, d7, d8] }
  | _ => none }
def PaintTellsWrongFalsely : Prop := paintTellsRow.holds Tryz.pinned (OpenSpec.ofChange paintTellsWrong)

/-- 'versallaw29.PaintAsks': WHATEVER THE INPUT: true; the input reads as it did. -/
def paintAsksSpec : ChangeSpec := { name := "paintAsks", fn := fun _ => fun
  | [d1, d2, d3, d4, d5, d6, d7, d8, d9] => { results := [.lit (.bool true)], args := [d1, d2, d3, d4, d5, d6, d7, d8, d9] }
  | _ => none }
def paintAsksRow : OpenClaim := { program := "ytbpmmjlolkhloaagreat", sum := "74bd4dd8361d30989c991d14a8510e30ee8593a0e437dc276038592a484076eb", func := "versal/versallaw29.PaintAsks", spec := "paintAsks", unfollowed := true, recurses := true, apart := false }
def PaintAsksSaid : Prop := paintAsksRow.holds Tryz.pinned (OpenSpec.ofChange paintAsksSpec)

/-- ITS FALSE NEIGHBOUR: 'it returns false'. Refute it at one input. -/
def paintAsksWrong : ChangeSpec := { name := "paintAsks", fn := fun _ => fun
  | [d1, d2, d3, d4, d5, d6, d7, d8, d9] => { results := [.lit (.bool false)], args := [d1, d2, d3, d4, d5, d6, d7, d8, d9] }
  | _ => none }
def PaintAsksWrongFalsely : Prop := paintAsksRow.holds Tryz.pinned (OpenSpec.ofChange paintAsksWrong)

/-- 'versallaw29.PaintParts': WHATEVER THE INPUT: true; the input reads as it did. -/
def paintPartsSpec : ChangeSpec := { name := "paintParts", fn := fun _ => fun
  | [d1, d2, d3, d4, d5, d6, d7, d8] => { results := [.lit (.bool true)], args := [d1, d2, d3, d4, d5, d6, d7, d8] }
  | _ => none }
def paintPartsRow : OpenClaim := { program := "ytbpmmjlolkhloaagreat", sum := "74bd4dd8361d30989c991d14a8510e30ee8593a0e437dc276038592a484076eb", func := "versal/versallaw29.PaintParts", spec := "paintParts", unfollowed := true, recurses := true, apart := false }
def PaintPartsSaid : Prop := paintPartsRow.holds Tryz.pinned (OpenSpec.ofChange paintPartsSpec)

/-- ITS FALSE NEIGHBOUR: 'it returns false'. Refute it at one input. -/
def paintPartsWrong : ChangeSpec := { name := "paintParts", fn := fun _ => fun
  | [d1, d2, d3, d4, d5, d6, d7, d8] => { results := [.lit (.bool false)], args := [d1, d2, d3, d4, d5, d6, d7, d8] }
  | _ => none }
def PaintPartsWrongFalsely : Prop := paintPartsRow.holds Tryz.pinned (OpenSpec.ofChange paintPartsWrong)

/-- 'versallaw29.PaintLayers': WHATEVER THE INPUT: true; the input reads as it did. -/
def paintLayersSpec : ChangeSpec := { name := "paintLayers", fn := fun _ => fun
  | [d1, d2, d3, d4, d5, d6] => { results := [.lit (.bool true)], args := [d1, d2, d3, d4, d5, d6] }
  | _ => none }
def paintLayersRow : OpenClaim := { program := "ytbpmmjlolkhloaagreat", sum := "74bd4dd8361d30989c991d14a8510e30ee8593a0e437dc276038592a484076eb", func := "versal/versallaw29.PaintLayers", spec := "paintLayers", unfollowed := true, recurses := true, apart := false }
def PaintLayersSaid : Prop := paintLayersRow.holds Tryz.pinned (OpenSpec.ofChange paintLayersSpec)

/-- ITS FALSE NEIGHBOUR: 'it returns false'. Refute it at one input. -/
def paintLayersWrong : ChangeSpec := { name := "paintLayers", fn := fun _ => fun
  | [d1, d2, d3, d4, d5, d6] => { results := [.lit (.bool false)], args := [d1, d2, d3, d4, d5, d6] }
  | _ => none }
def PaintLayersWrongFalsely : Prop := paintLayersRow.holds Tryz.pinned (OpenSpec.ofChange paintLayersWrong)

/-- 'versallaw29.PaintBoxes': WHATEVER THE INPUT: true; the input reads as it did. -/
def paintBoxesSpec : ChangeSpec := { name := "paintBoxes", fn := fun _ => fun
  | [d1, d2, d3, d4, d5, d6, d7] => { results := [.lit (.bool true)], args := [d1, d2, d3, d4, d5, d6, d7] }
  | _ => none }
def paintBoxesRow : OpenClaim := { program := "ytbpmmjlolkhloaagreat", sum := "74bd4dd8361d30989c991d14a8510e30ee8593a0e437dc276038592a484076eb", func := "versal/versallaw29.PaintBoxes", spec := "paintBoxes", unfollowed := true, recurses := true, apart := false }
def PaintBoxesSaid : Prop := paintBoxesRow.holds Tryz.pinned (OpenSpec.ofChange paintBoxesSpec)

/-- ITS FALSE NEIGHBOUR: 'it returns false'. Refute it at one input. -/
def paintBoxesWrong : ChangeSpec := { name := "paintBoxes", fn := fun _ => fun
  | [d1, d2, d3, d4, d5, d6, d7] => { results := [.lit (.bool false)], args := [d1, d2, d3, d4, d5, d6, d7] }
  | _ => none }
def PaintBoxesWrongFalsely : Prop := paintBoxesRow.holds Tryz.pinned (OpenSpec.ofChange paintBoxesWrong)

/-- 'versallaw29.PaintMoves': WHATEVER THE INPUT: true; the input reads as it did. -/
def paintMovesSpec : ChangeSpec := { name := "paintMoves", fn := fun _ => fun
  | [d1, d2, d3, d4, d5] => { results := [.lit (.bool true)], args := [d1, d2, d3, d4, d5] }
  | _ => none }
def paintMovesRow : OpenClaim := { program := "ytbpmmjlolkhloaagreat", sum := "74bd4dd8361d30989c991d14a8510e30ee8593a0e437dc276038592a484076eb", func := "versal/versallaw29.PaintMoves", spec := "paintMoves", unfollowed := true, recurses := true, apart := false }
def PaintMovesSaid : Prop := paintMovesRow.holds Tryz.pinned (OpenSpec.ofChange paintMovesSpec)

/-- ITS FALSE NEIGHBOUR: 'it returns false'. Refute it at one input. -/
def paintMovesWrong : ChangeSpec := { name := "paintMoves", fn := fun _ => fun
  | [d1, d2, d3, d4, d5] => { results := [.lit (.bool false)], args := [d1, d2, d3, d4, d5] }
  | _ => none }
def PaintMovesWrongFalsely : Prop := paintMovesRow.holds Tryz.pinned (OpenSpec.ofChange paintMovesWrong)

/- THE SECOND FORM. 'bulk': how many values and letters a reading holds, each counted each time it is reached (what is shared counts as often as it is met; a slice's spare places count too). A statement '..UptoSaid' is the law's where the arguments, and the package variables that the reading takes, are together of bulk at most 1048576: NARROWER than '..Said'. Prove '..Said' where nothing that the law and all that it calls make is longer than what came in: it says more and counts as full. Else prove '..UptoSaid'. A law counts once. -/
mutual
def uptoBulk {H : Type} : DataW H → Nat
  | .lit (.string bytes) => bytes.length + 1
  | .lit _ => 1
  | .nil => 1
  | .ptr d => uptoBulk d + 1
  | .slice elems spare => uptoBulkAll elems + uptoBulkAll spare + 1
  | .agg parts => uptoBulkAll parts + 1
  | .iface _ d => uptoBulk d + 1
  | .map entries => uptoBulkEntries entries + 1
  | .held _ => 1
def uptoBulkAll {H : Type} : List (DataW H) → Nat
  | [] => 0
  | d :: r => uptoBulk d + uptoBulkAll r
def uptoBulkEntries {H : Type} : List (Lit × DataW H) → Nat
  | [] => 0
  | x :: r => uptoBulkEntry x + uptoBulkEntries r
def uptoBulkEntry {H : Type} : Lit × DataW H → Nat
  | (.string bytes, d) => bytes.length + uptoBulk d + 1
  | (_, d) => uptoBulk d + 1
 end
def uptoSmall : (H : Type) → List (DataW H) → Bool := fun _ ds => decide (uptoBulkAll ds ≤ 1048576)
def OpenSpec.upto (s : _root_.Go.ChangeSpec) : _root_.Go.OpenSpec := { _root_.Go.OpenSpec.ofChange s with cond := some uptoSmall }

/-- 'versallaw29.PaintKnown', WHERE WHAT IT READS IS OF BULK AT MOST 1048576: true; the input reads as it did. -/
def paintKnownUptoRow : OpenClaim := { program := "ytbpmmjlolkhloaagreat", sum := "74bd4dd8361d30989c991d14a8510e30ee8593a0e437dc276038592a484076eb", func := "versal/versallaw29.PaintKnown", spec := "paintKnown", unfollowed := true, recurses := true, apart := false, narrowed := true }
def PaintKnownUptoSaid : Prop := paintKnownUptoRow.holds Tryz.pinned (OpenSpec.upto paintKnownSpec)

/-- 'versallaw29.PaintTells', WHERE WHAT IT READS IS OF BULK AT MOST 1048576: true; the input reads as it did. -/
def paintTellsUptoRow : OpenClaim := { program := "ytbpmmjlolkhloaagreat", sum := "74bd4dd8361d30989c991d14a8510e30ee8593a0e437dc276038592a484076eb", func := "versal/versallaw29.PaintTells", spec := "paintTells", unfollowed := true, recurses := true, apart := false, narrowed := true }
def PaintTellsUptoSaid : Prop := paintTellsUptoRow.holds Tryz.pinned (OpenSpec.upto paintTellsSpec)

/-- 'versallaw29.PaintAsks', WHERE WHAT IT READS IS OF BULK AT MOST 1048576: true; the input reads as it did. -/
def paintAsksUptoRow : OpenClaim := { program := "ytbpmmjlolkhloaagreat", sum := "74bd4dd8361d30989c991d14a8510e30ee8593a0e437dc276038592a484076eb", func := "versal/versallaw29.PaintAsks", spec := "paintAsks", unfollowed := true, recurses := true, apart := false, narrowed := true }
def PaintAsksUptoSaid : Prop := paintAsksUptoRow.holds Tryz.pinned (OpenSpec.upto paintAsksSpec)

/-- 'versallaw29.PaintParts', WHERE WHAT IT READS IS OF BULK AT MOST 1048576: true; the input reads as it did. -/
def paintPartsUptoRow : OpenClaim := { program := "ytbpmmjlolkhloaagreat", sum := "74bd4dd8361d30989c991d14a8510e30ee8593a0e437dc276038592a484076eb", func := "versal/versallaw29.PaintParts", spec := "paintParts", unfollowed := true, recurses := true, apart := false, narrowed := true }
def PaintPartsUptoSaid : Prop := paintPartsUptoRow.holds Tryz.pinned (OpenSpec.upto paintPartsSpec)

/-- 'versallaw29.PaintLayers', WHERE WHAT IT READS IS OF BULK AT MOST 1048576: true; the input reads as it did. -/
def paintLayersUptoRow : OpenClaim := { program := "ytbpmmjlolkhloaagreat", sum := "74bd4dd8361d30989c991d14a8510e30ee8593a0e437dc276038592a484076eb", func := "versal/versallaw29.PaintLayers", spec := "paintLayers", unfollowed := true, recurses := true, apart := false, narrowed := true }
def PaintLayersUptoSaid : Prop := paintLayersUptoRow.holds Tryz.pinned (OpenSpec.upto paintLayersSpec)

/-- 'versallaw29.PaintBoxes', WHERE WHAT IT READS IS OF BULK AT MOST 1048576: true; the input reads as it did. -/
def paintBoxesUptoRow : OpenClaim := { program := "ytbpmmjlolkhloaagreat", sum := "74bd4dd8361d30989c991d14a8510e30ee8593a0e437dc276038592a484076eb", func := "versal/versallaw29.PaintBoxes", spec := "paintBoxes", unfollowed := true, recurses := true, apart := false, narrowed := true }
def PaintBoxesUptoSaid : Prop := paintBoxesUptoRow.holds Tryz.pinned (OpenSpec.upto paintBoxesSpec)

/-- 'versallaw29.PaintMoves', WHERE WHAT IT READS IS OF BULK AT MOST 1048576: true; the input reads as it did. -/
def paintMovesUptoRow : OpenClaim := { program := "ytbpmmjlolkhloaagreat", sum := "74bd4dd8361d30989c991d14a8510e30ee8593a0e437dc276038592a484076eb", func := "versal/versallaw29.PaintMoves", spec := "paintMoves", unfollowed := true, recurses := true, apart := false, narrowed := true }
def PaintMovesUptoSaid : Prop := paintMovesUptoRow.holds Tryz.pinned (OpenSpec.upto paintMovesSpec)

end Rows
end Go.Proofs.YtbpmmjlolkhloaaGreat
