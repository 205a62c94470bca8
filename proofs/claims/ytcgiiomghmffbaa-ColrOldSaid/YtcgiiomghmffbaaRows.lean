/-
  No cell of these rows narrows 'for every input' (looked for: loops, veiled, ifaces, maps, wideKeys, modest, calm, conditions, laid).
  DERIVED. THE GIVEN ROWS OF THIS SEAT. 4 by the template 'for every input the law returns true; each argument reads behind the call as it read before'; 0 by the template 'total and deterministic' (their statements: YtcgiiomghmffbaaTotals.lean).
  GIVEN WITH THE SEED: the statements are not yours to turn. If you find one false, say at which input.
  Laid BY PROGRAM, IN A SANDBOX (cutbox-rows.mjs): the forced cells as the released guide's own fill.sh prints them over the translation febeff6a6487130d… (all of the seat's roots in one cut). By AI agents, Wed Nov 11 2026. No macro, syntax, notation, axiom, sorry.
-/
import Derived.Test.YtcgiiomghmffbaaChecked
import GoSem.Claim
import GoSem.ClaimJoined
import GoSem.ClaimMapViews
import Derived.JoinedTies
import Derived.KernelRfl
namespace Go.Proofs.Ytcgiiomghmffbaa
/- THE CELL 'sum', in the pinned program and in every row, IS THE sha256 OF THE DUMP (.gsa) THAT YtcgiiomghmffbaaProg.lean LOADS. Nothing in Lean hashes anything: it is a label: what it is worth is what the hold of that sum in a sandbox is worth. -/
noncomputable def Try.pinned : Pinned := { name := "ytcgiiomghmffbaa", sum := "febeff6a6487130d764ea347044d742ed30e59dfd913b624193474f7d11d7c58", checked := Try.checked }
namespace Rows
def none {H : Type} : Left H := { results := [], args := [] }

/-- 'versallaw24.ColrBoxes': WHATEVER THE INPUT: true; the input reads as it did. -/
def colrBoxesSpec : ChangeSpec := { name := "colrBoxes", fn := fun _ => fun
  | [d] => { results := [.lit (.bool true)], args := [d] }
  | _ => none }
def colrBoxesRow : OpenClaim := { program := "ytcgiiomghmffbaa", sum := "febeff6a6487130d764ea347044d742ed30e59dfd913b624193474f7d11d7c58", func := "versal/versallaw24.ColrBoxes", spec := "colrBoxes", unfollowed := true, recurses := true, apart := false }
def ColrBoxesSaid : Prop := colrBoxesRow.holds Try.pinned (OpenSpec.ofChange colrBoxesSpec)

/-- ITS FALSE NEIGHBOUR: 'it returns false'. Refute it at one input. -/
def colrBoxesWrong : ChangeSpec := { name := "colrBoxes", fn := fun _ => fun
  | [d] => { results := [.lit (.bool false)], args := [d] }
  | _ => none }
def ColrBoxesWrongFalsely : Prop := colrBoxesRow.holds Try.pinned (OpenSpec.ofChange colrBoxesWrong)

/-- 'versallaw24.ColrOld': WHATEVER THE INPUT: true; the input reads as it did. -/
def colrOldSpec : ChangeSpec := { name := "colrOld", fn := fun _ => fun
  | [d1, d2, d3] => { results := [.lit (.bool true)], args := [d1, d2, d3] }
  | _ => none }
def colrOldRow : OpenClaim := { program := "ytcgiiomghmffbaa", sum := "febeff6a6487130d764ea347044d742ed30e59dfd913b624193474f7d11d7c58", func := "versal/versallaw24.ColrOld", spec := "colrOld", unfollowed := true, recurses := true, apart := false }
def ColrOldSaid : Prop := colrOldRow.holds Try.pinned (OpenSpec.ofChange colrOldSpec)

/-- ITS FALSE NEIGHBOUR: 'it returns false'. Refute it at one input. -/
def colrOldWrong : ChangeSpec := { name := "colrOld", fn := fun _ => fun
  | [d1, d2, d3] => { results := [.lit (.bool false)], args := [d1, d2, d3] }
  | _ => none }
def ColrOldWrongFalsely : Prop := colrOldRow.holds Try.pinned (OpenSpec.ofChange colrOldWrong)

/-- 'versallaw24.ColrKnown': WHATEVER THE INPUT: true; the input reads as it did. -/
def colrKnownSpec : ChangeSpec := { name := "colrKnown", fn := fun _ => fun
  | [] => { results := [.lit (.bool true)], args := [] }
  | _ => none }
def colrKnownRow : OpenClaim := { program := "ytcgiiomghmffbaa", sum := "febeff6a6487130d764ea347044d742ed30e59dfd913b624193474f7d11d7c58", func := "versal/versallaw24.ColrKnown", spec := "colrKnown", unfollowed := true, recurses := true, apart := false }
def ColrKnownSaid : Prop := colrKnownRow.holds Try.pinned (OpenSpec.ofChange colrKnownSpec)

/-- ITS FALSE NEIGHBOUR: 'it returns false'. Refute it at one input. -/
def colrKnownWrong : ChangeSpec := { name := "colrKnown", fn := fun _ => fun
  | [] => { results := [.lit (.bool false)], args := [] }
  | _ => none }
def ColrKnownWrongFalsely : Prop := colrKnownRow.holds Try.pinned (OpenSpec.ofChange colrKnownWrong)

/-- 'versallaw24.ColrTells': WHATEVER THE INPUT: true; the input reads as it did. -/
def colrTellsSpec : ChangeSpec := { name := "colrTells", fn := fun _ => fun
  | [d1, d2, d3, d4, d5, d6] => { results := [.lit (.bool true)], args := [d1, d2, d3, d4, d5, d6] }
  | _ => none }
def colrTellsRow : OpenClaim := { program := "ytcgiiomghmffbaa", sum := "febeff6a6487130d764ea347044d742ed30e59dfd913b624193474f7d11d7c58", func := "versal/versallaw24.ColrTells", spec := "colrTells", unfollowed := true, recurses := true, apart := false }
def ColrTellsSaid : Prop := colrTellsRow.holds Try.pinned (OpenSpec.ofChange colrTellsSpec)

/-- ITS FALSE NEIGHBOUR: 'it returns false'. Refute it at one input. -/
def colrTellsWrong : ChangeSpec := { name := "colrTells", fn := fun _ => fun
  | [d1, d2, d3, d4, d5, d6] => { results := [.lit (.bool false)], args := [d1, d2, d3, d4, d5, d6] }
  | _ => none }
def ColrTellsWrongFalsely : Prop := colrTellsRow.holds Try.pinned (OpenSpec.ofChange colrTellsWrong)

/- THE SECOND FORM. 'bulk': how many values and letters a reading holds, each counted each time it is reached (what is shared counts as often as it is met; a slice's spare places count too). A statement '..UptoSaid' is the law's where the arguments, and the package variables that the reading takes, are together of bulk at most 1048576: NARROWER than '..Said'. Prove '..Said' where nothing that the law and all that it calls make is longer than what came in: it says more and counts as full. Else prove '..UptoSaid'. A law counts once. -/
mutual
def uptoBulk {H : Type} : DataW H → Nat
  | .lit (.string bytes) => bytes.length + 1
  | .lit _ => 1
  | .nil => 1
  | .ptr d => uptoBulk d + 1
  | .slice elems spare => uptoBulkAll elems + uptoBulkAll spare + 1
  | .agg parts => uptoBulkAll parts + 1
  | .iface _ d => uptoBulk d + 1
  | .map entries => uptoBulkEntries entries + 1
  | .held _ => 1
def uptoBulkAll {H : Type} : List (DataW H) → Nat
  | [] => 0
  | d :: r => uptoBulk d + uptoBulkAll r
def uptoBulkEntries {H : Type} : List (Lit × DataW H) → Nat
  | [] => 0
  | x :: r => uptoBulkEntry x + uptoBulkEntries r
def uptoBulkEntry {H : Type} : Lit × DataW H → Nat
  | (.string bytes, d) => bytes.length + uptoBulk d + 1
  | (_, d) => uptoBulk d + 1
 end
def uptoSmall : (H : Type) → List (DataW H) → Bool := fun _ ds => decide (uptoBulkAll ds ≤ 1048576)
def OpenSpec.upto (s : _root_.Go.ChangeSpec) : _root_.Go.OpenSpec := { _root_.Go.OpenSpec.ofChange s with cond := some uptoSmall }

/-- 'versallaw24.ColrBoxes', WHERE WHAT IT READS IS OF BULK AT MOST 1048576: true; the input reads as it did. -/
def colrBoxesUptoRow : OpenClaim := { program := "ytcgiiomghmffbaa", sum := "febeff6a6487130d764ea347044d742ed30e59dfd913b624193474f7d11d7c58", func := "versal/versallaw24.ColrBoxes", spec := "colrBoxes", unfollowed := true, recurses := true, apart := false, narrowed := true }
def ColrBoxesUptoSaid : Prop := colrBoxesUptoRow.holds Try.pinned (OpenSpec.upto colrBoxesSpec)

/-- 'versallaw24.ColrOld', WHERE WHAT IT READS IS OF BULK AT MOST 1048576: true; the input reads as it did. -/
def colrOldUptoRow : OpenClaim := { program := "ytcgiiomghmffbaa", sum := "febeff6a6487130d764ea347044d742ed30e59dfd913b624193474f7d11d7c58", func := "versal/versallaw24.ColrOld", spec := "colrOld", unfollowed := true, recurses := true, apart := false, narrowed := true }
def ColrOldUptoSaid : Prop := colrOldUptoRow.holds Try.pinned (OpenSpec.upto colrOldSpec)

/-- 'versallaw24.ColrKnown', WHERE WHAT IT READS IS OF BULK AT MOST 1048576: true; the input reads as it did. -/
def colrKnownUptoRow : OpenClaim := { program := "ytcgiiomghmffbaa", sum := "febeff6a6487130d764ea347044d742ed30e59dfd913b624193474f7d11d7c58", func := "versal/versallaw24.ColrKnown", spec := "colrKnown", unfollowed := true, recurses := true, apart := false, narrowed := true }
def ColrKnownUptoSaid : Prop := colrKnownUptoRow.holds Try.pinned (OpenSpec.upto colrKnownSpec)

/-- 'versallaw24.ColrTells', WHERE WHAT IT READS IS OF BULK AT MOST 1048576: true; the input reads as it did. -/
def colrTellsUptoRow : OpenClaim := { program := "ytcgiiomghmffbaa", sum := "febeff6a6487130d764ea347044d742ed30e59dfd913b624193474f7d11d7c58", func := "versal/versallaw24.ColrTells", spec := "colrTells", unfollowed := true, recurses := true, apart := false, narrowed := true }
def ColrTellsUptoSaid : Prop := colrTellsUptoRow.holds Try.pinned (OpenSpec.upto colrTellsSpec)

end Rows
end Go.Proofs.Ytcgiiomghmffbaa
