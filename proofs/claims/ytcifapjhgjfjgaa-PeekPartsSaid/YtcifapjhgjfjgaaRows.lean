/-
  No cell of these rows narrows 'for every input' (looked for: loops, veiled, ifaces, maps, wideKeys, modest, calm, conditions, laid).
  DERIVED. THE GIVEN ROWS OF THIS SEAT. 3 by the template 'for every input the law returns true; each argument reads behind the call as it read before'; 0 by the template 'total and deterministic' (their statements: YtcifapjhgjfjgaaTotals.lean).
  GIVEN WITH THE SEED: the statements are not yours to turn. If you find one false, say at which input.
  Laid BY PROGRAM, IN A SANDBOX (cutbox-rows.mjs): the forced cells as the released guide's own fill.sh prints them over the translation 2387bc350997c8a6… (all of the seat's roots in one cut). By AI agents, Wed Nov 11 2026. No macro, syntax, notation, axiom, sorry.
-/
import Derived.Test.YtcifapjhgjfjgaaChecked
import GoSem.Claim
import GoSem.ClaimJoined
import GoSem.ClaimMapViews
import Derived.JoinedTies
import Derived.KernelRfl
namespace Go.Proofs.Ytcifapjhgjfjgaa
/- THE CELL 'sum', in the pinned program and in every row, IS THE sha256 OF THE DUMP (.gsa) THAT YtcifapjhgjfjgaaProg.lean LOADS. Nothing in Lean hashes anything: it is a label: what it is worth is what the hold of that sum in a sandbox is worth. -/
noncomputable def Try.pinned : Pinned := { name := "ytcifapjhgjfjgaa", sum := "2387bc350997c8a63cae59bcd71e0e6e7897d7dd0e58cc5f037d5d1b8b85c722", checked := Try.checked }
namespace Rows
def none {H : Type} : Left H := { results := [], args := [] }

/-- 'versallaw2.PeekParts': WHATEVER THE INPUT: true; the input reads as it did. -/
def peekPartsSpec : ChangeSpec := { name := "peekParts", fn := fun _ => fun
  | [d1, d2, d3] => { results := [.lit (.bool true)], args := [d1, d2, d3] }
  | _ => none }
def peekPartsRow : OpenClaim := { program := "ytcifapjhgjfjgaa", sum := "2387bc350997c8a63cae59bcd71e0e6e7897d7dd0e58cc5f037d5d1b8b85c722", func := "versal/versallaw2.PeekParts", spec := "peekParts", apart := false }
def PeekPartsSaid : Prop := peekPartsRow.holds Try.pinned (OpenSpec.ofChange peekPartsSpec)

/-- ITS FALSE NEIGHBOUR: 'it returns false'. Refute it at one input. -/
def peekPartsWrong : ChangeSpec := { name := "peekParts", fn := fun _ => fun
  | [d1, d2, d3] => { results := [.lit (.bool false)], args := [d1, d2, d3] }
  | _ => none }
def PeekPartsWrongFalsely : Prop := peekPartsRow.holds Try.pinned (OpenSpec.ofChange peekPartsWrong)

/-- 'versallaw2.PeekKnown': WHATEVER THE INPUT: true; the input reads as it did. -/
def peekKnownSpec : ChangeSpec := { name := "peekKnown", fn := fun _ => fun
  | [] => { results := [.lit (.bool true)], args := [] }
  | _ => none }
def peekKnownRow : OpenClaim := { program := "ytcifapjhgjfjgaa", sum := "2387bc350997c8a63cae59bcd71e0e6e7897d7dd0e58cc5f037d5d1b8b85c722", func := "versal/versallaw2.PeekKnown", spec := "peekKnown", apart := false }
def PeekKnownSaid : Prop := peekKnownRow.holds Try.pinned (OpenSpec.ofChange peekKnownSpec)

/-- ITS FALSE NEIGHBOUR: 'it returns false'. Refute it at one input. -/
def peekKnownWrong : ChangeSpec := { name := "peekKnown", fn := fun _ => fun
  | [] => { results := [.lit (.bool false)], args := [] }
  | _ => none }
def PeekKnownWrongFalsely : Prop := peekKnownRow.holds Try.pinned (OpenSpec.ofChange peekKnownWrong)

/-- 'versallaw2.PeekTells': WHATEVER THE INPUT: true; the input reads as it did. -/
def peekTellsSpec : ChangeSpec := { name := "peekTells", fn := fun _ => fun
  | [d1, d2, d3, d4] => { results := [.lit (.bool true)], args := [d1, d2, d3, d4] }
  | _ => none }
def peekTellsRow : OpenClaim := { program := "ytcifapjhgjfjgaa", sum := "2387bc350997c8a63cae59bcd71e0e6e7897d7dd0e58cc5f037d5d1b8b85c722", func := "versal/versallaw2.PeekTells", spec := "peekTells", apart := false }
def PeekTellsSaid : Prop := peekTellsRow.holds Try.pinned (OpenSpec.ofChange peekTellsSpec)

/-- ITS FALSE NEIGHBOUR: 'it returns false'. Refute it at one input. -/
def peekTellsWrong : ChangeSpec := { name := "peekTells", fn := fun _ => fun
  | [d1, d2, d3, d4] => { results := [.lit (.bool false)], args := [d1, d2, d3, d4] }
  | _ => none }
def PeekTellsWrongFalsely : Prop := peekTellsRow.holds Try.pinned (OpenSpec.ofChange peekTellsWrong)

/- THE SECOND FORM. 'bulk': how many values and letters a reading holds, each counted each time it is reached (what is shared counts as often as it is met; a slice's spare places count too). A statement '..UptoSaid' is the law's where the arguments, and the package variables that the reading takes, are together of bulk at most 1048576: NARROWER than '..Said'. Prove '..Said' where nothing that the law and all that it calls make is longer than what came in: it says more and counts as full. Else prove '..UptoSaid'. A law counts once. -/
mutual
def uptoBulk {H : Type} : DataW H → Nat
  | .lit (.string bytes) => bytes.length + 1
  | .lit _ => 1
  | .nil => 1
  | .ptr d => uptoBulk d + 1
  | .slice elems spare => uptoBulkAll elems + uptoBulkAll spare + 1
  | .agg parts => uptoBulkAll parts + 1
  | .iface _ d => uptoBulk d + 1
  | .map entries => uptoBulkEntries entries + 1
  | .held _ => 1
def uptoBulkAll {H : Type} : List (DataW H) → Nat
  | [] => 0
  | d :: r => uptoBulk d + uptoBulkAll r
def uptoBulkEntries {H : Type} : List (Lit × DataW H) → Nat
  | [] => 0
  | x :: r => uptoBulkEntry x + uptoBulkEntries r
def uptoBulkEntry {H : Type} : Lit × DataW H → Nat
  | (.string bytes, d) => bytes.length + uptoBulk d + 1
  | (_, d) => uptoBulk d + 1
 end
def uptoSmall : (H : Type) → List (DataW H) → Bool := fun _ ds => decide (uptoBulkAll ds ≤ 1048576)
def OpenSpec.upto (s : _root_.Go.ChangeSpec) : _root_.Go.OpenSpec := { _root_.Go.OpenSpec.ofChange s with cond := some uptoSmall }

/-- 'versallaw2.PeekParts', WHERE WHAT IT READS IS OF BULK AT MOST 1048576: true; the input reads as it did. -/
def peekPartsUptoRow : OpenClaim := { program := "ytcifapjhgjfjgaa", sum := "2387bc350997c8a63cae59bcd71e0e6e7897d7dd0e58cc5f037d5d1b8b85c722", func := "versal/versallaw2.PeekParts", spec := "peekParts", apart := false, narrowed := true }
def PeekPartsUptoSaid : Prop := peekPartsUptoRow.holds Try.pinned (OpenSpec.upto peekPartsSpec)

/-- 'versallaw2.PeekKnown', WHERE WHAT IT READS IS OF BULK AT MOST 1048576: true; the input reads as it did. -/
def peekKnownUptoRow : OpenClaim := { program := "ytcifapjhgjfjgaa", sum := "2387bc350997c8a63cae59bcd71e0e6e7897d7dd0e58cc5f037d5d1b8b85c722", func := "versal/versallaw2.PeekKnown", spec := "peekKnown", apart := false, narrowed := true }
def PeekKnownUptoSaid : Prop := peekKnownUptoRow.holds Try.pinned (OpenSpec.upto peekKnownSpec)

/-- 'versallaw2.PeekTells', WHERE WHAT IT READS IS OF BULK AT MOST 1048576: true; the input reads as it did. -/
def peekTellsUptoRow : OpenClaim := { program := "ytcifapjhgjfjgaa", sum := "2387bc350997c8a63cae59bcd71e0e6e7897d7dd0e58cc5f037d5d1b8b85c722", func := "versal/versallaw2.PeekTells", spec := "peekTells", apart := false, narrowed := true }
def PeekTellsUptoSaid : Prop := peekTellsUptoRow.holds Try.pinned (OpenSpec.upto peekTellsSpec)

end Rows
end Go.Proofs.Ytcifapjhgjfjgaa
