/-
  No cell of these rows narrows 'for every input' (looked for: loops, veiled, ifaces, maps, wideKeys, modest, calm, conditions, laid).
  DERIVED. THE GIVEN ROWS OF THIS SEAT. 4 by the template 'for every input the law returns true; each argument reads behind the call as it read before'; 0 by the template 'total and deterministic' (their statements: YtpjinhofjaapaaaTotals.lean).
  GIVEN WITH THE SEED: the statements are not yours to turn. If you find one false, say at which input.
  Laid BY PROGRAM, IN A SANDBOX (cutbox-rows.mjs): the forced cells as the released guide's own fill.sh prints them over the translation 5e3b525a5d23b88a… (all of the seat's roots in one cut). By AI agents, Wed Nov 11 2026. No macro, syntax, notation, axiom, sorry.
-/
import Derived.Test.YtpjinhofjaapaaaChecked
import GoSem.Claim
import GoSem.ClaimJoined
import GoSem.ClaimMapViews
import Derived.JoinedTies
import Derived.KernelRfl
namespace Go.Proofs.Ytpjinhofjaapaaa
/- THE CELL 'sum', in the pinned program and in every row, IS THE sha256 OF THE DUMP (.gsa) THAT YtpjinhofjaapaaaProg.lean LOADS. Nothing in Lean hashes anything: it is a label: what it is worth is what the hold of that sum in a sandbox is worth. -/
noncomputable def Try.pinned : Pinned := { name := "ytpjinhofjaapaaa", sum := "5e3b525a5d23b88a410906d5f9069009cd2dc328a614874885a29bd84cbc29fb", checked := Try.checked }
namespace Rows
def none {H : Type} : Left H := { results := [], args := [] }

/-- 'versallaw17.FlatRounds': WHATEVER THE INPUT: true; the input reads as it did. -/
def flatRoundsSpec : ChangeSpec := { name := "flatRounds", fn := fun _ => fun
  | [d1, d2] => { results := [.lit (.bool true)], args := [d1, d2] }
  | _ => none }
def flatRoundsRow : OpenClaim := { program := "ytpjinhofjaapaaa", sum := "5e3b525a5d23b88a410906d5f9069009cd2dc328a614874885a29bd84cbc29fb", func := "versal/versallaw17.FlatRounds", spec := "flatRounds", unfollowed := true, recurses := true, apart := false }
def FlatRoundsSaid : Prop := flatRoundsRow.holds Try.pinned (OpenSpec.ofChange flatRoundsSpec)

/-- ITS FALSE NEIGHBOUR: 'it returns false'. Refute it at one input. -/
def flatRoundsWrong : ChangeSpec := { name := "flatRounds", fn := fun _ => fun
  | [d1, d2] => { results := [.lit (.bool false)], args := [d1, d2] }
  | _ => none }
def FlatRoundsWrongFalsely : Prop := flatRoundsRow.holds Try.pinned (OpenSpec.ofChange flatRoundsWrong)

/-- 'versallaw17.FlatKnown': WHATEVER THE INPUT: true; the input reads as it did. -/
def flatKnownSpec : ChangeSpec := { name := "flatKnown", fn := fun _ => fun
  | [] => { results := [.lit (.bool true)], args := [] }
  | _ => none }
def flatKnownRow : OpenClaim := { program := "ytpjinhofjaapaaa", sum := "5e3b525a5d23b88a410906d5f9069009cd2dc328a614874885a29bd84cbc29fb", func := "versal/versallaw17.FlatKnown", spec := "flatKnown", unfollowed := true, recurses := true, apart := false }
def FlatKnownSaid : Prop := flatKnownRow.holds Try.pinned (OpenSpec.ofChange flatKnownSpec)

/-- ITS FALSE NEIGHBOUR: 'it returns false'. Refute it at one input. -/
def flatKnownWrong : ChangeSpec := { name := "flatKnown", fn := fun _ => fun
  | [] => { results := [.lit (.bool false)], args := [] }
  | _ => none }
def FlatKnownWrongFalsely : Prop := flatKnownRow.holds Try.pinned (OpenSpec.ofChange flatKnownWrong)

/-- 'versallaw17.FlatTells': WHATEVER THE INPUT: true; the input reads as it did. -/
def flatTellsSpec : ChangeSpec := { name := "flatTells", fn := fun _ => fun
  | [d1, d2, d3, d4, d5, d6, d7] => { results := [.lit (.bool true)], args := [d1, d2, d3, d4, d5, d6, d7] }
  | _ => none }
def flatTellsRow : OpenClaim := { program := "ytpjinhofjaapaaa", sum := "5e3b525a5d23b88a410906d5f9069009cd2dc328a614874885a29bd84cbc29fb", func := "versal/versallaw17.FlatTells", spec := "flatTells", unfollowed := true, recurses := true, apart := false }
def FlatTellsSaid : Prop := flatTellsRow.holds Try.pinned (OpenSpec.ofChange flatTellsSpec)

/-- ITS FALSE NEIGHBOUR: 'it returns false'. Refute it at one input. -/
def flatTellsWrong : ChangeSpec := { name := "flatTells", fn := fun _ => fun
  | [d1, d2, d3, d4, d5, d6, d7] => { results := [.lit (.bool false)], args := [d1, d2, d3, d4, d5, d6, d7] }
  | _ => none }
def FlatTellsWrongFalsely : Prop := flatTellsRow.holds Try.pinned (OpenSpec.ofChange flatTellsWrong)

/-- 'versallaw17.FlatStraight': WHATEVER THE INPUT: true; the input reads as it did. -/
def flatStraightSpec : ChangeSpec := { name := "flatStraight", fn := fun _ => fun
  | [d1, d2, d3, d4] => { results := [.lit (.bool true)], args := [d1, d2, d3, d4] }
  | _ => none }
def flatStraightRow : OpenClaim := { program := "ytpjinhofjaapaaa", sum := "5e3b525a5d23b88a410906d5f9069009cd2dc328a614874885a29bd84cbc29fb", func := "versal/versallaw17.FlatStraight", spec := "flatStraight", unfollowed := true, recurses := true, apart := false }
def FlatStraightSaid : Prop := flatStraightRow.holds Try.pinned (OpenSpec.ofChange flatStraightSpec)

/-- ITS FALSE NEIGHBOUR: 'it returns false'. Refute it at one input. -/
def flatStraightWrong : ChangeSpec := { name := "flatStraight", fn := fun _ => fun
  | [d1, d2, d3, d4] => { results := [.lit (.bool false)], args := [d1, d2, d3, d4] }
  | _ => none }
def FlatStraightWrongFalsely : Prop := flatStraightRow.holds Try.pinned (OpenSpec.ofChange flatStraightWrong)

/- THE SECOND FORM. 'bulk': how many values and letters a reading holds, each counted each time it is reached (what is shared counts as often as it is met; a slice's spare places count too). A statement '..UptoSaid' is the law's where the arguments, and the package variables that the reading takes, are together of bulk at most 1048576: NARROWER than '..Said'. Prove '..Said' where nothing that the law and all that it calls make is longer than what came in: it says more and counts as full. Else prove '..UptoSaid'. A law counts once. -/
mutual
def uptoBulk {H : Type} : DataW H → Nat
  | .lit (.string bytes) => bytes.length + 1
  | .lit _ => 1
  | .nil => 1
  | .ptr d => uptoBulk d + 1
  | .slice elems spare => uptoBulkAll elems + uptoBulkAll spare + 1
  | .agg parts => uptoBulkAll parts + 1
  | .iface _ d => uptoBulk d + 1
  | .map entries => uptoBulkEntries entries + 1
  | .held _ => 1
def uptoBulkAll {H : Type} : List (DataW H) → Nat
  | [] => 0
  | d :: r => uptoBulk d + uptoBulkAll r
def uptoBulkEntries {H : Type} : List (Lit × DataW H) → Nat
  | [] => 0
  | x :: r => uptoBulkEntry x + uptoBulkEntries r
def uptoBulkEntry {H : Type} : Lit × DataW H → Nat
  | (.string bytes, d) => bytes.length + uptoBulk d + 1
  | (_, d) => uptoBulk d + 1
 end
def uptoSmall : (H : Type) → List (DataW H) → Bool := fun _ ds => decide (uptoBulkAll ds ≤ 1048576)
def OpenSpec.upto (s : _root_.Go.ChangeSpec) : _root_.Go.OpenSpec := { _root_.Go.OpenSpec.ofChange s with cond := some uptoSmall }

/-- 'versallaw17.FlatRounds', WHERE WHAT IT READS IS OF BULK AT MOST 1048576: true; the input reads as it did. -/
def flatRoundsUptoRow : OpenClaim := { program := "ytpjinhofjaapaaa", sum := "5e3b525a5d23b88a410906d5f9069009cd2dc328a614874885a29bd84cbc29fb", func := "versal/versallaw17.FlatRounds", spec := "flatRounds", unfollowed := true, recurses := true, apart := false, narrowed := true }
def FlatRoundsUptoSaid : Prop := flatRoundsUptoRow.holds Try.pinned (OpenSpec.upto flatRoundsSpec)

/-- 'versallaw17.FlatKnown', WHERE WHAT IT READS IS OF BULK AT MOST 1048576: true; the input reads as it did. -/
def flatKnownUptoRow : OpenClaim := { program := "ytpjinhofjaapaaa", sum := "5e3b525a5d23b88a410906d5f9069009cd2dc328a614874885a29bd84cbc29fb", func := "versal/versallaw17.FlatKnown", spec := "flatKnown", unfollowed := true, recurses := true, apart := false, narrowed := true }
def FlatKnownUptoSaid : Prop := flatKnownUptoRow.holds Try.pinned (OpenSpec.upto flatKnownSpec)

/-- 'versallaw17.FlatTells', WHERE WHAT IT READS IS OF BULK AT MOST 1048576: true; the input reads as it did. -/
def flatTellsUptoRow : OpenClaim := { program := "ytpjinhofjaapaaa", sum := "5e3b525a5d23b88a410906d5f9069009cd2dc328a614874885a29bd84cbc29fb", func := "versal/versallaw17.FlatTells", spec := "flatTells", unfollowed := true, recurses := true, apart := false, narrowed := true }
def FlatTellsUptoSaid : Prop := flatTellsUptoRow.holds Try.pinned (OpenSpec.upto flatTellsSpec)

/-- 'versallaw17.FlatStraight', WHERE WHAT IT READS IS OF BULK AT MOST 1048576: true; the input reads as it did. -/
def flatStraightUptoRow : OpenClaim := { program := "ytpjinhofjaapaaa", sum := "5e3b525a5d23b88a410906d5f9069009cd2dc328a614874885a29bd84cbc29fb", func := "versal/versallaw17.FlatStraight", spec := "flatStraight", unfollowed := true, recurses := true, apart := false, narrowed := true }
def FlatStraightUptoSaid : Prop := flatStraightUptoRow.holds Try.pinned (OpenSpec.upto flatStraightSpec)

end Rows
end Go.Proofs.Ytpjinhofjaapaaa
