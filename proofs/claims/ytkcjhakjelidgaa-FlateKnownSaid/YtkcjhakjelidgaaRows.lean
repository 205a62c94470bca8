/-
  No cell of these rows narrows 'for every input' (looked for: loops, veiled, ifaces, maps, wideKeys, modest, calm, conditions, laid).
  DERIVED. THE GIVEN ROWS OF THIS SEAT. 5 by the template 'for every input the law returns true; each argument reads behind the call as it read before'; 0 by the template 'total and deterministic' (their statements: YtkcjhakjelidgaaTotals.lean).
  GIVEN WITH THE SEED: the statements are not yours to turn. If you find one false, say at which input.
  Laid BY PROGRAM, IN A SANDBOX (cutbox-rows.mjs): the forced cells as the released guide's own fill.sh prints them over the translation 4bb044a1ac5afeb7… (all of the seat's roots in one cut). By AI agents, Wed Nov 11 2026. No macro, syntax, notation, axiom, sorry.
-/
import Derived.Test.YtkcjhakjelidgaaChecked
import GoSem.Claim
import GoSem.ClaimJoined
import GoSem.ClaimMapViews
import Derived.JoinedTies
import Derived.KernelRfl
namespace Go.Proofs.Ytkcjhakjelidgaa
/- THE CELL 'sum', in the pinned program and in every row, IS THE sha256 OF THE DUMP (.gsa) THAT YtkcjhakjelidgaaProg.lean LOADS. Nothing in Lean hashes anything: it is a label: what it is worth is what the hold of that sum in a sandbox is worth. -/
noncomputable def Try.pinned : Pinned := { name := "ytkcjhakjelidgaa", sum := "4bb044a1ac5afeb73529840ac10c235f6832ce2d0c20d2c532e8a2ad1731f567", checked := Try.checked }
namespace Rows
def none {H : Type} : Left H := { results := [], args := [] }

/-- 'versallaw8.FlateKnown': WHATEVER THE INPUT: true; the input reads as it did. -/
def flateKnownSpec : ChangeSpec := { name := "flateKnown", fn := fun _ => fun
  | [] => { results := [.lit (.bool true)], args := [] }
  | _ => none }
def flateKnownRow : OpenClaim := { program := "ytkcjhakjelidgaa", sum := "4bb044a1ac5afeb73529840ac10c235f6832ce2d0c20d2c532e8a2ad1731f567", func := "versal/versallaw8.FlateKnown", spec := "flateKnown", unfollowed := true, recurses := true, apart := false }
def FlateKnownSaid : Prop := flateKnownRow.holds Try.pinned (OpenSpec.ofChange flateKnownSpec)

/-- ITS FALSE NEIGHBOUR: 'it returns false'. Refute it at one input. -/
def flateKnownWrong : ChangeSpec := { name := "flateKnown", fn := fun _ => fun
  | [] => { results := [.lit (.bool false)], args := [] }
  | _ => none }
def FlateKnownWrongFalsely : Prop := flateKnownRow.holds Try.pinned (OpenSpec.ofChange flateKnownWrong)

/-- 'versallaw8.FlateTells': WHATEVER THE INPUT: true; the input reads as it did. -/
def flateTellsSpec : ChangeSpec := { name := "flateTells", fn := fun _ => fun
  | [d1, d2, d3, d4, d5, d6, d7] => { results := [.lit (.bool true)], args := [d1, d2, d3, d4, d5, d6, d7] }
  | _ => none }
def flateTellsRow : OpenClaim := { program := "ytkcjhakjelidgaa", sum := "4bb044a1ac5afeb73529840ac10c235f6832ce2d0c20d2c532e8a2ad1731f567", func := "versal/versallaw8.FlateTells", spec := "flateTells", unfollowed := true, recurses := true, apart := false }
def FlateTellsSaid : Prop := flateTellsRow.holds Try.pinned (OpenSpec.ofChange flateTellsSpec)

/-- ITS FALSE NEIGHBOUR: 'it returns false'. Refute it at one input. -/
def flateTellsWrong : ChangeSpec := { name := "flateTells", fn := fun _ => fun
  | [d1, d2, d3, d4, d5, d6, d7] => { results := [.lit (.bool false)], args := [d1, d2, d3, d4, d5, d6, d7] }
  | _ => none }
def FlateTellsWrongFalsely : Prop := flateTellsRow.holds Try.pinned (OpenSpec.ofChange flateTellsWrong)

/-- 'versallaw8.FlateFixed': WHATEVER THE INPUT: true; the input reads as it did. -/
def flateFixedSpec : ChangeSpec := { name := "flateFixed", fn := fun _ => fun
  | [d1, d2] => { results := [.lit (.bool true)], args := [d1, d2] }
  | _ => none }
def flateFixedRow : OpenClaim := { program := "ytkcjhakjelidgaa", sum := "4bb044a1ac5afeb73529840ac10c235f6832ce2d0c20d2c532e8a2ad1731f567", func := "versal/versallaw8.FlateFixed", spec := "flateFixed", unfollowed := true, recurses := true, apart := false }
def FlateFixedSaid : Prop := flateFixedRow.holds Try.pinned (OpenSpec.ofChange flateFixedSpec)

/-- ITS FALSE NEIGHBOUR: 'it returns false'. Refute it at one input. -/
def flateFixedWrong : ChangeSpec := { name := "flateFixed", fn := fun _ => fun
  | [d1, d2] => { results := [.lit (.bool false)], args := [d1, d2] }
  | _ => none }
def FlateFixedWrongFalsely : Prop := flateFixedRow.holds Try.pinned (OpenSpec.ofChange flateFixedWrong)

/-- 'versallaw8.FlateOwn': WHATEVER THE INPUT: true; the input reads as it did. -/
def flateOwnSpec : ChangeSpec := { name := "flateOwn", fn := fun _ => fun
  | [d1, d2] => { results := [.lit (.bool true)], args := [d1, d2] }
  | _ => none }
def flateOwnRow : OpenClaim := { program := "ytkcjhakjelidgaa", sum := "4bb044a1ac5afeb73529840ac10c235f6832ce2d0c20d2c532e8a2ad1731f567", func := "versal/versallaw8.FlateOwn", spec := "flateOwn", unfollowed := true, recurses := true, apart := false }
def FlateOwnSaid : Prop := flateOwnRow.holds Try.pinned (OpenSpec.ofChange flateOwnSpec)

/-- ITS FALSE NEIGHBOUR: 'it returns false'. Refute it at one input. -/
def flateOwnWrong : ChangeSpec := { name := "flateOwn", fn := fun _ => fun
  | [d1, d2] => { results := [.lit (.bool false)], args := [d1, d2] }
  | _ => none }
def FlateOwnWrongFalsely : Prop := flateOwnRow.holds Try.pinned (OpenSpec.ofChange flateOwnWrong)

/-- 'versallaw8.FlateStored': WHATEVER THE INPUT: true; the input reads as it did. -/
def flateStoredSpec : ChangeSpec := { name := "flateStored", fn := fun _ => fun
  | [d1, d2, d3] => { results := [.lit (.bool true)], args := [d1, d2, d3] }
  | _ => none }
def flateStoredRow : OpenClaim := { program := "ytkcjhakjelidgaa", sum := "4bb044a1ac5afeb73529840ac10c235f6832ce2d0c20d2c532e8a2ad1731f567", func := "versal/versallaw8.FlateStored", spec := "flateStored", unfollowed := true, recurses := true, apart := false }
def FlateStoredSaid : Prop := flateStoredRow.holds Try.pinned (OpenSpec.ofChange flateStoredSpec)

/-- ITS FALSE NEIGHBOUR: 'it returns false'. Refute it at one input. -/
def flateStoredWrong : ChangeSpec := { name := "flateStored", fn := fun _ => fun
  | [d1, d2, d3] => { results := [.lit (.bool false)], args := [d1, d2, d3] }
  | _ => none }
def FlateStoredWrongFalsely : Prop := flateStoredRow.holds Try.pinned (OpenSpec.ofChange flateStoredWrong)

/- THE SECOND FORM. 'bulk': how many values and letters a reading holds, each counted each time it is reached (what is shared counts as often as it is met; a slice's spare places count too). A statement '..UptoSaid' is the law's where the arguments, and the package variables that the reading takes, are together of bulk at most 1048576: NARROWER than '..Said'. Prove '..Said' where nothing that the law and all that it calls make is longer than what came in: it says more and counts as full. Else prove '..UptoSaid'. A law counts once. -/
mutual
def uptoBulk {H : Type} : DataW H → Nat
  | .lit (.string bytes) => bytes.length + 1
  | .lit _ => 1
  | .nil => 1
  | .ptr d => uptoBulk d + 1
  | .slice elems spare => uptoBulkAll elems + uptoBulkAll spare + 1
  | .agg parts => uptoBulkAll parts + 1
  | .iface _ d => uptoBulk d + 1
  | .map entries => uptoBulkEntries entries + 1
  | .held _ => 1
def uptoBulkAll {H : Type} : List (DataW H) → Nat
  | [] => 0
  | d :: r => uptoBulk d + uptoBulkAll r
def uptoBulkEntries {H : Type} : List (Lit × DataW H) → Nat
  | [] => 0
  | x :: r => uptoBulkEntry x + uptoBulkEntries r
def uptoBulkEntry {H : Type} : Lit × DataW H → Nat
  | (.string bytes, d) => bytes.length + uptoBulk d + 1
  | (_, d) => uptoBulk d + 1
 end
def uptoSmall : (H : Type) → List (DataW H) → Bool := fun _ ds => decide (uptoBulkAll ds ≤ 1048576)
def OpenSpec.upto (s : _root_.Go.ChangeSpec) : _root_.Go.OpenSpec := { _root_.Go.OpenSpec.ofChange s with cond := some uptoSmall }

/-- 'versallaw8.FlateKnown', WHERE WHAT IT READS IS OF BULK AT MOST 1048576: true; the input reads as it did. -/
def flateKnownUptoRow : OpenClaim := { program := "ytkcjhakjelidgaa", sum := "4bb044a1ac5afeb73529840ac10c235f6832ce2d0c20d2c532e8a2ad1731f567", func := "versal/versallaw8.FlateKnown", spec := "flateKnown", unfollowed := true, recurses := true, apart := false, narrowed := true }
def FlateKnownUptoSaid : Prop := flateKnownUptoRow.holds Try.pinned (OpenSpec.upto flateKnownSpec)

/-- 'versallaw8.FlateTells', WHERE WHAT IT READS IS OF BULK AT MOST 1048576: true; the input reads as it did. -/
def flateTellsUptoRow : OpenClaim := { program := "ytkcjhakjelidgaa", sum := "4bb044a1ac5afeb73529840ac10c235f6832ce2d0c20d2c532e8a2ad1731f567", func := "versal/versallaw8.FlateTells", spec := "flateTells", unfollowed := true, recurses := true, apart := false, narrowed := true }
def FlateTellsUptoSaid : Prop := flateTellsUptoRow.holds Try.pinned (OpenSpec.upto flateTellsSpec)

/-- 'versallaw8.FlateFixed', WHERE WHAT IT READS IS OF BULK AT MOST 1048576: true; the input reads as it did. -/
def flateFixedUptoRow : OpenClaim := { program := "ytkcjhakjelidgaa", sum := "4bb044a1ac5afeb73529840ac10c235f6832ce2d0c20d2c532e8a2ad1731f567", func := "versal/versallaw8.FlateFixed", spec := "flateFixed", unfollowed := true, recurses := true, apart := false, narrowed := true }
def FlateFixedUptoSaid : Prop := flateFixedUptoRow.holds Try.pinned (OpenSpec.upto flateFixedSpec)

/-- 'versallaw8.FlateOwn', WHERE WHAT IT READS IS OF BULK AT MOST 1048576: true; the input reads as it did. -/
def flateOwnUptoRow : OpenClaim := { program := "ytkcjhakjelidgaa", sum := "4bb044a1ac5afeb73529840ac10c235f6832ce2d0c20d2c532e8a2ad1731f567", func := "versal/versallaw8.FlateOwn", spec := "flateOwn", unfollowed := true, recurses := true, apart := false, narrowed := true }
def FlateOwnUptoSaid : Prop := flateOwnUptoRow.holds Try.pinned (OpenSpec.upto flateOwnSpec)

/-- 'versallaw8.FlateStored', WHERE WHAT IT READS IS OF BULK AT MOST 1048576: true; the input reads as it did. -/
def flateStoredUptoRow : OpenClaim := { program := "ytkcjhakjelidgaa", sum := "4bb044a1ac5afeb73529840ac10c235f6832ce2d0c20d2c532e8a2ad1731f567", func := "versal/versallaw8.FlateStored", spec := "flateStored", unfollowed := true, recurses := true, apart := false, narrowed := true }
def FlateStoredUptoSaid : Prop := flateStoredUptoRow.holds Try.pinned (OpenSpec.upto flateStoredSpec)

end Rows
end Go.Proofs.Ytkcjhakjelidgaa
