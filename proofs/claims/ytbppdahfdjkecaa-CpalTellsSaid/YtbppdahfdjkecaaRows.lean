/-
  No cell of these rows narrows 'for every input' (looked for: loops, veiled, ifaces, maps, wideKeys, modest, calm, conditions, laid).
  DERIVED. THE GIVEN ROWS OF THIS SEAT. 3 by the template 'for every input the law returns true; each argument reads behind the call as it read before'; 0 by the template 'total and deterministic' (their statements: YtbppdahfdjkecaaTotals.lean).
  GIVEN WITH THE SEED: the statements are not yours to turn. If you find one false, say at which input.
  Laid BY PROGRAM, IN A SANDBOX (cutbox-rows.mjs): the forced cells as the released guide's own fill.sh prints them over the translation 398c998d03829150… (all of the seat's roots in one cut). By AI agents, Wed Nov 11 2026. No macro, syntax, notation, axiom, sorry.
-/
import Derived.Test.YtbppdahfdjkecaaChecked
import GoSem.Claim
import GoSem.ClaimJoined
import GoSem.ClaimMapViews
import Derived.JoinedTies
import Derived.KernelRfl
namespace Go.Proofs.Ytbppdahfdjkecaa
/- THE CELL 'sum', in the pinned program and in every row, IS THE sha256 OF THE DUMP (.gsa) THAT YtbppdahfdjkecaaProg.lean LOADS. Nothing in Lean hashes anything: it is a label: what it is worth is what the hold of that sum in a sandbox is worth. -/
noncomputable def Try.pinned : Pinned := { name := "ytbppdahfdjkecaa", sum := "398c998d038291504edd5cea188c1fa43e3db051d479ca8d713a53f9c7007bbc", checked := Try.checked }
namespace Rows
def none {H : Type} : Left H := { results := [], args := [] }

/-- 'versallaw19.CpalKnown': WHATEVER THE INPUT: true; the input reads as it did. -/
def cpalKnownSpec : ChangeSpec := { name := "cpalKnown", fn := fun _ => fun
  | [] => { results := [.lit (.bool true)], args := [] }
  | _ => none }
def cpalKnownRow : OpenClaim := { program := "ytbppdahfdjkecaa", sum := "398c998d038291504edd5cea188c1fa43e3db051d479ca8d713a53f9c7007bbc", func := "versal/versallaw19.CpalKnown", spec := "cpalKnown", unfollowed := true, recurses := true, apart := false }
def CpalKnownSaid : Prop := cpalKnownRow.holds Try.pinned (OpenSpec.ofChange cpalKnownSpec)

/-- ITS FALSE NEIGHBOUR: 'it returns false'. Refute it at one input. -/
def cpalKnownWrong : ChangeSpec := { name := "cpalKnown", fn := fun _ => fun
  | [] => { results := [.lit (.bool false)], args := [] }
  | _ => none }
def CpalKnownWrongFalsely : Prop := cpalKnownRow.holds Try.pinned (OpenSpec.ofChange cpalKnownWrong)

/-- 'versallaw19.CpalTells': WHATEVER THE INPUT: true; the input reads as it did. -/
def cpalTellsSpec : ChangeSpec := { name := "cpalTells", fn := fun _ => fun
  | [d1, d2, d3, d4, d5, d6, d7, d8] => { results := [.lit (.bool true)], args := [d1, d2, d3, d4, d5, d6, d7, d8] }
  | _ => none }
def cpalTellsRow : OpenClaim := { program := "ytbppdahfdjkecaa", sum := "398c998d038291504edd5cea188c1fa43e3db051d479ca8d713a53f9c7007bbc", func := "versal/versallaw19.CpalTells", spec := "cpalTells", unfollowed := true, recurses := true, apart := false }
def CpalTellsSaid : Prop := cpalTellsRow.holds Try.pinned (OpenSpec.ofChange cpalTellsSpec)

/-- ITS FALSE NEIGHBOUR: 'it returns false'. Refute it at one input. -/
def cpalTellsWrong : ChangeSpec := { name := "cpalTells", fn := fun _ => fun
  | [d1, d2, d3, d4, d5, d6, d7, d8] => { results := [.lit (.bool false)], args := [d1, d2, d3, d4, d5, d6, d7, d8] }
  | _ => none }
def CpalTellsWrongFalsely : Prop := cpalTellsRow.holds Try.pinned (OpenSpec.ofChange cpalTellsWrong)

/-- 'versallaw19.CpalBack': WHATEVER THE INPUT: true; the input reads as it did. -/
def cpalBackSpec : ChangeSpec := { name := "cpalBack", fn := fun _ => fun
  | [d1, d2, d3, d4] => { results := [.lit (.bool true)], args := [d1, d2, d3, d4] }
  | _ => none }
def cpalBackRow : OpenClaim := { program := "ytbppdahfdjkecaa", sum := "398c998d038291504edd5cea188c1fa43e3db051d479ca8d713a53f9c7007bbc", func := "versal/versallaw19.CpalBack", spec := "cpalBack", unfollowed := true, recurses := true, apart := false }
def CpalBackSaid : Prop := cpalBackRow.holds Try.pinned (OpenSpec.ofChange cpalBackSpec)

/-- ITS FALSE NEIGHBOUR: 'it returns false'. Refute it at one input. -/
def cpalBackWrong : ChangeSpec := { name := "cpalBack", fn := fun _ => fun
  | [d1, d2, d3, d4] => { results := [.lit (.bool false)], args := [d1, d2, d3, d4] }
  | _ => none }
def CpalBackWrongFalsely : Prop := cpalBackRow.holds Try.pinned (OpenSpec.ofChange cpalBackWrong)

/- THE SECOND FORM. 'bulk': how many values and letters a reading holds, each counted each time it is reached (what is shared counts as often as it is met; a slice's spare places count too). A statement '..UptoSaid' is the law's where the arguments, and the package variables that the reading takes, are together of bulk at most 1048576: NARROWER than '..Said'. Prove '..Said' where nothing that the law and all that it calls make is longer than what came in: it says more and counts as full. Else prove '..UptoSaid'. A law counts once. -/
mutual
def uptoBulk {H : Type} : DataW H → Nat
  | .lit (.string bytes) => bytes.length + 1
  | .lit _ => 1
  | .nil => 1
  | .ptr d => uptoBulk d + 1
  | .slice elems spare => uptoBulkAll elems + uptoBulkAll spare + 1
  | .agg parts => uptoBulkAll parts + 1
  | .iface _ d => uptoBulk d + 1
  | .map entries => uptoBulkEntries entries + 1
  | .held _ => 1
def uptoBulkAll {H : Type} : List (DataW H) → Nat
  | [] => 0
  | d :: r => uptoBulk d + uptoBulkAll r
def uptoBulkEntries {H : Type} : List (Lit × DataW H) → Nat
  | [] => 0
  | x :: r => uptoBulkEntry x + uptoBulkEntries r
def uptoBulkEntry {H : Type} : Lit × DataW H → Nat
  | (.string bytes, d) => bytes.length + uptoBulk d + 1
  | (_, d) => uptoBulk d + 1
 end
def uptoSmall : (H : Type) → List (DataW H) → Bool := fun _ ds => decide (uptoBulkAll ds ≤ 1048576)
def OpenSpec.upto (s : _root_.Go.ChangeSpec) : _root_.Go.OpenSpec := { _root_.Go.OpenSpec.ofChange s with cond := some uptoSmall }

/-- 'versallaw19.CpalKnown', WHERE WHAT IT READS IS OF BULK AT MOST 1048576: true; the input reads as it did. -/
def cpalKnownUptoRow : OpenClaim := { program := "ytbppdahfdjkecaa", sum := "398c998d038291504edd5cea188c1fa43e3db051d479ca8d713a53f9c7007bbc", func := "versal/versallaw19.CpalKnown", spec := "cpalKnown", unfollowed := true, recurses := true, apart := false, narrowed := true }
def CpalKnownUptoSaid : Prop := cpalKnownUptoRow.holds Try.pinned (OpenSpec.upto cpalKnownSpec)

/-- 'versallaw19.CpalTells', WHERE WHAT IT READS IS OF BULK AT MOST 1048576: true; the input reads as it did. -/
def cpalTellsUptoRow : OpenClaim := { program := "ytbppdahfdjkecaa", sum := "398c998d038291504edd5cea188c1fa43e3db051d479ca8d713a53f9c7007bbc", func := "versal/versallaw19.CpalTells", spec := "cpalTells", unfollowed := true, recurses := true, apart := false, narrowed := true }
def CpalTellsUptoSaid : Prop := cpalTellsUptoRow.holds Try.pinned (OpenSpec.upto cpalTellsSpec)

/-- 'versallaw19.CpalBack', WHERE WHAT IT READS IS OF BULK AT MOST 1048576: true; the input reads as it did. -/
def cpalBackUptoRow : OpenClaim := { program := "ytbppdahfdjkecaa", sum := "398c998d038291504edd5cea188c1fa43e3db051d479ca8d713a53f9c7007bbc", func := "versal/versallaw19.CpalBack", spec := "cpalBack", unfollowed := true, recurses := true, apart := false, narrowed := true }
def CpalBackUptoSaid : Prop := cpalBackUptoRow.holds Try.pinned (OpenSpec.upto cpalBackSpec)

end Rows
end Go.Proofs.Ytbppdahfdjkecaa
