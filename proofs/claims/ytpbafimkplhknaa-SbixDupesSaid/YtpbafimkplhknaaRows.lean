/-
  No cell of these rows narrows 'for every input' (looked for: loops, veiled, ifaces, maps, wideKeys, modest, calm, conditions, laid).
  DERIVED. THE GIVEN ROWS OF THIS SEAT. 3 by the template 'for every input the law returns true; each argument reads behind the call as it read before'; 0 by the template 'total and deterministic' (their statements: YtpbafimkplhknaaTotals.lean).
  GIVEN WITH THE SEED: the statements are not yours to turn. If you find one false, say at which input.
  Laid BY PROGRAM, IN A SANDBOX (cutbox-rows.mjs): the forced cells as the released guide's own fill.sh prints them over the translation 3101326f1cbd94b1… (all of the seat's roots in one cut). By AI agents, Wed Nov 11 2026. No macro, syntax, notation, axiom, sorry.
-/
import Derived.Test.YtpbafimkplhknaaChecked
import GoSem.Claim
import GoSem.ClaimJoined
import GoSem.ClaimMapViews
import Derived.JoinedTies
import Derived.KernelRfl
namespace Go.Proofs.Ytpbafimkplhknaa
/- THE CELL 'sum', in the pinned program and in every row, IS THE sha256 OF THE DUMP (.gsa) THAT YtpbafimkplhknaaProg.lean LOADS. Nothing in Lean hashes anything: it is a label: what it is worth is what the hold of that sum in a sandbox is worth. -/
noncomputable def Try.pinned : Pinned := { name := "ytpbafimkplhknaa", sum := "3101326f1cbd94b194335e775d2fceb0b3d049bacaccf291a40064bb8d82afc8", checked := Try.checked }
namespace Rows
def none {H : Type} : Left H := { results := [], args := [] }

/-- 'versallaw27.SbixKnown': WHATEVER THE INPUT: true; the input reads as it did. -/
def sbixKnownSpec : ChangeSpec := { name := "sbixKnown", fn := fun _ => fun
  | [] => { results := [.lit (.bool true)], args := [] }
  | _ => none }
def sbixKnownRow : OpenClaim := { program := "ytpbafimkplhknaa", sum := "3101326f1cbd94b194335e775d2fceb0b3d049bacaccf291a40064bb8d82afc8", func := "versal/versallaw27.SbixKnown", spec := "sbixKnown", unfollowed := true, recurses := true, apart := false }
def SbixKnownSaid : Prop := sbixKnownRow.holds Try.pinned (OpenSpec.ofChange sbixKnownSpec)

/-- ITS FALSE NEIGHBOUR: 'it returns false'. Refute it at one input. -/
def sbixKnownWrong : ChangeSpec := { name := "sbixKnown", fn := fun _ => fun
  | [] => { results := [.lit (.bool false)], args := [] }
  | _ => none }
def SbixKnownWrongFalsely : Prop := sbixKnownRow.holds Try.pinned (OpenSpec.ofChange sbixKnownWrong)

/-- 'versallaw27.SbixNearest': WHATEVER THE INPUT: true; the input reads as it did. -/
def sbixNearestSpec : ChangeSpec := { name := "sbixNearest", fn := fun _ => fun
  | [d1, d2] => { results := [.lit (.bool true)], args := [d1, d2] }
  | _ => none }
def sbixNearestRow : OpenClaim := { program := "ytpbafimkplhknaa", sum := "3101326f1cbd94b194335e775d2fceb0b3d049bacaccf291a40064bb8d82afc8", func := "versal/versallaw27.SbixNearest", spec := "sbixNearest", apart := false }
def SbixNearestSaid : Prop := sbixNearestRow.holds Try.pinned (OpenSpec.ofChange sbixNearestSpec)

/-- ITS FALSE NEIGHBOUR: 'it returns false'. Refute it at one input. -/
def sbixNearestWrong : ChangeSpec := { name := "sbixNearest", fn := fun _ => fun
  | [d1, d2] => { results := [.lit (.bool false)], args := [d1, d2] }
  | _ => none }
def SbixNearestWrongFalsely : Prop := sbixNearestRow.holds Try.pinned (OpenSpec.ofChange sbixNearestWrong)

/-- 'versallaw27.SbixDupes': WHATEVER THE INPUT: true; the input reads as it did. -/
def sbixDupesSpec : ChangeSpec := { name := "sbixDupes", fn := fun _ => fun
  | [d1, d2, d3, d4, d5] => { results := [.lit (.bool true)], args := [d1, d2, d3, d4, d5] }
  | _ => none }
def sbixDupesRow : OpenClaim := { program := "ytpbafimkplhknaa", sum := "3101326f1cbd94b194335e775d2fceb0b3d049bacaccf291a40064bb8d82afc8", func := "versal/versallaw27.SbixDupes", spec := "sbixDupes", apart := false }
def SbixDupesSaid : Prop := sbixDupesRow.holds Try.pinned (OpenSpec.ofChange sbixDupesSpec)

/-- ITS FALSE NEIGHBOUR: 'it returns false'. Refute it at one input. -/
def sbixDupesWrong : ChangeSpec := { name := "sbixDupes", fn := fun _ => fun
  | [d1, d2, d3, d4, d5] => { results := [.lit (.bool false)], args := [d1, d2, d3, d4, d5] }
  | _ => none }
def SbixDupesWrongFalsely : Prop := sbixDupesRow.holds Try.pinned (OpenSpec.ofChange sbixDupesWrong)

/- THE SECOND FORM. 'bulk': how many values and letters a reading holds, each counted each time it is reached (what is shared counts as often as it is met; a slice's spare places count too). A statement '..UptoSaid' is the law's where the arguments, and the package variables that the reading takes, are together of bulk at most 1048576: NARROWER than '..Said'. Prove '..Said' where nothing that the law and all that it calls make is longer than what came in: it says more and counts as full. Else prove '..UptoSaid'. A law counts once. -/
mutual
def uptoBulk {H : Type} : DataW H → Nat
  | .lit (.string bytes) => bytes.length + 1
  | .lit _ => 1
  | .nil => 1
  | .ptr d => uptoBulk d + 1
  | .slice elems spare => uptoBulkAll elems + uptoBulkAll spare + 1
  | .agg parts => uptoBulkAll parts + 1
  | .iface _ d => uptoBulk d + 1
  | .map entries => uptoBulkEntries entries + 1
  | .held _ => 1
def uptoBulkAll {H : Type} : List (DataW H) → Nat
  | [] => 0
  | d :: r => uptoBulk d + uptoBulkAll r
def uptoBulkEntries {H : Type} : List (Lit × DataW H) → Nat
  | [] => 0
  | x :: r => uptoBulkEntry x + uptoBulkEntries r
def uptoBulkEntry {H : Type} : Lit × DataW H → Nat
  | (.string bytes, d) => bytes.length + uptoBulk d + 1
  | (_, d) => uptoBulk d + 1
 end
def uptoSmall : (H : Type) → List (DataW H) → Bool := fun _ ds => decide (uptoBulkAll ds ≤ 1048576)
def OpenSpec.upto (s : _root_.Go.ChangeSpec) : _root_.Go.OpenSpec := { _root_.Go.OpenSpec.ofChange s with cond := some uptoSmall }

/-- 'versallaw27.SbixKnown', WHERE WHAT IT READS IS OF BULK AT MOST 1048576: true; the input reads as it did. -/
def sbixKnownUptoRow : OpenClaim := { program := "ytpbafimkplhknaa", sum := "3101326f1cbd94b194335e775d2fceb0b3d049bacaccf291a40064bb8d82afc8", func := "versal/versallaw27.SbixKnown", spec := "sbixKnown", unfollowed := true, recurses := true, apart := false, narrowed := true }
def SbixKnownUptoSaid : Prop := sbixKnownUptoRow.holds Try.pinned (OpenSpec.upto sbixKnownSpec)

/-- 'versallaw27.SbixNearest', WHERE WHAT IT READS IS OF BULK AT MOST 1048576: true; the input reads as it did. -/
def sbixNearestUptoRow : OpenClaim := { program := "ytpbafimkplhknaa", sum := "3101326f1cbd94b194335e775d2fceb0b3d049bacaccf291a40064bb8d82afc8", func := "versal/versallaw27.SbixNearest", spec := "sbixNearest", apart := false, narrowed := true }
def SbixNearestUptoSaid : Prop := sbixNearestUptoRow.holds Try.pinned (OpenSpec.upto sbixNearestSpec)

/-- 'versallaw27.SbixDupes', WHERE WHAT IT READS IS OF BULK AT MOST 1048576: true; the input reads as it did. -/
def sbixDupesUptoRow : OpenClaim := { program := "ytpbafimkplhknaa", sum := "3101326f1cbd94b194335e775d2fceb0b3d049bacaccf291a40064bb8d82afc8", func := "versal/versallaw27.SbixDupes", spec := "sbixDupes", apart := false, narrowed := true }
def SbixDupesUptoSaid : Prop := sbixDupesUptoRow.holds Try.pinned (OpenSpec.upto sbixDupesSpec)

end Rows
end Go.Proofs.Ytpbafimkplhknaa
