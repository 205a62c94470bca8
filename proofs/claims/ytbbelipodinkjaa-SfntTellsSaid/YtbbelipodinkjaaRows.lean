/-
  No cell of these rows narrows 'for every input' (looked for: loops, veiled, ifaces, maps, wideKeys, modest, calm, conditions, laid).
  DERIVED. THE GIVEN ROWS OF THIS SEAT. 4 by the template 'for every input the law returns true; each argument reads behind the call as it read before'; 0 by the template 'total and deterministic' (their statements: YtbbelipodinkjaaTotals.lean).
  GIVEN WITH THE SEED: the statements are not yours to turn. If you find one false, say at which input.
  Laid BY PROGRAM, IN A SANDBOX (cutbox-rows.mjs): the forced cells as the released guide's own fill.sh prints them over the translation 27f02c2a2be08c39… (all of the seat's roots in one cut). By AI agents, Wed Nov 11 2026. No macro, syntax, notation, axiom, sorry.
-/
import Derived.Test.YtbbelipodinkjaaChecked
import GoSem.Claim
import GoSem.ClaimJoined
import GoSem.ClaimMapViews
import Derived.JoinedTies
import Derived.KernelRfl
namespace Go.Proofs.Ytbbelipodinkjaa
/- THE CELL 'sum', in the pinned program and in every row, IS THE sha256 OF THE DUMP (.gsa) THAT YtbbelipodinkjaaProg.lean LOADS. Nothing in Lean hashes anything: it is a label: what it is worth is what the hold of that sum in a sandbox is worth. -/
noncomputable def Try.pinned : Pinned := { name := "ytbbelipodinkjaa", sum := "27f02c2a2be08c390cae0815958829f615e1d1c16cca6dea6bd841752cfc9c5e", checked := Try.checked }
namespace Rows
def none {H : Type} : Left H := { results := [], args := [] }

/-- 'versallaw14.SfntKnown': WHATEVER THE INPUT: true; the input reads as it did. -/
def sfntKnownSpec : ChangeSpec := { name := "sfntKnown", fn := fun _ => fun
  | [] => { results := [.lit (.bool true)], args := [] }
  | _ => none }
def sfntKnownRow : OpenClaim := { program := "ytbbelipodinkjaa", sum := "27f02c2a2be08c390cae0815958829f615e1d1c16cca6dea6bd841752cfc9c5e", func := "versal/versallaw14.SfntKnown", spec := "sfntKnown", unfollowed := true, recurses := true, apart := false }
def SfntKnownSaid : Prop := sfntKnownRow.holds Try.pinned (OpenSpec.ofChange sfntKnownSpec)

/-- ITS FALSE NEIGHBOUR: 'it returns false'. Refute it at one input. -/
def sfntKnownWrong : ChangeSpec := { name := "sfntKnown", fn := fun _ => fun
  | [] => { results := [.lit (.bool false)], args := [] }
  | _ => none }
def SfntKnownWrongFalsely : Prop := sfntKnownRow.holds Try.pinned (OpenSpec.ofChange sfntKnownWrong)

/-- 'versallaw14.SfntTells': WHATEVER THE INPUT: true; the input reads as it did. -/
def sfntTellsSpec : ChangeSpec := { name := "sfntTells", fn := fun _ => fun
  | [d1, d2, d3, d4, d5, d6, d7] => { results := [.lit (.bool true)], args := [d1, d2, d3, d4, d5, d6, d7] }
  | _ => none }
def sfntTellsRow : OpenClaim := { program := "ytbbelipodinkjaa", sum := "27f02c2a2be08c390cae0815958829f615e1d1c16cca6dea6bd841752cfc9c5e", func := "versal/versallaw14.SfntTells", spec := "sfntTells", apart := false }
def SfntTellsSaid : Prop := sfntTellsRow.holds Try.pinned (OpenSpec.ofChange sfntTellsSpec)

/-- ITS FALSE NEIGHBOUR: 'it returns false'. Refute it at one input. -/
def sfntTellsWrong : ChangeSpec := { name := "sfntTells", fn := fun _ => fun
  | [d1, d2, d3, d4, d5, d6, d7] => { results := [.lit (.bool false)], args := [d1, d2, d3, d4, d5, d6, d7] }
  | _ => none }
def SfntTellsWrongFalsely : Prop := sfntTellsRow.holds Try.pinned (OpenSpec.ofChange sfntTellsWrong)

/-- 'versallaw14.SfntBack': WHATEVER THE INPUT: true; the input reads as it did. -/
def sfntBackSpec : ChangeSpec := { name := "sfntBack", fn := fun _ => fun
  | [d1, d2] => { results := [.lit (.bool true)], args := [d1, d2] }
  | _ => none }
def sfntBackRow : OpenClaim := { program := "ytbbelipodinkjaa", sum := "27f02c2a2be08c390cae0815958829f615e1d1c16cca6dea6bd841752cfc9c5e", func := "versal/versallaw14.SfntBack", spec := "sfntBack", apart := false }
def SfntBackSaid : Prop := sfntBackRow.holds Try.pinned (OpenSpec.ofChange sfntBackSpec)

/-- ITS FALSE NEIGHBOUR: 'it returns false'. Refute it at one input. -/
def sfntBackWrong : ChangeSpec := { name := "sfntBack", fn := fun _ => fun
  | [d1, d2] => { results := [.lit (.bool false)], args := [d1, d2] }
  | _ => none }
def SfntBackWrongFalsely : Prop := sfntBackRow.holds Try.pinned (OpenSpec.ofChange sfntBackWrong)

/-- 'versallaw14.SfntAnywhere': WHATEVER THE INPUT: true; the input reads as it did. -/
def sfntAnywhereSpec : ChangeSpec := { name := "sfntAnywhere", fn := fun _ => fun
  | [d1, d2] => { results := [.lit (.bool true)], args := [d1, d2] }
  | _ => none }
def sfntAnywhereRow : OpenClaim := { program := "ytbbelipodinkjaa", sum := "27f02c2a2be08c390cae0815958829f615e1d1c16cca6dea6bd841752cfc9c5e", func := "versal/versallaw14.SfntAnywhere", spec := "sfntAnywhere", apart := false }
def SfntAnywhereSaid : Prop := sfntAnywhereRow.holds Try.pinned (OpenSpec.ofChange sfntAnywhereSpec)

/-- ITS FALSE NEIGHBOUR: 'it returns false'. Refute it at one input. -/
def sfntAnywhereWrong : ChangeSpec := { name := "sfntAnywhere", fn := fun _ => fun
  | [d1, d2] => { results := [.lit (.bool false)], args := [d1, d2] }
  | _ => none }
def SfntAnywhereWrongFalsely : Prop := sfntAnywhereRow.holds Try.pinned (OpenSpec.ofChange sfntAnywhereWrong)

/- THE SECOND FORM. 'bulk': how many values and letters a reading holds, each counted each time it is reached (what is shared counts as often as it is met; a slice's spare places count too). A statement '..UptoSaid' is the law's where the arguments, and the package variables that the reading takes, are together of bulk at most 1048576: NARROWER than '..Said'. Prove '..Said' where nothing that the law and all that it calls make is longer than what came in: it says more and counts as full. Else prove '..UptoSaid'. A law counts once. -/
mutual
def uptoBulk {H : Type} : DataW H → Nat
  | .lit (.string bytes) => bytes.length + 1
  | .lit _ => 1
  | .nil => 1
  | .ptr d => uptoBulk d + 1
  | .slice elems spare => uptoBulkAll elems + uptoBulkAll spare + 1
  | .agg parts => uptoBulkAll parts + 1
  | .iface _ d => uptoBulk d + 1
  | .map entries => uptoBulkEntries entries + 1
  | .held _ => 1
def uptoBulkAll {H : Type} : List (DataW H) → Nat
  | [] => 0
  | d :: r => uptoBulk d + uptoBulkAll r
def uptoBulkEntries {H : Type} : List (Lit × DataW H) → Nat
  | [] => 0
  | x :: r => uptoBulkEntry x + uptoBulkEntries r
def uptoBulkEntry {H : Type} : Lit × DataW H → Nat
  | (.string bytes, d) => bytes.length + uptoBulk d + 1
  | (_, d) => uptoBulk d + 1
 end
def uptoSmall : (H : Type) → List (DataW H) → Bool := fun _ ds => decide (uptoBulkAll ds ≤ 1048576)
def OpenSpec.upto (s : _root_.Go.ChangeSpec) : _root_.Go.OpenSpec := { _root_.Go.OpenSpec.ofChange s with cond := some uptoSmall }

/-- 'versallaw14.SfntKnown', WHERE WHAT IT READS IS OF BULK AT MOST 1048576: true; the input reads as it did. -/
def sfntKnownUptoRow : OpenClaim := { program := "ytbbelipodinkjaa", sum := "27f02c2a2be08c390cae0815958829f615e1d1c16cca6dea6bd841752cfc9c5e", func := "versal/versallaw14.SfntKnown", spec := "sfntKnown", unfollowed := true, recurses := true, apart := false, narrowed := true }
def SfntKnownUptoSaid : Prop := sfntKnownUptoRow.holds Try.pinned (OpenSpec.upto sfntKnownSpec)

/-- 'versallaw14.SfntTells', WHERE WHAT IT READS IS OF BULK AT MOST 1048576: true; the input reads as it did. -/
def sfntTellsUptoRow : OpenClaim := { program := "ytbbelipodinkjaa", sum := "27f02c2a2be08c390cae0815958829f615e1d1c16cca6dea6bd841752cfc9c5e", func := "versal/versallaw14.SfntTells", spec := "sfntTells", apart := false, narrowed := true }
def SfntTellsUptoSaid : Prop := sfntTellsUptoRow.holds Try.pinned (OpenSpec.upto sfntTellsSpec)

/-- 'versallaw14.SfntBack', WHERE WHAT IT READS IS OF BULK AT MOST 1048576: true; the input reads as it did. -/
def sfntBackUptoRow : OpenClaim := { program := "ytbbelipodinkjaa", sum := "27f02c2a2be08c390cae0815958829f615e1d1c16cca6dea6bd841752cfc9c5e", func := "versal/versallaw14.SfntBack", spec := "sfntBack", apart := false, narrowed := true }
def SfntBackUptoSaid : Prop := sfntBackUptoRow.holds Try.pinned (OpenSpec.upto sfntBackSpec)

/-- 'versallaw14.SfntAnywhere', WHERE WHAT IT READS IS OF BULK AT MOST 1048576: true; the input reads as it did. -/
def sfntAnywhereUptoRow : OpenClaim := { program := "ytbbelipodinkjaa", sum := "27f02c2a2be08c390cae0815958829f615e1d1c16cca6dea6bd841752cfc9c5e", func := "versal/versallaw14.SfntAnywhere", spec := "sfntAnywhere", apart := false, narrowed := true }
def SfntAnywhereUptoSaid : Prop := sfntAnywhereUptoRow.holds Try.pinned (OpenSpec.upto sfntAnywhereSpec)

end Rows
end Go.Proofs.Ytbbelipodinkjaa
