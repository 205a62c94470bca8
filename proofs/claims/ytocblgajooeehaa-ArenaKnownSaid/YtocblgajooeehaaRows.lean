/-
  No cell of these rows narrows 'for every input' (looked for: loops, veiled, ifaces, maps, wideKeys, modest, calm, conditions, laid).
  DERIVED. THE GIVEN ROWS OF THIS SEAT. 4 by the template 'for every input the law returns true; each argument reads behind the call as it read before'; 0 by the template 'total and deterministic' (their statements: YtocblgajooeehaaTotals.lean).
  GIVEN WITH THE SEED: the statements are not yours to turn. If you find one false, say at which input.
  Laid BY PROGRAM, IN A SANDBOX (cutbox-rows.mjs): the forced cells as the released guide's own fill.sh prints them over the translation 096cf3d1b31b165c… (all of the seat's roots in one cut). By AI agents, Wed Nov 11 2026. No macro, syntax, notation, axiom, sorry.
-/
import Derived.Test.YtocblgajooeehaaChecked
import GoSem.Claim
import GoSem.ClaimJoined
import GoSem.ClaimMapViews
import Derived.JoinedTies
import Derived.KernelRfl
namespace Go.Proofs.Ytocblgajooeehaa
/- THE CELL 'sum', in the pinned program and in every row, IS THE sha256 OF THE DUMP (.gsa) THAT YtocblgajooeehaaProg.lean LOADS. Nothing in Lean hashes anything: it is a label: what it is worth is what the hold of that sum in a sandbox is worth. -/
noncomputable def Try.pinned : Pinned := { name := "ytocblgajooeehaa", sum := "096cf3d1b31b165c62fee5937f0f31f0cf24a977633258680b3c69f0aa8c6872", checked := Try.checked }
namespace Rows
def none {H : Type} : Left H := { results := [], args := [] }

/-- 'versallaw25.ArenaKnown': WHATEVER THE INPUT: true; the input reads as it did. -/
def arenaKnownSpec : ChangeSpec := { name := "arenaKnown", fn := fun _ => fun
  | [] => { results := [.lit (.bool true)], args := [] }
  | _ => none }
def arenaKnownRow : OpenClaim := { program := "ytocblgajooeehaa", sum := "096cf3d1b31b165c62fee5937f0f31f0cf24a977633258680b3c69f0aa8c6872", func := "versal/versallaw25.ArenaKnown", spec := "arenaKnown", unfollowed := true, recurses := true, apart := false }
def ArenaKnownSaid : Prop := arenaKnownRow.holds Try.pinned (OpenSpec.ofChange arenaKnownSpec)

/-- ITS FALSE NEIGHBOUR: 'it returns false'. Refute it at one input. -/
def arenaKnownWrong : ChangeSpec := { name := "arenaKnown", fn := fun _ => fun
  | [] => { results := [.lit (.bool false)], args := [] }
  | _ => none }
def ArenaKnownWrongFalsely : Prop := arenaKnownRow.holds Try.pinned (OpenSpec.ofChange arenaKnownWrong)

/-- 'versallaw25.ArenaBack': WHATEVER THE INPUT: true; the input reads as it did. -/
def arenaBackSpec : ChangeSpec := { name := "arenaBack", fn := fun _ => fun
  | [d1, d2, d3] => { results := [.lit (.bool true)], args := [d1, d2, d3] }
  | _ => none }
def arenaBackRow : OpenClaim := { program := "ytocblgajooeehaa", sum := "096cf3d1b31b165c62fee5937f0f31f0cf24a977633258680b3c69f0aa8c6872", func := "versal/versallaw25.ArenaBack", spec := "arenaBack", unfollowed := true, recurses := true, apart := false }
def ArenaBackSaid : Prop := arenaBackRow.holds Try.pinned (OpenSpec.ofChange arenaBackSpec)

/-- ITS FALSE NEIGHBOUR: 'it returns false'. Refute it at one input. -/
def arenaBackWrong : ChangeSpec := { name := "arenaBack", fn := fun _ => fun
  | [d1, d2, d3] => { results := [.lit (.bool false)], args := [d1, d2, d3] }
  | _ => none }
def ArenaBackWrongFalsely : Prop := arenaBackRow.holds Try.pinned (OpenSpec.ofChange arenaBackWrong)

/-- 'versallaw25.ArenaShares': WHATEVER THE INPUT: true; the input reads as it did. -/
def arenaSharesSpec : ChangeSpec := { name := "arenaShares", fn := fun _ => fun
  | [d] => { results := [.lit (.bool true)], args := [d] }
  | _ => none }
def arenaSharesRow : OpenClaim := { program := "ytocblgajooeehaa", sum := "096cf3d1b31b165c62fee5937f0f31f0cf24a977633258680b3c69f0aa8c6872", func := "versal/versallaw25.ArenaShares", spec := "arenaShares", unfollowed := true, recurses := true, apart := false }
def ArenaSharesSaid : Prop := arenaSharesRow.holds Try.pinned (OpenSpec.ofChange arenaSharesSpec)

/-- ITS FALSE NEIGHBOUR: 'it returns false'. Refute it at one input. -/
def arenaSharesWrong : ChangeSpec := { name := "arenaShares", fn := fun _ => fun
  | [d] => { results := [.lit (.bool false)], args := [d] }
  | _ => none }
def ArenaSharesWrongFalsely : Prop := arenaSharesRow.holds Try.pinned (OpenSpec.ofChange arenaSharesWrong)

/-- 'versallaw25.ArenaCycles': WHATEVER THE INPUT: true; the input reads as it did. -/
def arenaCyclesSpec : ChangeSpec := { name := "arenaCycles", fn := fun _ => fun
  | [d1, d2, d3] => { results := [.lit (.bool true)], args := [d1, d2, d3] }
  | _ => none }
def arenaCyclesRow : OpenClaim := { program := "ytocblgajooeehaa", sum := "096cf3d1b31b165c62fee5937f0f31f0cf24a977633258680b3c69f0aa8c6872", func := "versal/versallaw25.ArenaCycles", spec := "arenaCycles", unfollowed := true, recurses := true, apart := false }
def ArenaCyclesSaid : Prop := arenaCyclesRow.holds Try.pinned (OpenSpec.ofChange arenaCyclesSpec)

/-- ITS FALSE NEIGHBOUR: 'it returns false'. Refute it at one input. -/
def arenaCyclesWrong : ChangeSpec := { name := "arenaCycles", fn := fun _ => fun
  | [d1, d2, d3] => { results := [.lit (.bool false)], args := [d1, d2, d3] }
  | _ => none }
def ArenaCyclesWrongFalsely : Prop := arenaCyclesRow.holds Try.pinned (OpenSpec.ofChange arenaCyclesWrong)

/- THE SECOND FORM. 'bulk': how many values and letters a reading holds, each counted each time it is reached (what is shared counts as often as it is met; a slice's spare places count too). A statement '..UptoSaid' is the law's where the arguments, and the package variables that the reading takes, are together of bulk at most 1048576: NARROWER than '..Said'. Prove '..Said' where nothing that the law and all that it calls make is longer than what came in: it says more and counts as full. Else prove '..UptoSaid'. A law counts once. -/
mutual
def uptoBulk {H : Type} : DataW H → Nat
  | .lit (.string bytes) => bytes.length + 1
  | .lit _ => 1
  | .nil => 1
  | .ptr d => uptoBulk d + 1
  | .slice elems spare => uptoBulkAll elems + uptoBulkAll spare + 1
  | .agg parts => uptoBulkAll parts + 1
  | .iface _ d => uptoBulk d + 1
  | .map entries => uptoBulkEntries entries + 1
  | .held _ => 1
def uptoBulkAll {H : Type} : List (DataW H) → Nat
  | [] => 0
  | d :: r => uptoBulk d + uptoBulkAll r
def uptoBulkEntries {H : Type} : List (Lit × DataW H) → Nat
  | [] => 0
  | x :: r => uptoBulkEntry x + uptoBulkEntries r
def uptoBulkEntry {H : Type} : Lit × DataW H → Nat
  | (.string bytes, d) => bytes.length + uptoBulk d + 1
  | (_, d) => uptoBulk d + 1
 end
def uptoSmall : (H : Type) → List (DataW H) → Bool := fun _ ds => decide (uptoBulkAll ds ≤ 1048576)
def OpenSpec.upto (s : _root_.Go.ChangeSpec) : _root_.Go.OpenSpec := { _root_.Go.OpenSpec.ofChange s with cond := some uptoSmall }

/-- 'versallaw25.ArenaKnown', WHERE WHAT IT READS IS OF BULK AT MOST 1048576: true; the input reads as it did. -/
def arenaKnownUptoRow : OpenClaim := { program := "ytocblgajooeehaa", sum := "096cf3d1b31b165c62fee5937f0f31f0cf24a977633258680b3c69f0aa8c6872", func := "versal/versallaw25.ArenaKnown", spec := "arenaKnown", unfollowed := true, recurses := true, apart := false, narrowed := true }
def ArenaKnownUptoSaid : Prop := arenaKnownUptoRow.holds Try.pinned (OpenSpec.upto arenaKnownSpec)

/-- 'versallaw25.ArenaBack', WHERE WHAT IT READS IS OF BULK AT MOST 1048576: true; the input reads as it did. -/
def arenaBackUptoRow : OpenClaim := { program := "ytocblgajooeehaa", sum := "096cf3d1b31b165c62fee5937f0f31f0cf24a977633258680b3c69f0aa8c6872", func := "versal/versallaw25.ArenaBack", spec := "arenaBack", unfollowed := true, recurses := true, apart := false, narrowed := true }
def ArenaBackUptoSaid : Prop := arenaBackUptoRow.holds Try.pinned (OpenSpec.upto arenaBackSpec)

/-- 'versallaw25.ArenaShares', WHERE WHAT IT READS IS OF BULK AT MOST 1048576: true; the input reads as it did. -/
def arenaSharesUptoRow : OpenClaim := { program := "ytocblgajooeehaa", sum := "096cf3d1b31b165c62fee5937f0f31f0cf24a977633258680b3c69f0aa8c6872", func := "versal/versallaw25.ArenaShares", spec := "arenaShares", unfollowed := true, recurses := true, apart := false, narrowed := true }
def ArenaSharesUptoSaid : Prop := arenaSharesUptoRow.holds Try.pinned (OpenSpec.upto arenaSharesSpec)

/-- 'versallaw25.ArenaCycles', WHERE WHAT IT READS IS OF BULK AT MOST 1048576: true; the input reads as it did. -/
def arenaCyclesUptoRow : OpenClaim := { program := "ytocblgajooeehaa", sum := "096cf3d1b31b165c62fee5937f0f31f0cf24a977633258680b3c69f0aa8c6872", func := "versal/versallaw25.ArenaCycles", spec := "arenaCycles", unfollowed := true, recurses := true, apart := false, narrowed := true }
def ArenaCyclesUptoSaid : Prop := arenaCyclesUptoRow.holds Try.pinned (OpenSpec.upto arenaCyclesSpec)

end Rows
end Go.Proofs.Ytocblgajooeehaa
