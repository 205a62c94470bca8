/-
  No cell of these rows narrows 'for every input' (looked for: loops, veiled, ifaces, maps, wideKeys, modest, calm, conditions, laid).
  DERIVED. THE GIVEN ROWS OF THIS SEAT. 4 by the template 'for every input the law returns true; each argument reads behind the call as it read before'; 0 by the template 'total and deterministic' (their statements: YtjjgckkmkdffeaaGreatTotals.lean).
  GIVEN WITH THE SEED: the statements are not yours to turn. If you find one false, say at which input.
  Laid BY PROGRAM, IN A SANDBOX (cutbox-rows.mjs): the forced cells as the released guide's own fill.sh prints them over the translation 2af205686ca6ba2e… (all of the seat's roots in one cut). By AI agents, Wed Nov 11 2026. No macro, syntax, notation, axiom, sorry.
-/
import Derived.Test.YtjjgckkmkdffeaaGreatChecked
import GoSem.Claim
import GoSem.ClaimJoined
import GoSem.ClaimMapViews
import Derived.JoinedTies
import Derived.KernelRfl
namespace Go.Proofs.YtjjgckkmkdffeaaGreat
/- THE CELL 'sum', in the pinned program and in every row, IS THE sha256 OF THE DUMP (.gsa) THAT YtjjgckkmkdffeaaGreatProg.lean LOADS. Nothing in Lean hashes anything: it is a label: what it is worth is what the hold of that sum in a sandbox is worth. -/
noncomputable def Tryz.pinned : Pinned := { name := "ytjjgckkmkdffeaagreat", sum := "2af205686ca6ba2e5591185d4bece5dbb874d56a2bfb9cc9079e55a7612b54eb", checked := Tryz.checked }
namespace Rows
def none {H : Type} : Left H := { results := [], args := [] }

/-- 'versallaw30.ForgeKnown': WHATEVER THE INPUT: true; the input reads as it did. -/
def forgeKnownSpec : ChangeSpec := { name := "forgeKnown", fn := fun _ => fun
  | [] => { results := [.lit (.bool true)], args := [] }
  | _ => none }
def forgeKnownRow : OpenClaim := { program := "ytjjgckkmkdffeaagreat", sum := "2af205686ca6ba2e5591185d4bece5dbb874d56a2bfb9cc9079e55a7612b54eb", func := "versal/versallaw30.ForgeKnown", spec := "forgeKnown", unfollowed := true, recurses := true, apart := false }
def ForgeKnownSaid : Prop := forgeKnownRow.holds Tryz.pinned (OpenSpec.ofChange forgeKnownSpec)

/-- ITS FALSE NEIGHBOUR: 'it returns false'. Refute it at one input. -/
def forgeKnownWrong : ChangeSpec := { name := "forgeKnown", fn := fun _ => fun
  | [] => { results := [.lit (.bool false)], args := [] }
  | _ => none }
def ForgeKnownWrongFalsely : Prop := forgeKnownRow.holds Tryz.pinned (OpenSpec.ofChange forgeKnownWrong)

/-- 'versallaw30.ForgeFonts': WHATEVER THE INPUT: true; the input reads as it did. -/
def forgeFontsSpec : ChangeSpec := { name := "forgeFonts", fn := fun _ => fun
  | [d1, d2] => { results := [.lit (.bool true)], args := [d1, d2] }
  | _ => none }
def forgeFontsRow : OpenClaim := { program := "ytjjgckkmkdffeaagreat", sum := "2af205686ca6ba2e5591185d4bece5dbb874d56a2bfb9cc9079e55a7612b54eb", func := "versal/versallaw30.ForgeFonts", spec := "forgeFonts", unfollowed := true, recurses := true, apart := false }
def ForgeFontsSaid : Prop := forgeFontsRow.holds Tryz.pinned (OpenSpec.ofChange forgeFontsSpec)

/-- ITS FALSE NEIGHBOUR: 'it returns false'. Refute it at one input. -/
def forgeFontsWrong : ChangeSpec := { name := "forgeFonts", fn := fun _ => fun
  | [d1, d2] => { results := [.lit (.bool false)], args := [d1, d2] }
  | _ => none }
def ForgeFontsWrongFalsely : Prop := forgeFontsRow.holds Tryz.pinned (OpenSpec.ofChange forgeFontsWrong)

/-- 'versallaw30.ForgeRight': WHATEVER THE INPUT: true; the input reads as it did. -/
def forgeRightSpec : ChangeSpec := { name := "forgeRight", fn := fun _ => fun
  | [d1, d2] => { results := [.lit (.bool true)], args := [d1, d2] }
  | _ => none }
def forgeRightRow : OpenClaim := { program := "ytjjgckkmkdffeaagreat", sum := "2af205686ca6ba2e5591185d4bece5dbb874d56a2bfb9cc9079e55a7612b54eb", func := "versal/versallaw30.ForgeRight", spec := "forgeRight", unfollowed := true, recurses := true, apart := false }
def ForgeRightSaid : Prop := forgeRightRow.holds Tryz.pinned (OpenSpec.ofChange forgeRightSpec)

/-- ITS FALSE NEIGHBOUR: 'it returns false'. Refute it at one input. -/
def forgeRightWrong : ChangeSpec := { name := "forgeRight", fn := fun _ => fun
  | [d1, d2] => { results := [.lit (.bool false)], args := [d1, d2] }
  | _ => none }
def ForgeRightWrongFalsely : Prop := forgeRightRow.holds Tryz.pinned (OpenSpec.ofChange forgeRightWrong)

/-- 'versallaw30.ForgeBack': WHATEVER THE INPUT: true; the input reads as it did. -/
def forgeBackSpec : ChangeSpec := { name := "forgeBack", fn := fun _ => fun
  | [d1, d2, d3, d4] => { results := [.lit (.bool true)], args := [d1, d2, d3, d4] }
  | _ => none }
def forgeBackRow : OpenClaim := { program := "ytjjgckkmkdffeaagreat", sum := "2af205686ca6ba2e5591185d4bece5dbb874d56a2bfb9cc9079e55a7612b54eb", func := "versal/versallaw30.ForgeBack", spec := "forgeBack", unfollowed := true, recurses := true, apart := false }
def ForgeBackSaid : Prop := forgeBackRow.holds Tryz.pinned (OpenSpec.ofChange forgeBackSpec)

/-- ITS FALSE NEIGHBOUR: 'it returns false'. Refute it at one input. -/
def forgeBackWrong : ChangeSpec := { name := "forgeBack", fn := fun _ => fun
  | [d1, d2, d3, d4] => { results := [.lit (.bool false)], args := [d1, d2, d3, d4] }
  | _ => none }
def ForgeBackWrongFalsely : Prop := forgeBackRow.holds Tryz.pinned (OpenSpec.ofChange forgeBackWrong)

/- THE SECOND FORM. 'bulk': how many values and letters a reading holds, each counted each time it is reached (what is shared counts as often as it is met; a slice's spare places count too). A statement '..UptoSaid' is the law's where the arguments, and the package variables that the reading takes, are together of bulk at most 1048576: NARROWER than '..Said'. Prove '..Said' where nothing that the law and all that it calls make is longer than what came in: it says more and counts as full. Else prove '..UptoSaid'. A law counts once. -/
mutual
def uptoBulk {H : Type} : DataW H → Nat
  | .lit (.string bytes) => bytes.length + 1
  | .lit _ => 1
  | .nil => 1
  | .ptr d => uptoBulk d + 1
  | .slice elems spare => uptoBulkAll elems + uptoBulkAll spare + 1
  | .agg parts => uptoBulkAll parts + 1
  | .iface _ d => uptoBulk d + 1
  | .map entries => uptoBulkEntries entries + 1
  | .held _ => 1
def uptoBulkAll {H : Type} : List (DataW H) → Nat
  | [] => 0
  | d :: r => uptoBulk d + uptoBulkAll r
def uptoBulkEntries {H : Type} : List (Lit × DataW H) → Nat
  | [] => 0
  | x :: r => uptoBulkEntry x + uptoBulkEntries r
def uptoBulkEntry {H : Type} : Lit × DataW H → Nat
  | (.string bytes, d) => bytes.length + uptoBulk d + 1
  | (_, d) => uptoBulk d + 1
 end
def uptoSmall : (H : Type) → List (DataW H) → Bool := fun _ ds => decide (uptoBulkAll ds ≤ 1048576)
def OpenSpec.upto (s : _root_.Go.ChangeSpec) : _root_.Go.OpenSpec := { _root_.Go.OpenSpec.ofChange s with cond := some uptoSmall }

/-- 'versallaw30.ForgeKnown', WHERE WHAT IT READS IS OF BULK AT MOST 1048576: true; the input reads as it did. -/
def forgeKnownUptoRow : OpenClaim := { program := "ytjjgckkmkdffeaagreat", sum := "2af205686ca6ba2e5591185d4bece5dbb874d56a2bfb9cc9079e55a7612b54eb", func := "versal/versallaw30.ForgeKnown", spec := "forgeKnown", unfollowed := true, recurses := true, apart := false, narrowed := true }
def ForgeKnownUptoSaid : Prop := forgeKnownUptoRow.holds Tryz.pinned (OpenSpec.upto forgeKnownSpec)

/-- 'versallaw30.ForgeFonts', WHERE WHAT IT READS IS OF BULK AT MOST 1048576: true; the input reads as it did. -/
def forgeFontsUptoRow : OpenClaim := { program := "ytjjgckkmkdffeaagreat", sum := "2af205686ca6ba2e5591185d4bece5dbb874d56a2bfb9cc9079e55a7612b54eb", func := "versal/versallaw30.ForgeFonts", spec := "forgeFonts", unfollowed := true, recurses := true, apart := false, narrowed := true }
def ForgeFontsUptoSaid : Prop := forgeFontsUptoRow.holds Tryz.pinned (OpenSpec.upto forgeFontsSpec)

/-- 'versallaw30.ForgeRight', WHERE WHAT IT READS IS OF BULK AT MOST 1048576: true; the input reads as it did. -/
def forgeRightUptoRow : OpenClaim := { program := "ytjjgckkmkdffeaagreat", sum := "2af205686ca6ba2e5591185d4bece5dbb874d56a2bfb9cc9079e55a7612b54eb", func := "versal/versallaw30.ForgeRight", spec := "forgeRight", unfollowed := true, recurses := true, apart := false, narrowed := true }
def ForgeRightUptoSaid : Prop := forgeRightUptoRow.holds Tryz.pinned (OpenSpec.upto forgeRightSpec)

/-- 'versallaw30.ForgeBack', WHERE WHAT IT READS IS OF BULK AT MOST 1048576: true; the input reads as it did. -/
def forgeBackUptoRow : OpenClaim := { program := "ytjjgckkmkdffeaagreat", sum := "2af205686ca6ba2e5591185d4bece5dbb874d56a2bfb9cc9079e55a7612b54eb", func := "versal/versallaw30.ForgeBack", spec := "forgeBack", unfollowed := true, recurses := true, apart := false, narrowed := true }
def ForgeBackUptoSaid : Prop := forgeBackUptoRow.holds Tryz.pinned (OpenSpec.upto forgeBackSpec)

end Rows
end Go.Proofs.YtjjgckkmkdffeaaGreat
