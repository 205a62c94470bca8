/- The sentence ArenaShares: its run in the abstract machine ends in true, whatever the arguments are; and the model's run is the abstract machine's. No condition. -/
import Derived.Test.YtocblgajooeehaaRows
import Derived.Test.YtocblgajooeehaaCutZ
import Derived.WalkKit
import Derived.ProofKit
import Derived.OpenShut
import Derived.ShutString
import Derived.ChangeOld
import Derived.Below
import Derived.SizedLaws
import Derived.Carry
namespace Go.Proofs.Ytocblgajooeehaa.arenaShares
open Go.ChangeShapes Go.WideShapes Go.ChangeAt Go.RowKit
open Go.ChangeMaps (open_string shut_string)
set_option linter.unusedVariables false
theorem own : ownKnob Try.prog.godebug = none := by kernel_rfl
theorem laidOut : laidOutB Try.prog = true := by kernel_rfl
section
open Go.Vabs
theorem mix : Try.prog.follows .mixedOrders = true := by kernel_rfl
theorem calls (W : World) {a0 : Int} (w0 : (Lit.int .i64 a0).wf = true) :
    Calls Try.prog 5 #[.int .i64 a0] W fun e W' => e = .returned (.bool true) ∧ Go.RowKit.Below W.heap.size W W' := by
  have run : ∃ s, callF (tabOf Go.Proofs.Ytocblgajooeehaa.Lit.tab) 1000 101 5 [.int .i64 a0] (few []) = some (.bool true, s) := by
    have hg : T.get (tabOf Go.Proofs.Ytocblgajooeehaa.Lit.tab) 5 = some Go.Proofs.Ytocblgajooeehaa.Lit.c5 := by kernel_rfl
    obtain ⟨s, h⟩ := Go.Proofs.Ytocblgajooeehaa.Lit.root0 a0
    exact ⟨s, (call_den hg).trans h⟩
  obtain ⟨s, h⟩ := run
  exact (Sound.tab mix Go.Proofs.Ytocblgajooeehaa.Lit.tab_ok 1000 101).law_flat (args := [.int .i64 a0]) (args' := [.int .i64 a0]) rfl ⟨rfl, trivial⟩ h
end

set_option maxRecDepth 100000 in
theorem lifted (os : Os) (started : os.Started) (H : Type) (enc : TypeId × Value → H) :
    ReturnsInHanded {} Try.checked os 5 .any (Rows.arenaSharesSpec.pre6 enc Try.prog Try.f5 Rows.arenaSharesRow.domain false) (Rows.arenaSharesSpec.post enc Try.prog Try.f5 false true false false) := by
  refine returnsInHanded_of_change_sized (C := Try.checked) own started (by kernel_rfl) Try.func5
    (ChangeSpec.witness6 (enc := enc) (C := Try.checked) false ⟨#[], #[.int .i64 0], []⟩ 8 (by kernel_rfl) (by kernel_rfl) (by kernel_rfl) (by kernel_rfl)) ?_
  intro W base args ds gs before hval0 hW hcnd hsz0 _
  have hsz : (DataW.weightsEach Try.prog (Try.f5.params.toList ++ Rows.arenaSharesSpec.plain.varTypes Try.prog) (ds ++ gs)).all (· ≤ reachBytes) = true := hsz0
  have hval : ∀ (j : Nat) t v, Try.f5.params[j]? = some t → args[j]? = some v → Value.okWide Try.prog W .any base t v := hval0
  have hW' := hW
  obtain ⟨p, q, hA0, hV, rfl, hfz, hnd⟩ := hW
  have hA : DataW.TrodAll enc Try.prog W 0 (fun _ => true) true Try.f5.params.toList args.toList ds p := hA0
  rw [Try.params5] at hA hval hsz
  obtain ⟨v0, vs0, d0, ds0, p0, q0, hargs, rfl, rfl, h0, r0⟩ := trodAll_cons hA
  obtain ⟨rfl, rfl, rfl⟩ := trodAll_nil r0
  obtain rfl : args = #[v0] := by cases args; simp_all
  obtain ⟨rfl, rfl⟩ := trodVars_none hV
  obtain ⟨a0, rfl, rfl, rfl, w0⟩ := open_int Try.underlying3 (hval 0 3 v0 rfl rfl) h0
  clear hA0 hval0 hsz0 hsz
  refine (calls W w0).mono fun e W' ⟨he, bel⟩ => ?_
  subst he
  exact ⟨_, rfl, _, _, _, [], _, [], hW', trodAll_mk1 (shut_bool Try.underlying4 _), (trodAll_cons_mk (shut_int Try.underlying3 w0) trodAll_mk0), rfl, bel.frame _, fun h => by cases h⟩
theorem over : Rows.arenaSharesRow.holds Try.pinned (OpenSpec.ofChange Rows.arenaSharesSpec) :=
  OpenClaim.holds_of_wide 5 Try.f5 rfl rfl rfl rfl rfl rfl rfl ⟨rfl, rfl, rfl, rfl, rfl⟩ rfl rfl rfl rfl rfl (by kernel_rfl) Try.func5 (by kernel_rfl)
    (of_decide_eq_true (by kernel_rfl)) (by unfold Func.isWrapper; first | (rw [if_pos (by decide +kernel)]; kernel_rfl) | (rw [if_neg (by decide +kernel)]; exact ⟨rfl, rfl⟩))
    (fun os started H enc _ => lifted os started H enc)
theorem proved : Rows.ArenaSharesSaid := over
#print axioms proved
end Go.Proofs.Ytocblgajooeehaa.arenaShares
namespace Go.Proofs.Ytocblgajooeehaa
/-- The row, under a short name, for the claim. -/
theorem arenaShares_holds : Rows.ArenaSharesSaid := arenaShares.proved
end Go.Proofs.Ytocblgajooeehaa
