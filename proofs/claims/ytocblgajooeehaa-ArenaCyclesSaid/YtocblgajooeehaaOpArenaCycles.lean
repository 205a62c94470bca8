/- The sentence ArenaCycles: its run in the abstract machine ends in true, whatever the arguments are; and the model's run is the abstract machine's. No condition. -/
import Derived.Test.YtocblgajooeehaaRows
import Derived.Test.YtocblgajooeehaaCutZ
import Derived.WalkKit
import Derived.ProofKit
import Derived.OpenShut
import Derived.ShutString
import Derived.ChangeOld
import Derived.Below
import Derived.SizedLaws
import Derived.Carry
namespace Go.Proofs.Ytocblgajooeehaa.arenaCycles
open Go.ChangeShapes Go.WideShapes Go.ChangeAt Go.RowKit
open Go.ChangeMaps (open_string shut_string)
set_option linter.unusedVariables false
theorem own : ownKnob Try.prog.godebug = none := by kernel_rfl
theorem laidOut : laidOutB Try.prog = true := by kernel_rfl
section
open Go.Vabs
theorem mix : Try.prog.follows .mixedOrders = true := by kernel_rfl
theorem calls (W : World) {a0 : Int} (w0 : (Lit.int .i64 a0).wf = true) {a1 : Int} (w1 : (Lit.int .i64 a1).wf = true) (a2 : Bool) :
    Calls Try.prog 6 #[.int .i64 a0, .int .i64 a1, .bool a2] W fun e W' => e = .returned (.bool true) ∧ Go.RowKit.Below W.heap.size W W' := by
  have run : ∃ s, callF (tabOf Go.Proofs.Ytocblgajooeehaa.Lit.tab) 1000 101 6 [.int .i64 a0, .int .i64 a1, .bool a2] (few []) = some (.bool true, s) := by
    have hg : T.get (tabOf Go.Proofs.Ytocblgajooeehaa.Lit.tab) 6 = some Go.Proofs.Ytocblgajooeehaa.Lit.c6 := by kernel_rfl
    cases a2
    · obtain ⟨s, h⟩ := Go.Proofs.Ytocblgajooeehaa.Lit.root0 a0 a1
      exact ⟨s, (call_den hg).trans h⟩
    · obtain ⟨s, h⟩ := Go.Proofs.Ytocblgajooeehaa.Lit.root1 a0 a1
      exact ⟨s, (call_den hg).trans h⟩
  obtain ⟨s, h⟩ := run
  exact (Sound.tab mix Go.Proofs.Ytocblgajooeehaa.Lit.tab_ok 1000 101).law_flat (args := [.int .i64 a0, .int .i64 a1, .bool a2]) (args' := [.int .i64 a0, .int .i64 a1, .bool a2]) rfl ⟨rfl, rfl, rfl, trivial⟩ h
end

set_option maxRecDepth 100000 in
theorem lifted (os : Os) (started : os.Started) (H : Type) (enc : TypeId × Value → H) :
    ReturnsInHanded {} Try.checked os 6 .any (Rows.arenaCyclesSpec.pre6 enc Try.prog Try.f6 Rows.arenaCyclesRow.domain false) (Rows.arenaCyclesSpec.post enc Try.prog Try.f6 false true false false) := by
  refine returnsInHanded_of_change_sized (C := Try.checked) own started (by kernel_rfl) Try.func6
    (ChangeSpec.witness6 (enc := enc) (C := Try.checked) false ⟨#[], #[.int .i64 0, .int .i64 0, .bool false], []⟩ 8 (by kernel_rfl) (by kernel_rfl) (by kernel_rfl) (by kernel_rfl)) ?_
  intro W base args ds gs before hval0 hW hcnd hsz0 _
  have hsz : (DataW.weightsEach Try.prog (Try.f6.params.toList ++ Rows.arenaCyclesSpec.plain.varTypes Try.prog) (ds ++ gs)).all (· ≤ reachBytes) = true := hsz0
  have hval : ∀ (j : Nat) t v, Try.f6.params[j]? = some t → args[j]? = some v → Value.okWide Try.prog W .any base t v := hval0
  have hW' := hW
  obtain ⟨p, q, hA0, hV, rfl, hfz, hnd⟩ := hW
  have hA : DataW.TrodAll enc Try.prog W 0 (fun _ => true) true Try.f6.params.toList args.toList ds p := hA0
  rw [Try.params6] at hA hval hsz
  obtain ⟨v0, vs0, d0, ds0, p0, q0, hargs, rfl, rfl, h0, r0⟩ := trodAll_cons hA
  obtain ⟨v1, vs1, d1, ds1, p1, q1, rfl, rfl, rfl, h1, r1⟩ := trodAll_cons r0
  obtain ⟨v2, vs2, d2, ds2, p2, q2, rfl, rfl, rfl, h2, r2⟩ := trodAll_cons r1
  obtain ⟨rfl, rfl, rfl⟩ := trodAll_nil r2
  obtain rfl : args = #[v0, v1, v2] := by cases args; simp_all
  obtain ⟨rfl, rfl⟩ := trodVars_none hV
  obtain ⟨a0, rfl, rfl, rfl, w0⟩ := open_int Try.underlying3 (hval 0 3 v0 rfl rfl) h0
  obtain ⟨a1, rfl, rfl, rfl, w1⟩ := open_int Try.underlying3 (hval 1 3 v1 rfl rfl) h1
  obtain ⟨a2, rfl, rfl, rfl⟩ := open_bool Try.underlying4 (hval 2 4 v2 rfl rfl) h2
  clear hA0 hval0 hsz0 hsz
  refine (calls W w0 w1 a2).mono fun e W' ⟨he, bel⟩ => ?_
  subst he
  exact ⟨_, rfl, _, _, _, [], _, [], hW', trodAll_mk1 (shut_bool Try.underlying4 _), (trodAll_cons_mk (shut_int Try.underlying3 w0) (trodAll_cons_mk (shut_int Try.underlying3 w1) (trodAll_cons_mk (shut_bool Try.underlying4 _) trodAll_mk0))), rfl, bel.frame _, fun h => by cases h⟩
theorem over : Rows.arenaCyclesRow.holds Try.pinned (OpenSpec.ofChange Rows.arenaCyclesSpec) :=
  OpenClaim.holds_of_wide 6 Try.f6 rfl rfl rfl rfl rfl rfl rfl ⟨rfl, rfl, rfl, rfl, rfl⟩ rfl rfl rfl rfl rfl (by kernel_rfl) Try.func6 (by kernel_rfl)
    (of_decide_eq_true (by kernel_rfl)) (by unfold Func.isWrapper; first | (rw [if_pos (by decide +kernel)]; kernel_rfl) | (rw [if_neg (by decide +kernel)]; exact ⟨rfl, rfl⟩))
    (fun os started H enc _ => lifted os started H enc)
theorem proved : Rows.ArenaCyclesSaid := over
#print axioms proved
end Go.Proofs.Ytocblgajooeehaa.arenaCycles
namespace Go.Proofs.Ytocblgajooeehaa
/-- The row, under a short name, for the claim. -/
theorem arenaCycles_holds : Rows.ArenaCyclesSaid := arenaCycles.proved
end Go.Proofs.Ytocblgajooeehaa
