/- The sentence FlatStraight: its run in the abstract machine ends in true, whatever the arguments are; and the model's run is the abstract machine's. No condition. -/
import Derived.Test.YtpjinhofjaapaaaRows
import Derived.Test.YtpjinhofjaapaaaVabsFm
import Derived.WalkKit
import Derived.ProofKit
import Derived.OpenShut
import Derived.ShutString
import Derived.ChangeOld
import Derived.Below
import Derived.SizedLaws
import Derived.Carry
namespace Go.Proofs.Ytpjinhofjaapaaa.flatStraight
open Go.ChangeShapes Go.WideShapes Go.ChangeAt Go.RowKit
open Go.ChangeMaps (open_string shut_string)
set_option linter.unusedVariables false
theorem own : ownKnob Try.prog.godebug = none := by kernel_rfl
theorem laidOut : laidOutB Try.prog = true := by kernel_rfl
section
open Go.Vabs Go.Vabs.Ph Go.Vabs.Fl
theorem mix : Try.prog.follows .mixedOrders = true := by kernel_rfl
theorem knownRuns : Go.Vabs.isTrue (Go.Vabs.callF (Go.Vabs.table Try.prog 46) 100000 60 7 [] Go.Vabs.st0) = true := by kernel_rfl
noncomputable section
abbrev B0 : CallT := withF (fun _ _ _ => none) 45 1 brought_c
abbrev B1 : CallT := withF B0 40 1 (Clip_c 45)
abbrev B2 : CallT := withF B1 39 1 bent_c
abbrev B3 : CallT := withF B2 19 1 Pick_c
abbrev B4 : CallT := withF B3 18 1 (Num_c 19)
abbrev B5 : CallT := withL B4 31 (lawOf (flatRd segS))
abbrev B6 : CallT := withL B5 26 (lawOf (flatRd ofS))
abbrev B7 : CallT := withL B6 25 (lawOf (flatRd curveS))
abbrev B8 : CallT := withL B7 13 (lawOf (flatRd curve2S))
abbrev B9 : CallT := withL B8 7 (lawOf (closedRd (.bool true)))
end
theorem s4 : Sound Try.prog B4 := ((((Sound.nothing.withF mix 1 (by kernel_rfl)).withF mix 1 (by kernel_rfl)).withF mix 1 (by kernel_rfl)).withF mix 1 (by kernel_rfl)).withF mix 1 (by kernel_rfl)
theorem clip1 : ClipF B1 40 := ClipF.code BroughtF.code
theorem s5 : Sound Try.prog B5 := seg_sound mix s4 (by kernel_rfl)
theorem clip5 : ClipF B5 40 := by
  repeat (first | exact clip1 | refine ClipF.other ?_ (by decide) | refine ClipF.withF ?_ (by decide))
theorem s6 : Sound Try.prog B6 := of_sound mix s5 clip5 (by kernel_rfl)
theorem bent6 : BentF B6 39 := by
  repeat (first | exact BentF.code | refine BentF.other ?_ (by decide) | refine BentF.withF ?_ (by decide))
theorem seg6 : SegF B6 31 := seg_fact.other (by decide)
theorem s7 : Sound Try.prog B7 := curve_sound mix s6 bent6 seg6 (by kernel_rfl)
theorem s8 : Sound Try.prog B8 := curve2_sound mix s7 (of_fact.other (by decide)) curve_fact (by kernel_rfl)
theorem s9 : Sound Try.prog B9 := by
  obtain ⟨s, h⟩ := isTrue_some knownRuns
  exact s8.closed (Sound.table mix 46 100000 60) h rfl
theorem s10 : Sound Try.prog (withF B9 6 10 (Straight_c 18 13 7)) := s9.withF mix 10 (by kernel_rfl)
theorem num9 : NumHF B9 18 := by
  repeat (first | exact NumHF.code PickF.code | refine NumHF.other ?_ (by decide) | refine NumHF.withF ?_ (by decide))
theorem calls (W : World) {a0 : Int} (w0 : (Lit.int .i64 a0).wf = true) {a1 : Int} (w1 : (Lit.int .i64 a1).wf = true) {a2 : Int} (w2 : (Lit.int .i64 a2).wf = true) {a3 : Int} (w3 : (Lit.int .i64 a3).wf = true) :
    Calls Try.prog 6 #[.int .i64 a0, .int .i64 a1, .int .i64 a2, .int .i64 a3] W fun e W' => e = .returned (.bool true) ∧ Below W.heap.size W W' := by
  obtain ⟨s1, e⟩ := Straight_run num9 (curve2_fact.other (by decide)) (fun st => closed_call) (i64_of_wf w0) (i64_of_wf w1) (i64_of_wf w2) (i64_of_wf w3)
  exact s10.law_flat (args := [.int .i64 a0, .int .i64 a1, .int .i64 a2, .int .i64 a3]) (args' := [.int .i64 a0, .int .i64 a1, .int .i64 a2, .int .i64 a3]) rfl ⟨rfl, rfl, rfl, rfl, trivial⟩ (by rw [withF_same]; exact e)
end

set_option maxRecDepth 100000 in
theorem lifted (os : Os) (started : os.Started) (H : Type) (enc : TypeId × Value → H) :
    ReturnsInHanded {} Try.checked os 6 .any (Rows.flatStraightSpec.pre6 enc Try.prog Try.f6 Rows.flatStraightRow.domain false) (Rows.flatStraightSpec.post enc Try.prog Try.f6 false true false false) := by
  refine returnsInHanded_of_change_sized (C := Try.checked) own started (by kernel_rfl) Try.func6
    (ChangeSpec.witness6 (enc := enc) (C := Try.checked) false ⟨#[], #[.int .i64 0, .int .i64 0, .int .i64 0, .int .i64 0], []⟩ 8 (by kernel_rfl) (by kernel_rfl) (by kernel_rfl) (by kernel_rfl)) ?_
  intro W base args ds gs before hval0 hW hcnd hsz0 _
  have hsz : (DataW.weightsEach Try.prog (Try.f6.params.toList ++ Rows.flatStraightSpec.plain.varTypes Try.prog) (ds ++ gs)).all (· ≤ reachBytes) = true := hsz0
  have hval : ∀ (j : Nat) t v, Try.f6.params[j]? = some t → args[j]? = some v → Value.okWide Try.prog W .any base t v := hval0
  have hW' := hW
  obtain ⟨p, q, hA0, hV, rfl, hfz, hnd⟩ := hW
  have hA : DataW.TrodAll enc Try.prog W 0 (fun _ => true) true Try.f6.params.toList args.toList ds p := hA0
  rw [Try.params6] at hA hval hsz
  obtain ⟨v0, vs0, d0, ds0, p0, q0, hargs, rfl, rfl, h0, r0⟩ := trodAll_cons hA
  obtain ⟨v1, vs1, d1, ds1, p1, q1, rfl, rfl, rfl, h1, r1⟩ := trodAll_cons r0
  obtain ⟨v2, vs2, d2, ds2, p2, q2, rfl, rfl, rfl, h2, r2⟩ := trodAll_cons r1
  obtain ⟨v3, vs3, d3, ds3, p3, q3, rfl, rfl, rfl, h3, r3⟩ := trodAll_cons r2
  obtain ⟨rfl, rfl, rfl⟩ := trodAll_nil r3
  obtain rfl : args = #[v0, v1, v2, v3] := by cases args; simp_all
  obtain ⟨rfl, rfl⟩ := trodVars_none hV
  obtain ⟨a0, rfl, rfl, rfl, w0⟩ := open_int Try.underlying3 (hval 0 3 v0 rfl rfl) h0
  obtain ⟨a1, rfl, rfl, rfl, w1⟩ := open_int Try.underlying3 (hval 1 3 v1 rfl rfl) h1
  obtain ⟨a2, rfl, rfl, rfl, w2⟩ := open_int Try.underlying3 (hval 2 3 v2 rfl rfl) h2
  obtain ⟨a3, rfl, rfl, rfl, w3⟩ := open_int Try.underlying3 (hval 3 3 v3 rfl rfl) h3
  clear hA0 hval0 hsz0 hsz
  refine (calls W w0 w1 w2 w3).mono fun e W' ⟨he, bel⟩ => ?_
  subst he
  exact ⟨_, rfl, _, _, _, [], _, [], hW', trodAll_mk1 (shut_bool Try.underlying4 _), (trodAll_cons_mk (shut_int Try.underlying3 w0) (trodAll_cons_mk (shut_int Try.underlying3 w1) (trodAll_cons_mk (shut_int Try.underlying3 w2) (trodAll_cons_mk (shut_int Try.underlying3 w3) trodAll_mk0)))), rfl, bel.frame _, fun h => by cases h⟩
theorem over : Rows.flatStraightRow.holds Try.pinned (OpenSpec.ofChange Rows.flatStraightSpec) :=
  OpenClaim.holds_of_wide 6 Try.f6 rfl rfl rfl rfl rfl rfl rfl ⟨rfl, rfl, rfl, rfl, rfl⟩ rfl rfl rfl rfl rfl (by kernel_rfl) Try.func6 (by kernel_rfl)
    (of_decide_eq_true (by kernel_rfl)) (by unfold Func.isWrapper; first | (rw [if_pos (by decide +kernel)]; kernel_rfl) | (rw [if_neg (by decide +kernel)]; exact ⟨rfl, rfl⟩))
    (fun os started H enc _ => lifted os started H enc)
theorem proved : Rows.FlatStraightSaid := over
#print axioms proved
end Go.Proofs.Ytpjinhofjaapaaa.flatStraight
namespace Go.Proofs.Ytpjinhofjaapaaa
/-- The row, under a short name, for the claim. -/
theorem flatStraight_holds : Rows.FlatStraightSaid := flatStraight.proved
end Go.Proofs.Ytpjinhofjaapaaa
