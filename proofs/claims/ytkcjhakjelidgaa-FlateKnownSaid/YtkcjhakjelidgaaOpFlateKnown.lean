/- The sentence FlateKnown: the abstract machine runs it to true, and the model's run is the abstract machine's. No condition. -/
import Derived.Test.YtkcjhakjelidgaaRows
import Derived.Test.YtkcjhakjelidgaaVabsSj
import Derived.Test.YtkcjhakjelidgaaCutA
import Derived.Test.YtkcjhakjelidgaaCutB
import Derived.Test.YtkcjhakjelidgaaCutC
import Derived.Test.YtkcjhakjelidgaaCutF
import Derived.Test.YtkcjhakjelidgaaCutK
import Derived.Test.YtkcjhakjelidgaaCutL
import Derived.Test.YtkcjhakjelidgaaCutN
import Derived.Test.YtkcjhakjelidgaaCutS
import Derived.WalkKit
import Derived.ProofKit
import Derived.OpenShut
import Derived.ShutString
import Derived.ChangeOld
import Derived.Below
import Derived.SizedLaws
namespace Go.Proofs.Ytkcjhakjelidgaa.flateKnown
open Go.ChangeShapes Go.WideShapes Go.ChangeAt Go.RowKit
set_option linter.unusedVariables false
theorem own : ownKnob Try.prog.godebug = none := by kernel_rfl
section
open Go.Vabs Go.Vabs.Ph Go.Vabs.Pk Go.Vabs.Fb Go.Vabs.Sh Go.Vabs.Si Go.Vabs.Sj Go.Vabs.Sk Go.Vabs.Sl
theorem mix : Try.prog.follows .mixedOrders = true := by kernel_rfl
noncomputable section
abbrev B3 : CallT := withF (withF (withF (fun _ _ _ => none) 33 1 Clone_c) 46 1 bit_c) 34 26 (Take_c 46)
abbrev B4 : CallT := withF B3 47 1 Align_c
abbrev B5 : CallT := withF B4 21 1 Used_c
abbrev B6 : CallT := withF B5 48 1 iput_c
abbrev B7 : CallT := withF B6 35 65537 (istored_c 47 34 48)
abbrev B8 : CallT := withF B7 20 1 (iblock_c 34 35 36 37 38)
abbrev B9 : CallT := withF B8 19 1 (Si.NewBits_c 33)
abbrev B10 : CallT := withL B9 8 (lawOf (sightRdN (toldSpec tolds)))
abbrev B11 : CallT := withF B10 56 1 Grow_c
abbrev B12 : CallT := withL B11 39 (lawOf (sightRdN concatSpec))
abbrev B13 : CallT := withF B12 22 1 (block_c 39)
abbrev B14 : CallT := withL B13 9 (lawOf (sightRdN storedSpec))
abbrev B16 : CallT := withL B14 10 (lawOf (closedRd (.bool true)))
end
theorem s3 : Sound Try.prog B3 := ((Sound.nothing.withF mix 1 (by kernel_rfl)).withF mix 1 (by kernel_rfl)).withF mix 26 (by kernel_rfl)
theorem s4 : Sound Try.prog B4 := s3.withF mix 1 (by kernel_rfl)
theorem s5 : Sound Try.prog B5 := s4.withF mix 1 (by kernel_rfl)
theorem s6 : Sound Try.prog B6 := s5.withF mix 1 (by kernel_rfl)
theorem s7 : Sound Try.prog B7 := s6.withF mix 65537 (by kernel_rfl)
theorem s8 : Sound Try.prog B8 := s7.withF mix 1 (by kernel_rfl)
theorem s9 : Sound Try.prog B9 := s8.withF mix 1 (by kernel_rfl)
theorem take3 : TakeF B3 34 := TakeF.code BitF.code
theorem take6 : TakeF B6 34 := TakeF.withF (TakeF.withF (TakeF.withF take3 (by decide)) (by decide)) (by decide)
theorem align6 : AlignF B6 47 := AlignF.withF (AlignF.withF AlignF.code (by decide)) (by decide)
theorem put6 : PutF B6 48 := PutF.code
theorem stored7 : StoredF B7 35 := StoredF.code align6 take6 put6
theorem take7 : TakeF B7 34 := TakeF.withF take6 (by decide)
theorem blk9 : BlkF B9 20 := BlkF.withF (BlkF.code take7 stored7) (by decide)
theorem clone3 : CloneF B3 33 := CloneF.withF (CloneF.withF CloneF.code (by decide)) (by decide)
theorem clone8 : CloneF B8 33 := by
  repeat (first | exact clone3 | refine CloneF.withF ?_ (by decide))
theorem new9 : NewBF B9 19 := NewBF.code clone8
theorem used9 : UsedF B9 21 := by
  repeat (first | exact UsedF.code | refine UsedF.withF ?_ (by decide))
theorem tabS : Sound Try.prog (callF (tabOf Go.Proofs.Ytkcjhakjelidgaa.Lit.tab) 100000 61) := ⟨fun B => call_ok mix (tabOf_ok Go.Proofs.Ytkcjhakjelidgaa.Lit.tab_ok) 100000 61, callF_framed _ _ _⟩
theorem told_err {g : Nat} {n : Bool} {bs : List Nat} {lim : Int} {e : Nat} (h : ∃ s, callF (tabOf Go.Proofs.Ytkcjhakjelidgaa.Lit.tab) 100000 61 g [slOf n bs, .int .i64 lim] (memOf n bs) = some (.tuple [.slice none 0 0 0 true, .int .i64 0, .int .i64 (e : Int)], s) ∧ HasO [] s) : ToldRun Try.prog g (n, bs, lim, .inl e) := by
  obtain ⟨s, h, _⟩ := h
  exact ⟨_, tabS, _, s, [], h, fun τ n => Left.flat rfl⟩
theorem toldsRun : ∀ e ∈ tolds, ToldRun Try.prog 8 e := by
  intro e he
  unfold tolds at he
  simp only [List.mem_cons, List.not_mem_nil, or_false] at he
  rcases he with rfl | rfl | rfl | rfl | rfl | rfl | rfl
  · obtain ⟨s, h, ho⟩ := Go.Proofs.Ytkcjhakjelidgaa.Lit.RA.runs
    refine ⟨_, tabS, _, s, [690], h, fun τ n => ?_⟩
    have hg : s.heap.get 690 = some (.cells true (bytesV as10)) := (List.cons.inj ho).1
    exact Left.sl3 (n := n) (m := 10) bytesV_flat (by decide) (by decide) hg
  · exact told_err Go.Proofs.Ytkcjhakjelidgaa.Lit.RB.runs
  · exact told_err Go.Proofs.Ytkcjhakjelidgaa.Lit.RC.runs
  · exact told_err Go.Proofs.Ytkcjhakjelidgaa.Lit.RN.runs
  · exact told_err Go.Proofs.Ytkcjhakjelidgaa.Lit.RS.runs
  · exact told_err Go.Proofs.Ytkcjhakjelidgaa.Lit.RL.runs
  · exact told_err Go.Proofs.Ytkcjhakjelidgaa.Lit.RF.runs
theorem s10 : Sound Try.prog B10 := told_sound mix s9 new9 blk9 used9 (by kernel_rfl) toldsRun
theorem s11 : Sound Try.prog B11 := s10.withF mix 1 (by kernel_rfl)
theorem s12 : Sound Try.prog B12 := Concat_sound mix s11 GrowF.code (by kernel_rfl)
theorem s13 : Sound Try.prog B13 := s12.withF mix 1 (by kernel_rfl)
theorem s14 : Sound Try.prog B14 := Stored_sound mix s13 (BlockF.code concat_fact) (by kernel_rfl)
theorem s16 : Sound Try.prog B16 := by
  obtain ⟨s, h⟩ := isTrue_some Go.Proofs.Ytkcjhakjelidgaa.Lit.RK.runs
  exact s14.closed ⟨fun B => call_ok mix (tabOf_ok Go.Proofs.Ytkcjhakjelidgaa.Lit.tab_ok) 100000 61, callF_framed _ _ _⟩ h rfl
theorem s17 : Sound Try.prog (withF (nilCall B16) 3 1 (FlateKnown_c 8 9 10)) := (nil_sound s16).withF mix 1 (by kernel_rfl)
theorem stored16 : StoredLF B16 9 := StoredLF.other storedL_fact (by decide)
theorem infl16 : ToldF tolds B16 8 := by
  repeat (first | exact told_fact | refine ToldF.other ?_ (by decide) | refine ToldF.withF ?_ (by decide))
theorem calls (W : World) : Calls Try.prog 3 #[] W fun e W' => e = .returned (.bool true) ∧ Go.RowKit.Below W.heap.size W W' := by
  obtain ⟨s1, h⟩ := Known_run (lf := 1) stored16 infl16 (fun st => closed_call)
  exact law_none s17 (by rw [withF_same]; exact h) W
end
set_option maxRecDepth 100000 in
theorem lifted (os : Os) (started : os.Started) (H : Type) (enc : TypeId × Value → H) :
    ReturnsInHanded {} Try.checked os 3 .any (Rows.flateKnownSpec.pre6 enc Try.prog Try.f3 Rows.flateKnownRow.domain false) (Rows.flateKnownSpec.post enc Try.prog Try.f3 false true false false) := by
  refine returnsInHanded_of_change_sized (C := Try.checked) own started (by kernel_rfl) Try.func3
    (ChangeSpec.witness6 (enc := enc) (C := Try.checked) false ⟨#[], #[], []⟩ 8 (by kernel_rfl) (by kernel_rfl) (by kernel_rfl) (by kernel_rfl)) ?_
  intro W base args ds gs before hval0 hW hcnd hsz0 _
  have hW' := hW
  obtain ⟨p, q, hA0, hV, rfl, hfz, hnd⟩ := hW
  have hA : DataW.TrodAll enc Try.prog W 0 (fun _ => true) true Try.f3.params.toList args.toList ds p := hA0
  rw [Try.params3] at hA
  obtain ⟨rfl, rfl, rfl⟩ := trodAll_none hA
  obtain ⟨rfl, rfl⟩ := trodVars_none hV
  clear hA0 hval0 hsz0
  refine (calls W).mono fun e W' ⟨he, bel⟩ => ?_
  subst he
  exact ⟨_, rfl, _, _, _, [], _, [], hW', trodAll_mk1 (shut_bool Try.underlying4 _), trodAll_mk0, rfl, bel.frame _, fun h => by cases h⟩
theorem over : Rows.flateKnownRow.holds Try.pinned (OpenSpec.ofChange Rows.flateKnownSpec) :=
  OpenClaim.holds_of_wide 3 Try.f3 rfl rfl rfl rfl rfl rfl rfl ⟨rfl, rfl, rfl, rfl, rfl⟩ rfl rfl rfl rfl rfl (by kernel_rfl) Try.func3 (by kernel_rfl)
    (of_decide_eq_true (by kernel_rfl)) (by unfold Func.isWrapper; first | (rw [if_pos (by decide +kernel)]; kernel_rfl) | (rw [if_neg (by decide +kernel)]; exact ⟨rfl, rfl⟩))
    (fun os started H enc _ => lifted os started H enc)
theorem proved : Rows.FlateKnownSaid := over
#print axioms proved
end Go.Proofs.Ytkcjhakjelidgaa.flateKnown
namespace Go.Proofs.Ytkcjhakjelidgaa
/-- The row, under a short name, for the claim. -/
theorem flateKnown_holds : Rows.FlateKnownSaid := flateKnown.proved
end Go.Proofs.Ytkcjhakjelidgaa
