/- The sentence FlatRounds: its run in the abstract machine ends in true, whatever the arguments are; and the model's run is the abstract machine's. No condition. -/
import Derived.Test.YtpjinhofjaapaaaRows
import Derived.Test.YtpjinhofjaapaaaVabsZm
import Derived.Test.YtpjinhofjaapaaaVabsKi
import Derived.WalkKit
import Derived.ProofKit
import Derived.OpenShut
import Derived.ShutString
import Derived.ChangeOld
import Derived.Below
import Derived.SizedLaws
import Derived.Carry
namespace Go.Proofs.Ytpjinhofjaapaaa.flatRounds
open Go.ChangeShapes Go.WideShapes Go.ChangeAt Go.RowKit
open Go.ChangeMaps (open_string shut_string)
set_option linter.unusedVariables false
theorem own : ownKnob Try.prog.godebug = none := by kernel_rfl
theorem laidOut : laidOutB Try.prog = true := by kernel_rfl
section
open Go.Vabs Go.Vabs.Ph Go.Vabs.Fl Go.Vabs.Ka Go.Vabs.Kb Go.Vabs.Kc Go.Vabs.Kd Go.Vabs.Ke Go.Vabs.Kf Go.Vabs.Kg Go.Vabs.Ki
theorem mix : Try.prog.follows .mixedOrders = true := by kernel_rfl
theorem knownRuns : Go.Vabs.isTrue (Go.Vabs.callF (Go.Vabs.table Try.prog 46) 100000 60 7 [] Go.Vabs.st0) = true := by kernel_rfl
noncomputable section
abbrev A2 : CallT := withF (withF (fun _ _ _ => none) 45 1 brought_c) 40 1 (Clip_c 45)
abbrev A4 : CallT := withF (withF A2 37 1 Within_c) 23 1 (RClip_c 37)
abbrev A5 : CallT := withF A4 36 1 (Whole_c 40)
abbrev A6 : CallT := withF A5 12 1 (RWhole_c 23)
abbrev A7 : CallT := withF A6 44 1 (Mul_c 40)
abbrev A8 : CallT := withF A7 38 1 Floor_c
abbrev A9 : CallT := withF A8 24 1 (RMul_c 23 38)
abbrev A10 : CallT := withF A9 19 1 Pick_c
abbrev A11 : CallT := withF A10 18 1 (Num_c 19)
abbrev B0 : CallT := withF A11 39 1 bent_c
abbrev B1 : CallT := withL B0 43 (lawOf (flatRd clippedS))
abbrev B2 : CallT := withL B1 35 (lawOf (flatRd applyS))
abbrev B3 : CallT := withL B2 11 (lawOf (flatRd applyS))
abbrev B4 : CallT := withL B3 30 (lawOf (flatRd betweenS))
abbrev B5 : CallT := withL B4 8 (lawOf (flatRd rawS))
abbrev B6 : CallT := withL B5 31 (lawOf (flatRd segS))
abbrev B7 : CallT := withL B6 25 (lawOf (flatRd curveS))
abbrev B8 : CallT := withL B7 33 (lawOf (flatRd isOnS))
abbrev B9 : CallT := withF B8 9 40 (Contours_c 19)
abbrev B10 : CallT := withF B9 22 40 (turned_c 36 35)
abbrev B11 : CallT := withF B10 42 1 GrowP_c
abbrev B12 : CallT := withF B11 34 10 (ConcatP_c 42)
abbrev B13 : CallT := withF B12 32 40 IndexFunc_c
abbrev B14 : CallT := withF B13 21 1 (begun_c 32 30 34)
abbrev B15 : CallT := withF B14 20 70 (lines_c 30 25 31)
abbrev B16 : CallT := withF B15 10 40 (Segs_c 22 21 20)
abbrev B17 : CallT := withL B16 7 (lawOf (closedRd (.bool true)))
end
theorem clip40 : ClipF A2 40 := ClipF.code BroughtF.code
theorem clip23 : ClipF A4 23 := ClipF.codeR WithinF.code
theorem clip40a : ClipF A4 40 := ClipF.withF (ClipF.withF clip40 (by decide)) (by decide)
theorem whole36 : WholeF A5 36 := WholeF.code clip40a
theorem whole12 : WholeF A6 12 := WholeF.codeR (ClipF.withF clip23 (by decide))
theorem mul44 : MulF A7 44 := MulF.code (ClipF.withF (ClipF.withF clip40a (by decide)) (by decide))
theorem clip23a : ClipF A8 23 := by
  repeat (first | exact clip23 | refine ClipF.withF ?_ (by decide))
theorem mul24 : MulF A9 24 := MulF.codeR clip23a FloorF.code
theorem num18 : NumHF A11 18 := NumHF.code PickF.code
theorem bent0 : BentF B0 39 := BentF.code
theorem clip0 : ClipF B0 40 := by
  repeat (first | exact clip40a | refine ClipF.withF ?_ (by decide))
theorem clip0r : ClipF B0 23 := by
  repeat (first | exact clip23 | refine ClipF.withF ?_ (by decide))
theorem mul0 : MulF B0 44 := by
  repeat (first | exact mul44 | refine MulF.withF ?_ (by decide))
theorem mul0r : MulF B0 24 := by
  repeat (first | exact mul24 | refine MulF.withF ?_ (by decide))
theorem num0 : NumHF B0 18 := NumHF.withF num18 (by decide)
theorem s0 : Sound Try.prog B0 := (((((((((((Sound.nothing.withF mix 1 (by kernel_rfl)).withF mix 1 (by kernel_rfl)).withF mix 1 (by kernel_rfl)).withF mix 1 (by kernel_rfl)).withF mix 1 (by kernel_rfl)).withF mix 1 (by kernel_rfl)).withF mix 1 (by kernel_rfl)).withF mix 1 (by kernel_rfl)).withF mix 1 (by kernel_rfl)).withF mix 1 (by kernel_rfl)).withF mix 1 (by kernel_rfl)).withF mix 1 (by kernel_rfl)
theorem s1 : Sound Try.prog B1 := clipped_sound mix s0 clip0 (by kernel_rfl)
theorem s2 : Sound Try.prog B2 := apply_sound mix s1 clipped_fact (MulF.other mul0 (by decide)) (ClipF.other clip0 (by decide)) (by kernel_rfl)
theorem s3 : Sound Try.prog B3 := apply_soundR mix s2 (MulF.other (MulF.other mul0r (by decide)) (by decide)) (ClipF.other (ClipF.other clip0r (by decide)) (by decide)) (by kernel_rfl)
theorem s4 : Sound Try.prog B4 := between_sound mix s3 (by kernel_rfl)
theorem num4 : NumHF B4 18 := by
  repeat (first | exact num0 | refine NumHF.other ?_ (by decide))
theorem s5 : Sound Try.prog B5 := raw_sound mix s4 num4 (by kernel_rfl)
theorem s6 : Sound Try.prog B6 := seg_sound mix s5 (by kernel_rfl)
theorem bent6 : BentF B6 39 := by
  repeat (first | exact bent0 | refine BentF.other ?_ (by decide))
theorem s7 : Sound Try.prog B7 := curve_sound mix s6 bent6 seg_fact (by kernel_rfl)
theorem s8 : Sound Try.prog B8 := isOn_sound mix s7 (by kernel_rfl)
theorem s16 : Sound Try.prog B16 := (((((((s8.withF mix 40 (by kernel_rfl)).withF mix 40 (by kernel_rfl)).withF mix 1 (by kernel_rfl)).withF mix 10 (by kernel_rfl)).withF mix 40 (by kernel_rfl)).withF mix 1 (by kernel_rfl)).withF mix 70 (by kernel_rfl)).withF mix 40 (by kernel_rfl)
theorem pick8 : PickF B8 19 := by
  repeat (first | exact PickF.code | refine PickF.other ?_ (by decide) | refine PickF.withF ?_ (by decide))
theorem cont9 : ContF B9 9 := ContF.code (by omega) pick8
theorem whole9 : WholeF B9 36 := by
  repeat (first | exact whole36 | refine WholeF.other ?_ (by decide) | refine WholeF.withF ?_ (by decide))
theorem apply9 : ApplyF B9 35 := by
  repeat (first | exact apply_fact | refine ApplyF.other ?_ (by decide) | refine ApplyF.withF ?_ (by decide))
theorem turned10 : TurnedF B10 22 := TurnedF.code (by omega) whole9 apply9
theorem concat12 : ConcatPF B12 34 := ConcatPF.code (by omega) GrowPF.code
theorem on12 : IsOnF B12 33 := by
  repeat (first | exact isOn_fact | refine IsOnF.withF ?_ (by decide))
theorem index13 : IndexF 33 B13 32 := IndexF.code (by omega) on12
theorem betw13 : BetweenF B13 30 := by
  repeat (first | exact between_fact | refine BetweenF.other ?_ (by decide) | refine BetweenF.withF ?_ (by decide))
theorem begun14 : BegunF B14 21 := BegunF.code index13 betw13 (ConcatPF.withF concat12 (by decide))
theorem curve14 : CurveF B14 25 := by
  repeat (first | exact curve_fact | refine CurveF.other ?_ (by decide) | refine curveF_withF ?_ (by decide))
theorem seg14 : SegF B14 31 := by
  repeat (first | exact seg_fact | refine SegF.other ?_ (by decide) | refine segF_withF ?_ (by decide))
theorem lines15 : LinesF B15 20 := LinesF.code (by omega) (BetweenF.withF betw13 (by decide)) curve14 seg14
theorem turned15 : TurnedF B15 22 := by
  repeat (first | exact turned10 | refine TurnedF.withF ?_ (by decide))
theorem segs16 : SegsF B16 10 := SegsF.code (by omega) turned15 (BegunF.withF begun14 (by decide)) lines15
theorem s17 : Sound Try.prog B17 := by
  obtain ⟨s, h⟩ := isTrue_some knownRuns
  exact s16.closed (Sound.table mix 46 100000 60) h rfl
theorem s18 : Sound Try.prog (withF B17 3 10000 (FlatRounds_c 7 8 9 10 12 11)) := s17.withF mix 10000 (by kernel_rfl)
theorem raw17 : RawF B17 8 := by
  repeat (first | exact raw_fact | refine RawF.other ?_ (by decide) | refine RawF.withF ?_ (by decide))
theorem cont17 : ContF B17 9 := by
  repeat (first | exact cont9 | refine ContF.other ?_ (by decide) | refine ContF.withF ?_ (by decide))
theorem apply17 : ApplyF B17 11 := by
  repeat (first | exact apply_fact | refine ApplyF.other ?_ (by decide) | refine ApplyF.withF ?_ (by decide))
theorem whole17 : WholeF B17 12 := by
  repeat (first | exact whole12 | refine WholeF.other ?_ (by decide) | refine WholeF.withF ?_ (by decide))
theorem calls (W : World) {a0 : Option Addr} {len0 cap0 : Nat} {z0 : List Int} (w0 : IsRow .i64 W a0 len0 cap0 z0) (y0 : len0 * 8 ≤ 140737488351232) {a1 : List Int} (n1 : a1.length = 6) (w1 : ∀ x ∈ a1, (Lit.int .i64 x).wf = true) :
    Calls Try.prog 3 #[.slice a0 len0 cap0, .agg (a1.map (Value.int .i64)).toArray] W fun e W' => e = .returned (.bool true) ∧ Go.RowKit.Below W.heap.size W W' := by
  match a1, n1 with
  | [a, b, c, d, e, f], _ =>
    refine s18.law_row (rest := [(Aff.mk a b c d e f).V]) (rest' := [.agg ([a, b, c, d, e, f].map (Value.int .i64)).toArray]) w0 rfl ⟨⟨_, rfl, rfl, rfl, rfl, rfl, rfl, rfl, trivial⟩, trivial⟩ ?_
    intro nil ns h1 h2 h3
    rw [withF_same, ← h3]
    have hw : ∀ x ∈ [a, b, c, d, e, f], in64 x := fun x hx => i64_of_wf (w1 x hx)
    exact Rounds_run (by omega) (fun st => closed_call) raw17 cont17 (SegsF.other segs16 (by decide)) apply17 whole17 h1 (fun n hn => i64_of_wf (h2 n hn)) (by omega) ⟨hw a (by simp), hw b (by simp), hw c (by simp), hw d (by simp), hw e (by simp), hw f (by simp)⟩
end

set_option maxRecDepth 100000 in
theorem lifted (os : Os) (started : os.Started) (H : Type) (enc : TypeId × Value → H) :
    ReturnsInHanded {} Try.checked os 3 .any (Rows.flatRoundsSpec.pre6 enc Try.prog Try.f3 Rows.flatRoundsRow.domain false) (Rows.flatRoundsSpec.post enc Try.prog Try.f3 false true false false) := by
  refine returnsInHanded_of_change_sized (C := Try.checked) own started (by kernel_rfl) Try.func3
    (ChangeSpec.witness6 (enc := enc) (C := Try.checked) false ⟨#[], #[.slice none 0 0, .agg #[.int .i64 0, .int .i64 0, .int .i64 0, .int .i64 0, .int .i64 0, .int .i64 0]], []⟩ 8 (by kernel_rfl) (by kernel_rfl) (by kernel_rfl) (by kernel_rfl)) ?_
  intro W base args ds gs before hval0 hW hcnd hsz0 _
  have hsz : (DataW.weightsEach Try.prog (Try.f3.params.toList ++ Rows.flatRoundsSpec.plain.varTypes Try.prog) (ds ++ gs)).all (· ≤ reachBytes) = true := hsz0
  have hval : ∀ (j : Nat) t v, Try.f3.params[j]? = some t → args[j]? = some v → Value.okWide Try.prog W .any base t v := hval0
  have hW' := hW
  obtain ⟨p, q, hA0, hV, rfl, hfz, hnd⟩ := hW
  have hA : DataW.TrodAll enc Try.prog W 0 (fun _ => true) true Try.f3.params.toList args.toList ds p := hA0
  rw [Try.params3] at hA hval hsz
  obtain ⟨v0, vs0, d0, ds0, p0, q0, hargs, rfl, rfl, h0, r0⟩ := trodAll_cons hA
  obtain ⟨v1, vs1, d1, ds1, p1, q1, rfl, rfl, rfl, h1, r1⟩ := trodAll_cons r0
  obtain ⟨rfl, rfl, rfl⟩ := trodAll_nil r1
  obtain rfl : args = #[v0, v1] := by cases args; simp_all
  obtain ⟨rfl, rfl⟩ := trodVars_none hV
  have k0 := h0
  have lt0 : ∀ x ∈ p0, x.block < W.heap.size := by obtain ⟨m, hm⟩ := k0; exact DataW.trod_lt m _ _ _ hm
  obtain ⟨a0, len0, cap0, z0, rfl, w0, y0⟩ := Go.Vabs.row_ints hsz (j := 0) (t := 22) rfl rfl Try.underlying22 Try.underlying3 (by kernel_rfl) (B := 8) (by kernel_rfl) (hval 0 22 v0 rfl rfl) h0
  have k1 := h1
  have lt1 : ∀ x ∈ p1, x.block < W.heap.size := by obtain ⟨m, hm⟩ := k1; exact DataW.trod_lt m _ _ _ hm
  obtain ⟨a1, rfl, n1, w1⟩ := Go.Vabs.open_nums Try.underlying23 Try.underlying3 (by kernel_rfl) (by kernel_rfl) (hval 1 23 v1 rfl rfl) h1
  clear hA0 hval0 hsz0 hsz
  refine (calls W w0 y0 n1 w1).mono fun e W' ⟨he, bel⟩ => ?_
  subst he
  exact ⟨_, rfl, _, _, _, [], _, [], hW', trodAll_mk1 (shut_bool Try.underlying4 _), (trodAll_cons_mk (Below.trod laidOut (by kernel_rfl) (of_decide_eq_true (by kernel_rfl)) k0 bel lt0) (trodAll_cons_mk (Below.trod laidOut (by kernel_rfl) (of_decide_eq_true (by kernel_rfl)) k1 bel lt1) trodAll_mk0)), rfl, bel.frame _, fun h => by cases h⟩
theorem over : Rows.flatRoundsRow.holds Try.pinned (OpenSpec.ofChange Rows.flatRoundsSpec) :=
  OpenClaim.holds_of_wide 3 Try.f3 rfl rfl rfl rfl rfl rfl rfl ⟨rfl, rfl, rfl, rfl, rfl⟩ rfl rfl rfl rfl rfl (by kernel_rfl) Try.func3 (by kernel_rfl)
    (of_decide_eq_true (by kernel_rfl)) (by unfold Func.isWrapper; first | (rw [if_pos (by decide +kernel)]; kernel_rfl) | (rw [if_neg (by decide +kernel)]; exact ⟨rfl, rfl⟩))
    (fun os started H enc _ => lifted os started H enc)
theorem proved : Rows.FlatRoundsSaid := over
#print axioms proved
end Go.Proofs.Ytpjinhofjaapaaa.flatRounds
namespace Go.Proofs.Ytpjinhofjaapaaa
/-- The row, under a short name, for the claim. -/
theorem flatRounds_holds : Rows.FlatRoundsSaid := flatRounds.proved
end Go.Proofs.Ytpjinhofjaapaaa
