/- The sentence FlatTells: its run in the abstract machine ends in true, whatever the arguments are; and the model's run is the abstract machine's. No condition. -/
import Derived.Test.YtpjinhofjaapaaaRows
import Derived.Test.YtpjinhofjaapaaaVabsZm
import Derived.Test.YtpjinhofjaapaaaVabsKm
import Derived.WalkKit
import Derived.ProofKit
import Derived.OpenShut
import Derived.ShutString
import Derived.ChangeOld
import Derived.Below
import Derived.SizedLaws
import Derived.Carry
namespace Go.Proofs.Ytpjinhofjaapaaa.flatTells
open Go.ChangeShapes Go.WideShapes Go.ChangeAt Go.RowKit
open Go.ChangeMaps (open_string shut_string)
set_option linter.unusedVariables false
theorem own : ownKnob Try.prog.godebug = none := by kernel_rfl
theorem laidOut : laidOutB Try.prog = true := by kernel_rfl
section
open Go.Vabs Go.Vabs.Ph Go.Vabs.Fl Go.Vabs.Ka Go.Vabs.Kb Go.Vabs.Kc Go.Vabs.Kd Go.Vabs.Ke Go.Vabs.Kf Go.Vabs.Kg Go.Vabs.Kj Go.Vabs.Kk Go.Vabs.Kl Go.Vabs.Km
theorem mix : Try.prog.follows .mixedOrders = true := by kernel_rfl
theorem knownRuns : Go.Vabs.isTrue (Go.Vabs.callF (Go.Vabs.table Try.prog 46) 100000 60 7 [] Go.Vabs.st0) = true := by kernel_rfl
noncomputable section
abbrev A2 : CallT := withF (withF (fun _ _ _ => none) 45 1 brought_c) 40 1 (Clip_c 45)
abbrev A4 : CallT := withF (withF A2 37 1 Within_c) 23 1 (RClip_c 37)
abbrev A5 : CallT := withF A4 36 1 (Whole_c 40)
abbrev A6 : CallT := withF A5 12 1 (RWhole_c 23)
abbrev A7 : CallT := withF A6 44 1 (Mul_c 40)
abbrev A8 : CallT := withF A7 38 1 Floor_c
abbrev A9 : CallT := withF A8 24 1 (RMul_c 23 38)
abbrev A10 : CallT := withF A9 19 1 Pick_c
abbrev A11 : CallT := withF A10 18 1 (Num_c 19)
abbrev B0 : CallT := withF A11 39 1 bent_c
abbrev B1 : CallT := withL B0 43 (lawOf (flatRd clippedS))
abbrev B2 : CallT := withL B1 35 (lawOf (flatRd applyS))
abbrev B3 : CallT := withL B2 11 (lawOf (flatRd applyS))
abbrev B4 : CallT := withL B3 30 (lawOf (flatRd betweenS))
abbrev B5 : CallT := withL B4 8 (lawOf (flatRd rawS))
abbrev B6 : CallT := withL B5 31 (lawOf (flatRd segS))
abbrev B7 : CallT := withL B6 25 (lawOf (flatRd curveS))
abbrev B8 : CallT := withL B7 33 (lawOf (flatRd isOnS))
abbrev B9 : CallT := withF B8 9 40 (Contours_c 19)
abbrev B10 : CallT := withF B9 22 40 (turned_c 36 35)
abbrev B11 : CallT := withF B10 42 1 GrowP_c
abbrev B12 : CallT := withF B11 34 10 (ConcatP_c 42)
abbrev B13 : CallT := withF B12 32 40 IndexFunc_c
abbrev B14 : CallT := withF B13 21 1 (begun_c 32 30 34)
abbrev B15 : CallT := withF B14 20 70 (lines_c 30 25 31)
abbrev B16 : CallT := withL B15 10 (lawOf (sightRdN segsS))
abbrev B17 : CallT := withL B16 26 (lawOf (flatRd ofS))
abbrev B18 : CallT := withL B17 13 (lawOf (flatRd curve2S))
abbrev B19 : CallT := withL B18 27 (lawOf (flatRd oneS))
abbrev B20 : CallT := withL B19 14 (lawOf (flatRd oneS))
abbrev B21 : CallT := withF B20 29 1 (rbent_c 23 38)
abbrev B22 : CallT := withL B21 41 (lawOf (flatRd middleS))
abbrev B23 : CallT := withL B22 17 (lawOf (flatRd curve2S))
abbrev B24 : CallT := withF B23 28 2000 (contour_c 12 11 41 17)
abbrev B25 : CallT := withF B24 16 40 (RSegs_c 28)
abbrev B26 : CallT := withF B25 15 100002 SameSegs_c
abbrev B27 : CallT := withL B26 7 (lawOf (closedRd (.bool true)))
end
theorem clip40 : ClipF A2 40 := ClipF.code BroughtF.code
theorem clip23 : ClipF A4 23 := ClipF.codeR WithinF.code
theorem clip40a : ClipF A4 40 := ClipF.withF (ClipF.withF clip40 (by decide)) (by decide)
theorem whole36 : WholeF A5 36 := WholeF.code clip40a
theorem whole12 : WholeF A6 12 := WholeF.codeR (ClipF.withF clip23 (by decide))
theorem mul44 : MulF A7 44 := MulF.code (ClipF.withF (ClipF.withF clip40a (by decide)) (by decide))
theorem clip23a : ClipF A8 23 := by
  repeat (first | exact clip23 | refine ClipF.withF ?_ (by decide))
theorem mul24 : MulF A9 24 := MulF.codeR clip23a FloorF.code
theorem num18 : NumHF A11 18 := NumHF.code PickF.code
theorem bent0 : BentF B0 39 := BentF.code
theorem clip0 : ClipF B0 40 := by
  repeat (first | exact clip40a | refine ClipF.withF ?_ (by decide))
theorem clip0r : ClipF B0 23 := by
  repeat (first | exact clip23 | refine ClipF.withF ?_ (by decide))
theorem mul0 : MulF B0 44 := by
  repeat (first | exact mul44 | refine MulF.withF ?_ (by decide))
theorem mul0r : MulF B0 24 := by
  repeat (first | exact mul24 | refine MulF.withF ?_ (by decide))
theorem num0 : NumHF B0 18 := NumHF.withF num18 (by decide)
theorem s0 : Sound Try.prog B0 := (((((((((((Sound.nothing.withF mix 1 (by kernel_rfl)).withF mix 1 (by kernel_rfl)).withF mix 1 (by kernel_rfl)).withF mix 1 (by kernel_rfl)).withF mix 1 (by kernel_rfl)).withF mix 1 (by kernel_rfl)).withF mix 1 (by kernel_rfl)).withF mix 1 (by kernel_rfl)).withF mix 1 (by kernel_rfl)).withF mix 1 (by kernel_rfl)).withF mix 1 (by kernel_rfl)).withF mix 1 (by kernel_rfl)
theorem s1 : Sound Try.prog B1 := clipped_sound mix s0 clip0 (by kernel_rfl)
theorem s2 : Sound Try.prog B2 := apply_sound mix s1 clipped_fact (MulF.other mul0 (by decide)) (ClipF.other clip0 (by decide)) (by kernel_rfl)
theorem s3 : Sound Try.prog B3 := apply_soundR mix s2 (MulF.other (MulF.other mul0r (by decide)) (by decide)) (ClipF.other (ClipF.other clip0r (by decide)) (by decide)) (by kernel_rfl)
theorem s4 : Sound Try.prog B4 := between_sound mix s3 (by kernel_rfl)
theorem num4 : NumHF B4 18 := by
  repeat (first | exact num0 | refine NumHF.other ?_ (by decide))
theorem s5 : Sound Try.prog B5 := raw_sound mix s4 num4 (by kernel_rfl)
theorem s6 : Sound Try.prog B6 := seg_sound mix s5 (by kernel_rfl)
theorem bent6 : BentF B6 39 := by
  repeat (first | exact bent0 | refine BentF.other ?_ (by decide))
theorem s7 : Sound Try.prog B7 := curve_sound mix s6 bent6 seg_fact (by kernel_rfl)
theorem s8 : Sound Try.prog B8 := isOn_sound mix s7 (by kernel_rfl)
theorem s15 : Sound Try.prog B15 := ((((((s8.withF mix 40 (by kernel_rfl)).withF mix 40 (by kernel_rfl)).withF mix 1 (by kernel_rfl)).withF mix 10 (by kernel_rfl)).withF mix 40 (by kernel_rfl)).withF mix 1 (by kernel_rfl)).withF mix 70 (by kernel_rfl)
theorem pick8 : PickF B8 19 := by
  repeat (first | exact PickF.code | refine PickF.other ?_ (by decide) | refine PickF.withF ?_ (by decide))
theorem cont9 : ContF B9 9 := ContF.code (by omega) pick8
theorem whole9 : WholeF B9 36 := by
  repeat (first | exact whole36 | refine WholeF.other ?_ (by decide) | refine WholeF.withF ?_ (by decide))
theorem apply9 : ApplyF B9 35 := by
  repeat (first | exact apply_fact | refine ApplyF.other ?_ (by decide) | refine ApplyF.withF ?_ (by decide))
theorem turned10 : TurnedF B10 22 := TurnedF.code (by omega) whole9 apply9
theorem concat12 : ConcatPF B12 34 := ConcatPF.code (by omega) GrowPF.code
theorem on12 : IsOnF B12 33 := by
  repeat (first | exact isOn_fact | refine IsOnF.withF ?_ (by decide))
theorem index13 : IndexF 33 B13 32 := IndexF.code (by omega) on12
theorem betw13 : BetweenF B13 30 := by
  repeat (first | exact between_fact | refine BetweenF.other ?_ (by decide) | refine BetweenF.withF ?_ (by decide))
theorem begun14 : BegunF B14 21 := BegunF.code index13 betw13 (ConcatPF.withF concat12 (by decide))
theorem curve14 : CurveF B14 25 := by
  repeat (first | exact curve_fact | refine CurveF.other ?_ (by decide) | refine curveF_withF ?_ (by decide))
theorem seg14 : SegF B14 31 := by
  repeat (first | exact seg_fact | refine SegF.other ?_ (by decide) | refine segF_withF ?_ (by decide))
theorem lines15 : LinesF B15 20 := LinesF.code (by omega) (BetweenF.withF betw13 (by decide)) curve14 seg14
theorem turned15 : TurnedF B15 22 := by
  repeat (first | exact turned10 | refine TurnedF.withF ?_ (by decide))
theorem s16 : Sound Try.prog B16 := segs_sound mix s15 turned15 (BegunF.withF begun14 (by decide)) lines15 (by kernel_rfl)
theorem clip16 : ClipF B16 40 := by
  repeat (first | exact clip0 | refine ClipF.other ?_ (by decide) | refine ClipF.withF ?_ (by decide))
theorem clip16r : ClipF B16 23 := by
  repeat (first | exact clip0r | refine ClipF.other ?_ (by decide) | refine ClipF.withF ?_ (by decide))
theorem s17 : Sound Try.prog B17 := of_sound mix s16 clip16 (by kernel_rfl)
theorem curve17 : CurveF B17 25 := by
  repeat (first | exact curve14 | refine CurveF.other ?_ (by decide) | refine curveF_withF ?_ (by decide))
theorem s18 : Sound Try.prog B18 := curve2_sound mix s17 of_fact curve17 (by kernel_rfl)
theorem s19 : Sound Try.prog B19 := One_sound mix s18 (by kernel_rfl)
theorem s20 : Sound Try.prog B20 := one_sound mix s19 One_fact (by kernel_rfl)
theorem clip20r : ClipF B20 23 := by
  repeat (first | exact clip16r | refine ClipF.other ?_ (by decide) | refine ClipF.withF ?_ (by decide))
theorem floor20 : FloorLF 64 B20 38 := by
  repeat (first | exact Floor64.code | refine FloorLF.other ?_ (by decide) | refine FloorLF.withF ?_ (by decide))
theorem floor21 : FloorLF 2 B21 38 := by
  repeat (first | exact Floor2.code | refine FloorLF.other ?_ (by decide) | refine FloorLF.withF ?_ (by decide))
theorem s21 : Sound Try.prog B21 := s20.withF mix 1 (by kernel_rfl)
theorem bent21 : RBentF B21 29 := RBentF.code clip20r floor20
theorem s22 : Sound Try.prog B22 := middle_sound mix s21 floor21 (by kernel_rfl)
theorem s23 : Sound Try.prog B23 := rcurve_sound mix s22 (ClipF.other (ClipF.withF clip20r (by decide)) (by decide)) (RBentF.other bent21 (by decide)) (by kernel_rfl)
theorem whole23 : WholeF B23 12 := by
  repeat (first | exact whole12 | refine WholeF.other ?_ (by decide) | refine WholeF.withF ?_ (by decide))
theorem apply23 : ApplyF B23 11 := by
  repeat (first | exact apply_fact | refine ApplyF.other ?_ (by decide) | refine ApplyF.withF ?_ (by decide))
theorem contour24 : ContourF B24 28 := ContourF.code (by omega) whole23 apply23 (MiddleF.other middle_fact (by decide)) curve2_fact
theorem rsegs25 : RSegsF B25 16 := RSegsF.code (by omega) contour24
theorem same26 : SameF B26 15 := SameF.code (by omega)
theorem s26 : Sound Try.prog B26 := ((s23.withF mix 2000 (by kernel_rfl)).withF mix 40 (by kernel_rfl)).withF mix 100002 (by kernel_rfl)
theorem s27 : Sound Try.prog B27 := by
  obtain ⟨s, h⟩ := isTrue_some knownRuns
  exact s26.closed (Sound.table mix 46 100000 60) h rfl
theorem s28 : Sound Try.prog (withF B27 5 100 (FlatTells_c 9 8 14 7 10 16 15 13 17)) := s27.withF mix 100 (by kernel_rfl)
theorem raw27 : RawF B27 8 := by
  repeat (first | exact raw_fact | refine RawF.other ?_ (by decide) | refine RawF.withF ?_ (by decide))
theorem cont27 : ContF B27 9 := by
  repeat (first | exact cont9 | refine ContF.other ?_ (by decide) | refine ContF.withF ?_ (by decide))
theorem one27 : OneF B27 14 := by
  repeat (first | exact One_fact | refine OneF.other ?_ (by decide) | refine OneF.withF ?_ (by decide))
theorem segs27 : SegsLF B27 10 := by
  repeat (first | exact segsL_fact | refine SegsLF.other ?_ (by decide) | refine SegsLF.withF ?_ (by decide))
theorem curve2_withF {call : CallT} {n g lf : Nat} {fn : AFunc} (h : Curve2F call n) (hne : n ≠ g) : Curve2F (Vabs.withF call g lf fn) n := fun ax ay bx by_ cx cy st => by rw [withF_other hne]; exact h ax ay bx by_ cx cy st
theorem curve27 : Curve2F B27 13 := by
  repeat (first | exact curve2_fact | refine Curve2F.other ?_ (by decide) | refine curve2_withF ?_ (by decide))
theorem rcurve27 : Curve2F B27 17 := by
  repeat (first | exact curve2_fact | refine Curve2F.other ?_ (by decide) | refine curve2_withF ?_ (by decide))
theorem rsegs27 : RSegsF B27 16 := by
  repeat (first | exact rsegs25 | refine RSegsF.other ?_ (by decide) | refine RSegsF.withF ?_ (by decide))
theorem same27 : SameF B27 15 := SameF.other same26 (by decide)
theorem calls (W : World) {a0 : Option Addr} {len0 cap0 : Nat} {z0 : List Int} (w0 : IsRow .i64 W a0 len0 cap0 z0) (y0 : len0 * 8 ≤ 140737488351232) {a1 : List Int} (n1 : a1.length = 6) (w1 : ∀ x ∈ a1, (Lit.int .i64 x).wf = true) (a2 : Bool)
    {a3 : List Int} (n3 : a3.length = 2) (w3 : ∀ x ∈ a3, (Lit.int .i64 x).wf = true) {a4 : List Int} (n4 : a4.length = 2) (w4 : ∀ x ∈ a4, (Lit.int .i64 x).wf = true) {a5 : List Int} (n5 : a5.length = 2) (w5 : ∀ x ∈ a5, (Lit.int .i64 x).wf = true) {a6 : Int} (w6 : (Lit.int .i64 a6).wf = true) :
    Calls Try.prog 5 #[.slice a0 len0 cap0, .agg (a1.map (Value.int .i64)).toArray, .bool a2, .agg (a3.map (Value.int .i64)).toArray, .agg (a4.map (Value.int .i64)).toArray, .agg (a5.map (Value.int .i64)).toArray, .int .i64 a6] W fun e W' => e = .returned (.bool true) ∧ Go.RowKit.Below W.heap.size W W' := by
  match a1, n1, a3, n3, a4, n4, a5, n5 with
  | [a, b, c, d, e, f], _, [ax, ay], _, [bx, by_], _, [cx, cy], _ =>
    refine s28.law_row (rest := [(Aff.mk a b c d e f).V, .bool a2, pairV ax ay, pairV bx by_, pairV cx cy, .int .i64 a6])
      (rest' := [.agg ([a, b, c, d, e, f].map (Value.int .i64)).toArray, .bool a2, .agg ([ax, ay].map (Value.int .i64)).toArray, .agg ([bx, by_].map (Value.int .i64)).toArray, .agg ([cx, cy].map (Value.int .i64)).toArray, .int .i64 a6]) w0 rfl
      ⟨⟨_, rfl, rfl, rfl, rfl, rfl, rfl, rfl, trivial⟩, rfl, ⟨_, rfl, rfl, rfl, trivial⟩, ⟨_, rfl, rfl, rfl, trivial⟩, ⟨_, rfl, rfl, rfl, trivial⟩, rfl, trivial⟩ ?_
    intro nil ns h1 h2 h3
    rw [withF_same, ← h3]
    have hw : ∀ x ∈ [a, b, c, d, e, f], in64 x := fun x hx => i64_of_wf (w1 x hx)
    exact Tells_run (by omega) (fun st => closed_call) raw27 one27 cont27 segs27 rsegs27 same27 curve27 rcurve27 h1 (fun n hn => i64_of_wf (h2 n hn)) (by omega) ⟨hw a (by simp), hw b (by simp), hw c (by simp), hw d (by simp), hw e (by simp), hw f (by simp)⟩ (i64_of_wf w6)
end

set_option maxRecDepth 100000 in
theorem lifted (os : Os) (started : os.Started) (H : Type) (enc : TypeId × Value → H) :
    ReturnsInHanded {} Try.checked os 5 .any (Rows.flatTellsSpec.pre6 enc Try.prog Try.f5 Rows.flatTellsRow.domain false) (Rows.flatTellsSpec.post enc Try.prog Try.f5 false true false false) := by
  refine returnsInHanded_of_change_sized (C := Try.checked) own started (by kernel_rfl) Try.func5
    (ChangeSpec.witness6 (enc := enc) (C := Try.checked) false ⟨#[], #[.slice none 0 0, .agg #[.int .i64 0, .int .i64 0, .int .i64 0, .int .i64 0, .int .i64 0, .int .i64 0], .bool false, .agg #[.int .i64 0, .int .i64 0], .agg #[.int .i64 0, .int .i64 0], .agg #[.int .i64 0, .int .i64 0], .int .i64 0], []⟩ 8 (by kernel_rfl) (by kernel_rfl) (by kernel_rfl) (by kernel_rfl)) ?_
  intro W base args ds gs before hval0 hW hcnd hsz0 _
  have hsz : (DataW.weightsEach Try.prog (Try.f5.params.toList ++ Rows.flatTellsSpec.plain.varTypes Try.prog) (ds ++ gs)).all (· ≤ reachBytes) = true := hsz0
  have hval : ∀ (j : Nat) t v, Try.f5.params[j]? = some t → args[j]? = some v → Value.okWide Try.prog W .any base t v := hval0
  have hW' := hW
  obtain ⟨p, q, hA0, hV, rfl, hfz, hnd⟩ := hW
  have hA : DataW.TrodAll enc Try.prog W 0 (fun _ => true) true Try.f5.params.toList args.toList ds p := hA0
  rw [Try.params5] at hA hval hsz
  obtain ⟨v0, vs0, d0, ds0, p0, q0, hargs, rfl, rfl, h0, r0⟩ := trodAll_cons hA
  obtain ⟨v1, vs1, d1, ds1, p1, q1, rfl, rfl, rfl, h1, r1⟩ := trodAll_cons r0
  obtain ⟨v2, vs2, d2, ds2, p2, q2, rfl, rfl, rfl, h2, r2⟩ := trodAll_cons r1
  obtain ⟨v3, vs3, d3, ds3, p3, q3, rfl, rfl, rfl, h3, r3⟩ := trodAll_cons r2
  obtain ⟨v4, vs4, d4, ds4, p4, q4, rfl, rfl, rfl, h4, r4⟩ := trodAll_cons r3
  obtain ⟨v5, vs5, d5, ds5, p5, q5, rfl, rfl, rfl, h5, r5⟩ := trodAll_cons r4
  obtain ⟨v6, vs6, d6, ds6, p6, q6, rfl, rfl, rfl, h6, r6⟩ := trodAll_cons r5
  obtain ⟨rfl, rfl, rfl⟩ := trodAll_nil r6
  obtain rfl : args = #[v0, v1, v2, v3, v4, v5, v6] := by cases args; simp_all
  obtain ⟨rfl, rfl⟩ := trodVars_none hV
  have k0 := h0
  have lt0 : ∀ x ∈ p0, x.block < W.heap.size := by obtain ⟨m, hm⟩ := k0; exact DataW.trod_lt m _ _ _ hm
  obtain ⟨a0, len0, cap0, z0, rfl, w0, y0⟩ := Go.Vabs.row_ints hsz (j := 0) (t := 22) rfl rfl Try.underlying22 Try.underlying3 (by kernel_rfl) (B := 8) (by kernel_rfl) (hval 0 22 v0 rfl rfl) h0
  have k1 := h1
  have lt1 : ∀ x ∈ p1, x.block < W.heap.size := by obtain ⟨m, hm⟩ := k1; exact DataW.trod_lt m _ _ _ hm
  obtain ⟨a1, rfl, n1, w1⟩ := Go.Vabs.open_nums Try.underlying23 Try.underlying3 (by kernel_rfl) (by kernel_rfl) (hval 1 23 v1 rfl rfl) h1
  obtain ⟨a2, rfl, rfl, rfl⟩ := open_bool Try.underlying4 (hval 2 4 v2 rfl rfl) h2
  have k3 := h3
  have lt3 : ∀ x ∈ p3, x.block < W.heap.size := by obtain ⟨m, hm⟩ := k3; exact DataW.trod_lt m _ _ _ hm
  obtain ⟨a3, rfl, n3, w3⟩ := Go.Vabs.open_nums Try.underlying42 Try.underlying3 (by kernel_rfl) (by kernel_rfl) (hval 3 42 v3 rfl rfl) h3
  have k4 := h4
  have lt4 : ∀ x ∈ p4, x.block < W.heap.size := by obtain ⟨m, hm⟩ := k4; exact DataW.trod_lt m _ _ _ hm
  obtain ⟨a4, rfl, n4, w4⟩ := Go.Vabs.open_nums Try.underlying42 Try.underlying3 (by kernel_rfl) (by kernel_rfl) (hval 4 42 v4 rfl rfl) h4
  have k5 := h5
  have lt5 : ∀ x ∈ p5, x.block < W.heap.size := by obtain ⟨m, hm⟩ := k5; exact DataW.trod_lt m _ _ _ hm
  obtain ⟨a5, rfl, n5, w5⟩ := Go.Vabs.open_nums Try.underlying42 Try.underlying3 (by kernel_rfl) (by kernel_rfl) (hval 5 42 v5 rfl rfl) h5
  obtain ⟨a6, rfl, rfl, rfl, w6⟩ := open_int Try.underlying3 (hval 6 3 v6 rfl rfl) h6
  clear hA0 hval0 hsz0 hsz
  refine (calls W w0 y0 n1 w1 a2 n3 w3 n4 w4 n5 w5 w6).mono fun e W' ⟨he, bel⟩ => ?_
  subst he
  exact ⟨_, rfl, _, _, _, [], _, [], hW', trodAll_mk1 (shut_bool Try.underlying4 _), (trodAll_cons_mk (Below.trod laidOut (by kernel_rfl) (of_decide_eq_true (by kernel_rfl)) k0 bel lt0) (trodAll_cons_mk (Below.trod laidOut (by kernel_rfl) (of_decide_eq_true (by kernel_rfl)) k1 bel lt1) (trodAll_cons_mk (shut_bool Try.underlying4 _) (trodAll_cons_mk (Below.trod laidOut (by kernel_rfl) (of_decide_eq_true (by kernel_rfl)) k3 bel lt3) (trodAll_cons_mk (Below.trod laidOut (by kernel_rfl) (of_decide_eq_true (by kernel_rfl)) k4 bel lt4) (trodAll_cons_mk (Below.trod laidOut (by kernel_rfl) (of_decide_eq_true (by kernel_rfl)) k5 bel lt5) (trodAll_cons_mk (shut_int Try.underlying3 w6) trodAll_mk0))))))), rfl, bel.frame _, fun h => by cases h⟩
theorem over : Rows.flatTellsRow.holds Try.pinned (OpenSpec.ofChange Rows.flatTellsSpec) :=
  OpenClaim.holds_of_wide 5 Try.f5 rfl rfl rfl rfl rfl rfl rfl ⟨rfl, rfl, rfl, rfl, rfl⟩ rfl rfl rfl rfl rfl (by kernel_rfl) Try.func5 (by kernel_rfl)
    (of_decide_eq_true (by kernel_rfl)) (by unfold Func.isWrapper; first | (rw [if_pos (by decide +kernel)]; kernel_rfl) | (rw [if_neg (by decide +kernel)]; exact ⟨rfl, rfl⟩))
    (fun os started H enc _ => lifted os started H enc)
theorem proved : Rows.FlatTellsSaid := over
#print axioms proved
end Go.Proofs.Ytpjinhofjaapaaa.flatTells
namespace Go.Proofs.Ytpjinhofjaapaaa
/-- The row, under a short name, for the claim. -/
theorem flatTells_holds : Rows.FlatTellsSaid := flatTells.proved
end Go.Proofs.Ytpjinhofjaapaaa
