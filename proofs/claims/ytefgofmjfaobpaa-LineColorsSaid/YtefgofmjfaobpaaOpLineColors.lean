/- The sentence LineColors: its run in the abstract machine ends in true, whatever the arguments are; and the model's run is the abstract machine's. No condition. -/
import Derived.Test.YtefgofmjfaobpaaRows
import Derived.Test.YtefgofmjfaobpaaVabsFy
import Derived.WalkKit
import Derived.ProofKit
import Derived.OpenShut
import Derived.ShutString
import Derived.ChangeOld
import Derived.Below
import Derived.SizedLaws
import Derived.Carry
namespace Go.Proofs.Ytefgofmjfaobpaa.lineColors
open Go.ChangeShapes Go.WideShapes Go.ChangeAt Go.RowKit
open Go.ChangeMaps (open_string shut_string)
set_option linter.unusedVariables false
theorem own : ownKnob Try.prog.godebug = none := by kernel_rfl
theorem laidOut : laidOutB Try.prog = true := by kernel_rfl
section
open Go.Vabs Go.Vabs.Ph Go.Vabs.Fl Go.Vabs.Ln
theorem mix : Try.prog.follows .mixedOrders = true := by kernel_rfl
theorem knownRuns : Go.Vabs.isTrue (Go.Vabs.callF (Go.Vabs.table Try.prog 68) 100000 60 8 [] Go.Vabs.st0) = true := by kernel_rfl
noncomputable section
abbrev B0 : CallT := withF (fun _ _ _ => none) 34 1 Fl.brought_c
abbrev B1 : CallT := withF B0 21 1 (Fl.Clip_c 34)
abbrev B2 : CallT := withF B1 11 1 Pick_c
abbrev B3 : CallT := withF B2 14 1 (Fl.Num_c 11)
abbrev B4 : CallT := withF B3 27 1 modulo_c
abbrev B5 : CallT := withF B4 20 1 CloneS_c
abbrev B6 : CallT := withL B5 23 (lawOf (flatRd cmpS))
abbrev B7 : CallT := withF B6 45 22 insertion_c
abbrev B8 : CallT := withF B7 35 2 (stable_c 45 46)
abbrev B9 : CallT := withF B8 22 1 (SortStable_c 35)
abbrev B10 : CallT := withL B9 7 (lawOf (oneRd shape1 5 newS))
abbrev B11 : CallT := withL B10 10 (lawOf (oneRd shapeA 5 bentS))
abbrev B12 : CallT := withL B11 19 (lawOf (flatRd colorS))
abbrev B13 : CallT := withL B12 12 (lawOf (oneRd shapeH 1 stopsS))
abbrev B14 : CallT := withL B13 8 (lawOf (closedRd (.bool true)))
abbrev B15 : CallT := withL B14 47 (lawOf (flatRd (pxLaw fun _ => .bool true)))
abbrev B16 : CallT := withL B15 36 (lawOf (flatRd (pxLaw Px.v)))
abbrev B17 : CallT := withF B16 48 1 br_c
abbrev B18 : CallT := withF B17 37 1 (Part_c 48)
abbrev B19 : CallT := withL B18 24 (lawOf (flatRd (pxLaw fun p => p.pre.v)))
abbrev B20 : CallT := withF B19 38 1 mix_c
abbrev B21 : CallT := withL B20 25 (lawOf (flatRd mixLaw))
abbrev B22 : CallT := withF B21 39 1 floored_c
abbrev B23 : CallT := withF B22 26 1 (Div_c 21 39)
abbrev B24 : CallT := withL B23 9 (lawOf (oneRd shapeA 5 atS))
abbrev B25 : CallT := withL B24 43 (lawOf (flatRd (pxLaw fun _ => .bool true)))
abbrev B26 : CallT := withL B25 32 (lawOf (flatRd (pxLaw Px.v)))
abbrev B27 : CallT := withF B26 44 1 within_c
abbrev B28 : CallT := withF B27 33 1 (Part_c 44)
abbrev B29 : CallT := withL B28 17 (lawOf (flatRd (pxLaw fun p => p.pre.v)))
abbrev B30 : CallT := withF B29 18 1 between_c
end
theorem s5 : Sound Try.prog B5 := (((((Sound.nothing.withF mix 1 (by kernel_rfl)).withF mix 1 (by kernel_rfl)).withF mix 1 (by kernel_rfl)).withF mix 1 (by kernel_rfl)).withF mix 1 (by kernel_rfl)).withF mix 1 (by kernel_rfl)
theorem s6 : Sound Try.prog B6 := cmp_sound mix s5 (by kernel_rfl)
theorem s9 : Sound Try.prog B9 := ((s6.withF mix 22 (by kernel_rfl)).withF mix 2 (by kernel_rfl)).withF mix 1 (by kernel_rfl)
theorem clip9 : ClipF B9 21 := by
  repeat (first | exact ClipF.code BroughtF.code | refine ClipF.other ?_ (by decide) | refine ClipF.withF ?_ (by decide))
theorem clone9 : CloneSF B9 20 := by
  repeat (first | exact CloneSF.code | refine CloneSF.other ?_ (by decide) | refine CloneSF.withF ?_ (by decide))
theorem sort9 : SortF B9 22 23 := SortF.code (InsF.code cmp_fact) trivial
theorem sortn9 : SortNF B9 22 23 := SortNF.code (fun e c f st => withF_same.trans ins_nil)
theorem s10 : Sound Try.prog B10 := new_sound mix s9 clone9 clip9 sort9 sortn9 (by kernel_rfl)
theorem clip10 : ClipF B10 21 := clip9.other (by decide)
theorem mod10 : ModF B10 27 := by
  repeat (first | exact ModF.code | refine ModF.other ?_ (by decide) | refine ModF.withF ?_ (by decide))
theorem s11 : Sound Try.prog B11 := bent_sound mix s10 clip10 mod10 (by kernel_rfl)
theorem pick11 : PickF B11 11 := by
  repeat (first | exact PickF.code | refine PickF.other ?_ (by decide) | refine PickF.withF ?_ (by decide))
theorem s12 : Sound Try.prog B12 := color_sound mix s11 pick11 (by kernel_rfl)
theorem num12 : NumHF B12 14 := by
  repeat (first | exact NumHF.code PickF.code | refine NumHF.other ?_ (by decide) | refine NumHF.withF ?_ (by decide))
theorem s13 : Sound Try.prog B13 := stops_sound mix s12 num12 (pick11.other (by decide)) color_fact (by kernel_rfl)
theorem s14 : Sound Try.prog B14 := by
  obtain ⟨s, h⟩ := isTrue_some knownRuns
  exact s13.closed (Sound.table mix 68 100000 60) h rfl
theorem s15 : Sound Try.prog B15 := px_sound mix s14 (by kernel_rfl) (fun p => rfl) (fun p hp => right_run hp)
theorem s16 : Sound Try.prog B16 := px_sound mix s15 (by kernel_rfl) (fun p => rfl) (fun p hp => taken_run px_fact hp)
theorem s18 : Sound Try.prog B18 := (s16.withF mix 1 (by kernel_rfl)).withF mix 1 (by kernel_rfl)
theorem taken18 : PxF Px.v B18 36 := (px_fact.withF (by decide)).withF (by decide)
theorem part18 : PartF B18 37 := PartF.code BrF.code
theorem s19 : Sound Try.prog B19 := px_sound mix s18 (by kernel_rfl) (fun p => rfl) (fun p hp => pre_run taken18 part18 hp)
theorem s20 : Sound Try.prog B20 := s19.withF mix 1 (by kernel_rfl)
theorem taken20 : PxF Px.v B20 36 := (taken18.other (by decide)).withF (by decide)
theorem s21 : Sound Try.prog B21 := mixL_sound mix s20 (by kernel_rfl) (fun p q t hp hq => mix_run taken20 CloF.code hp hq)
theorem s23 : Sound Try.prog B23 := (s21.withF mix 1 (by kernel_rfl)).withF mix 1 (by kernel_rfl)
theorem clip22 : ClipF B22 21 := by
  repeat (first | exact clip10 | refine ClipF.other ?_ (by decide) | refine ClipF.withF ?_ (by decide))
theorem div23 : DivF B23 26 := DivF.code clip22 FloorF.code
theorem mix23 : MixF B23 25 := (mixL_fact.withF (by decide)).withF (by decide)
theorem pre23 : PxF (fun p => p.pre.v) B23 24 := by
  repeat (first | exact px_fact | refine PxF.other ?_ (by decide) | refine PxF.withF ?_ (by decide))
theorem bent23 : Ln.BentF B23 10 := by
  repeat (first | exact bent_fact | refine Ln.BentF.other ?_ (by decide) | refine Ln.BentF.withF ?_ (by decide))
theorem s24 : Sound Try.prog B24 := at_sound mix s23 bent23 pre23 div23 mix23 (by kernel_rfl)
theorem s25 : Sound Try.prog B25 := px_sound mix s24 (by kernel_rfl) (fun p => rfl) (fun p hp => rightP_run hp)
theorem s26 : Sound Try.prog B26 := px_sound mix s25 (by kernel_rfl) (fun p => rfl) (fun p hp => own_run px_fact hp)
theorem s28 : Sound Try.prog B28 := (s26.withF mix 1 (by kernel_rfl)).withF mix 1 (by kernel_rfl)
theorem own28 : PxF Px.v B28 32 := (px_fact.withF (by decide)).withF (by decide)
theorem part28 : PartF B28 33 := PartF.code BrF.within
theorem s29 : Sound Try.prog B29 := px_sound mix s28 (by kernel_rfl) (fun p => rfl) (fun p hp => rpre_run own28 part28 hp)
theorem s30 : Sound Try.prog B30 := s29.withF mix 1 (by kernel_rfl)
theorem s31 : Sound Try.prog (withF B30 6 22 (Colors_c 12 7 8 9 17 11 18 19 14)) := s30.withF mix 22 (by kernel_rfl)
theorem stops30 : StopsF B30 12 := by
  repeat (first | exact stops_fact | refine StopsF.other ?_ (by decide) | refine StopsF.withF ?_ (by decide))
theorem new30 : NewF B30 7 := by
  repeat (first | exact new_fact | refine NewF.other ?_ (by decide) | refine NewF.withF ?_ (by decide))
theorem at30 : AtF B30 9 := by
  repeat (first | exact at_fact | refine AtF.other ?_ (by decide) | refine AtF.withF ?_ (by decide))
theorem pick30 : PickF B30 11 := by
  repeat (first | exact pick11 | refine PickF.other ?_ (by decide) | refine PickF.withF ?_ (by decide))
theorem color30 : ColorF B30 19 := by
  repeat (first | exact color_fact | refine ColorF.other ?_ (by decide) | refine ColorF.withF ?_ (by decide))
theorem num30 : NumHF B30 14 := by
  repeat (first | exact num12 | refine NumHF.other ?_ (by decide) | refine NumHF.withF ?_ (by decide))
theorem known30 : ∀ st, B30 8 [] st = some (.bool true, st) := fun st => by
  repeat (first | exact closed_call | refine (withL_other (by decide)).trans ?_ | refine (withF_other (by decide)).trans ?_)
theorem calls (W : World) {a0 : Option Addr} {len0 cap0 : Nat} {z0 : List Int} (w0 : IsRow .i64 W a0 len0 cap0 z0) (y0 : len0 * 8 ≤ 140737488351232) {a1 : Int} (w1 : (Lit.int .i64 a1).wf = true) {a2 : Int} (w2 : (Lit.int .i64 a2).wf = true) :
    Calls Try.prog 6 #[.slice a0 len0 cap0, .int .i64 a1, .int .i64 a2] W fun e W' => e = .returned (.bool true) ∧ Below W.heap.size W W' := by
  refine s31.law_ints (rest := [.int .i64 a1, .int .i64 a2]) (rest' := [.int .i64 a1, .int .i64 a2]) w0 rfl ⟨rfl, rfl, trivial⟩ ?_
  intro nil ns h1 h2 h3
  rw [withF_same, ← h3]
  exact colors_run stops30 new30 known30 at30 (px_fact.withF (by decide)) pick30 BetwF.code color30 num30 h1 (fun n hn => i64_of_wf (h2 n hn)) (by omega) (i64_of_wf w1) (i64_of_wf w2)
end

set_option maxRecDepth 100000 in
theorem lifted (os : Os) (started : os.Started) (H : Type) (enc : TypeId × Value → H) :
    ReturnsInHanded {} Try.checked os 6 .any (Rows.lineColorsSpec.pre6 enc Try.prog Try.f6 Rows.lineColorsRow.domain false) (Rows.lineColorsSpec.post enc Try.prog Try.f6 false true false false) := by
  refine returnsInHanded_of_change_sized (C := Try.checked) own started (by kernel_rfl) Try.func6
    (ChangeSpec.witness6 (enc := enc) (C := Try.checked) false ⟨#[], #[.slice none 0 0, .int .i64 0, .int .i64 0], []⟩ 8 (by kernel_rfl) (by kernel_rfl) (by kernel_rfl) (by kernel_rfl)) ?_
  intro W base args ds gs before hval0 hW hcnd hsz0 _
  have hsz : (DataW.weightsEach Try.prog (Try.f6.params.toList ++ Rows.lineColorsSpec.plain.varTypes Try.prog) (ds ++ gs)).all (· ≤ reachBytes) = true := hsz0
  have hval : ∀ (j : Nat) t v, Try.f6.params[j]? = some t → args[j]? = some v → Value.okWide Try.prog W .any base t v := hval0
  have hW' := hW
  obtain ⟨p, q, hA0, hV, rfl, hfz, hnd⟩ := hW
  have hA : DataW.TrodAll enc Try.prog W 0 (fun _ => true) true Try.f6.params.toList args.toList ds p := hA0
  rw [Try.params6] at hA hval hsz
  obtain ⟨v0, vs0, d0, ds0, p0, q0, hargs, rfl, rfl, h0, r0⟩ := trodAll_cons hA
  obtain ⟨v1, vs1, d1, ds1, p1, q1, rfl, rfl, rfl, h1, r1⟩ := trodAll_cons r0
  obtain ⟨v2, vs2, d2, ds2, p2, q2, rfl, rfl, rfl, h2, r2⟩ := trodAll_cons r1
  obtain ⟨rfl, rfl, rfl⟩ := trodAll_nil r2
  obtain rfl : args = #[v0, v1, v2] := by cases args; simp_all
  obtain ⟨rfl, rfl⟩ := trodVars_none hV
  have k0 := h0
  have lt0 : ∀ x ∈ p0, x.block < W.heap.size := by obtain ⟨m, hm⟩ := k0; exact DataW.trod_lt m _ _ _ hm
  obtain ⟨a0, len0, cap0, z0, rfl, w0, y0⟩ := Go.Vabs.row_ints hsz (j := 0) (t := 33) rfl rfl Try.underlying33 Try.underlying3 (by kernel_rfl) (B := 8) (by kernel_rfl) (hval 0 33 v0 rfl rfl) h0
  obtain ⟨a1, rfl, rfl, rfl, w1⟩ := open_int Try.underlying3 (hval 1 3 v1 rfl rfl) h1
  obtain ⟨a2, rfl, rfl, rfl, w2⟩ := open_int Try.underlying3 (hval 2 3 v2 rfl rfl) h2
  clear hA0 hval0 hsz0 hsz
  refine (calls W w0 y0 w1 w2).mono fun e W' ⟨he, bel⟩ => ?_
  subst he
  exact ⟨_, rfl, _, _, _, [], _, [], hW', trodAll_mk1 (shut_bool Try.underlying4 _), (trodAll_cons_mk (Below.trod laidOut (by kernel_rfl) (of_decide_eq_true (by kernel_rfl)) k0 bel lt0) (trodAll_cons_mk (shut_int Try.underlying3 w1) (trodAll_cons_mk (shut_int Try.underlying3 w2) trodAll_mk0))), rfl, bel.frame _, fun h => by cases h⟩
theorem over : Rows.lineColorsRow.holds Try.pinned (OpenSpec.ofChange Rows.lineColorsSpec) :=
  OpenClaim.holds_of_wide 6 Try.f6 rfl rfl rfl rfl rfl rfl rfl ⟨rfl, rfl, rfl, rfl, rfl⟩ rfl rfl rfl rfl rfl (by kernel_rfl) Try.func6 (by kernel_rfl)
    (of_decide_eq_true (by kernel_rfl)) (by unfold Func.isWrapper; first | (rw [if_pos (by decide +kernel)]; kernel_rfl) | (rw [if_neg (by decide +kernel)]; exact ⟨rfl, rfl⟩))
    (fun os started H enc _ => lifted os started H enc)
theorem proved : Rows.LineColorsSaid := over
#print axioms proved
end Go.Proofs.Ytefgofmjfaobpaa.lineColors
namespace Go.Proofs.Ytefgofmjfaobpaa
/-- The row, under a short name, for the claim. -/
theorem lineColors_holds : Rows.LineColorsSaid := lineColors.proved
end Go.Proofs.Ytefgofmjfaobpaa
