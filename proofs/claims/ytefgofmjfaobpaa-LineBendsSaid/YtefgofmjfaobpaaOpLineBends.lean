/- The sentence LineBends: its run in the abstract machine ends in true, whatever the arguments are; and the model's run is the abstract machine's. No condition. -/
import Derived.Test.YtefgofmjfaobpaaRows
import Derived.Test.YtefgofmjfaobpaaVabsFs
import Derived.WalkKit
import Derived.ProofKit
import Derived.OpenShut
import Derived.ShutString
import Derived.ChangeOld
import Derived.Below
import Derived.SizedLaws
import Derived.Carry
namespace Go.Proofs.Ytefgofmjfaobpaa.lineBends
open Go.ChangeShapes Go.WideShapes Go.ChangeAt Go.RowKit
open Go.ChangeMaps (open_string shut_string)
set_option linter.unusedVariables false
theorem own : ownKnob Try.prog.godebug = none := by kernel_rfl
theorem laidOut : laidOutB Try.prog = true := by kernel_rfl
section
open Go.Vabs Go.Vabs.Ph Go.Vabs.Fl Go.Vabs.Ln
theorem mix : Try.prog.follows .mixedOrders = true := by kernel_rfl
theorem knownRuns : Go.Vabs.isTrue (Go.Vabs.callF (Go.Vabs.table Try.prog 68) 100000 60 8 [] Go.Vabs.st0) = true := by kernel_rfl
noncomputable section
abbrev B0 : CallT := withF (fun _ _ _ => none) 34 1 Fl.brought_c
abbrev B1 : CallT := withF B0 21 1 (Fl.Clip_c 34)
abbrev B2 : CallT := withF B1 11 1 Pick_c
abbrev B3 : CallT := withF B2 14 1 (Fl.Num_c 11)
abbrev B4 : CallT := withF B3 27 1 modulo_c
abbrev B5 : CallT := withF B4 20 1 CloneS_c
abbrev B6 : CallT := withL B5 23 (lawOf (flatRd cmpS))
abbrev B7 : CallT := withF B6 45 22 insertion_c
abbrev B8 : CallT := withF B7 35 2 (stable_c 45 46)
abbrev B9 : CallT := withF B8 22 1 (SortStable_c 35)
abbrev B10 : CallT := withL B9 7 (lawOf (oneRd shape1 5 newS))
abbrev B11 : CallT := withL B10 10 (lawOf (oneRd shapeA 5 bentS))
abbrev B12 : CallT := withL B11 19 (lawOf (flatRd colorS))
abbrev B13 : CallT := withL B12 12 (lawOf (oneRd shapeH 1 stopsS))
abbrev B14 : CallT := withL B13 8 (lawOf (closedRd (.bool true)))
end
theorem s5 : Sound Try.prog B5 := (((((Sound.nothing.withF mix 1 (by kernel_rfl)).withF mix 1 (by kernel_rfl)).withF mix 1 (by kernel_rfl)).withF mix 1 (by kernel_rfl)).withF mix 1 (by kernel_rfl)).withF mix 1 (by kernel_rfl)
theorem s6 : Sound Try.prog B6 := cmp_sound mix s5 (by kernel_rfl)
theorem s9 : Sound Try.prog B9 := ((s6.withF mix 22 (by kernel_rfl)).withF mix 2 (by kernel_rfl)).withF mix 1 (by kernel_rfl)
theorem clip9 : ClipF B9 21 := by
  repeat (first | exact ClipF.code BroughtF.code | refine ClipF.other ?_ (by decide) | refine ClipF.withF ?_ (by decide))
theorem clone9 : CloneSF B9 20 := by
  repeat (first | exact CloneSF.code | refine CloneSF.other ?_ (by decide) | refine CloneSF.withF ?_ (by decide))
theorem sort9 : SortF B9 22 23 := SortF.code (InsF.code cmp_fact) trivial
theorem sortn9 : SortNF B9 22 23 := SortNF.code (fun e c f st => withF_same.trans ins_nil)
theorem s10 : Sound Try.prog B10 := new_sound mix s9 clone9 clip9 sort9 sortn9 (by kernel_rfl)
theorem clip10 : ClipF B10 21 := clip9.other (by decide)
theorem mod10 : ModF B10 27 := by
  repeat (first | exact ModF.code | refine ModF.other ?_ (by decide) | refine ModF.withF ?_ (by decide))
theorem s11 : Sound Try.prog B11 := bent_sound mix s10 clip10 mod10 (by kernel_rfl)
theorem pick11 : PickF B11 11 := by
  repeat (first | exact PickF.code | refine PickF.other ?_ (by decide) | refine PickF.withF ?_ (by decide))
theorem s12 : Sound Try.prog B12 := color_sound mix s11 pick11 (by kernel_rfl)
theorem num12 : NumHF B12 14 := by
  repeat (first | exact NumHF.code PickF.code | refine NumHF.other ?_ (by decide) | refine NumHF.withF ?_ (by decide))
theorem s13 : Sound Try.prog B13 := stops_sound mix s12 num12 (pick11.other (by decide)) color_fact (by kernel_rfl)
theorem s14 : Sound Try.prog B14 := by
  obtain ⟨s, h⟩ := isTrue_some knownRuns
  exact s13.closed (Sound.table mix 68 100000 60) h rfl
theorem s15 : Sound Try.prog (withF B14 5 1 (Bends_c 12 7 14 8 10 11)) := s14.withF mix 1 (by kernel_rfl)
theorem calls (W : World) {a0 : Option Addr} {len0 cap0 : Nat} {z0 : List Int} (w0 : IsRow .i64 W a0 len0 cap0 z0) (y0 : len0 * 8 ≤ 140737488351232) (a1 : Bool) {a2 : Int} (w2 : (Lit.int .i64 a2).wf = true) {a3 : Int} (w3 : (Lit.int .i64 a3).wf = true) :
    Calls Try.prog 5 #[.slice a0 len0 cap0, .bool a1, .int .i64 a2, .int .i64 a3] W fun e W' => e = .returned (.bool true) ∧ Below W.heap.size W W' := by
  refine s15.law_ints (rest := [.bool a1, .int .i64 a2, .int .i64 a3]) (rest' := [.bool a1, .int .i64 a2, .int .i64 a3]) w0 rfl ⟨rfl, rfl, rfl, trivial⟩ ?_
  intro nil ns h1 h2 h3
  rw [withF_same, ← h3]
  exact bends_run (stops_fact.other (by decide)) ((((new_fact.other (by decide)).other (by decide)).other (by decide)).other (by decide)) ((num12.other (by decide)).other (by decide)) (fun st => closed_call)
    (((bent_fact.other (by decide)).other (by decide)).other (by decide)) (((pick11.other (by decide)).other (by decide)).other (by decide)) h1 (fun n hn => i64_of_wf (h2 n hn)) (by omega) (i64_of_wf w2) (i64_of_wf w3)
end

set_option maxRecDepth 100000 in
theorem lifted (os : Os) (started : os.Started) (H : Type) (enc : TypeId × Value → H) :
    ReturnsInHanded {} Try.checked os 5 .any (Rows.lineBendsSpec.pre6 enc Try.prog Try.f5 Rows.lineBendsRow.domain false) (Rows.lineBendsSpec.post enc Try.prog Try.f5 false true false false) := by
  refine returnsInHanded_of_change_sized (C := Try.checked) own started (by kernel_rfl) Try.func5
    (ChangeSpec.witness6 (enc := enc) (C := Try.checked) false ⟨#[], #[.slice none 0 0, .bool false, .int .i64 0, .int .i64 0], []⟩ 8 (by kernel_rfl) (by kernel_rfl) (by kernel_rfl) (by kernel_rfl)) ?_
  intro W base args ds gs before hval0 hW hcnd hsz0 _
  have hsz : (DataW.weightsEach Try.prog (Try.f5.params.toList ++ Rows.lineBendsSpec.plain.varTypes Try.prog) (ds ++ gs)).all (· ≤ reachBytes) = true := hsz0
  have hval : ∀ (j : Nat) t v, Try.f5.params[j]? = some t → args[j]? = some v → Value.okWide Try.prog W .any base t v := hval0
  have hW' := hW
  obtain ⟨p, q, hA0, hV, rfl, hfz, hnd⟩ := hW
  have hA : DataW.TrodAll enc Try.prog W 0 (fun _ => true) true Try.f5.params.toList args.toList ds p := hA0
  rw [Try.params5] at hA hval hsz
  obtain ⟨v0, vs0, d0, ds0, p0, q0, hargs, rfl, rfl, h0, r0⟩ := trodAll_cons hA
  obtain ⟨v1, vs1, d1, ds1, p1, q1, rfl, rfl, rfl, h1, r1⟩ := trodAll_cons r0
  obtain ⟨v2, vs2, d2, ds2, p2, q2, rfl, rfl, rfl, h2, r2⟩ := trodAll_cons r1
  obtain ⟨v3, vs3, d3, ds3, p3, q3, rfl, rfl, rfl, h3, r3⟩ := trodAll_cons r2
  obtain ⟨rfl, rfl, rfl⟩ := trodAll_nil r3
  obtain rfl : args = #[v0, v1, v2, v3] := by cases args; simp_all
  obtain ⟨rfl, rfl⟩ := trodVars_none hV
  have k0 := h0
  have lt0 : ∀ x ∈ p0, x.block < W.heap.size := by obtain ⟨m, hm⟩ := k0; exact DataW.trod_lt m _ _ _ hm
  obtain ⟨a0, len0, cap0, z0, rfl, w0, y0⟩ := Go.Vabs.row_ints hsz (j := 0) (t := 33) rfl rfl Try.underlying33 Try.underlying3 (by kernel_rfl) (B := 8) (by kernel_rfl) (hval 0 33 v0 rfl rfl) h0
  obtain ⟨a1, rfl, rfl, rfl⟩ := open_bool Try.underlying4 (hval 1 4 v1 rfl rfl) h1
  obtain ⟨a2, rfl, rfl, rfl, w2⟩ := open_int Try.underlying3 (hval 2 3 v2 rfl rfl) h2
  obtain ⟨a3, rfl, rfl, rfl, w3⟩ := open_int Try.underlying3 (hval 3 3 v3 rfl rfl) h3
  clear hA0 hval0 hsz0 hsz
  refine (calls W w0 y0 a1 w2 w3).mono fun e W' ⟨he, bel⟩ => ?_
  subst he
  exact ⟨_, rfl, _, _, _, [], _, [], hW', trodAll_mk1 (shut_bool Try.underlying4 _), (trodAll_cons_mk (Below.trod laidOut (by kernel_rfl) (of_decide_eq_true (by kernel_rfl)) k0 bel lt0) (trodAll_cons_mk (shut_bool Try.underlying4 _) (trodAll_cons_mk (shut_int Try.underlying3 w2) (trodAll_cons_mk (shut_int Try.underlying3 w3) trodAll_mk0)))), rfl, bel.frame _, fun h => by cases h⟩
theorem over : Rows.lineBendsRow.holds Try.pinned (OpenSpec.ofChange Rows.lineBendsSpec) :=
  OpenClaim.holds_of_wide 5 Try.f5 rfl rfl rfl rfl rfl rfl rfl ⟨rfl, rfl, rfl, rfl, rfl⟩ rfl rfl rfl rfl rfl (by kernel_rfl) Try.func5 (by kernel_rfl)
    (of_decide_eq_true (by kernel_rfl)) (by unfold Func.isWrapper; first | (rw [if_pos (by decide +kernel)]; kernel_rfl) | (rw [if_neg (by decide +kernel)]; exact ⟨rfl, rfl⟩))
    (fun os started H enc _ => lifted os started H enc)
theorem proved : Rows.LineBendsSaid := over
#print axioms proved
end Go.Proofs.Ytefgofmjfaobpaa.lineBends
namespace Go.Proofs.Ytefgofmjfaobpaa
/-- The row, under a short name, for the claim. -/
theorem lineBends_holds : Rows.LineBendsSaid := lineBends.proved
end Go.Proofs.Ytefgofmjfaobpaa
