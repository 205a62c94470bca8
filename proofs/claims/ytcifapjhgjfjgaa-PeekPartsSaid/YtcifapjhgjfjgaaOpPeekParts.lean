/- The sentence PeekParts: its run in the abstract machine ends in true, whatever the arguments are; and the model's run is the abstract machine's. No condition. -/
import Derived.Test.YtcifapjhgjfjgaaRows
import Derived.Test.YtcifapjhgjfjgaaVabsLd
import Derived.WalkKit
import Derived.ProofKit
import Derived.OpenShut
import Derived.ShutString
import Derived.ChangeOld
import Derived.Below
import Derived.SizedLaws
import Derived.Carry
namespace Go.Proofs.Ytcifapjhgjfjgaa.peekParts
open Go.ChangeShapes Go.WideShapes Go.ChangeAt Go.RowKit
open Go.ChangeMaps (open_string shut_string)
set_option linter.unusedVariables false
theorem own : ownKnob Try.prog.godebug = none := by kernel_rfl
theorem laidOut : laidOutB Try.prog = true := by kernel_rfl
section
open Go.Vabs Go.Vabs.Pk Go.Vabs.Ph Go.Vabs.L2
theorem mix : Try.prog.follows .mixedOrders = true := by kernel_rfl
theorem knownRuns : Go.Vabs.isTrue (Go.Vabs.callF (Go.Vabs.table Try.prog 24) 100000 60 11 [] Go.Vabs.st0) = true := by kernel_rfl
noncomputable section
abbrev B0 : CallT := withF (withF (withF (fun _ _ _ => none) 22 1 there_c) 23 1 Clone_c) 6 1 Pick_c
abbrev B1 : CallT := withL B0 20 (lawOf (bytesRd numS))
abbrev B2 : CallT := withL B1 7 (lawOf (bytesRd (uS 1)))
abbrev B3 : CallT := withL B2 8 (lawOf (bytesRd (uS 2)))
abbrev B4 : CallT := withL B3 15 (lawOf (bytesRd (uS 3)))
abbrev B5 : CallT := withL B4 9 (lawOf (bytesRd (uS 4)))
abbrev B6 : CallT := withL B5 21 (lawOf (bytesRd sgnS))
abbrev B7 : CallT := withL B6 10 (lawOf (bytesRd (iS 2)))
abbrev B8 : CallT := withL B7 14 (lawOf (bytesRd (iS 4)))
abbrev B9 : CallT := withL B8 12 (lawOf (bytesRdA partS))
abbrev B10 : CallT := withL B9 13 (lawOf (bytesRdA fromS))
abbrev B11 : CallT := withL B10 16 (lawOf (bytesRd numS))
abbrev B12 : CallT := withL B11 17 (lawOf (bytesRd sgnS))
abbrev B13 : CallT := withL B12 18 (lawOf (bytesRdA rpartS))
abbrev B14 : CallT := withL B13 19 (lawOf (bytesRdA rfromS))
abbrev B15 : CallT := withL B14 11 (lawOf (closedRd (.bool true)))
end
theorem s0 : Sound Try.prog B0 := ((Sound.nothing.withF mix 1 (by kernel_rfl)).withF mix 1 (by kernel_rfl)).withF mix 1 (by kernel_rfl)
theorem there0 : ThereF B0 22 := (ThereF.code.withF (by decide)).withF (by decide)
theorem s1 : Sound Try.prog B1 := number_sound mix s0 (by kernel_rfl) there0
theorem s2 : Sound Try.prog B2 := u_sound mix s1 (n := 20) number_fact (.inl ⟨rfl, rfl⟩) (by kernel_rfl)
theorem s3 : Sound Try.prog B3 := u_sound mix s2 (n := 20) (number_fact.other (by decide)) (.inr (.inl ⟨rfl, rfl⟩)) (by kernel_rfl)
theorem s4 : Sound Try.prog B4 := u_sound mix s3 (n := 20) ((number_fact.other (by decide)).other (by decide)) (.inr (.inr (.inl ⟨rfl, rfl⟩))) (by kernel_rfl)
theorem s5 : Sound Try.prog B5 := u_sound mix s4 (n := 20) (((number_fact.other (by decide)).other (by decide)).other (by decide)) (.inr (.inr (.inr ⟨rfl, rfl⟩))) (by kernel_rfl)
theorem s6 : Sound Try.prog B6 := signed_sound mix s5 (n := 20) ((((number_fact.other (by decide)).other (by decide)).other (by decide)).other (by decide)) (by kernel_rfl)
theorem s7 : Sound Try.prog B7 := i_sound mix s6 (n := 21) signed_fact (.inl ⟨rfl, rfl⟩) (by kernel_rfl)
theorem s8 : Sound Try.prog B8 := i_sound mix s7 (n := 21) (signed_fact.other (by decide)) (.inr ⟨rfl, rfl⟩) (by kernel_rfl)
theorem there8 : ThereF B8 22 := by
  repeat (first | exact there0 | refine ThereF.other ?_ (by decide))
theorem clone0 : CloneF B0 23 := CloneF.withF CloneF.code (by decide)
theorem clone8 : CloneF B8 23 := by
  repeat (first | exact clone0 | refine CloneF.other ?_ (by decide))
theorem s9 : Sound Try.prog B9 := Part_sound mix s8 there8 clone8 (by kernel_rfl)
theorem s10 : Sound Try.prog B10 := From_sound mix s9 (there8.other (by decide)) (clone8.other (by decide)) (by kernel_rfl)
theorem s11 : Sound Try.prog B11 := Num_sound mix s10 (by kernel_rfl)
theorem s12 : Sound Try.prog B12 := Signed_sound mix s11 (n := 16) number_fact (by kernel_rfl)
theorem s13 : Sound Try.prog B13 := RPart_sound mix s12 (by kernel_rfl)
theorem s14 : Sound Try.prog B14 := RFrom_sound mix s13 (by kernel_rfl)
theorem s15 : Sound Try.prog B15 := by
  obtain ⟨s, h⟩ := isTrue_some knownRuns
  exact s14.closed (Sound.table mix 24 100000 60) h rfl
theorem s16 : Sound Try.prog (withF B15 3 6 (Parts_c 6 7 8 9 10 11 12 13)) := s15.withF mix 6 (by kernel_rfl)
theorem pick15 : PickF B15 6 := by
  repeat (first | exact PickF.code | refine PickF.other ?_ (by decide))
theorem u8 : UF 1 B15 7 := by
  repeat (first | exact uS_fact | refine UF.other ?_ (by decide))
theorem u16 : UF 2 B15 8 := by
  repeat (first | exact uS_fact | refine UF.other ?_ (by decide))
theorem u24 : UF 3 B15 15 := by
  repeat (first | exact uS_fact | refine UF.other ?_ (by decide))
theorem u32 : UF 4 B15 9 := by
  repeat (first | exact uS_fact | refine UF.other ?_ (by decide))
theorem i16 : IF 2 B15 10 := by
  repeat (first | exact iS_fact | refine IF.other ?_ (by decide))
theorem i32 : IF 4 B15 14 := by
  repeat (first | exact iS_fact | refine IF.other ?_ (by decide))
theorem part15 : PartF B15 12 := by
  repeat (first | exact Part_fact | refine PartF.other ?_ (by decide))
theorem from15 : FromF B15 13 := by
  repeat (first | exact From_fact | refine FromF.other ?_ (by decide))
theorem num15 : NumF B15 16 := by
  repeat (first | exact number_fact | refine NumF.other ?_ (by decide))
theorem sgn15 : SgnF B15 17 := by
  repeat (first | exact signed_fact | refine SgnF.other ?_ (by decide))
theorem rpart15 : RPartF B15 18 := by
  repeat (first | exact RPart_fact | refine RPartF.other ?_ (by decide))
theorem rfrom15 : RFromF B15 19 := by
  repeat (first | exact RFrom_fact | refine RFromF.other ?_ (by decide))
theorem calls (W : World) {a0 : Option Addr} {len0 cap0 : Nat} {z0 : List Int} (w0 : IsRow .u8 W a0 len0 cap0 z0) (y0 : len0 * 1 ≤ 140737488351232) {a1 : Int} (w1 : (Lit.int .i64 a1).wf = true) {a2 : Int} (w2 : (Lit.int .i64 a2).wf = true) :
    Calls Try.prog 3 #[.slice a0 len0 cap0, .int .i64 a1, .int .i64 a2] W fun e W' => e = .returned (.bool true) ∧ Below W.heap.size W W' := by
  refine s16.law_bytes (rest := [.int .i64 a1, .int .i64 a2]) (rest' := [.int .i64 a1, .int .i64 a2]) w0 rfl ⟨rfl, rfl, trivial⟩ ?_
  intro nil bs hnil hb hl
  rw [withF_same]
  exact Parts_all pick15 u8 u16 u32 i16 (fun st => closed_call) part15 from15 hnil hb (by omega)
end

set_option maxRecDepth 100000 in
theorem lifted (os : Os) (started : os.Started) (H : Type) (enc : TypeId × Value → H) :
    ReturnsInHanded {} Try.checked os 3 .any (Rows.peekPartsSpec.pre6 enc Try.prog Try.f3 Rows.peekPartsRow.domain false) (Rows.peekPartsSpec.post enc Try.prog Try.f3 false true false false) := by
  refine returnsInHanded_of_change_sized (C := Try.checked) own started (by kernel_rfl) Try.func3
    (ChangeSpec.witness6 (enc := enc) (C := Try.checked) false ⟨#[], #[.slice none 0 0, .int .i64 0, .int .i64 0], []⟩ 8 (by kernel_rfl) (by kernel_rfl) (by kernel_rfl) (by kernel_rfl)) ?_
  intro W base args ds gs before hval0 hW hcnd hsz0 _
  have hsz : (DataW.weightsEach Try.prog (Try.f3.params.toList ++ Rows.peekPartsSpec.plain.varTypes Try.prog) (ds ++ gs)).all (· ≤ reachBytes) = true := hsz0
  have hval : ∀ (j : Nat) t v, Try.f3.params[j]? = some t → args[j]? = some v → Value.okWide Try.prog W .any base t v := hval0
  have hW' := hW
  obtain ⟨p, q, hA0, hV, rfl, hfz, hnd⟩ := hW
  have hA : DataW.TrodAll enc Try.prog W 0 (fun _ => true) true Try.f3.params.toList args.toList ds p := hA0
  rw [Try.params3] at hA hval hsz
  obtain ⟨v0, vs0, d0, ds0, p0, q0, hargs, rfl, rfl, h0, r0⟩ := trodAll_cons hA
  obtain ⟨v1, vs1, d1, ds1, p1, q1, rfl, rfl, rfl, h1, r1⟩ := trodAll_cons r0
  obtain ⟨v2, vs2, d2, ds2, p2, q2, rfl, rfl, rfl, h2, r2⟩ := trodAll_cons r1
  obtain ⟨rfl, rfl, rfl⟩ := trodAll_nil r2
  obtain rfl : args = #[v0, v1, v2] := by cases args; simp_all
  obtain ⟨rfl, rfl⟩ := trodVars_none hV
  have k0 := h0
  have lt0 : ∀ x ∈ p0, x.block < W.heap.size := by obtain ⟨m, hm⟩ := k0; exact DataW.trod_lt m _ _ _ hm
  obtain ⟨a0, len0, cap0, z0, rfl, w0, y0⟩ := Go.Vabs.row_ints hsz (j := 0) (t := 22) rfl rfl Try.underlying22 Try.underlying5 (by kernel_rfl) (B := 1) (by kernel_rfl) (hval 0 22 v0 rfl rfl) h0
  obtain ⟨a1, rfl, rfl, rfl, w1⟩ := open_int Try.underlying3 (hval 1 3 v1 rfl rfl) h1
  obtain ⟨a2, rfl, rfl, rfl, w2⟩ := open_int Try.underlying3 (hval 2 3 v2 rfl rfl) h2
  clear hA0 hval0 hsz0 hsz
  refine (calls W w0 y0 w1 w2).mono fun e W' ⟨he, bel⟩ => ?_
  subst he
  exact ⟨_, rfl, _, _, _, [], _, [], hW', trodAll_mk1 (shut_bool Try.underlying4 _), (trodAll_cons_mk (Below.trod laidOut (by kernel_rfl) (of_decide_eq_true (by kernel_rfl)) k0 bel lt0) (trodAll_cons_mk (shut_int Try.underlying3 w1) (trodAll_cons_mk (shut_int Try.underlying3 w2) trodAll_mk0))), rfl, bel.frame _, fun h => by cases h⟩
theorem over : Rows.peekPartsRow.holds Try.pinned (OpenSpec.ofChange Rows.peekPartsSpec) :=
  OpenClaim.holds_of_wide 3 Try.f3 rfl rfl rfl rfl rfl rfl rfl ⟨rfl, rfl, rfl, rfl, rfl⟩ rfl rfl rfl rfl rfl (by kernel_rfl) Try.func3 (by kernel_rfl)
    (of_decide_eq_true (by kernel_rfl)) (by unfold Func.isWrapper; first | (rw [if_pos (by decide +kernel)]; kernel_rfl) | (rw [if_neg (by decide +kernel)]; exact ⟨rfl, rfl⟩))
    (fun os started H enc _ => lifted os started H enc)
theorem proved : Rows.PeekPartsSaid := over
#print axioms proved
end Go.Proofs.Ytcifapjhgjfjgaa.peekParts
namespace Go.Proofs.Ytcifapjhgjfjgaa
/-- The row, under a short name, for the claim. -/
theorem peekParts_holds : Rows.PeekPartsSaid := peekParts.proved
end Go.Proofs.Ytcifapjhgjfjgaa
