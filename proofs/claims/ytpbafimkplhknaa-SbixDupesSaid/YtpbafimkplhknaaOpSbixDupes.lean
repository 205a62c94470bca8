/- The sentence SbixDupes: its run in the abstract machine ends in true, whatever the arguments are; and the model's run is the abstract machine's. No condition. -/
import Derived.Test.YtpbafimkplhknaaRows
import Derived.Test.YtpbafimkplhknaaVabsRa
import Derived.WalkKit
import Derived.ProofKit
import Derived.OpenShut
import Derived.ShutString
import Derived.ChangeOld
import Derived.Below
import Derived.SizedLaws
import Derived.Carry
namespace Go.Proofs.Ytpbafimkplhknaa.sbixDupes
open Go.ChangeShapes Go.WideShapes Go.ChangeAt Go.RowKit
open Go.ChangeMaps (open_string shut_string)
open Go.Vabs (param_slice opens_row opens_int opens_bool opens_struct opensF_one opensF_cons)
set_option linter.unusedVariables false
theorem own : ownKnob Try.prog.godebug = none := by kernel_rfl
theorem laidOut : laidOutB Try.prog = true := by kernel_rfl
section
open Go.Vabs Go.Vabs.Ph Go.Vabs.Pk Go.Vabs.L2 Go.Vabs.Sa Go.Vabs.Sb Go.Vabs.Sc Go.Vabs.Se Go.Vabs.Sg Go.Vabs.Sh Go.Vabs.Sn Go.Vabs.Sp Go.Vabs.Sr Go.Vabs.St Go.Vabs.Su Go.Vabs.Na Go.Vabs.Nb Go.Vabs.Ra Go.Vabs.Rb Go.Vabs.Rc Go.Vabs.Rd Go.Vabs.Re Go.Vabs.Rf Go.Vabs.Rg Go.Vabs.Rh
theorem mix : Try.prog.follows .mixedOrders = true := by kernel_rfl
theorem knownRuns : Go.Vabs.isTrue (Go.Vabs.callF (Go.Vabs.table Try.prog 42) 100000 60 8 [] Go.Vabs.st0) = true := by kernel_rfl
noncomputable section
abbrev B0 : CallT := withF (withF (withF (withF (withF (withF (withF (fun _ _ _ => none) 39 1 there_c) 35 1 Clone_c) 15 1 Pick_c) 40 100 Index_c) 31 1 (Contains_c 40)) 16 1 Few_c) 33 65 RTable_c
abbrev B1 : CallT := withL B0 37 (lawOf (bytesRd Pk.numS))
abbrev B2 : CallT := withL B1 25 (lawOf (bytesRd (uS 2)))
abbrev B3 : CallT := withL B2 29 (lawOf (bytesRd (uS 4)))
abbrev B4 : CallT := withL B3 41 (lawOf (bytesRd sgnS))
abbrev B5 : CallT := withL B4 36 (lawOf (bytesRd (iS 2)))
abbrev B6 : CallT := withL B5 30 (lawOf (bytesRdA partS))
abbrev B7 : CallT := withF B6 28 1 (versioned_c 31)
abbrev B8 : CallT := withL B7 18 (lawOf (sightRdN openSpec))
abbrev B9 : CallT := withF B8 20 1 (Table_c 35)
abbrev B10 : CallT := withL B9 38 (lawOf (flatRd bigZS))
abbrev B11 : CallT := withF B10 27 100 (RLay_c 38)
abbrev B12 : CallT := withL B11 32 (lawOf (bytesRd Pk.numS))
abbrev B13 : CallT := withL B12 34 (lawOf (bytesRdA rpartS))
abbrev B14 : CallT := withL B13 19 (lawOf (sightRdN ropenSpec))
abbrev B15 : CallT := withF B14 26 1 (big_c 38)
abbrev B16 : CallT := withF B15 17 1 (Font_c 27)
abbrev B17 : CallT := withF B16 11 1 (Data_c 26)
abbrev B18 : CallT := withF B17 12 80 (Sbix_c 26)
abbrev B19 : CallT := withF B18 6 1 (openT_c 17 18 19)
abbrev B20 : CallT := withF B19 21 80 (strikesOf_c 25 29 30)
abbrev B21 : CallT := withF B20 22 80 chosen_c
abbrev B22 : CallT := withF B21 23 1 (data_c 29 30)
abbrev B23 : CallT := withF B22 24 1 (image_c 36)
abbrev B24 : CallT := withF B23 10 1 (Find_c 20 21 22 23 24 25)
abbrev B25 : CallT := withL B24 8 (lawOf (closedRd (.bool true)))
end
theorem s0 : Sound Try.prog B0 := ((((((Sound.nothing.withF mix 1 (by kernel_rfl)).withF mix 1 (by kernel_rfl)).withF mix 1 (by kernel_rfl)).withF mix 100 (by kernel_rfl)).withF mix 1 (by kernel_rfl)).withF mix 1 (by kernel_rfl)).withF mix 65 (by kernel_rfl)
theorem there0 : ThereF B0 39 := by
  repeat (first | refine ThereF.withF ?_ (by decide) | refine ThereF.other ?_ (by decide) | exact ThereF.code)
theorem clone0 : CloneF B0 35 := by
  repeat (first | refine CloneF.withF ?_ (by decide) | refine CloneF.other ?_ (by decide) | exact CloneF.code)
theorem cloneN0 : CloneN B0 35 := by
  repeat (first | refine CloneN.withF ?_ (by decide) | refine CloneN.other ?_ (by decide) | exact CloneN.code)
theorem few0 : FewF B0 16 := by
  repeat (first | refine FewF.withF ?_ (by decide) | refine FewF.other ?_ (by decide) | exact FewF.code)
theorem pick0 : PickF B0 15 := by
  repeat (first | refine PickF.withF ?_ (by decide) | refine PickF.other ?_ (by decide) | exact PickF.code)
theorem cont0 : ContF 100 B0 31 := by
  repeat (first | refine ContF.withF ?_ (by decide) | refine ContF.other ?_ (by decide) | exact ContF.code IndexF.code)
theorem rtable0 : RTableF B0 33 := by
  repeat (first | refine RTableF.withF ?_ (by decide) | refine RTableF.other ?_ (by decide) | exact RTableF.code (by omega))
theorem s1 : Sound Try.prog B1 := number_sound mix s0 (by kernel_rfl) there0
theorem s2 : Sound Try.prog B2 := u_sound mix s1 (n := 37) number_fact (.inr (.inl ⟨rfl, rfl⟩)) (by kernel_rfl)
theorem s3 : Sound Try.prog B3 := u_sound mix s2 (n := 37) (number_fact.other (by decide)) (.inr (.inr (.inr ⟨rfl, rfl⟩))) (by kernel_rfl)
theorem s4 : Sound Try.prog B4 := signed_sound mix s3 (n := 37) ((number_fact.other (by decide)).other (by decide)) (by kernel_rfl)
theorem s5 : Sound Try.prog B5 := i_sound mix s4 (n := 41) signed_fact (.inl ⟨rfl, rfl⟩) (by kernel_rfl)
theorem there5 : ThereF B5 39 := by
  repeat (first | refine ThereF.withF ?_ (by decide) | refine ThereF.other ?_ (by decide) | exact there0)
theorem clone5 : CloneF B5 35 := by
  repeat (first | refine CloneF.withF ?_ (by decide) | refine CloneF.other ?_ (by decide) | exact clone0)
theorem s6 : Sound Try.prog B6 := Part_sound mix s5 there5 clone5 (by kernel_rfl)
theorem s7 : Sound Try.prog B7 := s6.withF mix 1 (by kernel_rfl)
theorem cont6 : ContF 100 B6 31 := by
  repeat (first | refine ContF.withF ?_ (by decide) | refine ContF.other ?_ (by decide) | exact cont0)
theorem u16 : UF 2 B7 25 := by
  repeat (first | refine UF_withF ?_ (by decide) | refine UF.other ?_ (by decide) | exact uS_fact)
theorem u32 : UF 4 B7 29 := by
  repeat (first | refine UF_withF ?_ (by decide) | refine UF.other ?_ (by decide) | exact uS_fact)
theorem part7 : PartF B7 30 := PartF_withF Part_fact (by decide)
theorem s8 : Sound Try.prog B8 := Open_sound mix s7 (lf' := 100) (by omega) u16 u32 part7 (VersF_code (by omega) cont6) (ContF.withF cont6 (by decide)) (by kernel_rfl)
theorem s9 : Sound Try.prog B9 := s8.withF mix 1 (by kernel_rfl)
theorem clone8 : CloneF B8 35 := by
  repeat (first | refine CloneF.withF ?_ (by decide) | refine CloneF.other ?_ (by decide) | exact clone5)
theorem cloneN8 : CloneN B8 35 := by
  repeat (first | refine CloneN.withF ?_ (by decide) | refine CloneN.other ?_ (by decide) | exact cloneN0)
theorem s10 : Sound Try.prog B10 := BigZ_sound mix s9 (by kernel_rfl)
theorem s11 : Sound Try.prog B11 := s10.withF mix 100 (by kernel_rfl)
theorem s12 : Sound Try.prog B12 := Num_sound mix s11 (by kernel_rfl)
theorem s13 : Sound Try.prog B13 := RPart_sound mix s12 (by kernel_rfl)
theorem rtable13 : RTableF B13 33 := by
  repeat (first | refine RTableF.withF ?_ (by decide) | refine RTableF.other ?_ (by decide) | exact rtable0)
theorem s14 : Sound Try.prog B14 := ROpen_sound mix s13 (NumF.other number_fact (by decide)) rtable13 RPart_fact (by kernel_rfl)
theorem s15 : Sound Try.prog B15 := s14.withF mix 1 (by kernel_rfl)
theorem bigz10 : BigZF B10 38 := bigz_fact
theorem bigz14 : BigZF B14 38 := by
  repeat (first | refine BigZF.withF ?_ (by decide) | refine BigZF.other ?_ (by decide) | exact bigz10)
theorem bigz15 : BigZF B15 26 := BigZF.wrap bigz14
theorem big15 : BigF B15 26 := bigz15.nat
theorem s16 : Sound Try.prog B16 := s15.withF mix 1 (by kernel_rfl)
theorem rlay15 : RLayF B15 27 := by
  repeat (first | refine RLayF.withF ?_ (by decide) | refine RLayF.other ?_ (by decide) | exact RLayF.code (by omega) bigz10.nat)
theorem font16 : FontF B16 17 := FontF.code rlay15
theorem s17 : Sound Try.prog B17 := s16.withF mix 1 (by kernel_rfl)
theorem dataz17 : DataZF B17 11 := DataZF.code (bigz15.withF (by decide))
theorem s18 : Sound Try.prog B18 := s17.withF mix 80 (by kernel_rfl)
theorem big17 : BigF B17 26 := by
  repeat (first | refine BigF.withF ?_ (by decide) | refine BigF.other ?_ (by decide) | exact big15)
theorem sbix18 : SbixF B18 12 := SbixF.code (by omega) big17
theorem s19 : Sound Try.prog B19 := s18.withF mix 1 (by kernel_rfl)
theorem font18 : FontF B18 17 := by
  repeat (first | refine FontF.withF ?_ (by decide) | refine FontF.other ?_ (by decide) | exact font16)
theorem open18 : OpenF B18 18 := by
  repeat (first | refine OpenF_withF ?_ (by decide) | refine OpenF.other ?_ (by decide) | exact open_fact)
theorem ropen18 : ROpenF B18 19 := by
  repeat (first | refine ROpenF.withF ?_ (by decide) | refine ROpenF.other ?_ (by decide) | exact ropen_fact)
theorem one19 : OneTF B19 6 := OneTF.code font18 open18 ropen18
theorem u16_19 : UF 2 B19 25 := by
  repeat (first | refine UF_withF ?_ (by decide) | refine UF.other ?_ (by decide) | exact u16)
theorem u32_19 : UF 4 B19 29 := by
  repeat (first | refine UF_withF ?_ (by decide) | refine UF.other ?_ (by decide) | exact u32)
theorem part19 : PartF B19 30 := by
  repeat (first | refine PartF_withF ?_ (by decide) | refine PartF.other ?_ (by decide) | exact part7)
theorem s20 : Sound Try.prog B20 := s19.withF mix 80 (by kernel_rfl)
theorem strikes20 : StrikesF B20 21 := StrikesF.code (by omega) u16_19 u32_19 part19
theorem s21 : Sound Try.prog B21 := s20.withF mix 80 (by kernel_rfl)
theorem chosen21 : ChosenF B21 22 := ChosenF.code (by omega)
theorem s22 : Sound Try.prog B22 := s21.withF mix 1 (by kernel_rfl)
theorem u32_21 : UF 4 B21 29 := by
  repeat (first | refine UF_withF ?_ (by decide) | refine UF.other ?_ (by decide) | exact u32_19)
theorem part21 : PartF B21 30 := by
  repeat (first | refine PartF_withF ?_ (by decide) | refine PartF.other ?_ (by decide) | exact part19)
theorem dataok22 : DataOkF B22 23 := DataOkF.code u32_21 part21
theorem datano22 : DataNoF B22 23 := DataNoF.code u32_21 part21
theorem s23 : Sound Try.prog B23 := s22.withF mix 1 (by kernel_rfl)
theorem i16_22 : IF 2 B22 36 := by
  repeat (first | refine IF_withF ?_ (by decide) | refine IF.other ?_ (by decide) | exact iS_fact)
theorem image23 : ImageF B23 24 := ImageF.code i16_22
theorem s24 : Sound Try.prog B24 := s23.withF mix 1 (by kernel_rfl)
theorem table23 : TableF B23 20 := by
  repeat (first | refine TableF.withF ?_ (by decide) | refine TableF.other ?_ (by decide) | exact TableF.code clone8)
theorem tableN23 : TableNF B23 20 := by
  repeat (first | refine TableNF.withF ?_ (by decide) | refine TableNF.other ?_ (by decide) | exact TableNF.code cloneN8)
theorem strikes23 : StrikesF B23 21 := by
  repeat (first | refine StrikesF.withF ?_ (by decide) | refine StrikesF.other ?_ (by decide) | exact strikes20)
theorem chosen23 : ChosenF B23 22 := by
  repeat (first | refine ChosenF.withF ?_ (by decide) | refine ChosenF.other ?_ (by decide) | exact chosen21)
theorem dataok23 : DataOkF B23 23 := by
  repeat (first | refine DataOkF.withF ?_ (by decide) | refine DataOkF.other ?_ (by decide) | exact dataok22)
theorem find24 : FindF B24 10 := FindF.code table23 tableN23 strikes23 chosen23 dataok23 image23
theorem datano23 : DataNoF B23 23 := by
  repeat (first | refine DataNoF.withF ?_ (by decide) | refine DataNoF.other ?_ (by decide) | exact datano22)
theorem u16_23 : UF 2 B23 25 := by
  repeat (first | refine UF_withF ?_ (by decide) | refine UF.other ?_ (by decide) | exact u16_19)
theorem dupe24 : DupeF B24 10 := DupeF.code table23 tableN23 strikes23 chosen23 dataok23 image23 u16_23
theorem dupeno24 : DupeNoF B24 10 := DupeNoF.code table23 tableN23 strikes23 chosen23 dataok23 datano23 u16_23
theorem dupedupe24 : DupeDupeF B24 10 := DupeDupeF.code table23 tableN23 strikes23 chosen23 dataok23 u16_23
theorem s25 : Sound Try.prog B25 := by
  obtain ⟨s, h⟩ := isTrue_some knownRuns
  exact s24.closed (Sound.table mix 42 100000 60) h rfl
theorem pick25 : PickF B25 15 := by
  repeat (first | refine PickF.withF ?_ (by decide) | refine PickF.other ?_ (by decide) | exact pick0)
theorem sbix25 : SbixF B25 12 := by
  repeat (first | refine SbixF.withF ?_ (by decide) | refine SbixF.other ?_ (by decide) | exact sbix18)
theorem one25 : OneTF B25 6 := by
  repeat (first | refine OneTF.withF ?_ (by decide) | refine OneTF.other ?_ (by decide) | exact one19)
theorem find25 : FindF B25 10 := find24.other (by decide)
theorem few25 : FewF B25 16 := by
  repeat (first | refine FewF.withF ?_ (by decide) | refine FewF.other ?_ (by decide) | exact few0)
theorem dataz25 : DataZF B25 11 := by
  repeat (first | refine DataZF.withF ?_ (by decide) | refine DataZF.other ?_ (by decide) | exact dataz17)
theorem dupe25 : DupeF B25 10 := dupe24.other (by decide)
theorem dupeno25 : DupeNoF B25 10 := dupeno24.other (by decide)
theorem dupedupe25 : DupeDupeF B25 10 := dupedupe24.other (by decide)
theorem s26 : Sound Try.prog (withF B25 5 80 (Go.Vabs.Rh.Dupes_c 15 16 11 12 6 10 8)) := s25.withF mix 80 (by kernel_rfl)
theorem calls (W : World) {os : List (Option AObj)} {ι : Map} (hm : Mem W os ι) {a0 : Int} (w0 : (Lit.int .i64 a0).wf = true) {a1 : Int} (w1 : (Lit.int .i64 a1).wf = true) {a2 : Int} (w2 : (Lit.int .i64 a2).wf = true) {u3 : V} {x3 : Value} {z3 : List Int} (r3 : R ι u3 x3) (h3 : ShowsRow (cInt .u8) os u3 z3) (k3 : ∀ x ∈ z3, (cInt .u8).ok x) (y3 : z3.length * 1 ≤ 140737488351232) {a4 : Int} (w4 : (Lit.int .i64 a4).wf = true) :
    Calls Try.prog 5 #[.int .i64 a0, .int .i64 a1, .int .i64 a2, x3, .int .i64 a4] W fun e W' => e = .returned (.bool true) ∧ Go.RowKit.Below W.heap.size W W' := by
  refine s26.law_mem hm (args := [.int .i64 a0, .int .i64 a1, .int .i64 a2, u3, .int .i64 a4]) (args' := [.int .i64 a0, .int .i64 a1, .int .i64 a2, x3, .int .i64 a4]) ⟨rfl, rfl, rfl, r3, rfl, trivial⟩ ?_
  rw [withF_same]
  exact Dupes_run (by omega) pick25 few25 dataz25 sbix25 one25 find25 dupe25 dupeno25 dupedupe25 (fun st => closed_call) (bytes_param h3 k3 (by omega))
end

set_option maxRecDepth 100000 in
theorem lifted (os : Os) (started : os.Started) (H : Type) (enc : TypeId × Value → H) :
    ReturnsInHanded {} Try.checked os 5 .any (Rows.sbixDupesSpec.pre6 enc Try.prog Try.f5 Rows.sbixDupesRow.domain false) (Rows.sbixDupesSpec.post enc Try.prog Try.f5 false true false false) := by
  refine returnsInHanded_of_change_sized (C := Try.checked) own started (by kernel_rfl) Try.func5
    (ChangeSpec.witness6 (enc := enc) (C := Try.checked) false ⟨#[], #[.int .i64 0, .int .i64 0, .int .i64 0, .slice none 0 0, .int .i64 0], []⟩ 8 (by kernel_rfl) (by kernel_rfl) (by kernel_rfl) (by kernel_rfl)) ?_
  intro W base args ds gs before hval0 hW hcnd hsz0 _
  have hsz : (DataW.weightsEach Try.prog (Try.f5.params.toList ++ Rows.sbixDupesSpec.plain.varTypes Try.prog) (ds ++ gs)).all (· ≤ reachBytes) = true := hsz0
  have hval : ∀ (j : Nat) t v, Try.f5.params[j]? = some t → args[j]? = some v → Value.okWide Try.prog W .any base t v := hval0
  have hW' := hW
  obtain ⟨p, q, hA0, hV, rfl, hfz, hnd⟩ := hW
  have hA : DataW.TrodAll enc Try.prog W 0 (fun _ => true) true Try.f5.params.toList args.toList ds p := hA0
  rw [Try.params5] at hA hval hsz
  obtain ⟨v0, vs0, d0, ds0, p0, q0, hargs, rfl, rfl, h0, r0⟩ := trodAll_cons hA
  obtain ⟨v1, vs1, d1, ds1, p1, q1, rfl, rfl, rfl, h1, r1⟩ := trodAll_cons r0
  obtain ⟨v2, vs2, d2, ds2, p2, q2, rfl, rfl, rfl, h2, r2⟩ := trodAll_cons r1
  obtain ⟨v3, vs3, d3, ds3, p3, q3, rfl, rfl, rfl, h3, r3⟩ := trodAll_cons r2
  obtain ⟨v4, vs4, d4, ds4, p4, q4, rfl, rfl, rfl, h4, r4⟩ := trodAll_cons r3
  obtain ⟨rfl, rfl, rfl⟩ := trodAll_nil r4
  obtain rfl : args = #[v0, v1, v2, v3, v4] := by cases args; simp_all
  obtain ⟨rfl, rfl⟩ := trodVars_none hV
  obtain ⟨a0, rfl, rfl, rfl, w0⟩ := open_int Try.underlying3 (hval 0 3 v0 rfl rfl) h0
  obtain ⟨a1, rfl, rfl, rfl, w1⟩ := open_int Try.underlying3 (hval 1 3 v1 rfl rfl) h1
  obtain ⟨a2, rfl, rfl, rfl, w2⟩ := open_int Try.underlying3 (hval 2 3 v2 rfl rfl) h2
  have k3 := h3
  have lt3 : ∀ x ∈ p3, x.block < W.heap.size := by obtain ⟨m, hm⟩ := k3; exact DataW.trod_lt m _ _ _ hm
  obtain ⟨os3, ι3, u3, z3, m3, sub3, more3, rr3, ss3, kk3, yy3⟩ := param_slice (j := 3) (t := 26) (opens_row (B := 1) Try.underlying26 (by kernel_rfl) (by kernel_rfl) (by decide) (opens_int Try.underlying5)) Try.underlying26 (hval 3 26 v3 rfl rfl) h3 hsz rfl rfl (Go.Vabs.Mem.nil W)
  obtain ⟨a4, rfl, rfl, rfl, w4⟩ := open_int Try.underlying3 (hval 4 3 v4 rfl rfl) h4
  clear hA0 hval0 hsz0 hsz
  refine (calls W m3 w0 w1 w2 rr3 ss3 kk3 yy3 w4).mono fun e W' ⟨he, bel⟩ => ?_
  subst he
  exact ⟨_, rfl, _, _, _, [], _, [], hW', trodAll_mk1 (shut_bool Try.underlying4 _), (trodAll_cons_mk (shut_int Try.underlying3 w0) (trodAll_cons_mk (shut_int Try.underlying3 w1) (trodAll_cons_mk (shut_int Try.underlying3 w2) (trodAll_cons_mk (Below.trod laidOut (by kernel_rfl) (of_decide_eq_true (by kernel_rfl)) k3 bel lt3) (trodAll_cons_mk (shut_int Try.underlying3 w4) trodAll_mk0))))), rfl, bel.frame _, fun h => by cases h⟩
theorem over : Rows.sbixDupesRow.holds Try.pinned (OpenSpec.ofChange Rows.sbixDupesSpec) :=
  OpenClaim.holds_of_wide 5 Try.f5 rfl rfl rfl rfl rfl rfl rfl ⟨rfl, rfl, rfl, rfl, rfl⟩ rfl rfl rfl rfl rfl (by kernel_rfl) Try.func5 (by kernel_rfl)
    (of_decide_eq_true (by kernel_rfl)) (by unfold Func.isWrapper; first | (rw [if_pos (by decide +kernel)]; kernel_rfl) | (rw [if_neg (by decide +kernel)]; exact ⟨rfl, rfl⟩))
    (fun os started H enc _ => lifted os started H enc)
theorem proved : Rows.SbixDupesSaid := over
#print axioms proved
end Go.Proofs.Ytpbafimkplhknaa.sbixDupes
namespace Go.Proofs.Ytpbafimkplhknaa
/-- The row, under a short name, for the claim. -/
theorem sbixDupes_holds : Rows.SbixDupesSaid := sbixDupes.proved
end Go.Proofs.Ytpbafimkplhknaa
