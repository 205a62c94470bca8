/- The sentence MetricRanges: its run in the abstract machine ends in true, whatever the arguments are; and the model's run is the abstract machine's. No condition. -/
import Derived.Test.YtghejdmnmfbacaaRows
import Derived.Test.YtghejdmnmfbacaaVabsNa
import Derived.WalkKit
import Derived.ProofKit
import Derived.OpenShut
import Derived.ShutString
import Derived.ChangeOld
import Derived.Below
import Derived.SizedLaws
import Derived.Carry
namespace Go.Proofs.Ytghejdmnmfbacaa.metricRanges
open Go.ChangeShapes Go.WideShapes Go.ChangeAt Go.RowKit
open Go.ChangeMaps (open_string shut_string)
open Go.Vabs (param_slice opens_row opens_int opens_bool opens_struct opensF_one opensF_cons)
set_option linter.unusedVariables false
theorem own : ownKnob Try.prog.godebug = none := by kernel_rfl
theorem laidOut : laidOutB Try.prog = true := by kernel_rfl
section
open Go.Vabs Go.Vabs.Ph Go.Vabs.Pk Go.Vabs.L2 Go.Vabs.Sa Go.Vabs.Sb Go.Vabs.Sc Go.Vabs.Se Go.Vabs.Sg Go.Vabs.Sh Go.Vabs.Sn Go.Vabs.Sp Go.Vabs.Sr Go.Vabs.St Go.Vabs.Su Go.Vabs.Na Go.Vabs.Nb Go.Vabs.Nc
theorem mix : Try.prog.follows .mixedOrders = true := by kernel_rfl
theorem knownRuns : Go.Vabs.isTrue (Go.Vabs.callF (Go.Vabs.table Try.prog 39) 100000 60 13 [] Go.Vabs.st0) = true := by kernel_rfl
noncomputable section
abbrev B0 : CallT := withF (withF (withF (withF (withF (withF (withF (fun _ _ _ => none) 37 1 there_c) 28 1 Clone_c) 15 1 Pick_c) 38 100 Index_c) 35 1 (Contains_c 38)) 14 1 Few_c) 26 65 RTable_c
abbrev B1 : CallT := withL B0 29 (lawOf (bytesRd Pk.numS))
abbrev B2 : CallT := withL B1 19 (lawOf (bytesRd (uS 2)))
abbrev B3 : CallT := withL B2 31 (lawOf (bytesRd (uS 4)))
abbrev B4 : CallT := withL B3 30 (lawOf (bytesRd sgnS))
abbrev B5 : CallT := withL B4 20 (lawOf (bytesRd (iS 2)))
abbrev B6 : CallT := withL B5 34 (lawOf (bytesRdA partS))
abbrev B7 : CallT := withF B6 33 1 (versioned_c 35)
abbrev B8 : CallT := withL B7 23 (lawOf (sightRdN openSpec))
abbrev B9 : CallT := withF B8 18 1 (Table_c 28)
abbrev B10 : CallT := withL B9 32 (lawOf (flatRd bigS))
abbrev B11 : CallT := withF B10 25 100 (RLay_c 32)
abbrev B12 : CallT := withL B11 27 (lawOf (bytesRd Pk.numS))
abbrev B13 : CallT := withL B12 36 (lawOf (bytesRdA rpartS))
abbrev B14 : CallT := withL B13 24 (lawOf (sightRdN ropenSpec))
abbrev B15 : CallT := withF B14 22 1 (big_c 32)
abbrev B16 : CallT := withF B15 9 80 (Base_c 22)
abbrev B17 : CallT := withF B16 11 1 (Font_c 25)
abbrev B18 : CallT := withF B17 12 1 (plain_c 9 11)
abbrev B19 : CallT := withF B18 10 1 (open_c 23 24)
abbrev B20 : CallT := withF B19 21 1 (entry_c 31 19)
abbrev B21 : CallT := withF B20 6 1 (Read_c 18 19 20)
abbrev B22 : CallT := withF B21 7 1 (Range_c 18 21)
abbrev B23 : CallT := withL B22 13 (lawOf (closedRd (.bool true)))
end
theorem s0 : Sound Try.prog B0 := ((((((Sound.nothing.withF mix 1 (by kernel_rfl)).withF mix 1 (by kernel_rfl)).withF mix 1 (by kernel_rfl)).withF mix 100 (by kernel_rfl)).withF mix 1 (by kernel_rfl)).withF mix 1 (by kernel_rfl)).withF mix 65 (by kernel_rfl)
theorem there0 : ThereF B0 37 := by
  repeat (first | refine ThereF.withF ?_ (by decide) | refine ThereF.other ?_ (by decide) | exact ThereF.code)
theorem clone0 : CloneF B0 28 := by
  repeat (first | refine CloneF.withF ?_ (by decide) | refine CloneF.other ?_ (by decide) | exact CloneF.code)
theorem cloneN0 : CloneN B0 28 := by
  repeat (first | refine CloneN.withF ?_ (by decide) | refine CloneN.other ?_ (by decide) | exact CloneN.code)
theorem few0 : FewF B0 14 := by
  repeat (first | refine FewF.withF ?_ (by decide) | refine FewF.other ?_ (by decide) | exact FewF.code)
theorem pick0 : PickF B0 15 := by
  repeat (first | refine PickF.withF ?_ (by decide) | refine PickF.other ?_ (by decide) | exact PickF.code)
theorem cont0 : ContF 100 B0 35 := by
  repeat (first | refine ContF.withF ?_ (by decide) | refine ContF.other ?_ (by decide) | exact ContF.code IndexF.code)
theorem rtable0 : RTableF B0 26 := by
  repeat (first | refine RTableF.withF ?_ (by decide) | refine RTableF.other ?_ (by decide) | exact RTableF.code (by omega))
theorem s1 : Sound Try.prog B1 := number_sound mix s0 (by kernel_rfl) there0
theorem s2 : Sound Try.prog B2 := u_sound mix s1 (n := 29) number_fact (.inr (.inl ⟨rfl, rfl⟩)) (by kernel_rfl)
theorem s3 : Sound Try.prog B3 := u_sound mix s2 (n := 29) (number_fact.other (by decide)) (.inr (.inr (.inr ⟨rfl, rfl⟩))) (by kernel_rfl)
theorem s4 : Sound Try.prog B4 := signed_sound mix s3 (n := 29) ((number_fact.other (by decide)).other (by decide)) (by kernel_rfl)
theorem s5 : Sound Try.prog B5 := i_sound mix s4 (n := 30) signed_fact (.inl ⟨rfl, rfl⟩) (by kernel_rfl)
theorem there5 : ThereF B5 37 := by
  repeat (first | refine ThereF.withF ?_ (by decide) | refine ThereF.other ?_ (by decide) | exact there0)
theorem clone5 : CloneF B5 28 := by
  repeat (first | refine CloneF.withF ?_ (by decide) | refine CloneF.other ?_ (by decide) | exact clone0)
theorem s6 : Sound Try.prog B6 := Part_sound mix s5 there5 clone5 (by kernel_rfl)
theorem s7 : Sound Try.prog B7 := s6.withF mix 1 (by kernel_rfl)
theorem cont6 : ContF 100 B6 35 := by
  repeat (first | refine ContF.withF ?_ (by decide) | refine ContF.other ?_ (by decide) | exact cont0)
theorem u16 : UF 2 B7 19 := by
  repeat (first | refine UF_withF ?_ (by decide) | refine UF.other ?_ (by decide) | exact uS_fact)
theorem u32 : UF 4 B7 31 := by
  repeat (first | refine UF_withF ?_ (by decide) | refine UF.other ?_ (by decide) | exact uS_fact)
theorem part7 : PartF B7 34 := PartF_withF Part_fact (by decide)
theorem s8 : Sound Try.prog B8 := Open_sound mix s7 (lf' := 100) (by omega) u16 u32 part7 (VersF_code (by omega) cont6) (ContF.withF cont6 (by decide)) (by kernel_rfl)
theorem s9 : Sound Try.prog B9 := s8.withF mix 1 (by kernel_rfl)
theorem clone8 : CloneF B8 28 := by
  repeat (first | refine CloneF.withF ?_ (by decide) | refine CloneF.other ?_ (by decide) | exact clone5)
theorem cloneN8 : CloneN B8 28 := by
  repeat (first | refine CloneN.withF ?_ (by decide) | refine CloneN.other ?_ (by decide) | exact cloneN0)
theorem s10 : Sound Try.prog B10 := Big_sound mix s9 (by kernel_rfl)
theorem s11 : Sound Try.prog B11 := s10.withF mix 100 (by kernel_rfl)
theorem s12 : Sound Try.prog B12 := Num_sound mix s11 (by kernel_rfl)
theorem s13 : Sound Try.prog B13 := RPart_sound mix s12 (by kernel_rfl)
theorem rtable13 : RTableF B13 26 := by
  repeat (first | refine RTableF.withF ?_ (by decide) | refine RTableF.other ?_ (by decide) | exact rtable0)
theorem s14 : Sound Try.prog B14 := ROpen_sound mix s13 (NumF.other number_fact (by decide)) rtable13 RPart_fact (by kernel_rfl)
theorem s15 : Sound Try.prog B15 := s14.withF mix 1 (by kernel_rfl)
theorem big14 : BigF B14 32 := by
  repeat (first | refine BigF.withF ?_ (by decide) | refine BigF.other ?_ (by decide) | exact big_fact)
theorem big15 : BigF B15 22 := BigF.wrap big14
theorem s16 : Sound Try.prog B16 := s15.withF mix 80 (by kernel_rfl)
theorem base16 : BaseF B16 9 := BaseF.code (by omega) big15
theorem s17 : Sound Try.prog B17 := s16.withF mix 1 (by kernel_rfl)
theorem rlay16 : RLayF B16 25 := by
  repeat (first | refine RLayF.withF ?_ (by decide) | refine RLayF.other ?_ (by decide) | exact RLayF.code (by omega) big_fact)
theorem font17 : FontF B17 11 := FontF.code rlay16
theorem s18 : Sound Try.prog B18 := s17.withF mix 1 (by kernel_rfl)
theorem plain18 : PlainF B18 12 := PlainF.code (base16.withF (by decide)) font17
theorem s19 : Sound Try.prog B19 := s18.withF mix 1 (by kernel_rfl)
theorem open18 : OpenF B18 23 := by
  repeat (first | refine OpenF_withF ?_ (by decide) | refine OpenF.other ?_ (by decide) | exact open_fact)
theorem ropen18 : ROpenF B18 24 := by
  repeat (first | refine ROpenF.withF ?_ (by decide) | refine ROpenF.other ?_ (by decide) | exact ropen_fact)
theorem both19 : BothF B19 10 := BothF.code open18 ropen18
theorem s20 : Sound Try.prog B20 := s19.withF mix 1 (by kernel_rfl)
theorem u16_19 : UF 2 B19 19 := by
  repeat (first | refine UF_withF ?_ (by decide) | refine UF.other ?_ (by decide) | exact u16)
theorem u32_19 : UF 4 B19 31 := by
  repeat (first | refine UF_withF ?_ (by decide) | refine UF.other ?_ (by decide) | exact u32)
theorem entry20 : EntryF B20 21 := EntryF.code u32_19 u16_19
theorem s21 : Sound Try.prog B21 := s20.withF mix 1 (by kernel_rfl)
theorem u16_20 : UF 2 B20 19 := by
  repeat (first | refine UF_withF ?_ (by decide) | refine UF.other ?_ (by decide) | exact u16_19)
theorem i16_20 : IF 2 B20 20 := by
  repeat (first | refine IF_withF ?_ (by decide) | refine IF.other ?_ (by decide) | exact iS_fact)
theorem table20 : TableF B20 18 := by
  repeat (first | refine TableF.withF ?_ (by decide) | refine TableF.other ?_ (by decide) | exact TableF.code clone8)
theorem tableN20 : TableNF B20 18 := by
  repeat (first | refine TableNF.withF ?_ (by decide) | refine TableNF.other ?_ (by decide) | exact TableNF.code cloneN8)
theorem read21 : ReadF B21 6 := ReadF.code table20 tableN20 u16_20 i16_20
theorem s22 : Sound Try.prog B22 := s21.withF mix 1 (by kernel_rfl)
theorem range22 : RangeF B22 7 := RangeF.code (table20.withF (by decide)) (tableN20.withF (by decide)) (entry20.withF (by decide))
theorem s23 : Sound Try.prog B23 := by
  obtain ⟨s, h⟩ := isTrue_some knownRuns
  exact s22.closed (Sound.table mix 39 100000 60) h rfl
theorem few23 : FewF B23 14 := by
  repeat (first | refine FewF.withF ?_ (by decide) | refine FewF.other ?_ (by decide) | exact few0)
theorem pick23 : PickF B23 15 := by
  repeat (first | refine PickF.withF ?_ (by decide) | refine PickF.other ?_ (by decide) | exact pick0)
theorem plain23 : PlainF B23 12 := by
  repeat (first | refine PlainF.withF ?_ (by decide) | refine PlainF.other ?_ (by decide) | exact plain18)
theorem both23 : BothF B23 10 := by
  repeat (first | refine BothF.withF ?_ (by decide) | refine BothF.other ?_ (by decide) | exact both19)
theorem read23 : ReadF B23 6 := by
  repeat (first | refine ReadF.withF ?_ (by decide) | refine ReadF.other ?_ (by decide) | exact read21)
theorem table23 : TableF B23 18 := by
  repeat (first | refine TableF.withF ?_ (by decide) | refine TableF.other ?_ (by decide) | exact table20)
theorem tableN23 : TableNF B23 18 := by
  repeat (first | refine TableNF.withF ?_ (by decide) | refine TableNF.other ?_ (by decide) | exact tableN20)
theorem range23 : RangeF B23 7 := range22.other (by decide)
theorem s24 : Sound Try.prog (withF B23 5 30 (MetricRanges_c 14 15 12 10 6 13 18 7)) := s23.withF mix 30 (by kernel_rfl)
theorem calls (W : World) {os : List (Option AObj)} {ι : Map} (hm : Mem W os ι) {a0 : Int} (w0 : (Lit.int .i64 a0).wf = true) (a1 : Bool) {u2 : V} {x2 : Value} {z2 : List (List Int)} (r2 : R ι u2 x2) (h2 : ShowsRow (cRow (cInt .u8) 1) os u2 z2) (k2 : ∀ x ∈ z2, (cRow (cInt .u8) 1).ok x) (y2 : z2.length * 24 ≤ 140737488351232) :
    Calls Try.prog 5 #[.int .i64 a0, .bool a1, x2] W fun e W' => e = .returned (.bool true) ∧ Go.RowKit.Below W.heap.size W W' := by
  refine s24.law_mem hm (args := [.int .i64 a0, .bool a1, u2]) (args' := [.int .i64 a0, .bool a1, x2]) ⟨rfl, rfl, r2, trivial⟩ ?_
  rw [withF_same]
  exact Ranges_run (by omega) few23 pick23 plain23 both23 read23 (fun st => closed_call) table23 tableN23 range23 (rows_param h2 k2) (by rw [List.length_map]; omega)
end

set_option maxRecDepth 100000 in
theorem lifted (os : Os) (started : os.Started) (H : Type) (enc : TypeId × Value → H) :
    ReturnsInHanded {} Try.checked os 5 .any (Rows.metricRangesSpec.pre6 enc Try.prog Try.f5 Rows.metricRangesRow.domain false) (Rows.metricRangesSpec.post enc Try.prog Try.f5 false true false false) := by
  refine returnsInHanded_of_change_sized (C := Try.checked) own started (by kernel_rfl) Try.func5
    (ChangeSpec.witness6 (enc := enc) (C := Try.checked) false ⟨#[], #[.int .i64 0, .bool false, .slice none 0 0], []⟩ 8 (by kernel_rfl) (by kernel_rfl) (by kernel_rfl) (by kernel_rfl)) ?_
  intro W base args ds gs before hval0 hW hcnd hsz0 _
  have hsz : (DataW.weightsEach Try.prog (Try.f5.params.toList ++ Rows.metricRangesSpec.plain.varTypes Try.prog) (ds ++ gs)).all (· ≤ reachBytes) = true := hsz0
  have hval : ∀ (j : Nat) t v, Try.f5.params[j]? = some t → args[j]? = some v → Value.okWide Try.prog W .any base t v := hval0
  have hW' := hW
  obtain ⟨p, q, hA0, hV, rfl, hfz, hnd⟩ := hW
  have hA : DataW.TrodAll enc Try.prog W 0 (fun _ => true) true Try.f5.params.toList args.toList ds p := hA0
  rw [Try.params5] at hA hval hsz
  obtain ⟨v0, vs0, d0, ds0, p0, q0, hargs, rfl, rfl, h0, r0⟩ := trodAll_cons hA
  obtain ⟨v1, vs1, d1, ds1, p1, q1, rfl, rfl, rfl, h1, r1⟩ := trodAll_cons r0
  obtain ⟨v2, vs2, d2, ds2, p2, q2, rfl, rfl, rfl, h2, r2⟩ := trodAll_cons r1
  obtain ⟨rfl, rfl, rfl⟩ := trodAll_nil r2
  obtain rfl : args = #[v0, v1, v2] := by cases args; simp_all
  obtain ⟨rfl, rfl⟩ := trodVars_none hV
  obtain ⟨a0, rfl, rfl, rfl, w0⟩ := open_int Try.underlying3 (hval 0 3 v0 rfl rfl) h0
  obtain ⟨a1, rfl, rfl, rfl⟩ := open_bool Try.underlying4 (hval 1 4 v1 rfl rfl) h1
  have k2 := h2
  have lt2 : ∀ x ∈ p2, x.block < W.heap.size := by obtain ⟨m, hm⟩ := k2; exact DataW.trod_lt m _ _ _ hm
  obtain ⟨os2, ι2, u2, z2, m2, sub2, more2, rr2, ss2, kk2, yy2⟩ := param_slice (j := 2) (t := 31) (opens_row (B := 24) Try.underlying31 (by kernel_rfl) (by kernel_rfl) (by decide) (opens_row (B := 1) Try.underlying29 (by kernel_rfl) (by kernel_rfl) (by decide) (opens_int Try.underlying5))) Try.underlying31 (hval 2 31 v2 rfl rfl) h2 hsz rfl rfl (Go.Vabs.Mem.nil W)
  clear hA0 hval0 hsz0 hsz
  refine (calls W m2 w0 a1 rr2 ss2 kk2 yy2).mono fun e W' ⟨he, bel⟩ => ?_
  subst he
  exact ⟨_, rfl, _, _, _, [], _, [], hW', trodAll_mk1 (shut_bool Try.underlying4 _), (trodAll_cons_mk (shut_int Try.underlying3 w0) (trodAll_cons_mk (shut_bool Try.underlying4 _) (trodAll_cons_mk (Below.trod laidOut (by kernel_rfl) (of_decide_eq_true (by kernel_rfl)) k2 bel lt2) trodAll_mk0))), rfl, bel.frame _, fun h => by cases h⟩
theorem over : Rows.metricRangesRow.holds Try.pinned (OpenSpec.ofChange Rows.metricRangesSpec) :=
  OpenClaim.holds_of_wide 5 Try.f5 rfl rfl rfl rfl rfl rfl rfl ⟨rfl, rfl, rfl, rfl, rfl⟩ rfl rfl rfl rfl rfl (by kernel_rfl) Try.func5 (by kernel_rfl)
    (of_decide_eq_true (by kernel_rfl)) (by unfold Func.isWrapper; first | (rw [if_pos (by decide +kernel)]; kernel_rfl) | (rw [if_neg (by decide +kernel)]; exact ⟨rfl, rfl⟩))
    (fun os started H enc _ => lifted os started H enc)
theorem proved : Rows.MetricRangesSaid := over
#print axioms proved
end Go.Proofs.Ytghejdmnmfbacaa.metricRanges
namespace Go.Proofs.Ytghejdmnmfbacaa
/-- The row, under a short name, for the claim. -/
theorem metricRanges_holds : Rows.MetricRangesSaid := metricRanges.proved
end Go.Proofs.Ytghejdmnmfbacaa
