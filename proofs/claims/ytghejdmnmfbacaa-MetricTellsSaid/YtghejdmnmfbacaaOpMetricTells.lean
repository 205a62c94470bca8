/- The sentence MetricTells: its run in the abstract machine ends in true, whatever the arguments are; and the model's run is the abstract machine's. No condition. -/
import Derived.Test.YtghejdmnmfbacaaRows
import Derived.Test.YtghejdmnmfbacaaVabsNa
import Derived.WalkKit
import Derived.ProofKit
import Derived.OpenShut
import Derived.ShutString
import Derived.ChangeOld
import Derived.Below
import Derived.SizedLaws
import Derived.Carry
namespace Go.Proofs.Ytghejdmnmfbacaa.metricTells
open Go.ChangeShapes Go.WideShapes Go.ChangeAt Go.RowKit
open Go.ChangeMaps (open_string shut_string)
open Go.Vabs (param_slice opens_row opens_int opens_bool opens_struct opensF_one opensF_cons)
set_option linter.unusedVariables false
theorem own : ownKnob Try.prog.godebug = none := by kernel_rfl
theorem laidOut : laidOutB Try.prog = true := by kernel_rfl
section
open Go.Vabs Go.Vabs.Ph Go.Vabs.Pk Go.Vabs.L2 Go.Vabs.Sa Go.Vabs.Sb Go.Vabs.Sc Go.Vabs.Se Go.Vabs.Sg Go.Vabs.Sh Go.Vabs.Sn Go.Vabs.Sp Go.Vabs.Sr Go.Vabs.St Go.Vabs.Su Go.Vabs.Na Go.Vabs.Nb Go.Vabs.Nc Go.Vabs.Nd Go.Vabs.Ne
theorem mix : Try.prog.follows .mixedOrders = true := by kernel_rfl
theorem knownRuns : Go.Vabs.isTrue (Go.Vabs.callF (Go.Vabs.table Try.prog 39) 100000 60 13 [] Go.Vabs.st0) = true := by kernel_rfl
noncomputable section
abbrev B0 : CallT := withF (withF (withF (withF (withF (withF (withF (fun _ _ _ => none) 37 1 there_c) 28 1 Clone_c) 15 1 Pick_c) 38 100 Index_c) 35 1 (Contains_c 38)) 14 1 Few_c) 26 65 RTable_c
abbrev B1 : CallT := withL B0 29 (lawOf (bytesRd Pk.numS))
abbrev B2 : CallT := withL B1 19 (lawOf (bytesRd (uS 2)))
abbrev B3 : CallT := withL B2 31 (lawOf (bytesRd (uS 4)))
abbrev B4 : CallT := withL B3 30 (lawOf (bytesRd sgnS))
abbrev B5 : CallT := withL B4 20 (lawOf (bytesRd (iS 2)))
abbrev B6 : CallT := withL B5 34 (lawOf (bytesRdA partS))
abbrev B7 : CallT := withF B6 33 1 (versioned_c 35)
abbrev B8 : CallT := withL B7 23 (lawOf (sightRdN openSpec))
abbrev B9 : CallT := withF B8 18 1 (Table_c 28)
abbrev B10 : CallT := withL B9 32 (lawOf (flatRd bigS))
abbrev B11 : CallT := withF B10 25 100 (RLay_c 32)
abbrev B12 : CallT := withL B11 27 (lawOf (bytesRd Pk.numS))
abbrev B13 : CallT := withL B12 36 (lawOf (bytesRdA rpartS))
abbrev B14 : CallT := withL B13 24 (lawOf (sightRdN ropenSpec))
abbrev B15 : CallT := withF B14 22 1 (big_c 32)
abbrev B16 : CallT := withF B15 9 80 (Base_c 22)
abbrev B17 : CallT := withF B16 11 1 (Font_c 25)
abbrev B18 : CallT := withF B17 12 1 (plain_c 9 11)
abbrev B19 : CallT := withF B18 10 1 (open_c 23 24)
abbrev B20 : CallT := withF B19 21 1 (entry_c 31 19)
abbrev B21 : CallT := withF B20 6 1 (Read_c 18 19 20)
abbrev B22 : CallT := withF B21 7 1 (Range_c 18 21)
abbrev B23 : CallT := withF B22 16 1 (RRead_c 26 27)
abbrev B24 : CallT := withF B23 17 1 (RRange_c 26 27)
abbrev B25 : CallT := withL B24 13 (lawOf (closedRd (.bool true)))
end
theorem s0 : Sound Try.prog B0 := ((((((Sound.nothing.withF mix 1 (by kernel_rfl)).withF mix 1 (by kernel_rfl)).withF mix 1 (by kernel_rfl)).withF mix 100 (by kernel_rfl)).withF mix 1 (by kernel_rfl)).withF mix 1 (by kernel_rfl)).withF mix 65 (by kernel_rfl)
theorem there0 : ThereF B0 37 := by
  repeat (first | refine ThereF.withF ?_ (by decide) | refine ThereF.other ?_ (by decide) | exact ThereF.code)
theorem clone0 : CloneF B0 28 := by
  repeat (first | refine CloneF.withF ?_ (by decide) | refine CloneF.other ?_ (by decide) | exact CloneF.code)
theorem cloneN0 : CloneN B0 28 := by
  repeat (first | refine CloneN.withF ?_ (by decide) | refine CloneN.other ?_ (by decide) | exact CloneN.code)
theorem few0 : FewF B0 14 := by
  repeat (first | refine FewF.withF ?_ (by decide) | refine FewF.other ?_ (by decide) | exact FewF.code)
theorem pick0 : PickF B0 15 := by
  repeat (first | refine PickF.withF ?_ (by decide) | refine PickF.other ?_ (by decide) | exact PickF.code)
theorem cont0 : ContF 100 B0 35 := by
  repeat (first | refine ContF.withF ?_ (by decide) | refine ContF.other ?_ (by decide) | exact ContF.code IndexF.code)
theorem rtable0 : RTableF B0 26 := by
  repeat (first | refine RTableF.withF ?_ (by decide) | refine RTableF.other ?_ (by decide) | exact RTableF.code (by omega))
theorem s1 : Sound Try.prog B1 := number_sound mix s0 (by kernel_rfl) there0
theorem s2 : Sound Try.prog B2 := u_sound mix s1 (n := 29) number_fact (.inr (.inl ⟨rfl, rfl⟩)) (by kernel_rfl)
theorem s3 : Sound Try.prog B3 := u_sound mix s2 (n := 29) (number_fact.other (by decide)) (.inr (.inr (.inr ⟨rfl, rfl⟩))) (by kernel_rfl)
theorem s4 : Sound Try.prog B4 := signed_sound mix s3 (n := 29) ((number_fact.other (by decide)).other (by decide)) (by kernel_rfl)
theorem s5 : Sound Try.prog B5 := i_sound mix s4 (n := 30) signed_fact (.inl ⟨rfl, rfl⟩) (by kernel_rfl)
theorem there5 : ThereF B5 37 := by
  repeat (first | refine ThereF.withF ?_ (by decide) | refine ThereF.other ?_ (by decide) | exact there0)
theorem clone5 : CloneF B5 28 := by
  repeat (first | refine CloneF.withF ?_ (by decide) | refine CloneF.other ?_ (by decide) | exact clone0)
theorem s6 : Sound Try.prog B6 := Part_sound mix s5 there5 clone5 (by kernel_rfl)
theorem s7 : Sound Try.prog B7 := s6.withF mix 1 (by kernel_rfl)
theorem cont6 : ContF 100 B6 35 := by
  repeat (first | refine ContF.withF ?_ (by decide) | refine ContF.other ?_ (by decide) | exact cont0)
theorem u16 : UF 2 B7 19 := by
  repeat (first | refine UF_withF ?_ (by decide) | refine UF.other ?_ (by decide) | exact uS_fact)
theorem u32 : UF 4 B7 31 := by
  repeat (first | refine UF_withF ?_ (by decide) | refine UF.other ?_ (by decide) | exact uS_fact)
theorem part7 : PartF B7 34 := PartF_withF Part_fact (by decide)
theorem s8 : Sound Try.prog B8 := Open_sound mix s7 (lf' := 100) (by omega) u16 u32 part7 (VersF_code (by omega) cont6) (ContF.withF cont6 (by decide)) (by kernel_rfl)
theorem s9 : Sound Try.prog B9 := s8.withF mix 1 (by kernel_rfl)
theorem clone8 : CloneF B8 28 := by
  repeat (first | refine CloneF.withF ?_ (by decide) | refine CloneF.other ?_ (by decide) | exact clone5)
theorem cloneN8 : CloneN B8 28 := by
  repeat (first | refine CloneN.withF ?_ (by decide) | refine CloneN.other ?_ (by decide) | exact cloneN0)
theorem s10 : Sound Try.prog B10 := Big_sound mix s9 (by kernel_rfl)
theorem s11 : Sound Try.prog B11 := s10.withF mix 100 (by kernel_rfl)
theorem s12 : Sound Try.prog B12 := Num_sound mix s11 (by kernel_rfl)
theorem s13 : Sound Try.prog B13 := RPart_sound mix s12 (by kernel_rfl)
theorem rtable13 : RTableF B13 26 := by
  repeat (first | refine RTableF.withF ?_ (by decide) | refine RTableF.other ?_ (by decide) | exact rtable0)
theorem s14 : Sound Try.prog B14 := ROpen_sound mix s13 (NumF.other number_fact (by decide)) rtable13 RPart_fact (by kernel_rfl)
theorem s15 : Sound Try.prog B15 := s14.withF mix 1 (by kernel_rfl)
theorem big14 : BigF B14 32 := by
  repeat (first | refine BigF.withF ?_ (by decide) | refine BigF.other ?_ (by decide) | exact big_fact)
theorem big15 : BigF B15 22 := BigF.wrap big14
theorem s16 : Sound Try.prog B16 := s15.withF mix 80 (by kernel_rfl)
theorem base16 : BaseF B16 9 := BaseF.code (by omega) big15
theorem s17 : Sound Try.prog B17 := s16.withF mix 1 (by kernel_rfl)
theorem rlay16 : RLayF B16 25 := by
  repeat (first | refine RLayF.withF ?_ (by decide) | refine RLayF.other ?_ (by decide) | exact RLayF.code (by omega) big_fact)
theorem font17 : FontF B17 11 := FontF.code rlay16
theorem s18 : Sound Try.prog B18 := s17.withF mix 1 (by kernel_rfl)
theorem plain18 : PlainF B18 12 := PlainF.code (base16.withF (by decide)) font17
theorem s19 : Sound Try.prog B19 := s18.withF mix 1 (by kernel_rfl)
theorem open18 : OpenF B18 23 := by
  repeat (first | refine OpenF_withF ?_ (by decide) | refine OpenF.other ?_ (by decide) | exact open_fact)
theorem ropen18 : ROpenF B18 24 := by
  repeat (first | refine ROpenF.withF ?_ (by decide) | refine ROpenF.other ?_ (by decide) | exact ropen_fact)
theorem both19 : BothF B19 10 := BothF.code open18 ropen18
theorem s20 : Sound Try.prog B20 := s19.withF mix 1 (by kernel_rfl)
theorem u16_19 : UF 2 B19 19 := by
  repeat (first | refine UF_withF ?_ (by decide) | refine UF.other ?_ (by decide) | exact u16)
theorem u32_19 : UF 4 B19 31 := by
  repeat (first | refine UF_withF ?_ (by decide) | refine UF.other ?_ (by decide) | exact u32)
theorem entry20 : EntryF B20 21 := EntryF.code u32_19 u16_19
theorem s21 : Sound Try.prog B21 := s20.withF mix 1 (by kernel_rfl)
theorem u16_20 : UF 2 B20 19 := by
  repeat (first | refine UF_withF ?_ (by decide) | refine UF.other ?_ (by decide) | exact u16_19)
theorem i16_20 : IF 2 B20 20 := by
  repeat (first | refine IF_withF ?_ (by decide) | refine IF.other ?_ (by decide) | exact iS_fact)
theorem table20 : TableF B20 18 := by
  repeat (first | refine TableF.withF ?_ (by decide) | refine TableF.other ?_ (by decide) | exact TableF.code clone8)
theorem tableN20 : TableNF B20 18 := by
  repeat (first | refine TableNF.withF ?_ (by decide) | refine TableNF.other ?_ (by decide) | exact TableNF.code cloneN8)
theorem read21 : ReadF B21 6 := ReadF.code table20 tableN20 u16_20 i16_20
theorem s22 : Sound Try.prog B22 := s21.withF mix 1 (by kernel_rfl)
theorem range22 : RangeF B22 7 := RangeF.code (table20.withF (by decide)) (tableN20.withF (by decide)) (entry20.withF (by decide))
theorem s23 : Sound Try.prog B23 := s22.withF mix 1 (by kernel_rfl)
theorem s24 : Sound Try.prog B24 := s23.withF mix 1 (by kernel_rfl)
theorem s25 : Sound Try.prog B25 := by
  obtain ⟨s, h⟩ := isTrue_some knownRuns
  exact s24.closed (Sound.table mix 39 100000 60) h rfl
theorem rtable22 : RTableF B22 26 := by
  repeat (first | refine RTableF.withF ?_ (by decide) | refine RTableF.other ?_ (by decide) | exact rtable13)
theorem num22 : NumF B22 27 := by
  repeat (first | refine NumF.withF ?_ (by decide) | refine NumF.other ?_ (by decide) | exact number_fact)
theorem rread23 : RReadF B23 16 := RReadF.code rtable22 num22
theorem rtable23 : RTableF B23 26 := by
  repeat (first | refine RTableF.withF ?_ (by decide) | refine RTableF.other ?_ (by decide) | exact rtable22)
theorem num23 : NumF B23 27 := by
  repeat (first | refine NumF.withF ?_ (by decide) | refine NumF.other ?_ (by decide) | exact num22)
theorem rrange24 : RRangeF B24 17 := RRangeF.code rtable23 num23
theorem few25 : FewF B25 14 := by
  repeat (first | refine FewF.withF ?_ (by decide) | refine FewF.other ?_ (by decide) | exact few0)
theorem pick25 : PickF B25 15 := by
  repeat (first | refine PickF.withF ?_ (by decide) | refine PickF.other ?_ (by decide) | exact pick0)
theorem base25 : BaseF B25 9 := by
  repeat (first | refine BaseF.withF ?_ (by decide) | refine BaseF.other ?_ (by decide) | exact base16)
theorem font25 : FontF B25 11 := by
  repeat (first | refine FontF.withF ?_ (by decide) | refine FontF.other ?_ (by decide) | exact font17)
theorem both25 : BothF B25 10 := by
  repeat (first | refine BothF.withF ?_ (by decide) | refine BothF.other ?_ (by decide) | exact both19)
theorem read25 : ReadF B25 6 := by
  repeat (first | refine ReadF.withF ?_ (by decide) | refine ReadF.other ?_ (by decide) | exact read21)
theorem range25 : RangeF B25 7 := by
  repeat (first | refine RangeF.withF ?_ (by decide) | refine RangeF.other ?_ (by decide) | exact range22)
theorem rread25 : RReadF B25 16 := by
  repeat (first | refine RReadF.withF ?_ (by decide) | refine RReadF.other ?_ (by decide) | exact rread23)
theorem rrange25 : RRangeF B25 17 := rrange24.other (by decide)
theorem s26 : Sound Try.prog (withF B25 4 30 (MetricTells_c 14 15 9 11 10 13 6 16 7 17)) := s25.withF mix 30 (by kernel_rfl)
theorem calls (W : World) {os : List (Option AObj)} {ι : Map} (hm : Mem W os ι) {a0 : Int} (w0 : (Lit.int .i64 a0).wf = true) (a1 : Bool) {u2 : V} {x2 : Value} {z2 : List (List Int)} (r2 : R ι u2 x2) (h2 : ShowsRow (cRow (cInt .u8) 1) os u2 z2) (k2 : ∀ x ∈ z2, (cRow (cInt .u8) 1).ok x) (y2 : z2.length * 24 ≤ 140737488351232)
    {a3 : Int} (w3 : (Lit.int .i64 a3).wf = true) {u4 : V} {x4 : Value} {z4 : List Int} (r4 : R ι u4 x4) (h4 : ShowsRow (cInt .u8) os u4 z4) (k4 : ∀ x ∈ z4, (cInt .u8).ok x) (y4 : z4.length * 1 ≤ 140737488351232)
    {u5 : V} {x5 : Value} {z5 : List Int} (r5 : R ι u5 x5) (h5 : ShowsRow (cInt .u8) os u5 z5) (k5 : ∀ x ∈ z5, (cInt .u8).ok x) (y5 : z5.length * 1 ≤ 140737488351232)
    {u6 : V} {x6 : Value} {z6 : List Int} (r6 : R ι u6 x6) (h6 : ShowsRow (cInt .u8) os u6 z6) (k6 : ∀ x ∈ z6, (cInt .u8).ok x) (y6 : z6.length * 1 ≤ 140737488351232)
    {u7 : V} {x7 : Value} {z7 : List Int} (r7 : R ι u7 x7) (h7 : ShowsRow (cInt .i64) os u7 z7) (k7 : ∀ x ∈ z7, (cInt .i64).ok x) (y7 : z7.length * 8 ≤ 140737488351232)
    {a8 : Int} (w8 : (Lit.int .u8 a8).wf = true) {a9 : Int} (w9 : (Lit.int .i64 a9).wf = true) (a10 : Bool) :
    Calls Try.prog 4 #[.int .i64 a0, .bool a1, x2, .int .i64 a3, x4, x5, x6, x7, .int .u8 a8, .int .i64 a9, .bool a10] W fun e W' => e = .returned (.bool true) ∧ Go.RowKit.Below W.heap.size W W' := by
  refine s26.law_mem hm (args := [.int .i64 a0, .bool a1, u2, .int .i64 a3, u4, u5, u6, u7, .int .u8 a8, .int .i64 a9, .bool a10]) (args' := [.int .i64 a0, .bool a1, x2, .int .i64 a3, x4, x5, x6, x7, .int .u8 a8, .int .i64 a9, .bool a10]) ⟨rfl, rfl, r2, rfl, r4, r5, r6, r7, rfl, rfl, rfl, trivial⟩ ?_
  rw [withF_same]
  have h8 := u8_of_wf w8
  obtain ⟨b8, rfl⟩ := Int.eq_ofNat_of_zero_le h8.1
  exact MetTells_run (by omega) few25 pick25 base25 font25 both25 read25 rread25 (fun st => closed_call) range25 rrange25 (rows_param h2 k2) (by rw [List.length_map]; omega) (bytes_param h4 k4 (by omega)) (bytes_param h5 k5 (by omega)) (bytes_param h6 k6 (by omega)) (by rw [List.length_map]; omega) (by rw [List.length_map]; omega) (by rw [List.length_map]; omega) (ints_param h7 k7) (by omega) (by omega)
end

set_option maxRecDepth 100000 in
theorem lifted (os : Os) (started : os.Started) (H : Type) (enc : TypeId × Value → H) :
    ReturnsInHanded {} Try.checked os 4 .any (Rows.metricTellsSpec.pre6 enc Try.prog Try.f4 Rows.metricTellsRow.domain false) (Rows.metricTellsSpec.post enc Try.prog Try.f4 false true false false) := by
  refine returnsInHanded_of_change_sized (C := Try.checked) own started (by kernel_rfl) Try.func4
    (ChangeSpec.witness6 (enc := enc) (C := Try.checked) false ⟨#[], #[.int .i64 0, .bool false, .slice none 0 0, .int .i64 0, .slice none 0 0, .slice none 0 0, .slice none 0 0, .slice none 0 0, .int .u8 0, .int .i64 0, .bool false], []⟩ 8 (by kernel_rfl) (by kernel_rfl) (by kernel_rfl) (by kernel_rfl)) ?_
  intro W base args ds gs before hval0 hW hcnd hsz0 _
  have hsz : (DataW.weightsEach Try.prog (Try.f4.params.toList ++ Rows.metricTellsSpec.plain.varTypes Try.prog) (ds ++ gs)).all (· ≤ reachBytes) = true := hsz0
  have hval : ∀ (j : Nat) t v, Try.f4.params[j]? = some t → args[j]? = some v → Value.okWide Try.prog W .any base t v := hval0
  have hW' := hW
  obtain ⟨p, q, hA0, hV, rfl, hfz, hnd⟩ := hW
  have hA : DataW.TrodAll enc Try.prog W 0 (fun _ => true) true Try.f4.params.toList args.toList ds p := hA0
  rw [Try.params4] at hA hval hsz
  obtain ⟨v0, vs0, d0, ds0, p0, q0, hargs, rfl, rfl, h0, r0⟩ := trodAll_cons hA
  obtain ⟨v1, vs1, d1, ds1, p1, q1, rfl, rfl, rfl, h1, r1⟩ := trodAll_cons r0
  obtain ⟨v2, vs2, d2, ds2, p2, q2, rfl, rfl, rfl, h2, r2⟩ := trodAll_cons r1
  obtain ⟨v3, vs3, d3, ds3, p3, q3, rfl, rfl, rfl, h3, r3⟩ := trodAll_cons r2
  obtain ⟨v4, vs4, d4, ds4, p4, q4, rfl, rfl, rfl, h4, r4⟩ := trodAll_cons r3
  obtain ⟨v5, vs5, d5, ds5, p5, q5, rfl, rfl, rfl, h5, r5⟩ := trodAll_cons r4
  obtain ⟨v6, vs6, d6, ds6, p6, q6, rfl, rfl, rfl, h6, r6⟩ := trodAll_cons r5
  obtain ⟨v7, vs7, d7, ds7, p7, q7, rfl, rfl, rfl, h7, r7⟩ := trodAll_cons r6
  obtain ⟨v8, vs8, d8, ds8, p8, q8, rfl, rfl, rfl, h8, r8⟩ := trodAll_cons r7
  obtain ⟨v9, vs9, d9, ds9, p9, q9, rfl, rfl, rfl, h9, r9⟩ := trodAll_cons r8
  obtain ⟨v10, vs10, d10, ds10, p10, q10, rfl, rfl, rfl, h10, r10⟩ := trodAll_cons r9
  obtain ⟨rfl, rfl, rfl⟩ := trodAll_nil r10
  obtain rfl : args = #[v0, v1, v2, v3, v4, v5, v6, v7, v8, v9, v10] := by cases args; simp_all
  obtain ⟨rfl, rfl⟩ := trodVars_none hV
  obtain ⟨a0, rfl, rfl, rfl, w0⟩ := open_int Try.underlying3 (hval 0 3 v0 rfl rfl) h0
  obtain ⟨a1, rfl, rfl, rfl⟩ := open_bool Try.underlying4 (hval 1 4 v1 rfl rfl) h1
  have k2 := h2
  have lt2 : ∀ x ∈ p2, x.block < W.heap.size := by obtain ⟨m, hm⟩ := k2; exact DataW.trod_lt m _ _ _ hm
  obtain ⟨os2, ι2, u2, z2, m2, sub2, more2, rr2, ss2, kk2, yy2⟩ := param_slice (j := 2) (t := 31) (opens_row (B := 24) Try.underlying31 (by kernel_rfl) (by kernel_rfl) (by decide) (opens_row (B := 1) Try.underlying29 (by kernel_rfl) (by kernel_rfl) (by decide) (opens_int Try.underlying5))) Try.underlying31 (hval 2 31 v2 rfl rfl) h2 hsz rfl rfl (Go.Vabs.Mem.nil W)
  obtain ⟨a3, rfl, rfl, rfl, w3⟩ := open_int Try.underlying3 (hval 3 3 v3 rfl rfl) h3
  have k4 := h4
  have lt4 : ∀ x ∈ p4, x.block < W.heap.size := by obtain ⟨m, hm⟩ := k4; exact DataW.trod_lt m _ _ _ hm
  obtain ⟨os4, ι4, u4, z4, m4, sub4, more4, rr4, ss4, kk4, yy4⟩ := param_slice (j := 4) (t := 29) (opens_row (B := 1) Try.underlying29 (by kernel_rfl) (by kernel_rfl) (by decide) (opens_int Try.underlying5)) Try.underlying29 (hval 4 29 v4 rfl rfl) h4 hsz rfl rfl m2
  have k5 := h5
  have lt5 : ∀ x ∈ p5, x.block < W.heap.size := by obtain ⟨m, hm⟩ := k5; exact DataW.trod_lt m _ _ _ hm
  obtain ⟨os5, ι5, u5, z5, m5, sub5, more5, rr5, ss5, kk5, yy5⟩ := param_slice (j := 5) (t := 29) (opens_row (B := 1) Try.underlying29 (by kernel_rfl) (by kernel_rfl) (by decide) (opens_int Try.underlying5)) Try.underlying29 (hval 5 29 v5 rfl rfl) h5 hsz rfl rfl m4
  have k6 := h6
  have lt6 : ∀ x ∈ p6, x.block < W.heap.size := by obtain ⟨m, hm⟩ := k6; exact DataW.trod_lt m _ _ _ hm
  obtain ⟨os6, ι6, u6, z6, m6, sub6, more6, rr6, ss6, kk6, yy6⟩ := param_slice (j := 6) (t := 29) (opens_row (B := 1) Try.underlying29 (by kernel_rfl) (by kernel_rfl) (by decide) (opens_int Try.underlying5)) Try.underlying29 (hval 6 29 v6 rfl rfl) h6 hsz rfl rfl m5
  have k7 := h7
  have lt7 : ∀ x ∈ p7, x.block < W.heap.size := by obtain ⟨m, hm⟩ := k7; exact DataW.trod_lt m _ _ _ hm
  obtain ⟨os7, ι7, u7, z7, m7, sub7, more7, rr7, ss7, kk7, yy7⟩ := param_slice (j := 7) (t := 42) (opens_row (B := 8) Try.underlying42 (by kernel_rfl) (by kernel_rfl) (by decide) (opens_int Try.underlying3)) Try.underlying42 (hval 7 42 v7 rfl rfl) h7 hsz rfl rfl m6
  obtain ⟨a8, rfl, rfl, rfl, w8⟩ := open_int Try.underlying5 (hval 8 5 v8 rfl rfl) h8
  obtain ⟨a9, rfl, rfl, rfl, w9⟩ := open_int Try.underlying3 (hval 9 3 v9 rfl rfl) h9
  obtain ⟨a10, rfl, rfl, rfl⟩ := open_bool Try.underlying4 (hval 10 4 v10 rfl rfl) h10
  have rr2 := rr2.mono ((((sub4.trans sub5).trans sub6).trans sub7))
  have ss2 := ss2.mono ((((more4.trans more5).trans more6).trans more7))
  have rr4 := rr4.mono (((sub5.trans sub6).trans sub7))
  have ss4 := ss4.mono (((more5.trans more6).trans more7))
  have rr5 := rr5.mono ((sub6.trans sub7))
  have ss5 := ss5.mono ((more6.trans more7))
  have rr6 := rr6.mono (sub7)
  have ss6 := ss6.mono (more7)
  clear hA0 hval0 hsz0 hsz
  refine (calls W m7 w0 a1 rr2 ss2 kk2 yy2 w3 rr4 ss4 kk4 yy4 rr5 ss5 kk5 yy5 rr6 ss6 kk6 yy6 rr7 ss7 kk7 yy7 w8 w9 a10).mono fun e W' ⟨he, bel⟩ => ?_
  subst he
  exact ⟨_, rfl, _, _, _, [], _, [], hW', trodAll_mk1 (shut_bool Try.underlying4 _), (trodAll_cons_mk (shut_int Try.underlying3 w0) (trodAll_cons_mk (shut_bool Try.underlying4 _) (trodAll_cons_mk (Below.trod laidOut (by kernel_rfl) (of_decide_eq_true (by kernel_rfl)) k2 bel lt2) (trodAll_cons_mk (shut_int Try.underlying3 w3) (trodAll_cons_mk (Below.trod laidOut (by kernel_rfl) (of_decide_eq_true (by kernel_rfl)) k4 bel lt4) (trodAll_cons_mk (Below.trod laidOut (by kernel_rfl) (of_decide_eq_true (by kernel_rfl)) k5 bel lt5) (trodAll_cons_mk (Below.trod laidOut (by kernel_rfl) (of_decide_eq_true (by kernel_rfl)) k6 bel lt6) (trodAll_cons_mk (Below.trod laidOut (by kernel_rfl) (of_decide_eq_true (by kernel_rfl)) k7 bel lt7) (trodAll_cons_mk (shut_int Try.underlying5 w8) (trodAll_cons_mk (shut_int Try.underlying3 w9) (trodAll_cons_mk (shut_bool Try.underlying4 _) trodAll_mk0))))))))))), rfl, bel.frame _, fun h => by cases h⟩
theorem over : Rows.metricTellsRow.holds Try.pinned (OpenSpec.ofChange Rows.metricTellsSpec) :=
  OpenClaim.holds_of_wide 4 Try.f4 rfl rfl rfl rfl rfl rfl rfl ⟨rfl, rfl, rfl, rfl, rfl⟩ rfl rfl rfl rfl rfl (by kernel_rfl) Try.func4 (by kernel_rfl)
    (of_decide_eq_true (by kernel_rfl)) (by unfold Func.isWrapper; first | (rw [if_pos (by decide +kernel)]; kernel_rfl) | (rw [if_neg (by decide +kernel)]; exact ⟨rfl, rfl⟩))
    (fun os started H enc _ => lifted os started H enc)
theorem proved : Rows.MetricTellsSaid := over
#print axioms proved
end Go.Proofs.Ytghejdmnmfbacaa.metricTells
namespace Go.Proofs.Ytghejdmnmfbacaa
/-- The row, under a short name, for the claim. -/
theorem metricTells_holds : Rows.MetricTellsSaid := metricTells.proved
end Go.Proofs.Ytghejdmnmfbacaa
