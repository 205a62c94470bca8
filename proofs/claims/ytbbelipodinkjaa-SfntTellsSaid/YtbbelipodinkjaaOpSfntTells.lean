/- The sentence SfntTells: its run in the abstract machine ends in true, whatever the arguments are; and the model's run is the abstract machine's. No condition. -/
import Derived.Test.YtbbelipodinkjaaRows
import Derived.Test.YtbbelipodinkjaaVabsSr
import Derived.WalkKit
import Derived.ProofKit
import Derived.OpenShut
import Derived.ShutString
import Derived.ChangeOld
import Derived.Below
import Derived.SizedLaws
import Derived.Carry
namespace Go.Proofs.Ytbbelipodinkjaa.sfntTells
open Go.ChangeShapes Go.WideShapes Go.ChangeAt Go.RowKit
open Go.ChangeMaps (open_string shut_string)
open Go.Vabs (param_slice opens_row opens_int opens_bool opens_struct opensF_one opensF_cons)
set_option linter.unusedVariables false
theorem own : ownKnob Try.prog.godebug = none := by kernel_rfl
theorem laidOut : laidOutB Try.prog = true := by kernel_rfl
section
open Go.Vabs Go.Vabs.Ph Go.Vabs.Pk Go.Vabs.L2 Go.Vabs.Sa Go.Vabs.Sb Go.Vabs.Sc Go.Vabs.Se Go.Vabs.Sg Go.Vabs.Sh Go.Vabs.Sn Go.Vabs.Sp Go.Vabs.Sr Go.Vabs.St Go.Vabs.Su
theorem mix : Try.prog.follows .mixedOrders = true := by kernel_rfl
theorem knownRuns : Go.Vabs.isTrue (Go.Vabs.callF (Go.Vabs.table Try.prog 35) 100000 60 8 [] Go.Vabs.st0) = true := by kernel_rfl
noncomputable section
abbrev B0 : CallT := withF (withF (withF (withF (withF (withF (withF (withF (withF (fun _ _ _ => none) 34 1 there_c) 30 1 Clone_c) 14 1 Pick_c) 31 100 Index_c) 20 1 (Contains_c 31)) 29 1 CloneS_c) 32 1 Grow_c) 13 1 Few_c) 18 65 RTable_c
abbrev B1 : CallT := withL B0 33 (lawOf (bytesRd numS))
abbrev B2 : CallT := withL B1 23 (lawOf (bytesRd (uS 2)))
abbrev B3 : CallT := withL B2 25 (lawOf (bytesRd (uS 4)))
abbrev B4 : CallT := withL B3 26 (lawOf (bytesRdA partS))
abbrev B5 : CallT := withF B4 24 1 (versioned_c 20)
abbrev B6 : CallT := withL B5 10 (lawOf (sightRdN openSpec))
abbrev B7 : CallT := withL B6 21 (lawOf (sightRdN concatSpec))
abbrev B8 : CallT := withL B7 22 (lawOf (flatRd u32S))
abbrev B9 : CallT := withF B8 7 100 (Lay_c 20 22 21)
abbrev B10 : CallT := withL B9 16 (lawOf (sightRdN tagsSpec))
abbrev B11 : CallT := withF B10 17 1 (Table_c 30)
abbrev B12 : CallT := withL B11 19 (lawOf (flatRd bigS))
abbrev B13 : CallT := withF B12 12 100 (RLay_c 19)
abbrev B14 : CallT := withF B13 11 30 (tables_c 14 13)
abbrev B15 : CallT := withL B14 27 (lawOf (bytesRd numS))
abbrev B16 : CallT := withL B15 28 (lawOf (bytesRdA rpartS))
abbrev B17 : CallT := withL B16 15 (lawOf (sightRdN ropenSpec))
abbrev B18 : CallT := withL B17 8 (lawOf (closedRd (.bool true)))
end
theorem s0 : Sound Try.prog B0 := ((((((((Sound.nothing.withF mix 1 (by kernel_rfl)).withF mix 1 (by kernel_rfl)).withF mix 1 (by kernel_rfl)).withF mix 100 (by kernel_rfl)).withF mix 1 (by kernel_rfl)).withF mix 1 (by kernel_rfl)).withF mix 1 (by kernel_rfl)).withF mix 1 (by kernel_rfl)).withF mix 65 (by kernel_rfl)
theorem there0 : ThereF B0 34 := by
  repeat (first | refine ThereF.withF ?_ (by decide) | exact ThereF.code)
theorem clone0 : CloneF B0 30 := by
  repeat (first | refine CloneF.withF ?_ (by decide) | exact CloneF.code)
theorem cloneN0 : CloneN B0 30 := by
  repeat (first | refine CloneN.withF ?_ (by decide) | exact CloneN.code)
theorem cloneS0 : CloneSF B0 29 := by
  repeat (first | refine CloneSF.withF ?_ (by decide) | exact CloneSF.code)
theorem grow0 : GrowF B0 32 := by
  repeat (first | refine GrowF.withF ?_ (by decide) | exact GrowF.code)
theorem few0 : FewF B0 13 := by
  repeat (first | refine FewF.withF ?_ (by decide) | exact FewF.code)
theorem cont0 : ContF 100 B0 20 := by
  repeat (first | refine ContF.withF ?_ (by decide) | exact ContF.code IndexF.code)
theorem s1 : Sound Try.prog B1 := number_sound mix s0 (by kernel_rfl) there0
theorem s2 : Sound Try.prog B2 := u_sound mix s1 (n := 33) number_fact (.inr (.inl ⟨rfl, rfl⟩)) (by kernel_rfl)
theorem s3 : Sound Try.prog B3 := u_sound mix s2 (n := 33) (number_fact.other (by decide)) (.inr (.inr (.inr ⟨rfl, rfl⟩))) (by kernel_rfl)
theorem there3 : ThereF B3 34 := by
  repeat (first | refine ThereF.other ?_ (by decide) | exact there0)
theorem clone3 : CloneF B3 30 := by
  repeat (first | refine CloneF.other ?_ (by decide) | exact clone0)
theorem s4 : Sound Try.prog B4 := Part_sound mix s3 there3 clone3 (by kernel_rfl)
theorem s5 : Sound Try.prog B5 := s4.withF mix 1 (by kernel_rfl)
theorem cont4 : ContF 100 B4 20 := by
  repeat (first | refine ContF.other ?_ (by decide) | exact cont0)
theorem u16 : UF 2 B5 23 := UF_withF (UF.other (UF.other uS_fact (by decide)) (by decide)) (by decide)
theorem u32 : UF 4 B5 25 := UF_withF (UF.other uS_fact (by decide)) (by decide)
theorem part5 : PartF B5 26 := PartF_withF Part_fact (by decide)
theorem s6 : Sound Try.prog B6 := Open_sound mix s5 (lf' := 100) (by omega) u16 u32 part5 (VersF_code (by omega) cont4) (ContF.withF cont4 (by decide)) (by kernel_rfl)
theorem grow6 : GrowF B6 32 := by
  repeat (first | refine GrowF.other ?_ (by decide) | refine GrowF.withF ?_ (by decide) | exact grow0)
theorem s7 : Sound Try.prog B7 := Concat_sound mix s6 grow6 (by kernel_rfl)
theorem s8 : Sound Try.prog B8 := u32_sound mix s7 (by kernel_rfl)
theorem s9 : Sound Try.prog B9 := s8.withF mix 100 (by kernel_rfl)
theorem cont8 : ContF 100 B8 20 := by
  repeat (first | refine ContF.other ?_ (by decide) | refine ContF.withF ?_ (by decide) | exact cont4)
theorem lay9 : LayF B9 7 := LayF.code (lf' := 100) (by omega) (by omega) cont8 u32_fact (concat_fact.other (by decide))
theorem cloneS9 : CloneSF B9 29 := by
  repeat (first | refine CloneSF.other ?_ (by decide) | refine CloneSF.withF ?_ (by decide) | exact cloneS0)
theorem s10 : Sound Try.prog B10 := Tags_sound mix s9 cloneS9 (by kernel_rfl)
theorem clone10 : CloneF B10 30 := by
  repeat (first | refine CloneF.other ?_ (by decide) | refine CloneF.withF ?_ (by decide) | exact clone3)
theorem cloneN10 : CloneN B10 30 := by
  repeat (first | refine CloneN.other ?_ (by decide) | refine CloneN.withF ?_ (by decide) | exact cloneN0)
theorem s11 : Sound Try.prog B11 := s10.withF mix 1 (by kernel_rfl)
theorem s12 : Sound Try.prog B12 := Big_sound mix s11 (by kernel_rfl)
theorem s13 : Sound Try.prog B13 := s12.withF mix 100 (by kernel_rfl)
theorem s14 : Sound Try.prog B14 := s13.withF mix 30 (by kernel_rfl)
theorem s15 : Sound Try.prog B15 := Num_sound mix s14 (by kernel_rfl)
theorem s16 : Sound Try.prog B16 := RPart_sound mix s15 (by kernel_rfl)
theorem rtable0 : RTableF B0 18 := RTableF.code (by omega)
theorem rtable16 : RTableF B16 18 := by
  repeat (first | refine RTableF.other ?_ (by decide) | refine RTableF.withF ?_ (by decide) | exact rtable0)
theorem num16 : NumF B16 27 := NumF.other number_fact (by decide)
theorem s17 : Sound Try.prog B17 := ROpen_sound mix s16 num16 rtable16 RPart_fact (by kernel_rfl)
theorem s18 : Sound Try.prog B18 := by
  obtain ⟨s, h⟩ := isTrue_some knownRuns
  exact s17.closed (Sound.table mix 35 100000 60) h rfl
theorem pick13 : PickF B13 14 := by
  repeat (first | refine PickF.other ?_ (by decide) | refine PickF.withF ?_ (by decide) | exact PickF.code)
theorem few13 : FewF B13 13 := by
  repeat (first | refine FewF.other ?_ (by decide) | refine FewF.withF ?_ (by decide) | exact few0)
theorem pick18 : PickF B18 14 := by
  repeat (first | refine PickF.other ?_ (by decide) | refine PickF.withF ?_ (by decide) | exact pick13)
theorem few18 : FewF B18 13 := by
  repeat (first | refine FewF.other ?_ (by decide) | refine FewF.withF ?_ (by decide) | exact few13)
theorem lay18 : LayF B18 7 := by
  repeat (first | refine LayF.other ?_ (by decide) | refine LayF.withF ?_ (by decide) | exact lay9)
theorem rlay18 : RLayF B18 12 := by
  repeat (first | refine RLayF.other ?_ (by decide) | refine RLayF.withF ?_ (by decide) | exact RLayF.code (by omega) big_fact)
theorem tables18 : TablesF B18 11 := by
  repeat (first | refine TablesF.other ?_ (by decide) | refine TablesF.withF ?_ (by decide) | exact TablesF.code (by omega) pick13 few13)
theorem open18 : OpenF B18 10 := by
  repeat (first | refine OpenF.other ?_ (by decide) | refine OpenF_withF ?_ (by decide) | exact open_fact)
theorem ropen18 : ROpenF B18 15 := ROpenF.other ropen_fact (by decide)
theorem tags18 : TagsSF B18 16 := by
  repeat (first | refine TagsSF.other ?_ (by decide) | refine TagsSF.withF ?_ (by decide) | exact tags_fact)
theorem table18 : TableF B18 17 := by
  repeat (first | refine TableF.other ?_ (by decide) | refine TableF.withF ?_ (by decide) | exact TableF.code clone10)
theorem tableN18 : TableNF B18 17 := by
  repeat (first | refine TableNF.other ?_ (by decide) | refine TableNF.withF ?_ (by decide) | exact TableNF.code cloneN10)
theorem rtable18 : RTableF B18 18 := by
  repeat (first | refine RTableF.other ?_ (by decide) | refine RTableF.withF ?_ (by decide) | exact rtable16)
theorem s19 : Sound Try.prog (withF B18 4 70 (SfntTells_c 11 7 12 13 14 10 15 8 16 17 18)) := s18.withF mix 70 (by kernel_rfl)
theorem calls (W : World) {os : List (Option AObj)} {ι : Map} (hm : Mem W os ι) {u0 : V} {x0 : Value} {z0 : List (List Int)} (r0 : R ι u0 x0) (h0 : ShowsRow (cRow (cInt .u8) 1) os u0 z0) (k0 : ∀ x ∈ z0, (cRow (cInt .u8) 1).ok x) (y0 : z0.length * 24 ≤ 140737488351232)
    {u1 : V} {x1 : Value} {z1 : List Int} (r1 : R ι u1 x1) (h1 : ShowsRow (cInt .i64) os u1 z1) (k1 : ∀ x ∈ z1, (cInt .i64).ok x) (y1 : z1.length * 8 ≤ 140737488351232)
    {u2 : V} {x2 : Value} {z2 : List Int} (r2 : R ι u2 x2) (h2 : ShowsRow (cInt .u8) os u2 z2) (k2 : ∀ x ∈ z2, (cInt .u8).ok x) (y2 : z2.length * 1 ≤ 140737488351232)
    {a3 : Int} (w3 : (Lit.int .i64 a3).wf = true) {u4 : V} {x4 : Value} {z4 : List Int} (r4 : R ι u4 x4) (h4 : ShowsRow (cInt .i64) os u4 z4) (k4 : ∀ x ∈ z4, (cInt .i64).ok x) (y4 : z4.length * 8 ≤ 140737488351232)
    {a5 : Int} (w5 : (Lit.int .u8 a5).wf = true) {a6 : Int} (w6 : (Lit.int .i64 a6).wf = true) :
    Calls Try.prog 4 #[x0, x1, x2, .int .i64 a3, x4, .int .u8 a5, .int .i64 a6] W fun e W' => e = .returned (.bool true) ∧ Go.RowKit.Below W.heap.size W W' := by
  refine s19.law_mem hm (args := [u0, u1, u2, .int .i64 a3, u4, .int .u8 a5, .int .i64 a6]) (args' := [x0, x1, x2, .int .i64 a3, x4, .int .u8 a5, .int .i64 a6]) ⟨r0, r1, r2, rfl, r4, rfl, rfl, trivial⟩ ?_
  rw [withF_same]
  have h5 := u8_of_wf w5
  obtain ⟨b5, rfl⟩ := Int.eq_ofNat_of_zero_le h5.1
  exact Tells_run (by omega) tables18 lay18 rlay18 few18 pick18 open18 ropen18 (fun st => closed_call) tags18 table18 tableN18 rtable18 (rows_param h0 k0) (ints_param h1 k1) (bytes_param h2 k2 y2) (ints_param h4 k4) (by rw [List.length_map]; omega) (by omega) (by omega) (by omega)
end

set_option maxRecDepth 100000 in
theorem lifted (os : Os) (started : os.Started) (H : Type) (enc : TypeId × Value → H) :
    ReturnsInHanded {} Try.checked os 4 .any (Rows.sfntTellsSpec.pre6 enc Try.prog Try.f4 Rows.sfntTellsRow.domain false) (Rows.sfntTellsSpec.post enc Try.prog Try.f4 false true false false) := by
  refine returnsInHanded_of_change_sized (C := Try.checked) own started (by kernel_rfl) Try.func4
    (ChangeSpec.witness6 (enc := enc) (C := Try.checked) false ⟨#[], #[.slice none 0 0, .slice none 0 0, .slice none 0 0, .int .i64 0, .slice none 0 0, .int .u8 0, .int .i64 0], []⟩ 8 (by kernel_rfl) (by kernel_rfl) (by kernel_rfl) (by kernel_rfl)) ?_
  intro W base args ds gs before hval0 hW hcnd hsz0 _
  have hsz : (DataW.weightsEach Try.prog (Try.f4.params.toList ++ Rows.sfntTellsSpec.plain.varTypes Try.prog) (ds ++ gs)).all (· ≤ reachBytes) = true := hsz0
  have hval : ∀ (j : Nat) t v, Try.f4.params[j]? = some t → args[j]? = some v → Value.okWide Try.prog W .any base t v := hval0
  have hW' := hW
  obtain ⟨p, q, hA0, hV, rfl, hfz, hnd⟩ := hW
  have hA : DataW.TrodAll enc Try.prog W 0 (fun _ => true) true Try.f4.params.toList args.toList ds p := hA0
  rw [Try.params4] at hA hval hsz
  obtain ⟨v0, vs0, d0, ds0, p0, q0, hargs, rfl, rfl, h0, r0⟩ := trodAll_cons hA
  obtain ⟨v1, vs1, d1, ds1, p1, q1, rfl, rfl, rfl, h1, r1⟩ := trodAll_cons r0
  obtain ⟨v2, vs2, d2, ds2, p2, q2, rfl, rfl, rfl, h2, r2⟩ := trodAll_cons r1
  obtain ⟨v3, vs3, d3, ds3, p3, q3, rfl, rfl, rfl, h3, r3⟩ := trodAll_cons r2
  obtain ⟨v4, vs4, d4, ds4, p4, q4, rfl, rfl, rfl, h4, r4⟩ := trodAll_cons r3
  obtain ⟨v5, vs5, d5, ds5, p5, q5, rfl, rfl, rfl, h5, r5⟩ := trodAll_cons r4
  obtain ⟨v6, vs6, d6, ds6, p6, q6, rfl, rfl, rfl, h6, r6⟩ := trodAll_cons r5
  obtain ⟨rfl, rfl, rfl⟩ := trodAll_nil r6
  obtain rfl : args = #[v0, v1, v2, v3, v4, v5, v6] := by cases args; simp_all
  obtain ⟨rfl, rfl⟩ := trodVars_none hV
  have k0 := h0
  have lt0 : ∀ x ∈ p0, x.block < W.heap.size := by obtain ⟨m, hm⟩ := k0; exact DataW.trod_lt m _ _ _ hm
  obtain ⟨os0, ι0, u0, z0, m0, sub0, more0, rr0, ss0, kk0, yy0⟩ := param_slice (j := 0) (t := 27) (opens_row (B := 24) Try.underlying27 (by kernel_rfl) (by kernel_rfl) (by decide) (opens_row (B := 1) Try.underlying22 (by kernel_rfl) (by kernel_rfl) (by decide) (opens_int Try.underlying5))) Try.underlying27 (hval 0 27 v0 rfl rfl) h0 hsz rfl rfl (Go.Vabs.Mem.nil W)
  have k1 := h1
  have lt1 : ∀ x ∈ p1, x.block < W.heap.size := by obtain ⟨m, hm⟩ := k1; exact DataW.trod_lt m _ _ _ hm
  obtain ⟨os1, ι1, u1, z1, m1, sub1, more1, rr1, ss1, kk1, yy1⟩ := param_slice (j := 1) (t := 33) (opens_row (B := 8) Try.underlying33 (by kernel_rfl) (by kernel_rfl) (by decide) (opens_int Try.underlying3)) Try.underlying33 (hval 1 33 v1 rfl rfl) h1 hsz rfl rfl m0
  have k2 := h2
  have lt2 : ∀ x ∈ p2, x.block < W.heap.size := by obtain ⟨m, hm⟩ := k2; exact DataW.trod_lt m _ _ _ hm
  obtain ⟨os2, ι2, u2, z2, m2, sub2, more2, rr2, ss2, kk2, yy2⟩ := param_slice (j := 2) (t := 22) (opens_row (B := 1) Try.underlying22 (by kernel_rfl) (by kernel_rfl) (by decide) (opens_int Try.underlying5)) Try.underlying22 (hval 2 22 v2 rfl rfl) h2 hsz rfl rfl m1
  obtain ⟨a3, rfl, rfl, rfl, w3⟩ := open_int Try.underlying3 (hval 3 3 v3 rfl rfl) h3
  have k4 := h4
  have lt4 : ∀ x ∈ p4, x.block < W.heap.size := by obtain ⟨m, hm⟩ := k4; exact DataW.trod_lt m _ _ _ hm
  obtain ⟨os4, ι4, u4, z4, m4, sub4, more4, rr4, ss4, kk4, yy4⟩ := param_slice (j := 4) (t := 33) (opens_row (B := 8) Try.underlying33 (by kernel_rfl) (by kernel_rfl) (by decide) (opens_int Try.underlying3)) Try.underlying33 (hval 4 33 v4 rfl rfl) h4 hsz rfl rfl m2
  obtain ⟨a5, rfl, rfl, rfl, w5⟩ := open_int Try.underlying5 (hval 5 5 v5 rfl rfl) h5
  obtain ⟨a6, rfl, rfl, rfl, w6⟩ := open_int Try.underlying3 (hval 6 3 v6 rfl rfl) h6
  have rr0 := rr0.mono (((sub1.trans sub2).trans sub4))
  have ss0 := ss0.mono (((more1.trans more2).trans more4))
  have rr1 := rr1.mono ((sub2.trans sub4))
  have ss1 := ss1.mono ((more2.trans more4))
  have rr2 := rr2.mono (sub4)
  have ss2 := ss2.mono (more4)
  clear hA0 hval0 hsz0 hsz
  refine (calls W m4 rr0 ss0 kk0 yy0 rr1 ss1 kk1 yy1 rr2 ss2 kk2 yy2 w3 rr4 ss4 kk4 yy4 w5 w6).mono fun e W' ⟨he, bel⟩ => ?_
  subst he
  exact ⟨_, rfl, _, _, _, [], _, [], hW', trodAll_mk1 (shut_bool Try.underlying4 _), (trodAll_cons_mk (Below.trod laidOut (by kernel_rfl) (of_decide_eq_true (by kernel_rfl)) k0 bel lt0) (trodAll_cons_mk (Below.trod laidOut (by kernel_rfl) (of_decide_eq_true (by kernel_rfl)) k1 bel lt1) (trodAll_cons_mk (Below.trod laidOut (by kernel_rfl) (of_decide_eq_true (by kernel_rfl)) k2 bel lt2) (trodAll_cons_mk (shut_int Try.underlying3 w3) (trodAll_cons_mk (Below.trod laidOut (by kernel_rfl) (of_decide_eq_true (by kernel_rfl)) k4 bel lt4) (trodAll_cons_mk (shut_int Try.underlying5 w5) (trodAll_cons_mk (shut_int Try.underlying3 w6) trodAll_mk0))))))), rfl, bel.frame _, fun h => by cases h⟩
theorem over : Rows.sfntTellsRow.holds Try.pinned (OpenSpec.ofChange Rows.sfntTellsSpec) :=
  OpenClaim.holds_of_wide 4 Try.f4 rfl rfl rfl rfl rfl rfl rfl ⟨rfl, rfl, rfl, rfl, rfl⟩ rfl rfl rfl rfl rfl (by kernel_rfl) Try.func4 (by kernel_rfl)
    (of_decide_eq_true (by kernel_rfl)) (by unfold Func.isWrapper; first | (rw [if_pos (by decide +kernel)]; kernel_rfl) | (rw [if_neg (by decide +kernel)]; exact ⟨rfl, rfl⟩))
    (fun os started H enc _ => lifted os started H enc)
theorem proved : Rows.SfntTellsSaid := over
#print axioms proved
end Go.Proofs.Ytbbelipodinkjaa.sfntTells
namespace Go.Proofs.Ytbbelipodinkjaa
/-- The row, under a short name, for the claim. -/
theorem sfntTells_holds : Rows.SfntTellsSaid := sfntTells.proved
end Go.Proofs.Ytbbelipodinkjaa
