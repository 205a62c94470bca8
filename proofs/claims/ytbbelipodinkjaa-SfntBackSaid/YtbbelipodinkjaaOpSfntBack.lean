/- The sentence SfntBack: its run in the abstract machine ends in true, whatever the arguments are; and the model's run is the abstract machine's. No condition. -/
import Derived.Test.YtbbelipodinkjaaRows
import Derived.Test.YtbbelipodinkjaaVabsSp
import Derived.WalkKit
import Derived.ProofKit
import Derived.OpenShut
import Derived.ShutString
import Derived.ChangeOld
import Derived.Below
import Derived.SizedLaws
import Derived.Carry
namespace Go.Proofs.Ytbbelipodinkjaa.sfntBack
open Go.ChangeShapes Go.WideShapes Go.ChangeAt Go.RowKit
open Go.ChangeMaps (open_string shut_string)
open Go.Vabs (param_slice opens_row opens_int opens_bool opens_struct opensF_one opensF_cons)
set_option linter.unusedVariables false
theorem own : ownKnob Try.prog.godebug = none := by kernel_rfl
theorem laidOut : laidOutB Try.prog = true := by kernel_rfl
section
open Go.Vabs Go.Vabs.Ph Go.Vabs.Pk Go.Vabs.Sa Go.Vabs.Sb Go.Vabs.Sc Go.Vabs.Se Go.Vabs.Sh Go.Vabs.Sn Go.Vabs.Sp
theorem mix : Try.prog.follows .mixedOrders = true := by kernel_rfl
theorem knownRuns : Go.Vabs.isTrue (Go.Vabs.callF (Go.Vabs.table Try.prog 35) 100000 60 8 [] Go.Vabs.st0) = true := by kernel_rfl
noncomputable section
abbrev B0 : CallT := withF (withF (withF (withF (withF (withF (withF (withF (fun _ _ _ => none) 34 1 there_c) 30 1 Clone_c) 14 1 Pick_c) 31 100 Index_c) 20 1 (Contains_c 31)) 29 1 CloneS_c) 32 1 Grow_c) 13 1 Few_c
abbrev B1 : CallT := withL B0 33 (lawOf (bytesRd numS))
abbrev B2 : CallT := withL B1 23 (lawOf (bytesRd (uS 2)))
abbrev B3 : CallT := withL B2 25 (lawOf (bytesRd (uS 4)))
abbrev B4 : CallT := withL B3 26 (lawOf (bytesRdA partS))
abbrev B5 : CallT := withF B4 24 1 (versioned_c 20)
abbrev B6 : CallT := withL B5 10 (lawOf (sightRdN openSpec))
abbrev B7 : CallT := withL B6 21 (lawOf (sightRdN concatSpec))
abbrev B8 : CallT := withL B7 22 (lawOf (flatRd u32S))
abbrev B9 : CallT := withF B8 7 100 (Lay_c 20 22 21)
abbrev B10 : CallT := withL B9 16 (lawOf (sightRdN tagsSpec))
abbrev B11 : CallT := withF B10 17 1 (Table_c 30)
abbrev B12 : CallT := withL B11 8 (lawOf (closedRd (.bool true)))
end
theorem s0 : Sound Try.prog B0 := (((((((Sound.nothing.withF mix 1 (by kernel_rfl)).withF mix 1 (by kernel_rfl)).withF mix 1 (by kernel_rfl)).withF mix 100 (by kernel_rfl)).withF mix 1 (by kernel_rfl)).withF mix 1 (by kernel_rfl)).withF mix 1 (by kernel_rfl)).withF mix 1 (by kernel_rfl)
theorem there0 : ThereF B0 34 := by
  repeat (first | refine ThereF.withF ?_ (by decide) | exact ThereF.code)
theorem clone0 : CloneF B0 30 := by
  repeat (first | refine CloneF.withF ?_ (by decide) | exact CloneF.code)
theorem cloneN0 : CloneN B0 30 := by
  repeat (first | refine CloneN.withF ?_ (by decide) | exact CloneN.code)
theorem cloneS0 : CloneSF B0 29 := by
  repeat (first | refine CloneSF.withF ?_ (by decide) | exact CloneSF.code)
theorem grow0 : GrowF B0 32 := by
  repeat (first | refine GrowF.withF ?_ (by decide) | exact GrowF.code)
theorem few0 : FewF B0 13 := by
  repeat (first | refine FewF.withF ?_ (by decide) | exact FewF.code)
theorem cont0 : ContF 100 B0 20 := by
  repeat (first | refine ContF.withF ?_ (by decide) | exact ContF.code IndexF.code)
theorem s1 : Sound Try.prog B1 := number_sound mix s0 (by kernel_rfl) there0
theorem s2 : Sound Try.prog B2 := u_sound mix s1 (n := 33) number_fact (.inr (.inl ⟨rfl, rfl⟩)) (by kernel_rfl)
theorem s3 : Sound Try.prog B3 := u_sound mix s2 (n := 33) (number_fact.other (by decide)) (.inr (.inr (.inr ⟨rfl, rfl⟩))) (by kernel_rfl)
theorem there3 : ThereF B3 34 := by
  repeat (first | refine ThereF.other ?_ (by decide) | exact there0)
theorem clone3 : CloneF B3 30 := by
  repeat (first | refine CloneF.other ?_ (by decide) | exact clone0)
theorem s4 : Sound Try.prog B4 := Part_sound mix s3 there3 clone3 (by kernel_rfl)
theorem s5 : Sound Try.prog B5 := s4.withF mix 1 (by kernel_rfl)
theorem cont4 : ContF 100 B4 20 := by
  repeat (first | refine ContF.other ?_ (by decide) | exact cont0)
theorem u16 : UF 2 B5 23 := UF_withF (UF.other (UF.other uS_fact (by decide)) (by decide)) (by decide)
theorem u32 : UF 4 B5 25 := UF_withF (UF.other uS_fact (by decide)) (by decide)
theorem part5 : PartF B5 26 := PartF_withF Part_fact (by decide)
theorem s6 : Sound Try.prog B6 := Open_sound mix s5 (lf' := 100) (by omega) u16 u32 part5 (VersF_code (by omega) cont4) (ContF.withF cont4 (by decide)) (by kernel_rfl)
theorem grow6 : GrowF B6 32 := by
  repeat (first | refine GrowF.other ?_ (by decide) | refine GrowF.withF ?_ (by decide) | exact grow0)
theorem s7 : Sound Try.prog B7 := Concat_sound mix s6 grow6 (by kernel_rfl)
theorem s8 : Sound Try.prog B8 := u32_sound mix s7 (by kernel_rfl)
theorem s9 : Sound Try.prog B9 := s8.withF mix 100 (by kernel_rfl)
theorem cont8 : ContF 100 B8 20 := by
  repeat (first | refine ContF.other ?_ (by decide) | refine ContF.withF ?_ (by decide) | exact cont4)
theorem lay9 : LayF B9 7 := LayF.code (lf' := 100) (by omega) (by omega) cont8 u32_fact (concat_fact.other (by decide))
theorem cloneS9 : CloneSF B9 29 := by
  repeat (first | refine CloneSF.other ?_ (by decide) | refine CloneSF.withF ?_ (by decide) | exact cloneS0)
theorem s10 : Sound Try.prog B10 := Tags_sound mix s9 cloneS9 (by kernel_rfl)
theorem clone10 : CloneF B10 30 := by
  repeat (first | refine CloneF.other ?_ (by decide) | refine CloneF.withF ?_ (by decide) | exact clone3)
theorem cloneN10 : CloneN B10 30 := by
  repeat (first | refine CloneN.other ?_ (by decide) | refine CloneN.withF ?_ (by decide) | exact cloneN0)
theorem s11 : Sound Try.prog B11 := s10.withF mix 1 (by kernel_rfl)
theorem s12 : Sound Try.prog B12 := by
  obtain ⟨s, h⟩ := isTrue_some knownRuns
  exact s11.closed (Sound.table mix 35 100000 60) h rfl
theorem s13 : Sound Try.prog (withF B12 5 40 (SfntBack_c 14 13 7 10 8 16 17)) := s12.withF mix 40 (by kernel_rfl)
theorem pick12 : PickF B12 14 := by
  repeat (first | refine PickF.other ?_ (by decide) | refine PickF.withF ?_ (by decide) | exact PickF.code)
theorem few12 : FewF B12 13 := by
  repeat (first | refine FewF.other ?_ (by decide) | refine FewF.withF ?_ (by decide) | exact few0)
theorem lay12 : LayF B12 7 := LayF.other (LayF.withF (LayF.other lay9 (by decide)) (by decide)) (by decide)
theorem open12 : OpenF B12 10 := by
  repeat (first | refine OpenF.other ?_ (by decide) | refine OpenF_withF ?_ (by decide) | exact open_fact)
theorem tags12 : TagsSF B12 16 := TagsSF.other (TagsSF.withF tags_fact (by decide)) (by decide)
theorem table12 : TableF B12 17 := TableF.other (TableF.code clone10) (by decide)
theorem tableN12 : TableNF B12 17 := TableNF.other (TableNF.code cloneN10) (by decide)
theorem calls (W : World) {os : List (Option AObj)} {ι : Map} (hm : Mem W os ι) {u0 : V} {x0 : Value} {z0 : List (List Int)} (r0 : R ι u0 x0) (h0 : ShowsRow (cRow (cInt .u8) 1) os u0 z0) (k0 : ∀ x ∈ z0, (cRow (cInt .u8) 1).ok x) (y0 : z0.length * 24 ≤ 140737488351232)
    {u1 : V} {x1 : Value} {z1 : List Int} (r1 : R ι u1 x1) (h1 : ShowsRow (cInt .i64) os u1 z1) (k1 : ∀ x ∈ z1, (cInt .i64).ok x) (y1 : z1.length * 8 ≤ 140737488351232) :
    Calls Try.prog 5 #[x0, x1] W fun e W' => e = .returned (.bool true) ∧ Go.RowKit.Below W.heap.size W W' := by
  refine s13.law_mem hm (args := [u0, u1]) (args' := [x0, x1]) ⟨r0, r1, trivial⟩ ?_
  rw [withF_same]
  obtain ⟨a, rfl⟩ := row_len h1
  exact Back_run (by omega) pick12 few12 lay12 open12 (fun st => closed_call) tags12 table12 tableN12 (rows_param h0 k0) (by omega) (by rw [List.length_map]; omega)
end

set_option maxRecDepth 100000 in
theorem lifted (os : Os) (started : os.Started) (H : Type) (enc : TypeId × Value → H) :
    ReturnsInHanded {} Try.checked os 5 .any (Rows.sfntBackSpec.pre6 enc Try.prog Try.f5 Rows.sfntBackRow.domain false) (Rows.sfntBackSpec.post enc Try.prog Try.f5 false true false false) := by
  refine returnsInHanded_of_change_sized (C := Try.checked) own started (by kernel_rfl) Try.func5
    (ChangeSpec.witness6 (enc := enc) (C := Try.checked) false ⟨#[], #[.slice none 0 0, .slice none 0 0], []⟩ 8 (by kernel_rfl) (by kernel_rfl) (by kernel_rfl) (by kernel_rfl)) ?_
  intro W base args ds gs before hval0 hW hcnd hsz0 _
  have hsz : (DataW.weightsEach Try.prog (Try.f5.params.toList ++ Rows.sfntBackSpec.plain.varTypes Try.prog) (ds ++ gs)).all (· ≤ reachBytes) = true := hsz0
  have hval : ∀ (j : Nat) t v, Try.f5.params[j]? = some t → args[j]? = some v → Value.okWide Try.prog W .any base t v := hval0
  have hW' := hW
  obtain ⟨p, q, hA0, hV, rfl, hfz, hnd⟩ := hW
  have hA : DataW.TrodAll enc Try.prog W 0 (fun _ => true) true Try.f5.params.toList args.toList ds p := hA0
  rw [Try.params5] at hA hval hsz
  obtain ⟨v0, vs0, d0, ds0, p0, q0, hargs, rfl, rfl, h0, r0⟩ := trodAll_cons hA
  obtain ⟨v1, vs1, d1, ds1, p1, q1, rfl, rfl, rfl, h1, r1⟩ := trodAll_cons r0
  obtain ⟨rfl, rfl, rfl⟩ := trodAll_nil r1
  obtain rfl : args = #[v0, v1] := by cases args; simp_all
  obtain ⟨rfl, rfl⟩ := trodVars_none hV
  have k0 := h0
  have lt0 : ∀ x ∈ p0, x.block < W.heap.size := by obtain ⟨m, hm⟩ := k0; exact DataW.trod_lt m _ _ _ hm
  obtain ⟨os0, ι0, u0, z0, m0, sub0, more0, rr0, ss0, kk0, yy0⟩ := param_slice (j := 0) (t := 27) (opens_row (B := 24) Try.underlying27 (by kernel_rfl) (by kernel_rfl) (by decide) (opens_row (B := 1) Try.underlying22 (by kernel_rfl) (by kernel_rfl) (by decide) (opens_int Try.underlying5))) Try.underlying27 (hval 0 27 v0 rfl rfl) h0 hsz rfl rfl (Go.Vabs.Mem.nil W)
  have k1 := h1
  have lt1 : ∀ x ∈ p1, x.block < W.heap.size := by obtain ⟨m, hm⟩ := k1; exact DataW.trod_lt m _ _ _ hm
  obtain ⟨os1, ι1, u1, z1, m1, sub1, more1, rr1, ss1, kk1, yy1⟩ := param_slice (j := 1) (t := 33) (opens_row (B := 8) Try.underlying33 (by kernel_rfl) (by kernel_rfl) (by decide) (opens_int Try.underlying3)) Try.underlying33 (hval 1 33 v1 rfl rfl) h1 hsz rfl rfl m0
  have rr0 := rr0.mono (sub1)
  have ss0 := ss0.mono (more1)
  clear hA0 hval0 hsz0 hsz
  refine (calls W m1 rr0 ss0 kk0 yy0 rr1 ss1 kk1 yy1).mono fun e W' ⟨he, bel⟩ => ?_
  subst he
  exact ⟨_, rfl, _, _, _, [], _, [], hW', trodAll_mk1 (shut_bool Try.underlying4 _), (trodAll_cons_mk (Below.trod laidOut (by kernel_rfl) (of_decide_eq_true (by kernel_rfl)) k0 bel lt0) (trodAll_cons_mk (Below.trod laidOut (by kernel_rfl) (of_decide_eq_true (by kernel_rfl)) k1 bel lt1) trodAll_mk0)), rfl, bel.frame _, fun h => by cases h⟩
theorem over : Rows.sfntBackRow.holds Try.pinned (OpenSpec.ofChange Rows.sfntBackSpec) :=
  OpenClaim.holds_of_wide 5 Try.f5 rfl rfl rfl rfl rfl rfl rfl ⟨rfl, rfl, rfl, rfl, rfl⟩ rfl rfl rfl rfl rfl (by kernel_rfl) Try.func5 (by kernel_rfl)
    (of_decide_eq_true (by kernel_rfl)) (by unfold Func.isWrapper; first | (rw [if_pos (by decide +kernel)]; kernel_rfl) | (rw [if_neg (by decide +kernel)]; exact ⟨rfl, rfl⟩))
    (fun os started H enc _ => lifted os started H enc)
theorem proved : Rows.SfntBackSaid := over
#print axioms proved
end Go.Proofs.Ytbbelipodinkjaa.sfntBack
namespace Go.Proofs.Ytbbelipodinkjaa
/-- The row, under a short name, for the claim. -/
theorem sfntBack_holds : Rows.SfntBackSaid := sfntBack.proved
end Go.Proofs.Ytbbelipodinkjaa
