/- The sentence LineTells: its run in the abstract machine ends in true, whatever the arguments are; and the model's run is the abstract machine's. No condition. -/
import Derived.Test.YtefgofmjfaobpaaRows
import Derived.Test.YtefgofmjfaobpaaVabsMe
import Derived.WalkKit
import Derived.ProofKit
import Derived.OpenShut
import Derived.ShutString
import Derived.ChangeOld
import Derived.Below
import Derived.SizedLaws
import Derived.Carry
namespace Go.Proofs.Ytefgofmjfaobpaa.lineTells
open Go.ChangeShapes Go.WideShapes Go.ChangeAt Go.RowKit
open Go.ChangeMaps (open_string shut_string)
set_option linter.unusedVariables false
theorem own : ownKnob Try.prog.godebug = none := by kernel_rfl
theorem laidOut : laidOutB Try.prog = true := by kernel_rfl
section
open Go.Vabs Go.Vabs.Ph Go.Vabs.Fl Go.Vabs.Ln
theorem mix : Try.prog.follows .mixedOrders = true := by kernel_rfl
theorem knownRuns : Go.Vabs.isTrue (Go.Vabs.callF (Go.Vabs.table Try.prog 68) 100000 60 8 [] Go.Vabs.st0) = true := by kernel_rfl
noncomputable section
abbrev B0 : CallT := withF (fun _ _ _ => none) 34 1 Fl.brought_c
abbrev B1 : CallT := withF B0 21 1 (Fl.Clip_c 34)
abbrev B2 : CallT := withF B1 11 1 Pick_c
abbrev B3 : CallT := withF B2 14 1 (Fl.Num_c 11)
abbrev B4 : CallT := withF B3 27 1 modulo_c
abbrev B5 : CallT := withF B4 20 1 CloneS_c
abbrev B6 : CallT := withL B5 23 (lawOf (flatRd cmpS))
abbrev B7 : CallT := withF B6 45 22 insertion_c
abbrev B8 : CallT := withF B7 35 2 (stable_c 45 46)
abbrev B9 : CallT := withF B8 22 1 (SortStable_c 35)
abbrev B10 : CallT := withL B9 7 (lawOf (oneRd shape1 5 newS))
abbrev B11 : CallT := withL B10 10 (lawOf (oneRd shapeA 5 bentS))
abbrev B12 : CallT := withL B11 19 (lawOf (flatRd colorS))
abbrev B13 : CallT := withL B12 12 (lawOf (oneRd shapeH 1 stopsS))
abbrev B14 : CallT := withL B13 8 (lawOf (closedRd (.bool true)))
abbrev B15 : CallT := withL B14 47 (lawOf (flatRd (pxLaw fun _ => .bool true)))
abbrev B16 : CallT := withL B15 36 (lawOf (flatRd (pxLaw Px.v)))
abbrev B17 : CallT := withF B16 48 1 br_c
abbrev B18 : CallT := withF B17 37 1 (Part_c 48)
abbrev B19 : CallT := withL B18 24 (lawOf (flatRd (pxLaw fun p => p.pre.v)))
abbrev B20 : CallT := withF B19 38 1 mix_c
abbrev B21 : CallT := withL B20 25 (lawOf (flatRd mixLaw))
abbrev B22 : CallT := withF B21 39 1 floored_c
abbrev B23 : CallT := withF B22 26 1 (Div_c 21 39)
abbrev B24 : CallT := withL B23 9 (lawOf (oneRd shapeA 5 atS))
abbrev B25 : CallT := withL B24 43 (lawOf (flatRd (pxLaw fun _ => .bool true)))
abbrev B26 : CallT := withL B25 32 (lawOf (flatRd (pxLaw Px.v)))
abbrev B27 : CallT := withF B26 44 1 within_c
abbrev B28 : CallT := withF B27 33 1 (Part_c 44)
abbrev B29 : CallT := withL B28 17 (lawOf (flatRd (pxLaw fun p => p.pre.v)))
abbrev B30 : CallT := withF B29 49 1 Within_c
abbrev B31 : CallT := withF B30 40 1 (rClip_c 49)
abbrev B32 : CallT := withF B31 28 1 (rclip_c 40)
abbrev B33 : CallT := withF B32 29 1 mod_c
abbrev B34 : CallT := withL B33 15 (lawOf (oneRd shapeM 5 bentS))
abbrev B35 : CallT := withF B34 42 1 Floor_c
abbrev B36 : CallT := withF B35 31 1 (rDiv_c 40 42)
abbrev B37 : CallT := withF B36 41 1 rmix_c
abbrev B38 : CallT := withL B37 30 (lawOf (flatRd mixLaw))
abbrev B39 : CallT := withL B38 16 (lawOf (oneRd shapeM 5 atS))
abbrev B40 : CallT := withL B39 13 (lawOf (oneRd shapeS 5 sortedS))
end
theorem s5 : Sound Try.prog B5 := (((((Sound.nothing.withF mix 1 (by kernel_rfl)).withF mix 1 (by kernel_rfl)).withF mix 1 (by kernel_rfl)).withF mix 1 (by kernel_rfl)).withF mix 1 (by kernel_rfl)).withF mix 1 (by kernel_rfl)
theorem s6 : Sound Try.prog B6 := cmp_sound mix s5 (by kernel_rfl)
theorem s9 : Sound Try.prog B9 := ((s6.withF mix 22 (by kernel_rfl)).withF mix 2 (by kernel_rfl)).withF mix 1 (by kernel_rfl)
theorem clip9 : ClipF B9 21 := by
  repeat (first | exact ClipF.code BroughtF.code | refine ClipF.other ?_ (by decide) | refine ClipF.withF ?_ (by decide))
theorem clone9 : CloneSF B9 20 := by
  repeat (first | exact CloneSF.code | refine CloneSF.other ?_ (by decide) | refine CloneSF.withF ?_ (by decide))
theorem sort9 : SortF B9 22 23 := SortF.code (InsF.code cmp_fact) trivial
theorem sortn9 : SortNF B9 22 23 := SortNF.code (fun e c f st => withF_same.trans ins_nil)
theorem s10 : Sound Try.prog B10 := new_sound mix s9 clone9 clip9 sort9 sortn9 (by kernel_rfl)
theorem clip10 : ClipF B10 21 := clip9.other (by decide)
theorem mod10 : ModF B10 27 := by
  repeat (first | exact ModF.code | refine ModF.other ?_ (by decide) | refine ModF.withF ?_ (by decide))
theorem s11 : Sound Try.prog B11 := bent_sound mix s10 clip10 mod10 (by kernel_rfl)
theorem pick11 : PickF B11 11 := by
  repeat (first | exact PickF.code | refine PickF.other ?_ (by decide) | refine PickF.withF ?_ (by decide))
theorem s12 : Sound Try.prog B12 := color_sound mix s11 pick11 (by kernel_rfl)
theorem num12 : NumHF B12 14 := by
  repeat (first | exact NumHF.code PickF.code | refine NumHF.other ?_ (by decide) | refine NumHF.withF ?_ (by decide))
theorem s13 : Sound Try.prog B13 := stops_sound mix s12 num12 (pick11.other (by decide)) color_fact (by kernel_rfl)
theorem s14 : Sound Try.prog B14 := by
  obtain ⟨s, h⟩ := isTrue_some knownRuns
  exact s13.closed (Sound.table mix 68 100000 60) h rfl
theorem s15 : Sound Try.prog B15 := px_sound mix s14 (by kernel_rfl) (fun p => rfl) (fun p hp => right_run hp)
theorem s16 : Sound Try.prog B16 := px_sound mix s15 (by kernel_rfl) (fun p => rfl) (fun p hp => taken_run px_fact hp)
theorem s18 : Sound Try.prog B18 := (s16.withF mix 1 (by kernel_rfl)).withF mix 1 (by kernel_rfl)
theorem taken18 : PxF Px.v B18 36 := (px_fact.withF (by decide)).withF (by decide)
theorem part18 : PartF B18 37 := PartF.code BrF.code
theorem s19 : Sound Try.prog B19 := px_sound mix s18 (by kernel_rfl) (fun p => rfl) (fun p hp => pre_run taken18 part18 hp)
theorem s20 : Sound Try.prog B20 := s19.withF mix 1 (by kernel_rfl)
theorem taken20 : PxF Px.v B20 36 := (taken18.other (by decide)).withF (by decide)
theorem s21 : Sound Try.prog B21 := mixL_sound mix s20 (by kernel_rfl) (fun p q t hp hq => mix_run taken20 CloF.code hp hq)
theorem s23 : Sound Try.prog B23 := (s21.withF mix 1 (by kernel_rfl)).withF mix 1 (by kernel_rfl)
theorem clip22 : ClipF B22 21 := by
  repeat (first | exact clip10 | refine ClipF.other ?_ (by decide) | refine ClipF.withF ?_ (by decide))
theorem div23 : DivF B23 26 := DivF.code clip22 FloorF.code
theorem mix23 : MixF B23 25 := (mixL_fact.withF (by decide)).withF (by decide)
theorem pre23 : PxF (fun p => p.pre.v) B23 24 := by
  repeat (first | exact px_fact | refine PxF.other ?_ (by decide) | refine PxF.withF ?_ (by decide))
theorem bent23 : Ln.BentF B23 10 := by
  repeat (first | exact bent_fact | refine Ln.BentF.other ?_ (by decide) | refine Ln.BentF.withF ?_ (by decide))
theorem s24 : Sound Try.prog B24 := at_sound mix s23 bent23 pre23 div23 mix23 (by kernel_rfl)
theorem s25 : Sound Try.prog B25 := px_sound mix s24 (by kernel_rfl) (fun p => rfl) (fun p hp => rightP_run hp)
theorem s26 : Sound Try.prog B26 := px_sound mix s25 (by kernel_rfl) (fun p => rfl) (fun p hp => own_run px_fact hp)
theorem s28 : Sound Try.prog B28 := (s26.withF mix 1 (by kernel_rfl)).withF mix 1 (by kernel_rfl)
theorem own28 : PxF Px.v B28 32 := (px_fact.withF (by decide)).withF (by decide)
theorem part28 : PartF B28 33 := PartF.code BrF.within
theorem s29 : Sound Try.prog B29 := px_sound mix s28 (by kernel_rfl) (fun p => rfl) (fun p hp => rpre_run own28 part28 hp)
theorem s33 : Sound Try.prog B33 := (((s29.withF mix 1 (by kernel_rfl)).withF mix 1 (by kernel_rfl)).withF mix 1 (by kernel_rfl)).withF mix 1 (by kernel_rfl)
theorem clip31 : ClipF B31 40 := ClipF.ref WithinF.code
theorem clip33 : ClipF B33 28 := (ClipF.ref2 clip31).withF (by decide)
theorem s34 : Sound Try.prog B34 := rbent_sound mix s33 clip33 ModF.ref (by kernel_rfl)
theorem s37 : Sound Try.prog B37 := ((s34.withF mix 1 (by kernel_rfl)).withF mix 1 (by kernel_rfl)).withF mix 1 (by kernel_rfl)
theorem clip35 : ClipF B35 40 := by
  repeat (first | exact clip31 | refine ClipF.other ?_ (by decide) | refine ClipF.withF ?_ (by decide))
theorem div36 : DivF B36 31 := DivF.ref clip35 FloorF.ref
theorem own37 : PxF Px.v B37 32 := by
  repeat (first | exact px_fact | refine PxF.other ?_ (by decide) | refine PxF.withF ?_ (by decide))
theorem s38 : Sound Try.prog B38 := mixL_sound mix s37 (by kernel_rfl) (fun p q t hp hq => rmix_run own37 RmixF.code hp hq)
theorem rbent38 : RBentF B38 15 := by
  repeat (first | exact rbent_fact | refine RBentF.other ?_ (by decide) | refine RBentF.withF ?_ (by decide))
theorem rpre38 : PxF (fun p => p.pre.v) B38 17 := by
  repeat (first | exact px_fact | refine PxF.other ?_ (by decide) | refine PxF.withF ?_ (by decide))
theorem div38 : DivF B38 31 := (div36.withF (by decide)).other (by decide)
theorem s39 : Sound Try.prog B39 := rat_sound mix s38 rbent38 rpre38 div38 mixL_fact (by kernel_rfl)
theorem clip39 : ClipF B39 28 := by
  repeat (first | exact clip33 | refine ClipF.other ?_ (by decide) | refine ClipF.withF ?_ (by decide))
theorem s40 : Sound Try.prog B40 := sorted_sound mix s39 clip39 (by kernel_rfl)
theorem s41 : Sound Try.prog (withF B40 4 40 (Tells_c 11 12 7 13 8 14 10 15 9 16)) := s40.withF mix 40 (by kernel_rfl)
theorem stops40 : StopsF B40 12 := by
  repeat (first | exact stops_fact | refine StopsF.other ?_ (by decide) | refine StopsF.withF ?_ (by decide))
theorem new40 : NewF B40 7 := by
  repeat (first | exact new_fact | refine NewF.other ?_ (by decide) | refine NewF.withF ?_ (by decide))
theorem at40 : AtF B40 9 := by
  repeat (first | exact at_fact | refine AtF.other ?_ (by decide) | refine AtF.withF ?_ (by decide))
theorem rat40 : RAtF B40 16 := rat_fact.other (by decide)
theorem bent40 : Ln.BentF B40 10 := by
  repeat (first | exact bent_fact | refine Ln.BentF.other ?_ (by decide) | refine Ln.BentF.withF ?_ (by decide))
theorem rbent40 : RBentF B40 15 := (rbent38.other (by decide)).other (by decide)
theorem pick40 : PickF B40 11 := by
  repeat (first | exact pick11 | refine PickF.other ?_ (by decide) | refine PickF.withF ?_ (by decide))
theorem num40 : NumHF B40 14 := by
  repeat (first | exact num12 | refine NumHF.other ?_ (by decide) | refine NumHF.withF ?_ (by decide))
theorem known40 : ∀ st, B40 8 [] st = some (.bool true, st) := fun st => by
  repeat (first | exact closed_call | refine (withL_other (by decide)).trans ?_ | refine (withF_other (by decide)).trans ?_)
theorem calls (W : World) {a0 : Int} (w0 : (Lit.int .i64 a0).wf = true) {a1 : Option Addr} {len1 cap1 : Nat} {z1 : List Int} (w1 : IsRow .i64 W a1 len1 cap1 z1) (y1 : len1 * 8 ≤ 140737488351232) (a2 : Bool) {a3 : Option Addr} {len3 cap3 : Nat} {z3 : List Int} (w3 : IsRow .i64 W a3 len3 cap3 z3) (y3 : len3 * 8 ≤ 140737488351232) :
    Calls Try.prog 4 #[.int .i64 a0, .slice a1 len1 cap1, .bool a2, .slice a3 len3 cap3] W fun e W' => e = .returned (.bool true) ∧ Below W.heap.size W W' := by
  refine law_twoP s41 w1 w3 (fun u v => [.int .i64 a0, u, .bool a2, v]) (args' := [.int .i64 a0, .slice a1 len1 cap1, .bool a2, .slice a3 len3 cap3]) (fun ι u v hu hv => ⟨rfl, hu, rfl, hv, trivial⟩) ?_
  intro nil nil' ns ns' h1 h2 h3 h4 h5 h6
  rw [withF_same, ← h5, ← h6]
  exact tells_run pick40 stops40 new40 sorted_fact known40 num40 bent40 rbent40 at40 rat40 (i64_of_wf w0) h1 h2 (fun n hn => i64_of_wf (h3 n hn)) (fun n hn => i64_of_wf (h4 n hn)) (by omega) (by omega)
end

set_option maxRecDepth 100000 in
theorem lifted (os : Os) (started : os.Started) (H : Type) (enc : TypeId × Value → H) :
    ReturnsInHanded {} Try.checked os 4 .any (Rows.lineTellsSpec.pre6 enc Try.prog Try.f4 Rows.lineTellsRow.domain false) (Rows.lineTellsSpec.post enc Try.prog Try.f4 false true false false) := by
  refine returnsInHanded_of_change_sized (C := Try.checked) own started (by kernel_rfl) Try.func4
    (ChangeSpec.witness6 (enc := enc) (C := Try.checked) false ⟨#[], #[.int .i64 0, .slice none 0 0, .bool false, .slice none 0 0], []⟩ 8 (by kernel_rfl) (by kernel_rfl) (by kernel_rfl) (by kernel_rfl)) ?_
  intro W base args ds gs before hval0 hW hcnd hsz0 _
  have hsz : (DataW.weightsEach Try.prog (Try.f4.params.toList ++ Rows.lineTellsSpec.plain.varTypes Try.prog) (ds ++ gs)).all (· ≤ reachBytes) = true := hsz0
  have hval : ∀ (j : Nat) t v, Try.f4.params[j]? = some t → args[j]? = some v → Value.okWide Try.prog W .any base t v := hval0
  have hW' := hW
  obtain ⟨p, q, hA0, hV, rfl, hfz, hnd⟩ := hW
  have hA : DataW.TrodAll enc Try.prog W 0 (fun _ => true) true Try.f4.params.toList args.toList ds p := hA0
  rw [Try.params4] at hA hval hsz
  obtain ⟨v0, vs0, d0, ds0, p0, q0, hargs, rfl, rfl, h0, r0⟩ := trodAll_cons hA
  obtain ⟨v1, vs1, d1, ds1, p1, q1, rfl, rfl, rfl, h1, r1⟩ := trodAll_cons r0
  obtain ⟨v2, vs2, d2, ds2, p2, q2, rfl, rfl, rfl, h2, r2⟩ := trodAll_cons r1
  obtain ⟨v3, vs3, d3, ds3, p3, q3, rfl, rfl, rfl, h3, r3⟩ := trodAll_cons r2
  obtain ⟨rfl, rfl, rfl⟩ := trodAll_nil r3
  obtain rfl : args = #[v0, v1, v2, v3] := by cases args; simp_all
  obtain ⟨rfl, rfl⟩ := trodVars_none hV
  obtain ⟨a0, rfl, rfl, rfl, w0⟩ := open_int Try.underlying3 (hval 0 3 v0 rfl rfl) h0
  have k1 := h1
  have lt1 : ∀ x ∈ p1, x.block < W.heap.size := by obtain ⟨m, hm⟩ := k1; exact DataW.trod_lt m _ _ _ hm
  obtain ⟨a1, len1, cap1, z1, rfl, w1, y1⟩ := Go.Vabs.row_ints hsz (j := 1) (t := 33) rfl rfl Try.underlying33 Try.underlying3 (by kernel_rfl) (B := 8) (by kernel_rfl) (hval 1 33 v1 rfl rfl) h1
  obtain ⟨a2, rfl, rfl, rfl⟩ := open_bool Try.underlying4 (hval 2 4 v2 rfl rfl) h2
  have k3 := h3
  have lt3 : ∀ x ∈ p3, x.block < W.heap.size := by obtain ⟨m, hm⟩ := k3; exact DataW.trod_lt m _ _ _ hm
  obtain ⟨a3, len3, cap3, z3, rfl, w3, y3⟩ := Go.Vabs.row_ints hsz (j := 3) (t := 33) rfl rfl Try.underlying33 Try.underlying3 (by kernel_rfl) (B := 8) (by kernel_rfl) (hval 3 33 v3 rfl rfl) h3
  clear hA0 hval0 hsz0 hsz
  refine (calls W w0 w1 y1 a2 w3 y3).mono fun e W' ⟨he, bel⟩ => ?_
  subst he
  exact ⟨_, rfl, _, _, _, [], _, [], hW', trodAll_mk1 (shut_bool Try.underlying4 _), (trodAll_cons_mk (shut_int Try.underlying3 w0) (trodAll_cons_mk (Below.trod laidOut (by kernel_rfl) (of_decide_eq_true (by kernel_rfl)) k1 bel lt1) (trodAll_cons_mk (shut_bool Try.underlying4 _) (trodAll_cons_mk (Below.trod laidOut (by kernel_rfl) (of_decide_eq_true (by kernel_rfl)) k3 bel lt3) trodAll_mk0)))), rfl, bel.frame _, fun h => by cases h⟩
theorem over : Rows.lineTellsRow.holds Try.pinned (OpenSpec.ofChange Rows.lineTellsSpec) :=
  OpenClaim.holds_of_wide 4 Try.f4 rfl rfl rfl rfl rfl rfl rfl ⟨rfl, rfl, rfl, rfl, rfl⟩ rfl rfl rfl rfl rfl (by kernel_rfl) Try.func4 (by kernel_rfl)
    (of_decide_eq_true (by kernel_rfl)) (by unfold Func.isWrapper; first | (rw [if_pos (by decide +kernel)]; kernel_rfl) | (rw [if_neg (by decide +kernel)]; exact ⟨rfl, rfl⟩))
    (fun os started H enc _ => lifted os started H enc)
theorem proved : Rows.LineTellsSaid := over
#print axioms proved
end Go.Proofs.Ytefgofmjfaobpaa.lineTells
namespace Go.Proofs.Ytefgofmjfaobpaa
/-- The row, under a short name, for the claim. -/
theorem lineTells_holds : Rows.LineTellsSaid := lineTells.proved
end Go.Proofs.Ytefgofmjfaobpaa
