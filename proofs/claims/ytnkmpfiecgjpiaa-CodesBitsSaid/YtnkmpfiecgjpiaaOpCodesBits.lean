/- The sentence CodesBits: its run in the abstract machine ends in true, whatever the arguments are; and the model's run is the abstract machine's. No condition. -/
import Derived.Test.YtnkmpfiecgjpiaaRows
import Derived.Test.YtnkmpfiecgjpiaaVabsFc
import Derived.WalkKit
import Derived.ProofKit
import Derived.OpenShut
import Derived.ShutString
import Derived.ChangeOld
import Derived.Below
import Derived.SizedLaws
import Derived.Carry
namespace Go.Proofs.Ytnkmpfiecgjpiaa.codesBits
open Go.ChangeShapes Go.WideShapes Go.ChangeAt Go.RowKit
open Go.ChangeMaps (open_string shut_string)
set_option linter.unusedVariables false
theorem own : ownKnob Try.prog.godebug = none := by kernel_rfl
theorem laidOut : laidOutB Try.prog = true := by kernel_rfl
section
open Go.Vabs Go.Vabs.Ph Go.Vabs.Pk Go.Vabs.Fb
theorem mix : Try.prog.follows .mixedOrders = true := by kernel_rfl
theorem knownRuns : Go.Vabs.isTrue (Go.Vabs.callF (Go.Vabs.table Try.prog 34) 100000 60 10 [] Go.Vabs.st0) = true := by kernel_rfl
noncomputable section
abbrev B0 : CallT := withF (fun _ _ _ => none) 24 1 Clone_c
abbrev B1 : CallT := withF B0 27 1 bit_c
abbrev B2 : CallT := withF B1 18 26 (Take_c 27)
abbrev B3 : CallT := withF B2 19 1 Align_c
abbrev B4 : CallT := withF B3 15 1 Used_c
abbrev B5 : CallT := withF B4 17 1 Pick_c
abbrev B6 : CallT := withF B5 12 1 (NewBits_c 24)
abbrev B7 : CallT := withL B6 10 (lawOf (closedRd (.bool true)))
end
theorem s6 : Sound Try.prog B6 := ((((((Sound.nothing.withF mix 1 (by kernel_rfl)).withF mix 1 (by kernel_rfl)).withF mix 26 (by kernel_rfl)).withF mix 1 (by kernel_rfl)).withF mix 1 (by kernel_rfl)).withF mix 1 (by kernel_rfl)).withF mix 1 (by kernel_rfl)
theorem s7 : Sound Try.prog B7 := by
  obtain ⟨s, h⟩ := isTrue_some knownRuns
  exact s6.closed (Sound.table mix 34 100000 60) h rfl
theorem s8 : Sound Try.prog (withF B7 6 62 (BitsLaw_c 12 10 17 19 18 15)) := s7.withF mix 62 (by kernel_rfl)
theorem clone5 : CloneF B5 24 := by
  repeat (first | exact CloneF.code | refine CloneF.withF ?_ (by decide))
theorem take7 : TakeF B7 18 := by
  repeat (first | exact TakeF.code BitF.code | refine TakeF.other ?_ (by decide) | refine TakeF.withF ?_ (by decide))
theorem align7 : AlignF B7 19 := by
  repeat (first | exact AlignF.code | refine AlignF.other ?_ (by decide) | refine AlignF.withF ?_ (by decide))
theorem used7 : UsedF B7 15 := by
  repeat (first | exact UsedF.code | refine UsedF.other ?_ (by decide) | refine UsedF.withF ?_ (by decide))
theorem pick7 : PickF B7 17 := by
  repeat (first | exact PickF.code | refine PickF.other ?_ (by decide) | refine PickF.withF ?_ (by decide))
theorem calls (W : World) {a0 : Option Addr} {len0 cap0 : Nat} {z0 : List Int} (w0 : IsRow .u8 W a0 len0 cap0 z0) (y0 : len0 * 1 ≤ 140737488351232) {a1 : Option Addr} {len1 cap1 : Nat} {z1 : List Int} (w1 : IsRow .i64 W a1 len1 cap1 z1) (y1 : len1 * 8 ≤ 140737488351232) :
    Calls Try.prog 6 #[.slice a0 len0 cap0, .slice a1 len1 cap1] W fun e W' => e = .returned (.bool true) ∧ Below W.heap.size W W' := by
  refine s8.law_two (rest := []) (rest' := []) w0 w1 rfl trivial ?_
  intro nil nil' zs ns h1 h2 h3 h4 h5 h6
  have hz : intsV .u8 zs = bytesV (zs.map Int.toNat) := by
    unfold intsV bytesV
    rw [List.map_map]
    refine List.map_congr_left fun n hn => ?_
    have := u8_of_wf (h3 n hn)
    show V.int .u8 n = V.int .u8 ((n.toNat : Nat) : Int)
    congr 1
    omega
  have hl : (zs.map Int.toNat).length = len0 := by rw [List.length_map, h5]
  rw [withF_same, hz, ← hl, ← h6]
  refine BitsLaw_run (nc := 24) (fun nil bs ol b1 b2 b3 => ?_) (fun st => closed_call) pick7 align7 take7 used7 (fun h => by rw [h1 h]; rfl) h2 (fun b hb => ?_) (by omega) (fun n hn => i64_of_wf (h4 n hn)) (by omega)
  · obtain ⟨pre, c, sv, e, hh⟩ := New_run (call := B5) (lf := 1) clone5 (ol := ol) b1 b2 b3
    exact ⟨pre, c, sv, ((withL_other (by decide)).trans withF_same).trans e, hh⟩
  · simp only [List.mem_map] at hb
    obtain ⟨n, hn, rfl⟩ := hb
    have := u8_of_wf (h3 n hn)
    omega
end

set_option maxRecDepth 100000 in
theorem lifted (os : Os) (started : os.Started) (H : Type) (enc : TypeId × Value → H) :
    ReturnsInHanded {} Try.checked os 6 .any (Rows.codesBitsSpec.pre6 enc Try.prog Try.f6 Rows.codesBitsRow.domain false) (Rows.codesBitsSpec.post enc Try.prog Try.f6 false true false false) := by
  refine returnsInHanded_of_change_sized (C := Try.checked) own started (by kernel_rfl) Try.func6
    (ChangeSpec.witness6 (enc := enc) (C := Try.checked) false ⟨#[], #[.slice none 0 0, .slice none 0 0], []⟩ 8 (by kernel_rfl) (by kernel_rfl) (by kernel_rfl) (by kernel_rfl)) ?_
  intro W base args ds gs before hval0 hW hcnd hsz0 _
  have hsz : (DataW.weightsEach Try.prog (Try.f6.params.toList ++ Rows.codesBitsSpec.plain.varTypes Try.prog) (ds ++ gs)).all (· ≤ reachBytes) = true := hsz0
  have hval : ∀ (j : Nat) t v, Try.f6.params[j]? = some t → args[j]? = some v → Value.okWide Try.prog W .any base t v := hval0
  have hW' := hW
  obtain ⟨p, q, hA0, hV, rfl, hfz, hnd⟩ := hW
  have hA : DataW.TrodAll enc Try.prog W 0 (fun _ => true) true Try.f6.params.toList args.toList ds p := hA0
  rw [Try.params6] at hA hval hsz
  obtain ⟨v0, vs0, d0, ds0, p0, q0, hargs, rfl, rfl, h0, r0⟩ := trodAll_cons hA
  obtain ⟨v1, vs1, d1, ds1, p1, q1, rfl, rfl, rfl, h1, r1⟩ := trodAll_cons r0
  obtain ⟨rfl, rfl, rfl⟩ := trodAll_nil r1
  obtain rfl : args = #[v0, v1] := by cases args; simp_all
  obtain ⟨rfl, rfl⟩ := trodVars_none hV
  have k0 := h0
  have lt0 : ∀ x ∈ p0, x.block < W.heap.size := by obtain ⟨m, hm⟩ := k0; exact DataW.trod_lt m _ _ _ hm
  obtain ⟨a0, len0, cap0, z0, rfl, w0, y0⟩ := Go.Vabs.row_ints hsz (j := 0) (t := 23) rfl rfl Try.underlying23 Try.underlying5 (by kernel_rfl) (B := 1) (by kernel_rfl) (hval 0 23 v0 rfl rfl) h0
  have k1 := h1
  have lt1 : ∀ x ∈ p1, x.block < W.heap.size := by obtain ⟨m, hm⟩ := k1; exact DataW.trod_lt m _ _ _ hm
  obtain ⟨a1, len1, cap1, z1, rfl, w1, y1⟩ := Go.Vabs.row_ints hsz (j := 1) (t := 22) rfl rfl Try.underlying22 Try.underlying3 (by kernel_rfl) (B := 8) (by kernel_rfl) (hval 1 22 v1 rfl rfl) h1
  clear hA0 hval0 hsz0 hsz
  refine (calls W w0 y0 w1 y1).mono fun e W' ⟨he, bel⟩ => ?_
  subst he
  exact ⟨_, rfl, _, _, _, [], _, [], hW', trodAll_mk1 (shut_bool Try.underlying4 _), (trodAll_cons_mk (Below.trod laidOut (by kernel_rfl) (of_decide_eq_true (by kernel_rfl)) k0 bel lt0) (trodAll_cons_mk (Below.trod laidOut (by kernel_rfl) (of_decide_eq_true (by kernel_rfl)) k1 bel lt1) trodAll_mk0)), rfl, bel.frame _, fun h => by cases h⟩
theorem over : Rows.codesBitsRow.holds Try.pinned (OpenSpec.ofChange Rows.codesBitsSpec) :=
  OpenClaim.holds_of_wide 6 Try.f6 rfl rfl rfl rfl rfl rfl rfl ⟨rfl, rfl, rfl, rfl, rfl⟩ rfl rfl rfl rfl rfl (by kernel_rfl) Try.func6 (by kernel_rfl)
    (of_decide_eq_true (by kernel_rfl)) (by unfold Func.isWrapper; first | (rw [if_pos (by decide +kernel)]; kernel_rfl) | (rw [if_neg (by decide +kernel)]; exact ⟨rfl, rfl⟩))
    (fun os started H enc _ => lifted os started H enc)
theorem proved : Rows.CodesBitsSaid := over
#print axioms proved
end Go.Proofs.Ytnkmpfiecgjpiaa.codesBits
namespace Go.Proofs.Ytnkmpfiecgjpiaa
/-- The row, under a short name, for the claim. -/
theorem codesBits_holds : Rows.CodesBitsSaid := codesBits.proved
end Go.Proofs.Ytnkmpfiecgjpiaa
