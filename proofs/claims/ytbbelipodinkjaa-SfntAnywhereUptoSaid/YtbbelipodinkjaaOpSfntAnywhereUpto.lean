/- The sentence SfntAnywhere, where what it reads is of bulk at most 1048576: its run in the abstract machine ends in true, whatever the arguments are; and the model's run is the abstract machine's. No condition. -/
import Derived.Test.YtbbelipodinkjaaRows
import Derived.Test.YtbbelipodinkjaaVabsSe
import Derived.Test.YtbbelipodinkjaaVabsZk
import Derived.WalkKit
import Derived.ProofKit
import Derived.OpenShut
import Derived.ShutString
import Derived.ChangeOld
import Derived.Below
import Derived.SizedLaws
import Derived.Carry
import Derived.JoinedCond
import Derived.Deep.CondSized
namespace Go.Proofs.Ytbbelipodinkjaa.sfntAnywhere
open Go.ChangeShapes Go.WideShapes Go.ChangeAt Go.RowKit
open Go.ChangeMaps (open_string shut_string)
set_option linter.unusedVariables false
theorem own : ownKnob Try.prog.godebug = none := by kernel_rfl
theorem one_le {H : Type} (d : DataW H) : 1 ≤ Rows.uptoBulk d := by
  cases d with
  | lit l => cases l <;> simp [Rows.uptoBulk]
  | _ => simp [Rows.uptoBulk]
theorem all_len {H : Type} : ∀ (l : List (DataW H)), l.length ≤ Rows.uptoBulkAll l
  | [] => Nat.zero_le _
  | x :: l => by
    have h1 := one_le x
    have h2 := all_len l
    simp only [Rows.uptoBulkAll, List.length_cons]
    omega
theorem in_le {H : Type} {d : DataW H} : ∀ {l : List (DataW H)}, d ∈ l → Rows.uptoBulk d ≤ Rows.uptoBulkAll l
  | x :: l, h => by
    simp only [Rows.uptoBulkAll]
    rcases List.mem_cons.1 h with rfl | h
    · omega
    · have := in_le h; omega
theorem len_le {H : Type} {l : List (DataW H)} {B len : Nat} (hb : Rows.uptoBulkAll l ≤ B) {d : DataW H} (hd : d ∈ l) (h : len = 0 ∨ ∃ es sp, d = .slice es sp ∧ es.length = len) : len ≤ B := by
  rcases h with rfl | ⟨es, sp, rfl, rfl⟩
  · exact Nat.zero_le _
  · have h1 := in_le hd
    have h2 := all_len es
    simp only [Rows.uptoBulk] at h1
    omega
theorem laidOut : laidOutB Try.prog = true := by kernel_rfl
section
open Go.Vabs Go.Vabs.Ph Go.Vabs.Pk Go.Vabs.Sa Go.Vabs.Sb Go.Vabs.Sc Go.Vabs.Se
theorem mix : Try.prog.follows .mixedOrders = true := by kernel_rfl
theorem knownRuns : Go.Vabs.isTrue (Go.Vabs.callF (Go.Vabs.table Try.prog 35) 100000 60 8 [] Go.Vabs.st0) = true := by kernel_rfl
noncomputable section
abbrev B0 : CallT := withF (withF (withF (withF (withF (withF (fun _ _ _ => none) 34 1 there_c) 30 1 Clone_c) 14 1 Pick_c) 31 100 Index_c) 20 1 (Contains_c 31)) 29 1 CloneS_c
abbrev B1 : CallT := withL B0 33 (lawOf (bytesRd numS))
abbrev B2 : CallT := withL B1 23 (lawOf (bytesRd (uS 2)))
abbrev B3 : CallT := withL B2 25 (lawOf (bytesRd (uS 4)))
abbrev B4 : CallT := withL B3 26 (lawOf (bytesRdA partS))
abbrev B5 : CallT := withF B4 24 1 (versioned_c 20)
abbrev B6 : CallT := withL B5 10 (lawOf (sightRdN openSpec))
abbrev B7 : CallT := withL B6 19 (lawOf (flatRd bigS))
abbrev B8 : CallT := withF B7 17 1 (Table_c 30)
abbrev B9 : CallT := withF B8 16 1 (Tags_c 29)
abbrev B10 : CallT := withL B9 8 (lawOf (closedRd (.bool true)))
end
theorem s0 : Sound Try.prog B0 := (((((Sound.nothing.withF mix 1 (by kernel_rfl)).withF mix 1 (by kernel_rfl)).withF mix 1 (by kernel_rfl)).withF mix 100 (by kernel_rfl)).withF mix 1 (by kernel_rfl)).withF mix 1 (by kernel_rfl)
theorem there0 : ThereF B0 34 := by
  repeat (first | exact ThereF.code | refine ThereF.withF ?_ (by decide))
theorem clone0 : CloneF B0 30 := CloneF.withF (CloneF.withF (CloneF.withF (CloneF.withF CloneF.code (by decide)) (by decide)) (by decide)) (by decide)
theorem cont0 : ContF 100 B0 20 := ContF.withF (ContF.code IndexF.code) (by decide)
theorem s1 : Sound Try.prog B1 := number_sound mix s0 (by kernel_rfl) there0
theorem s2 : Sound Try.prog B2 := u_sound mix s1 (n := 33) number_fact (.inr (.inl ⟨rfl, rfl⟩)) (by kernel_rfl)
theorem s3 : Sound Try.prog B3 := u_sound mix s2 (n := 33) (number_fact.other (by decide)) (.inr (.inr (.inr ⟨rfl, rfl⟩))) (by kernel_rfl)
theorem there3 : ThereF B3 34 := by
  repeat (first | exact there0 | refine ThereF.other ?_ (by decide))
theorem clone3 : CloneF B3 30 := by
  repeat (first | exact clone0 | refine CloneF.other ?_ (by decide))
theorem s4 : Sound Try.prog B4 := Part_sound mix s3 there3 clone3 (by kernel_rfl)
theorem s5 : Sound Try.prog B5 := s4.withF mix 1 (by kernel_rfl)
theorem cont4 : ContF 100 B4 20 := by
  repeat (first | exact cont0 | refine ContF.other ?_ (by decide))
theorem u16 : UF 2 B5 23 := UF_withF (UF.other (UF.other uS_fact (by decide)) (by decide)) (by decide)
theorem u32 : UF 4 B5 25 := UF_withF (UF.other uS_fact (by decide)) (by decide)
theorem part5 : PartF B5 26 := PartF_withF Part_fact (by decide)
theorem s6 : Sound Try.prog B6 := Open_sound mix s5 (lf' := 100) (by omega) u16 u32 part5 (VersF_code (by omega) cont4) (ContF.withF cont4 (by decide)) (by kernel_rfl)
theorem s7 : Sound Try.prog B7 := Big_sound mix s6 (by kernel_rfl)
theorem s8 : Sound Try.prog B8 := s7.withF mix 1 (by kernel_rfl)
theorem s9 : Sound Try.prog B9 := s8.withF mix 1 (by kernel_rfl)
theorem s10 : Sound Try.prog B10 := by
  obtain ⟨s, h⟩ := isTrue_some knownRuns
  exact s9.closed (Sound.table mix 35 100000 60) h rfl
theorem s11 : Sound Try.prog (withF B10 6 20 (Anywhere_c 19 14 10 8 16 17)) := s10.withF mix 20 (by kernel_rfl)
theorem pick10 : PickF B10 14 := by
  repeat (first | exact PickF.code | refine PickF.other ?_ (by decide) | refine PickF.withF ?_ (by decide))
theorem clone7 : CloneF B7 30 := by
  repeat (first | exact clone3 | refine CloneF.other ?_ (by decide) | refine CloneF.withF ?_ (by decide))
theorem clones8 : ∀ args st, B8 29 args st = enterF (withF (withF (withF (withF (withF (fun _ _ _ => none) 34 1 there_c) 30 1 Clone_c) 14 1 Pick_c) 31 100 Index_c) 20 1 (Contains_c 31)) 1 args st CloneS_c := fun args st => by
  exact (withF_other (by decide)).trans ((withL_other (by decide)).trans ((withL_other (by decide)).trans ((withF_other (by decide)).trans ((withL_other (by decide)).trans ((withL_other (by decide)).trans ((withL_other (by decide)).trans ((withL_other (by decide)).trans withF_same)))))))
theorem calls (W : World) {a0 : Option Addr} {len0 cap0 : Nat} {z0 : List Int} (w0 : IsRow .u8 W a0 len0 cap0 z0) (y0 : len0 * 1 ≤ 140737488351232) (l0 : len0 ≤ 1048576) {a1 : Option Addr} {len1 cap1 : Nat} {z1 : List Int} (w1 : IsRow .i64 W a1 len1 cap1 z1) (y1 : len1 * 8 ≤ 140737488351232) (l1 : len1 ≤ 1048576) :
    Calls Try.prog 6 #[.slice a0 len0 cap0, .slice a1 len1 cap1] W fun e W' => e = .returned (.bool true) ∧ Go.RowKit.Below W.heap.size W W' := by
  refine s11.law_two (rest := []) (rest' := []) w0 w1 rfl trivial ?_
  intro nil nil' zs ns h1 h2 h3 h4 h5 h6
  have hz : intsV .u8 zs = bytesV (zs.map Int.toNat) := by
    unfold intsV bytesV
    rw [List.map_map]
    refine List.map_congr_left fun n hn => ?_
    have := u8_of_wf (h3 n hn)
    show V.int .u8 n = V.int .u8 ((n.toNat : Nat) : Int)
    congr 1
    omega
  have hl : (zs.map Int.toNat).length = len0 := by rw [List.length_map, h5]
  rw [withF_same, hz, ← hl, ← h6]
  refine Anywhere_run (by omega) (BigF.other (BigF.withF (BigF.withF big_fact (by decide)) (by decide)) (by decide)) pick10 (OpenF.other (OpenF_withF (OpenF_withF (OpenF.other open_fact (by decide)) (by decide)) (by decide)) (by decide)) (fun st => closed_call) (TagsF.other (TagsF.code clones8) (by decide)) (TableF.other (TableF.withF (TableF.code clone7) (by decide)) (by decide))
    (fun h => by rw [h1 h]; rfl) h2 (fun b hb => ?_) (fun n hn => i64_of_wf (h4 n hn)) (by omega) (by omega)
  simp only [List.mem_map] at hb
  obtain ⟨n, hn, rfl⟩ := hb
  have := u8_of_wf (h3 n hn)
  omega
end

set_option maxRecDepth 100000 in
theorem lifted (os : Os) (started : os.Started) (H : Type) (enc : TypeId × Value → H) (F : Stop.Interp) :
    ReturnsInHanded {} Try.checked os 6 .any ((Rows.OpenSpec.upto Rows.sfntAnywhereSpec).pre6 enc Try.prog Try.f6 Rows.sfntAnywhereUptoRow.domain false) (((Rows.OpenSpec.upto Rows.sfntAnywhereSpec).at F).post enc Try.prog Try.f6 false true false false) := by
  refine returnsInHanded_of_cond_sized (C := Try.checked) (s := Rows.OpenSpec.upto Rows.sfntAnywhereSpec) (k := Rows.uptoSmall) rfl own started (by kernel_rfl) Try.func6
    (OpenSpec.witness (enc := enc) (C := Try.checked) (s := Rows.OpenSpec.upto Rows.sfntAnywhereSpec) (k := Rows.uptoSmall) rfl false ⟨#[], #[.slice none 0 0, .slice none 0 0], []⟩ 8 (by kernel_rfl) (by kernel_rfl) (by kernel_rfl)
      (x := ([.nil, .nil], [], [])) (by kernel_rfl) rfl (by kernel_rfl)) ?_
  intro W base args ds gs before hval0 hW hcnd hk0 hsz0 _
  have hsz : (DataW.weightsEach Try.prog (Try.f6.params.toList ++ Rows.sfntAnywhereSpec.plain.varTypes Try.prog) (ds ++ gs)).all (· ≤ reachBytes) = true := hsz0
  have hval : ∀ (j : Nat) t v, Try.f6.params[j]? = some t → args[j]? = some v → Value.okWide Try.prog W .any base t v := hval0
  have hW' := hW
  obtain ⟨p, q, hA0, hV, rfl, hfz, hnd⟩ := hW
  have hA : DataW.TrodAll enc Try.prog W 0 (fun _ => true) true Try.f6.params.toList args.toList ds p := hA0
  rw [Try.params6] at hA hval hsz
  obtain ⟨v0, vs0, d0, ds0, p0, q0, hargs, rfl, rfl, h0, r0⟩ := trodAll_cons hA
  obtain ⟨v1, vs1, d1, ds1, p1, q1, rfl, rfl, rfl, h1, r1⟩ := trodAll_cons r0
  obtain ⟨rfl, rfl, rfl⟩ := trodAll_nil r1
  obtain rfl : args = #[v0, v1] := by cases args; simp_all
  obtain ⟨rfl, rfl⟩ := trodVars_none hV
  have k0 := h0
  have lt0 : ∀ x ∈ p0, x.block < W.heap.size := by obtain ⟨m, hm⟩ := k0; exact DataW.trod_lt m _ _ _ hm
  obtain ⟨a0, len0, cap0, z0, rfl, w0, y0⟩ := Go.Vabs.row_ints hsz (j := 0) (t := 22) rfl rfl Try.underlying22 Try.underlying5 (by kernel_rfl) (B := 1) (by kernel_rfl) (hval 0 22 v0 rfl rfl) h0
  have k1 := h1
  have lt1 : ∀ x ∈ p1, x.block < W.heap.size := by obtain ⟨m, hm⟩ := k1; exact DataW.trod_lt m _ _ _ hm
  obtain ⟨a1, len1, cap1, z1, rfl, w1, y1⟩ := Go.Vabs.row_ints hsz (j := 1) (t := 33) rfl rfl Try.underlying33 Try.underlying3 (by kernel_rfl) (B := 8) (by kernel_rfl) (hval 1 33 v1 rfl rfl) h1
  have hkb : Rows.uptoBulkAll _ ≤ 1048576 := of_decide_eq_true hk0
  have l0 := len_le hkb (d := d0) (by simp) (Go.Vabs.row_len Try.underlying22 Try.underlying5 (by kernel_rfl) h0)
  have l1 := len_le hkb (d := d1) (by simp) (Go.Vabs.row_len Try.underlying33 Try.underlying3 (by kernel_rfl) h1)
  clear hA0 hval0 hsz0 hsz
  refine (calls W w0 y0 l0 w1 y1 l1).mono fun e W' ⟨he, bel⟩ => ?_
  subst he
  exact ⟨_, rfl, _, _, _, [], _, [], hW', trodAll_mk1 (shut_bool Try.underlying4 _), (trodAll_cons_mk (Below.trod laidOut (by kernel_rfl) (of_decide_eq_true (by kernel_rfl)) k0 bel lt0) (trodAll_cons_mk (Below.trod laidOut (by kernel_rfl) (of_decide_eq_true (by kernel_rfl)) k1 bel lt1) trodAll_mk0)), rfl, bel.frame _, fun h => by cases h⟩
theorem over : Rows.sfntAnywhereUptoRow.holds Try.pinned (Rows.OpenSpec.upto Rows.sfntAnywhereSpec) :=
  OpenClaim.holds_of_cond 6 Try.f6 rfl rfl rfl rfl rfl rfl rfl ⟨rfl, rfl, rfl, rfl, rfl⟩ rfl rfl rfl rfl rfl (by kernel_rfl) Try.func6 (by kernel_rfl)
    (of_decide_eq_true (by kernel_rfl)) (by unfold Func.isWrapper; first | (rw [if_pos (by decide +kernel)]; kernel_rfl) | (rw [if_neg (by decide +kernel)]; exact ⟨rfl, rfl⟩))
    (fun os started H enc _ F => lifted os started H enc F)
theorem proved : Rows.SfntAnywhereUptoSaid := over
#print axioms proved
end Go.Proofs.Ytbbelipodinkjaa.sfntAnywhere
namespace Go.Proofs.Ytbbelipodinkjaa
/-- The row, under a short name, for the claim. -/
theorem sfntAnywhereUpto_holds : Rows.SfntAnywhereUptoSaid := sfntAnywhere.proved
end Go.Proofs.Ytbbelipodinkjaa
