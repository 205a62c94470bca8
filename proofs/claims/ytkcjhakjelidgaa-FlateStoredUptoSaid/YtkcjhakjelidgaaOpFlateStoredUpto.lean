/- The sentence FlateStored, where what it reads is of bulk at most 1048576: its run in the abstract machine ends in true, whatever the arguments are; and the model's run is the abstract machine's. No condition. -/
import Derived.Test.YtkcjhakjelidgaaRows
import Derived.Test.YtkcjhakjelidgaaVabsSj
import Derived.Test.YtkcjhakjelidgaaVabsZj
import Derived.Test.YtkcjhakjelidgaaCutZ
import Derived.WalkKit
import Derived.ProofKit
import Derived.OpenShut
import Derived.ShutString
import Derived.ChangeOld
import Derived.Below
import Derived.SizedLaws
import Derived.Carry
import Derived.JoinedCond
import Derived.Deep.CondSized
namespace Go.Proofs.Ytkcjhakjelidgaa.flateStored
open Go.ChangeShapes Go.WideShapes Go.ChangeAt Go.RowKit
open Go.ChangeMaps (open_string shut_string)
set_option linter.unusedVariables false
theorem own : ownKnob Try.prog.godebug = none := by kernel_rfl
theorem one_le {H : Type} (d : DataW H) : 1 ≤ Rows.uptoBulk d := by
  cases d with
  | lit l => cases l <;> simp [Rows.uptoBulk]
  | _ => simp [Rows.uptoBulk]
theorem all_len {H : Type} : ∀ (l : List (DataW H)), l.length ≤ Rows.uptoBulkAll l
  | [] => Nat.zero_le _
  | x :: l => by
    have h1 := one_le x
    have h2 := all_len l
    simp only [Rows.uptoBulkAll, List.length_cons]
    omega
theorem in_le {H : Type} {d : DataW H} : ∀ {l : List (DataW H)}, d ∈ l → Rows.uptoBulk d ≤ Rows.uptoBulkAll l
  | x :: l, h => by
    simp only [Rows.uptoBulkAll]
    rcases List.mem_cons.1 h with rfl | h
    · omega
    · have := in_le h; omega
theorem len_le {H : Type} {l : List (DataW H)} {B len : Nat} (hb : Rows.uptoBulkAll l ≤ B) {d : DataW H} (hd : d ∈ l) (h : len = 0 ∨ ∃ es sp, d = .slice es sp ∧ es.length = len) : len ≤ B := by
  rcases h with rfl | ⟨es, sp, rfl, rfl⟩
  · exact Nat.zero_le _
  · have h1 := in_le hd
    have h2 := all_len es
    simp only [Rows.uptoBulk] at h1
    omega
theorem laidOut : laidOutB Try.prog = true := by kernel_rfl
section
open Go.Vabs Go.Vabs.Ph Go.Vabs.Pk Go.Vabs.Fb Go.Vabs.Sh Go.Vabs.Si Go.Vabs.Sj Go.Vabs.Sk
theorem mix : Try.prog.follows .mixedOrders = true := by kernel_rfl
noncomputable section
abbrev B3 : CallT := withF (withF (withF (fun _ _ _ => none) 33 1 Clone_c) 46 1 bit_c) 34 26 (Take_c 46)
abbrev B4 : CallT := withF B3 47 1 Align_c
abbrev B5 : CallT := withF B4 21 1 Used_c
abbrev B6 : CallT := withF B5 48 1 iput_c
abbrev B7 : CallT := withF B6 35 65537 (istored_c 47 34 48)
abbrev B8 : CallT := withF B7 20 1 (iblock_c 34 35 36 37 38)
abbrev B9 : CallT := withF B8 19 1 (Si.NewBits_c 33)
abbrev B10 : CallT := withL B9 8 (lawOf (sightRdN inflSpec))
abbrev B11 : CallT := withF B10 56 1 Grow_c
abbrev B12 : CallT := withL B11 39 (lawOf (sightRdN concatSpec))
abbrev B13 : CallT := withF B12 22 1 (block_c 39)
abbrev B14 : CallT := withL B13 9 (lawOf (sightRdN storedSpec))
abbrev B15 : CallT := withF B14 13 1 Pick_c
abbrev B16 : CallT := withL B15 10 (lawOf (closedRd (.bool true)))
end
theorem s3 : Sound Try.prog B3 := ((Sound.nothing.withF mix 1 (by kernel_rfl)).withF mix 1 (by kernel_rfl)).withF mix 26 (by kernel_rfl)
theorem s4 : Sound Try.prog B4 := s3.withF mix 1 (by kernel_rfl)
theorem s5 : Sound Try.prog B5 := s4.withF mix 1 (by kernel_rfl)
theorem s6 : Sound Try.prog B6 := s5.withF mix 1 (by kernel_rfl)
theorem s7 : Sound Try.prog B7 := s6.withF mix 65537 (by kernel_rfl)
theorem s8 : Sound Try.prog B8 := s7.withF mix 1 (by kernel_rfl)
theorem s9 : Sound Try.prog B9 := s8.withF mix 1 (by kernel_rfl)
theorem take3 : TakeF B3 34 := TakeF.code BitF.code
theorem take6 : TakeF B6 34 := TakeF.withF (TakeF.withF (TakeF.withF take3 (by decide)) (by decide)) (by decide)
theorem align6 : AlignF B6 47 := AlignF.withF (AlignF.withF AlignF.code (by decide)) (by decide)
theorem put6 : PutF B6 48 := PutF.code
theorem stored7 : StoredF B7 35 := StoredF.code align6 take6 put6
theorem take7 : TakeF B7 34 := TakeF.withF take6 (by decide)
theorem blk9 : BlkF B9 20 := BlkF.withF (BlkF.code take7 stored7) (by decide)
theorem clone3 : CloneF B3 33 := CloneF.withF (CloneF.withF CloneF.code (by decide)) (by decide)
theorem clone8 : CloneF B8 33 := by
  repeat (first | exact clone3 | refine CloneF.withF ?_ (by decide))
theorem new9 : NewBF B9 19 := NewBF.code clone8
theorem used9 : UsedF B9 21 := by
  repeat (first | exact UsedF.code | refine UsedF.withF ?_ (by decide))
theorem s10 : Sound Try.prog B10 := Inflate_sound mix s9 new9 blk9 used9 (by kernel_rfl)
theorem s11 : Sound Try.prog B11 := s10.withF mix 1 (by kernel_rfl)
theorem s12 : Sound Try.prog B12 := Concat_sound mix s11 GrowF.code (by kernel_rfl)
theorem s13 : Sound Try.prog B13 := s12.withF mix 1 (by kernel_rfl)
theorem s14 : Sound Try.prog B14 := Stored_sound mix s13 (BlockF.code concat_fact) (by kernel_rfl)
theorem s15 : Sound Try.prog B15 := s14.withF mix 1 (by kernel_rfl)
theorem s16 : Sound Try.prog B16 := by
  obtain ⟨s, h⟩ := isTrue_some Go.Proofs.Ytkcjhakjelidgaa.Lit.runs
  exact s15.closed ⟨fun B => call_ok mix (tabOf_ok Go.Proofs.Ytkcjhakjelidgaa.Lit.tab_ok) 100000 61, callF_framed _ _ _⟩ h rfl
theorem s17 : Sound Try.prog (withF B16 7 1 (FlateStored_c 13 9 8 10)) := s16.withF mix 1 (by kernel_rfl)
theorem pick16 : PickF B16 13 := PickF.other PickF.code (by decide)
theorem stored16 : StoredLF B16 9 := StoredLF.other (StoredLF.withF storedL_fact (by decide)) (by decide)
theorem infl16 : InflF B16 8 := by
  repeat (first | exact infl_fact | refine InflF.other ?_ (by decide) | refine InflF.withF ?_ (by decide))
theorem calls (W : World) {a0 : Option Addr} {len0 cap0 : Nat} {z0 : List Int} (w0 : IsRow .u8 W a0 len0 cap0 z0) (y0 : len0 * 1 ≤ 140737488351232) (l0 : len0 ≤ 1048576) {a1 : Int} (w1 : (Lit.int .i64 a1).wf = true) {a2 : Option Addr} {len2 cap2 : Nat} {z2 : List Int} (w2 : IsRow .u8 W a2 len2 cap2 z2) (y2 : len2 * 1 ≤ 140737488351232) (l2 : len2 ≤ 1048576) :
    Calls Try.prog 7 #[.slice a0 len0 cap0, .int .i64 a1, .slice a2 len2 cap2] W fun e W' => e = .returned (.bool true) ∧ Go.RowKit.Below W.heap.size W W' := by
  refine s17.law_mid (m := .int .i64 a1) (m' := .int .i64 a1) (rest := []) (rest' := []) w0 w2 rfl rfl rfl trivial ?_
  intro nil nil' zs ns h1 h2 h3 h4 h5 h6
  have hz : ∀ (l : List Int), (∀ n ∈ l, (Lit.int .u8 n).wf = true) → intsV .u8 l = bytesV (l.map Int.toNat) := fun l hl => by
    unfold intsV bytesV
    rw [List.map_map]
    refine List.map_congr_left fun n hn => ?_
    have := u8_of_wf (hl n hn)
    show V.int .u8 n = V.int .u8 ((n.toNat : Nat) : Int)
    congr 1
    omega
  have hb : ∀ (l : List Int), (∀ n ∈ l, (Lit.int .u8 n).wf = true) → ∀ b ∈ l.map Int.toNat, b < 256 := fun l hl b hb => by
    simp only [List.mem_map] at hb
    obtain ⟨n, hn, rfl⟩ := hb
    have := u8_of_wf (hl n hn)
    omega
  have e1 : (zs.map Int.toNat).length = len0 := by rw [List.length_map, h5]
  have e2 : (ns.map Int.toNat).length = len2 := by rw [List.length_map, h6]
  rw [withF_same, hz zs h3, hz ns h4, ← e1, ← e2]
  exact Law_run pick16 stored16 infl16 (fun st => closed_call) (fun h => by rw [h1 h]; rfl) (fun h => by rw [h2 h]; rfl) (hb zs h3) (hb ns h4) (i64_of_wf w1) (by omega) (by omega)
end

set_option maxRecDepth 100000 in
theorem lifted (os : Os) (started : os.Started) (H : Type) (enc : TypeId × Value → H) (F : Stop.Interp) :
    ReturnsInHanded {} Try.checked os 7 .any ((Rows.OpenSpec.upto Rows.flateStoredSpec).pre6 enc Try.prog Try.f7 Rows.flateStoredUptoRow.domain false) (((Rows.OpenSpec.upto Rows.flateStoredSpec).at F).post enc Try.prog Try.f7 false true false false) := by
  refine returnsInHanded_of_cond_sized (C := Try.checked) (s := Rows.OpenSpec.upto Rows.flateStoredSpec) (k := Rows.uptoSmall) rfl own started (by kernel_rfl) Try.func7
    (OpenSpec.witness (enc := enc) (C := Try.checked) (s := Rows.OpenSpec.upto Rows.flateStoredSpec) (k := Rows.uptoSmall) rfl false ⟨#[], #[.slice none 0 0, .int .i64 0, .slice none 0 0], []⟩ 8 (by kernel_rfl) (by kernel_rfl) (by kernel_rfl)
      (x := ([.nil, .lit (.int .i64 0), .nil], [], [])) (by kernel_rfl) rfl (by kernel_rfl)) ?_
  intro W base args ds gs before hval0 hW hcnd hk0 hsz0 _
  have hsz : (DataW.weightsEach Try.prog (Try.f7.params.toList ++ Rows.flateStoredSpec.plain.varTypes Try.prog) (ds ++ gs)).all (· ≤ reachBytes) = true := hsz0
  have hval : ∀ (j : Nat) t v, Try.f7.params[j]? = some t → args[j]? = some v → Value.okWide Try.prog W .any base t v := hval0
  have hW' := hW
  obtain ⟨p, q, hA0, hV, rfl, hfz, hnd⟩ := hW
  have hA : DataW.TrodAll enc Try.prog W 0 (fun _ => true) true Try.f7.params.toList args.toList ds p := hA0
  rw [Try.params7] at hA hval hsz
  obtain ⟨v0, vs0, d0, ds0, p0, q0, hargs, rfl, rfl, h0, r0⟩ := trodAll_cons hA
  obtain ⟨v1, vs1, d1, ds1, p1, q1, rfl, rfl, rfl, h1, r1⟩ := trodAll_cons r0
  obtain ⟨v2, vs2, d2, ds2, p2, q2, rfl, rfl, rfl, h2, r2⟩ := trodAll_cons r1
  obtain ⟨rfl, rfl, rfl⟩ := trodAll_nil r2
  obtain rfl : args = #[v0, v1, v2] := by cases args; simp_all
  obtain ⟨rfl, rfl⟩ := trodVars_none hV
  have k0 := h0
  have lt0 : ∀ x ∈ p0, x.block < W.heap.size := by obtain ⟨m, hm⟩ := k0; exact DataW.trod_lt m _ _ _ hm
  obtain ⟨a0, len0, cap0, z0, rfl, w0, y0⟩ := Go.Vabs.row_ints hsz (j := 0) (t := 22) rfl rfl Try.underlying22 Try.underlying5 (by kernel_rfl) (B := 1) (by kernel_rfl) (hval 0 22 v0 rfl rfl) h0
  obtain ⟨a1, rfl, rfl, rfl, w1⟩ := open_int Try.underlying3 (hval 1 3 v1 rfl rfl) h1
  have k2 := h2
  have lt2 : ∀ x ∈ p2, x.block < W.heap.size := by obtain ⟨m, hm⟩ := k2; exact DataW.trod_lt m _ _ _ hm
  obtain ⟨a2, len2, cap2, z2, rfl, w2, y2⟩ := Go.Vabs.row_ints hsz (j := 2) (t := 22) rfl rfl Try.underlying22 Try.underlying5 (by kernel_rfl) (B := 1) (by kernel_rfl) (hval 2 22 v2 rfl rfl) h2
  have hkb : Rows.uptoBulkAll _ ≤ 1048576 := of_decide_eq_true hk0
  have l0 := len_le hkb (d := d0) (by simp) (Go.Vabs.row_len Try.underlying22 Try.underlying5 (by kernel_rfl) h0)
  have l2 := len_le hkb (d := d2) (by simp) (Go.Vabs.row_len Try.underlying22 Try.underlying5 (by kernel_rfl) h2)
  clear hA0 hval0 hsz0 hsz
  refine (calls W w0 y0 l0 w1 w2 y2 l2).mono fun e W' ⟨he, bel⟩ => ?_
  subst he
  exact ⟨_, rfl, _, _, _, [], _, [], hW', trodAll_mk1 (shut_bool Try.underlying4 _), (trodAll_cons_mk (Below.trod laidOut (by kernel_rfl) (of_decide_eq_true (by kernel_rfl)) k0 bel lt0) (trodAll_cons_mk (shut_int Try.underlying3 w1) (trodAll_cons_mk (Below.trod laidOut (by kernel_rfl) (of_decide_eq_true (by kernel_rfl)) k2 bel lt2) trodAll_mk0))), rfl, bel.frame _, fun h => by cases h⟩
theorem over : Rows.flateStoredUptoRow.holds Try.pinned (Rows.OpenSpec.upto Rows.flateStoredSpec) :=
  OpenClaim.holds_of_cond 7 Try.f7 rfl rfl rfl rfl rfl rfl rfl ⟨rfl, rfl, rfl, rfl, rfl⟩ rfl rfl rfl rfl rfl (by kernel_rfl) Try.func7 (by kernel_rfl)
    (of_decide_eq_true (by kernel_rfl)) (by unfold Func.isWrapper; first | (rw [if_pos (by decide +kernel)]; kernel_rfl) | (rw [if_neg (by decide +kernel)]; exact ⟨rfl, rfl⟩))
    (fun os started H enc _ F => lifted os started H enc F)
theorem proved : Rows.FlateStoredUptoSaid := over
#print axioms proved
end Go.Proofs.Ytkcjhakjelidgaa.flateStored
namespace Go.Proofs.Ytkcjhakjelidgaa
/-- The row, under a short name, for the claim. -/
theorem flateStoredUpto_holds : Rows.FlateStoredUptoSaid := flateStored.proved
end Go.Proofs.Ytkcjhakjelidgaa
