/-
  Lines of colours: the reference's arithmetic.
-/
import Derived.Test.YtefgofmjfaobpaaVabsFy
namespace Go.Vabs.Ln
set_option linter.unusedVariables false
set_option linter.unusedSimpArgs false
set_option maxRecDepth 10000
def Tells_c (n_Pick : Nat) (n_stops : Nat) (n_New : Nat) (n_Sorted : Nat) (n_known : Nat) (n_Num : Nat) (n_Bent : Nat) (n_rBent : Nat) (n_At : Nat) (n_rAt : Nat) : AFunc := AFunc.mk 99 (.seq (.reg [AOper.mk (some (.i (.o (.o .h)))) (.mv (.c (.bool false))) none]) (.seq (.reg [AOper.mk (some (.i (.o (.o (.o .h))))) (.call n_Pick [.t .h, .c (.int .i64 (.ofNat 5))]) none, AOper.mk (some (.o (.i (.o (.o .h))))) (.bin .sub (.val .int) (.t (.i (.o (.o (.o .h))))) (.c (.int .i64 (.ofNat 1)))) none, AOper.mk (some .h) (.mv (.t (.o (.i (.o (.o .h)))))) none]) (.seq (.reg [AOper.mk (some (.i (.o (.i (.o .h))))) (.call n_stops [.t (.o .h), .t (.i .h)]) none, AOper.mk (some (.o (.i (.o .h)))) (.mv (.t (.i (.o (.i (.o .h)))))) none]) (.seq (.reg [AOper.mk (some (.o (.o (.o (.i .h))))) (.call n_New [.t .h, .t (.o (.i (.o .h)))]) none, AOper.mk (some (.i (.i (.o .h)))) (.alloc [.int .i64 (.ofNat 0), .slice none 0 0 0 true]) none, AOper.mk none (.store 2 (.t (.i (.i (.o .h)))) (.t (.o (.o (.o (.i .h)))))) none]) (.seq (.reg [AOper.mk (some (.o (.i (.o (.i .h))))) (.call n_Sorted [.t (.o (.i (.o .h)))]) none, AOper.mk (some (.o (.o (.i .h)))) (.mv (.t (.o (.i (.o (.i .h)))))) none]) (.seq (.seq (.reg [AOper.mk (some (.i (.i (.o (.i .h))))) (.call n_known []) none, AOper.mk (some (.o (.o (.i (.i .h))))) (.un .not (.t (.i (.i (.o (.i .h)))))) none, AOper.mk (some (.i (.o (.i (.i .h))))) (.mv (.t (.o (.o (.i (.i .h)))))) none, AOper.mk (some (.o (.i (.i (.i .h))))) (.fieldAddr 0 (.t (.i (.i (.o .h))))) (some (.i (.o (.i (.i .h))), false)), AOper.mk (some (.i (.i (.i (.i .h))))) (.load false 1 (.t (.o (.i (.i (.i .h)))))) (some (.i (.o (.i (.i .h))), false)), AOper.mk (some (.i (.o (.o (.o (.o .h)))))) (.bin .neq (.val .int) (.t (.i (.i (.i (.i .h))))) (.t .h)) (some (.i (.o (.i (.i .h))), false)), AOper.mk (some (.o (.i (.o (.o (.o .h)))))) (.pick (.t (.i (.o (.i (.i .h))))) (.c (.bool true)) (.t (.i (.o (.o (.o (.o .h))))))) none, AOper.mk (some (.i (.i (.o (.o (.o .h)))))) (.mv (.t (.o (.i (.o (.o (.o .h))))))) none, AOper.mk (some (.o (.o (.i (.o (.o .h)))))) (.fieldAddr 1 (.t (.i (.i (.o .h))))) (some (.i (.i (.o (.o (.o .h)))), false)), AOper.mk (some (.i (.o (.i (.o (.o .h)))))) (.load false 1 (.t (.o (.o (.i (.o (.o .h))))))) (some (.i (.i (.o (.o (.o .h)))), false)), AOper.mk (some (.o (.i (.i (.o (.o .h)))))) (.len .slice (.t (.i (.o (.i (.o (.o .h))))))) (some (.i (.i (.o (.o (.o .h)))), false)), AOper.mk (some (.o (.o (.o (.i (.o .h)))))) (.len .slice (.t (.o (.o (.i .h))))) (some (.i (.i (.o (.o (.o .h)))), false)), AOper.mk (some (.i (.o (.o (.i (.o .h)))))) (.bin .neq (.val .int) (.t (.o (.i (.i (.o (.o .h)))))) (.t (.o (.o (.o (.i (.o .h))))))) (some (.i (.i (.o (.o (.o .h)))), false)), AOper.mk (some (.o (.i (.o (.i (.o .h)))))) (.pick (.t (.i (.i (.o (.o (.o .h)))))) (.c (.bool true)) (.t (.i (.o (.o (.i (.o .h))))))) none]) (.cond (.t (.o (.i (.o (.i (.o .h)))))) (.seq (.reg [AOper.mk (some (.i (.o (.o .h)))) (.mv (.c (.bool false))) none]) .ret) .skip)) (.seq (.seq (.reg [AOper.mk (some (.o (.o (.i (.i (.o .h)))))) (.len .slice (.t (.o (.o (.i .h))))) none, AOper.mk (some (.i (.o (.i (.i (.o .h)))))) (.mv (.c (.int .i64 (.ofNat 0)))) none]) (.block 0 (.loop (.seq (.reg [AOper.mk (some (.o (.i (.i (.i (.o .h)))))) (.bin .lss (.val .int) (.t (.i (.o (.i (.i (.o .h)))))) (.t (.o (.o (.i (.i (.o .h))))))) none]) (.seq (.cond (.t (.o (.i (.i (.i (.o .h)))))) .skip (.exit 0)) (.seq (.block 1 (.seq (.reg [AOper.mk (some (.i (.o (.i .h)))) (.mv (.t (.i (.o (.i (.i (.o .h))))))) none]) (.seq (.dreg [(AOper.mk (some (.o (.o (.o (.o (.i .h)))))) (.fieldAddr 1 (.t (.i (.i (.o .h))))) none, []), (AOper.mk (some (.i (.o (.o (.o (.i .h)))))) (.load false 1 (.t (.o (.o (.o (.o (.i .h))))))) none, [8]), (AOper.mk (some (.o (.i (.o (.o (.i .h)))))) (.mv (.t (.i (.o (.i .h))))) none, []), (AOper.mk (some (.i (.i (.o (.o (.i .h)))))) (.idxAddr (.slice 5) (.t (.i (.o (.o (.o (.i .h)))))) (.t (.o (.i (.o (.o (.i .h))))))) none, []), (AOper.mk (some (.o (.o (.i (.o (.i .h)))))) (.load true 5 (.t (.i (.i (.o (.o (.i .h))))))) none, [8]), (AOper.mk (some (.i (.o (.i (.o (.i .h)))))) (.mv (.t (.o (.o (.i .h))))) none, []), (AOper.mk (some (.o (.i (.i (.o (.i .h)))))) (.mv (.t (.i (.o (.i .h))))) none, []), (AOper.mk (some (.i (.i (.i (.o (.i .h)))))) (.idxAddr (.slice 5) (.t (.i (.o (.i (.o (.i .h)))))) (.t (.o (.i (.i (.o (.i .h))))))) none, []), (AOper.mk (some (.o (.o (.o (.i (.i .h)))))) (.load true 5 (.t (.i (.i (.i (.o (.i .h))))))) none, [1, 4]), (AOper.mk (some (.i (.o (.o (.i (.i .h)))))) (.bin .neq (.val (.parts [(0, (1, (false, .int))), (1, (4, (true, .parts [(0, (1, (false, .int))), (1, (1, (false, .int))), (2, (1, (false, .int))), (3, (1, (false, .int)))])))])) (.t (.o (.o (.i (.o (.i .h)))))) (.t (.o (.o (.o (.i (.i .h))))))) none, [])]) (.cond (.t (.i (.o (.o (.i (.i .h)))))) (.seq (.reg [AOper.mk (some (.i (.o (.o .h)))) (.mv (.c (.bool false))) none]) .ret) .skip)))) (.reg [AOper.mk (some (.o (.i (.o (.i (.i .h)))))) (.bin .add (.val .int) (.t (.i (.o (.i (.i (.o .h)))))) (.c (.int .i64 (.ofNat 1)))) none, AOper.mk (some (.i (.o (.i (.i (.o .h)))))) (.mv (.t (.o (.i (.o (.i (.i .h))))))) none]))))))) (.seq (.seq (.reg [AOper.mk (some (.o (.i (.i .h)))) (.mv (.c (.int .i64 (.ofNat 0)))) none]) (.block 2 (.loop (.seq (.seq (.reg [AOper.mk (some (.i (.o (.i (.i (.i .h)))))) (.len .slice (.t (.o (.o .h)))) none, AOper.mk (some (.o (.i (.i (.i (.i .h)))))) (.bin .lss (.val .int) (.t (.o (.i (.i .h)))) (.t (.i (.o (.i (.i (.i .h))))))) none, AOper.mk (some (.i (.i (.i (.i (.i .h)))))) (.mv (.t (.o (.i (.i (.i (.i .h))))))) none, AOper.mk (some (.i (.o (.o (.o (.o (.o .h))))))) (.bin .lss (.val .int) (.t (.o (.i (.i .h)))) (.c (.int .i64 (.ofNat 30)))) (some (.i (.i (.i (.i (.i .h)))), true)), AOper.mk (some (.o (.i (.o (.o (.o (.o .h))))))) (.pick (.t (.i (.i (.i (.i (.i .h)))))) (.t (.i (.o (.o (.o (.o (.o .h))))))) (.c (.bool false))) none]) (.cond (.t (.o (.i (.o (.o (.o (.o .h))))))) .skip (.exit 2))) (.seq (.block 3 (.seq (.reg [AOper.mk (some (.i (.i (.i (.o (.o (.o .h))))))) (.idxAddr (.slice 1) (.t (.o (.o .h))) (.t (.o (.i (.i .h))))) none, AOper.mk (some (.o (.o (.o (.i (.o (.o .h))))))) (.load false 1 (.t (.i (.i (.i (.o (.o (.o .h)))))))) none, AOper.mk (some (.i (.o (.o (.i (.o (.o .h))))))) (.call n_Num [.t (.o (.o (.o (.i (.o (.o .h))))))]) none, AOper.mk (some (.i (.i (.i .h)))) (.mv (.t (.i (.o (.o (.i (.o (.o .h)))))))) none]) (.seq (.seq (.reg [AOper.mk (some (.o (.i (.o (.i (.o (.o .h))))))) (.mv (.t (.i .h))) none]) (.cond (.t (.o (.i (.o (.i (.o (.o .h))))))) (.reg [AOper.mk (some (.i (.o (.i (.i (.o (.o .h))))))) (.idxAddr (.slice 1) (.t (.o (.o .h))) (.t (.o (.i (.i .h))))) none, AOper.mk (some (.o (.i (.i (.i (.o (.o .h))))))) (.load false 1 (.t (.i (.o (.i (.i (.o (.o .h)))))))) none, AOper.mk (some (.i (.i (.i (.i (.o (.o .h))))))) (.call n_Pick [.t (.o (.i (.i (.i (.o (.o .h)))))), .c (.int .i64 (.ofNat 30))]) none, AOper.mk (some (.o (.o (.o (.o (.i (.o .h))))))) (.bin .mul (.val .int) (.t (.i (.i (.i (.i (.o (.o .h))))))) (.c (.int .i64 (.ofNat 4096)))) none, AOper.mk (some (.i (.o (.o (.o (.i (.o .h))))))) (.bin .sub (.val .int) (.t (.o (.o (.o (.o (.i (.o .h))))))) (.c (.int .i64 (.ofNat 20000)))) none, AOper.mk (some (.i (.i (.i .h)))) (.mv (.t (.i (.o (.o (.o (.i (.o .h)))))))) none]) .skip)) (.seq (.reg [AOper.mk (some (.o (.i (.o (.o (.i (.o .h))))))) (.load true 2 (.t (.i (.i (.o .h))))) none, AOper.mk (some (.o (.o (.i (.o (.i (.o .h))))))) (.call n_Bent [.t (.o (.i (.o (.o (.i (.o .h)))))), .t (.i (.i (.i .h)))]) none, AOper.mk (some (.o (.o (.o (.i (.i (.o .h))))))) (.call n_rBent [.t .h, .t (.o (.o (.i .h))), .t (.i (.i (.i .h)))]) none, AOper.mk (some (.i (.o (.o (.i (.i (.o .h))))))) (.bin .neq (.val .int) (.t (.o (.o (.i (.o (.i (.o .h))))))) (.t (.o (.o (.o (.i (.i (.o .h)))))))) none, AOper.mk (some (.o (.i (.o (.i (.i (.o .h))))))) (.mv (.t (.i (.o (.o (.i (.i (.o .h)))))))) none, AOper.mk (some (.i (.i (.o (.i (.i (.o .h))))))) (.load true 2 (.t (.i (.i (.o .h))))) (some (.o (.i (.o (.i (.i (.o .h))))), false)), AOper.mk (some (.i (.o (.i (.i (.i (.o .h))))))) (.call n_At [.t (.i (.i (.o (.i (.i (.o .h)))))), .t (.i (.i (.i .h)))]) (some (.o (.i (.o (.i (.i (.o .h))))), false)), AOper.mk (some (.i (.o (.o (.o (.o (.i .h))))))) (.call n_rAt [.t .h, .t (.o (.o (.i .h))), .t (.i (.i (.i .h)))]) (some (.o (.i (.o (.i (.i (.o .h))))), false)), AOper.mk (some (.o (.i (.o (.o (.o (.i .h))))))) (.bin .neq (.val (.parts [(0, (1, (false, .int))), (1, (1, (false, .int))), (2, (1, (false, .int))), (3, (1, (false, .int)))])) (.t (.i (.o (.i (.i (.i (.o .h))))))) (.t (.i (.o (.o (.o (.o (.i .h)))))))) (some (.o (.i (.o (.i (.i (.o .h))))), false)), AOper.mk (some (.i (.i (.o (.o (.o (.i .h))))))) (.pick (.t (.o (.i (.o (.i (.i (.o .h))))))) (.c (.bool true)) (.t (.o (.i (.o (.o (.o (.i .h)))))))) none]) (.cond (.t (.i (.i (.o (.o (.o (.i .h))))))) (.seq (.reg [AOper.mk (some (.i (.o (.o .h)))) (.mv (.c (.bool false))) none]) .ret) .skip))))) (.reg [AOper.mk (some (.o (.o (.i (.o (.o (.o .h))))))) (.bin .add (.val .int) (.t (.o (.i (.i .h)))) (.c (.int .i64 (.ofNat 1)))) none, AOper.mk (some (.o (.i (.i .h)))) (.mv (.t (.o (.o (.i (.o (.o (.o .h)))))))) none])))))) (.seq (.reg [AOper.mk (some (.i (.o (.o .h)))) (.mv (.c (.bool true))) none]) .ret))))))))) [.tmp (.i (.o (.o .h)))]
attribute [local simp] wp_skip wp_ret wp_exit wp_reg wp_seq wp_cond wp_block thenQ_normal thenQ_ret thenQ_exit blockQ_normal blockQ_ret blockQ_exit wpCond_true wpCond_false wpOps_nil wpVal_some wpGuard_true wpGuard_false wpOps_guard wpOps_cons
  put_at put_no ev_c ev_slot posEq_h posEq_o posEq_i posEq_ho posEq_hi posEq_oh posEq_ih posEq_oi posEq_io sel_true sel_false
  okv_some step_mv step_call step_pick pickV_bool step_bin bin_add bin_sub bin_mul bin_eql bin_neq bin_lss bin_leq bin_gtr bin_geq bin_eqb bin_neb bin_eqs bin_nes step_un un_not un_neg step_len len_slice len_str len_const step_extract extractV nth step_convInt conv_int step_convStr step_slice step_idxAddr natOf_nat step_load step_index step_field step_fieldAddr step_build step_minmax
  step_alloc step_bslice bsliceV_some newV_some step_store step_append boolIs_b boolIs_t finQ_ret finQ_normal ressE_nil ressE_cons resE_tmp consO_some initE_nil initE_cons pos_0 pos_1 pos_2 pos_3 pos_4 pos_5 pos_6 pos_7 pos_8 plain_bool plain_int plain_str plain_ptr plain_slice plain_map plain_agg plain_func plain_nilFunc V.undef oneOf_one oneOf_two ble_self bin_agg eqV_parts eqV_int eqV_bool eqV_str eqParts_nil eqParts_cons eqC_true eqC_false eqO_some eqR_eql eqR_neq
attribute [local simp] wp_dreg wpDs_nil wpDs_cons wantedE_none wantedE_some wpDGuard_true wpDGuard_lim wpDGuard_false wpDLim_true wpDVal_free wpDVal_lim back_limited next_limited foot_convStr foot_load foot_store foot_alloc foot_box foot_bslice foot_append foot_call okAll_nil okAll_cons pastsOf nthP
  wpRounds_succ roundQ_normal roundQ_ret roundQ_exit cells_int cells_bool cells_str cells_agg cells_slice few_alloc lawOut_nil lawOut_one step_box newV alloc_dir backv back_back back_few next_back few_next resE_cell first_fewC grow_none grow_some cellsAt_zero cellsAt_succ ownAt_zero ownAt_succ loadC_some storeC_some firstC_some growC_some load_d convStr_d convStr_d0 store_d append_d2 append_d1 first_d2 first_d1 cut takeN nth splice over idOf okPair_dd okPair_dc okPair_cd okPair_cc anyIn_nil anyIn_same meets_nil meets_nil' meets_cons mem_nil mem_cons nbeq_dec blt_dec ble_dec fill repN firstNo lenOf fieldAddrV fieldV part natOf_zero natOf_one
open Go.Vabs.Ph Go.Vabs.Fl
/- THE REFERENCE'S ARITHMETIC -/
def WithinF (call : CallT) (g : Nat) : Prop := ∀ n a b st, call g [.int .i64 n, .int .i64 a, .int .i64 b] st = some (.int .i64 (max a (min b n)), st)
theorem WithinF.code {base : CallT} {g lf : Nat} : WithinF (withF base g lf Within_c) g := fun n a b st => by
  rw [withF_same]
  refine enter_eq ?_
  simp [mm_min, mm_max]
theorem ClipF.ref {base : CallT} {g m lf : Nat} (h : WithinF base m) : ClipF (withF base g lf (rClip_c m)) g := fun n st => by
  rw [withF_same]
  refine enter_eq ?_
  have e : (Int.negSucc 2147483646) = -2147483647 := rfl
  have e2 : max (-2147483647) (min 2147483647 n) = clip n := by unfold clip; omega
  simp [h _ _ _ _, e, e2]
theorem ClipF.ref2 {base : CallT} {g m lf : Nat} (h : ClipF base m) : ClipF (withF base g lf (rclip_c m)) g := fun n st => by
  rw [withF_same]
  refine enter_eq ?_
  simp [h _ _]
theorem FloorF.ref {base : CallT} {g lf : Nat} : FloorF (withF base g lf Floor_c) g := fun a b st h1 h2 h3 h4 => by
  rw [withF_same]
  refine enter_eq ?_
  have e1 : Int.tdiv a b = a / b := Int.tdiv_eq_ediv_of_nonneg h1
  have b1 := Int.ediv_nonneg h1 (show 0 ≤ b by omega)
  have b2 := Int.ediv_le_self b h1
  have h0 := Int.tmod_nonneg b h1
  simp (disch := omega) [bin_quo, bin_rem, e1, wrap_i, dlt_f]
theorem DivF.ref {base : CallT} {g nc nf lf : Nat} (hc : ClipF base nc) (hf : FloorF base nf) : DivF (Vabs.withF base g lf (rDiv_c nc nf)) g := fun a b st h1 h2 => by
  rw [withF_same]
  refine enter_eq ?_
  have a1 : 0 ≤ clip a := by unfold clip; omega
  have b1 : 0 < clip b := by unfold clip; omega
  have a2 := clip_le a
  have b2 := clip_le b
  have f1 := fun st => hf (clip a * 65536) (clip b) st (by omega) (by omega) b1 (by omega)
  unfold divI
  have q1 := Int.ediv_nonneg (show 0 ≤ clip a * 65536 by omega) (show 0 ≤ clip b by omega)
  have c1 := fun st => hc a st
  have c2 := fun st => hc b st
  have c3 := fun st => hc (clip a * 65536 / clip b) st
  simp (disch := omega) [c1, c2, c3, f1, wrap_i, deq_f, dlt_f]
theorem ModF.ref {base : CallT} {g lf : Nat} : ModF (Vabs.withF base g lf mod_c) g := fun a n st h1 h2 => by
  rw [withF_same]
  refine enter_eq ?_
  have e := modI_eq (a := a) h1
  have b1 := Int.lt_tmod_of_pos a h1
  have b2 := Int.tmod_lt_of_pos a h1
  have e2 : Int.tmod a n = if 0 ≤ a then a % n else -((-a) % n) := by
    split
    · exact Int.tmod_eq_emod_of_nonneg (by assumption)
    · rw [← Int.tmod_eq_emod_of_nonneg (show 0 ≤ -a by omega), Int.neg_tmod, Int.neg_neg]
  by_cases h0 : Int.tmod a n < 0
  · have e3 : modI a n = Int.tmod a n + n := by
      unfold modI
      rw [Int.tmod_eq_emod_of_nonneg (by omega), Int.emod_eq_of_lt (by omega) (by omega)]
    simp (disch := omega) [bin_rem, wrap_i, dlt_t, e3, h0]
  · have e3 : modI a n = Int.tmod a n := by
      unfold modI
      rw [Int.tmod_eq_emod_of_nonneg (show 0 ≤ Int.tmod a n + n by omega), Int.add_emod_right, Int.emod_eq_of_lt (by omega) (by omega)]
    simp (disch := omega) [bin_rem, dlt_f, e3]
/- MIX -/
def RmixF (call : CallT) (g : Nat) : Prop := ∀ x y t st, by8 x → by8 y → 0 ≤ t → t ≤ 65536 → call g [.int .i64 x, .int .i64 y, .int .i64 t] st = some (.int .i64 (mixI x y t), st)
theorem RmixF.code {base : CallT} {g lf : Nat} : RmixF (withF base g lf rmix_c) g := fun x y t st hx hy h1 h2 => by
  rw [withF_same]
  have a1 := mul_bd hx.1 hx.2 (show 0 ≤ 65536 - t by omega) (show 65536 - t ≤ 65536 by omega)
  have a2 := mul_bd hy.1 hy.2 h1 h2
  have a3 := mix_in hx hy h1 h2
  unfold by8 at a3
  unfold mixI at a3 ⊢
  refine enter_eq ?_
  simp (disch := omega) [bin_quo, wrap_i]
theorem RmixF.other {call : CallT} {n g : Nat} {l : List V → St → Option (V × St)} (h : RmixF call n) (hne : n ≠ g) : RmixF (withL call g l) n := fun x y t st a b c d => by rw [withL_other hne]; exact h x y t st a b c d
theorem rmix_run {call : CallT} {nt nm : Nat} (ht : PxF Px.v call nt) (hm : RmixF call nm) {p q : Px} {t : Int} (hp : p.ok) (hq : q.ok) : ∃ s1, enterF call 1 [p.v, q.v, .int .i64 t] (few []) (rMix_c nt nm) = some ((mixP p q (unit16 t)).v, s1) := by
  have t1 := fun st => ht p st hp
  have t2 := fun st => ht q st hq
  have hu := unit_in t
  have m1 := fun st => hm p.r q.r (unit16 t) st hp.1 hq.1 hu.1 hu.2
  have m2 := fun st => hm p.g q.g (unit16 t) st hp.2.1 hq.2.1 hu.1 hu.2
  have m3 := fun st => hm p.b q.b (unit16 t) st hp.2.2.1 hq.2.2.1 hu.1 hu.2
  have m4 := fun st => hm p.a q.a (unit16 t) st hp.2.2.2 hq.2.2.2 hu.1 hu.2
  obtain ⟨r, g, b, a⟩ := p
  obtain ⟨r', g', b', a'⟩ := q
  unfold Px.v at t1 t2 ⊢
  unfold mixP
  have eu : max 0 (min 65536 t) = unit16 t := by unfold unit16; omega
  refine enter_ex ?_
  simp (disch := omega) [load_fewC, store_fewC, t1, t2, mm_minc, mm_maxc, mm_nil, eu, m1, m2, m3, m4]
/- A SLICE BETWEEN TWO FLAT ARGUMENTS -/
noncomputable section
def shapeM : Shape where
  pick := fun args => match args with
    | [a, s, t] => if a.flat = true ∧ isSl s = true ∧ t.flat = true then some (s, [a, t]) else none
    | _ => none
  put := fun rest s0 => match rest with
    | [a, t] => [a, s0, t]
    | _ => []
  ok := by
    intro args s rest hp τ s0 h
    split at hp
    · split at hp
      · rename_i hc
        cases hp
        exact ⟨fun ι x hx => flat_R hc.1 hx, sl_up hc.2.1 h, fun ι x hx => flat_R hc.2.2 hx, trivial⟩
      · cases hp
    · cases hp
def shapeS : Shape where
  pick := fun args => match args with
    | [s] => if isSl s = true then some (s, []) else none
    | _ => none
  put := fun rest s0 => [s0]
  ok := by
    intro args s rest hp τ s0 h
    split at hp
    · split at hp
      · rename_i hc
        cases hp
        exact ⟨sl_up hc h, trivial⟩
      · cases hp
    · cases hp
end

end Go.Vabs.Ln
