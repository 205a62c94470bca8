/- Lemmas for this claim, text Se. No condition. -/
import Derived.Test.YtcgiiomghmffbaaVabsSb
import Derived.Test.YtcgiiomghmffbaaVabsLb
namespace Go.Vabs.Se
set_option linter.unusedVariables false
set_option linter.unusedSimpArgs false
set_option maxRecDepth 10000
attribute [local simp] wp_skip wp_ret wp_exit wp_reg wp_seq wp_cond wp_block thenQ_normal thenQ_ret thenQ_exit blockQ_normal blockQ_ret blockQ_exit wpCond_true wpCond_false wpOps_nil wpVal_some wpGuard_true wpGuard_false wpOps_guard wpOps_cons
  put_at put_no ev_c ev_slot posEq_h posEq_o posEq_i posEq_ho posEq_hi posEq_oh posEq_ih posEq_oi posEq_io sel_true sel_false
  okv_some step_mv step_call step_pick pickV_bool step_bin bin_add bin_sub bin_mul bin_eql bin_neq bin_lss bin_leq bin_gtr bin_geq bin_eqb bin_neb bin_eqs bin_nes step_un un_not un_neg step_len len_slice len_str len_const step_extract extractV nth step_convInt conv_int step_convStr step_slice step_idxAddr natOf_nat step_load step_index step_field step_fieldAddr step_build step_minmax
  step_alloc step_bslice bsliceV_some newV_some step_store step_append boolIs_b boolIs_t finQ_ret finQ_normal ressE_nil ressE_cons resE_tmp consO_some initE_nil initE_cons pos_0 pos_1 pos_2 pos_3 pos_4 pos_5 pos_6 pos_7 pos_8 plain_bool plain_int plain_str plain_ptr plain_slice plain_map plain_agg plain_func plain_nilFunc V.undef oneOf_one oneOf_two ble_self
open Go.Vabs.Pk Go.Vabs.Ph Go.Vabs.Sa Go.Vabs.Sb Go.Vabs.Sc Go.Vabs.Sd
attribute [local simp] step_nilchk nilchk_ptr cells_int cells_bool cells_str cells_slice cells_ptr cells_agg fieldAddrV natOf_zero fill splice over newV step_appendZ
  wp_dreg wpDs_nil wpDs_cons wantedE_none wantedE_some wpDGuard_true wpDGuard_lim wpDGuard_false wpDLim_true wpDVal_free wpDVal_lim back_limited next_limited limF_dir foot_load foot_convStr okAll_nil okAll_cons pastsOf nthP ahead few_next load_limited convStr_limited blt_dec okPair_dd okPair_dc okPair_cd okPair_cc anyIn_nil anyIn_same anyIn_cons meets_nil meets_nil'
theorem keep_app {os l : List (Option AObj)} {i : Nat} {o : AObj} (ho : (os[i]?).join = some o) : ((os ++ l)[i]?).join = some o := by rw [join_app (join_lt ho)]; exact ho
theorem VersF_code {base : CallT} {g lf lf' nC : Nat} (hlf : 4 ≤ lf') (hC : ContF lf' base nC) : VersF (Vabs.withF base g lf (versioned_c nC)) g := fun os v bs h1 h2 => ⟨_, by rw [withF_same]; exact vers_run hlf hC h1 h2⟩
end Go.Vabs.Se

namespace Go.Vabs.Sg
set_option linter.unusedVariables false
set_option linter.unusedSimpArgs false
set_option maxRecDepth 10000
def ROpen_c (n_Num : Nat) (n_RTable : Nat) (n_RPart : Nat) : AFunc := AFunc.mk 113 (.seq (.reg [AOper.mk (some (.i .h)) (.mv (.c (.ptr none))) none, AOper.mk (some (.o (.o .h))) (.mv (.c (.int .i64 (.ofNat 0)))) none]) (.seq (.seq (.reg [AOper.mk (some (.o (.o (.i (.o .h))))) (.len .slice (.t .h)) none, AOper.mk (some (.i (.o (.i (.o .h))))) (.bin .lss (.val .int) (.t (.o (.o (.i (.o .h))))) (.c (.int .i64 (.ofNat 12)))) none]) (.cond (.t (.i (.o (.i (.o .h))))) (.seq (.reg [AOper.mk (some (.i .h)) (.mv (.c (.ptr none))) none, AOper.mk (some (.o (.o .h))) (.mv (.c (.int .i64 (.ofNat 3)))) none]) .ret) .skip)) (.seq (.reg [AOper.mk (some (.i (.i (.i (.o .h))))) (.slice (.slice 1) (.t .h) none (some (.c (.int .i64 (.ofNat 4)))) none) none, AOper.mk (some (.o (.o (.o (.i .h))))) (.conv .toStr (.t (.i (.i (.i (.o .h)))))) none, AOper.mk (some (.i (.o .h))) (.mv (.t (.o (.o (.o (.i .h)))))) none]) (.seq (.seq (.reg [AOper.mk (some (.o (.i (.o (.i .h))))) (.bin .neq (.val .str) (.t (.i (.o .h))) (.c (.str [0, 1, 0, 0]))) none, AOper.mk (some (.i (.i (.o (.i .h))))) (.mv (.t (.o (.i (.o (.i .h)))))) none, AOper.mk (some (.i (.o (.i (.i .h))))) (.bin .neq (.val .str) (.t (.i (.o .h))) (.c (.str [79, 84, 84, 79]))) (some (.i (.i (.o (.i .h))), true)), AOper.mk (some (.o (.i (.i (.i .h))))) (.pick (.t (.i (.i (.o (.i .h))))) (.t (.i (.o (.i (.i .h))))) (.c (.bool false))) none, AOper.mk (some (.i (.i (.i (.i .h))))) (.mv (.t (.o (.i (.i (.i .h)))))) none, AOper.mk (some (.i (.o (.o (.o (.o .h)))))) (.bin .neq (.val .str) (.t (.i (.o .h))) (.c (.str [116, 114, 117, 101]))) (some (.i (.i (.i (.i .h))), true)), AOper.mk (some (.o (.i (.o (.o (.o .h)))))) (.pick (.t (.i (.i (.i (.i .h))))) (.t (.i (.o (.o (.o (.o .h)))))) (.c (.bool false))) none]) (.cond (.t (.o (.i (.o (.o (.o .h)))))) (.seq (.reg [AOper.mk (some (.i .h)) (.mv (.c (.ptr none))) none, AOper.mk (some (.o (.o .h))) (.mv (.c (.int .i64 (.ofNat 2)))) none]) .ret) .skip)) (.seq (.reg [AOper.mk (some (.i (.o (.i (.o (.o .h)))))) (.call n_Num [.t .h, .c (.int .i64 (.ofNat 4)), .c (.int .i64 (.ofNat 2))]) none, AOper.mk (some (.o (.i (.i (.o (.o .h)))))) (.extract (.t (.i (.o (.i (.o (.o .h)))))) 0) none, AOper.mk (some (.i (.i (.i (.o (.o .h)))))) (.extract (.t (.i (.o (.i (.o (.o .h)))))) 1) none, AOper.mk (some (.o (.i .h))) (.mv (.t (.o (.i (.i (.o (.o .h))))))) none, AOper.mk (some (.i (.i .h))) (.mv (.t (.i (.i (.i (.o (.o .h))))))) none]) (.seq (.seq (.reg [AOper.mk (some (.i (.o (.o (.i (.o .h)))))) (.bin .gtr (.val .int) (.t (.o (.i .h))) (.c (.int .i64 (.ofNat 64)))) none]) (.cond (.t (.i (.o (.o (.i (.o .h)))))) (.seq (.reg [AOper.mk (some (.i .h)) (.mv (.c (.ptr none))) none, AOper.mk (some (.o (.o .h))) (.mv (.c (.int .i64 (.ofNat 4)))) none]) .ret) .skip)) (.seq (.seq (.reg [AOper.mk (some (.i (.i (.o (.i (.o .h)))))) (.len .slice (.t .h)) none, AOper.mk (some (.i (.o (.i (.i (.o .h)))))) (.bin .mul (.val .int) (.c (.int .i64 (.ofNat 16))) (.t (.o (.i .h)))) none, AOper.mk (some (.o (.i (.i (.i (.o .h)))))) (.bin .add (.val .int) (.c (.int .i64 (.ofNat 12))) (.t (.i (.o (.i (.i (.o .h))))))) none, AOper.mk (some (.i (.i (.i (.i (.o .h)))))) (.bin .lss (.val .int) (.t (.i (.i (.o (.i (.o .h)))))) (.t (.o (.i (.i (.i (.o .h))))))) none]) (.cond (.t (.i (.i (.i (.i (.o .h)))))) (.seq (.reg [AOper.mk (some (.i .h)) (.mv (.c (.ptr none))) none, AOper.mk (some (.o (.o .h))) (.mv (.c (.int .i64 (.ofNat 3)))) none]) .ret) .skip)) (.seq (.reg [AOper.mk (some (.o (.o (.o (.o (.i .h)))))) (.build [.slice none 0 0 0 true, .slice none 0 0 0 true] []) none, AOper.mk (some (.i (.o (.o (.o (.i .h)))))) (.box (.t (.o (.o (.o (.o (.i .h))))))) none, AOper.mk (some (.o (.o (.o .h)))) (.mv (.t (.i (.o (.o (.o (.i .h))))))) none]) (.seq (.seq (.reg [AOper.mk (some (.i (.o (.o .h)))) (.mv (.c (.int .i64 (.ofNat 0)))) none]) (.block 0 (.loop (.seq (.seq (.reg [AOper.mk (some (.o (.o (.i (.o (.i .h)))))) (.bin .lss (.val .int) (.t (.i (.o (.o .h)))) (.t (.o (.i .h)))) none]) (.cond (.t (.o (.o (.i (.o (.i .h)))))) .skip (.exit 0))) (.seq (.block 1 (.seq (.reg [AOper.mk (some (.i (.o (.o (.i (.i .h)))))) (.bin .mul (.val .int) (.c (.int .i64 (.ofNat 16))) (.t (.i (.o (.o .h))))) none, AOper.mk (some (.o (.i (.o (.i (.i .h)))))) (.bin .add (.val .int) (.c (.int .i64 (.ofNat 12))) (.t (.i (.o (.o (.i (.i .h))))))) none, AOper.mk (some (.o (.o (.i (.i (.i .h)))))) (.bin .mul (.val .int) (.c (.int .i64 (.ofNat 16))) (.t (.i (.o (.o .h))))) none, AOper.mk (some (.i (.o (.i (.i (.i .h)))))) (.bin .add (.val .int) (.c (.int .i64 (.ofNat 28))) (.t (.o (.o (.i (.i (.i .h))))))) none, AOper.mk (some (.o (.i (.i (.i (.i .h)))))) (.slice (.slice 1) (.t .h) (some (.t (.o (.i (.o (.i (.i .h))))))) (some (.t (.i (.o (.i (.i (.i .h))))))) none) none, AOper.mk (some (.o (.i (.o .h)))) (.mv (.t (.o (.i (.i (.i (.i .h))))))) none]) (.seq (.reg [AOper.mk (some (.i (.o (.o (.o (.o (.o .h))))))) (.call n_Num [.t (.o (.i (.o .h))), .c (.int .i64 (.ofNat 8)), .c (.int .i64 (.ofNat 4))]) none, AOper.mk (some (.o (.i (.o (.o (.o (.o .h))))))) (.extract (.t (.i (.o (.o (.o (.o (.o .h))))))) 0) none, AOper.mk (some (.i (.i (.o (.o (.o (.o .h))))))) (.extract (.t (.i (.o (.o (.o (.o (.o .h))))))) 1) none, AOper.mk (some (.i (.i (.o .h)))) (.mv (.t (.o (.i (.o (.o (.o (.o .h)))))))) none, AOper.mk (some (.o (.o (.i .h)))) (.mv (.t (.i (.i (.o (.o (.o (.o .h)))))))) none]) (.seq (.reg [AOper.mk (some (.o (.i (.i (.o (.o (.o .h))))))) (.call n_Num [.t (.o (.i (.o .h))), .c (.int .i64 (.ofNat 12)), .c (.int .i64 (.ofNat 4))]) none, AOper.mk (some (.i (.i (.i (.o (.o (.o .h))))))) (.extract (.t (.o (.i (.i (.o (.o (.o .h))))))) 0) none, AOper.mk (some (.o (.o (.o (.i (.o (.o .h))))))) (.extract (.t (.o (.i (.i (.o (.o (.o .h))))))) 1) none, AOper.mk (some (.i (.o (.i .h)))) (.mv (.t (.i (.i (.i (.o (.o (.o .h)))))))) none, AOper.mk (some (.o (.i (.i .h)))) (.mv (.t (.o (.o (.o (.i (.o (.o .h)))))))) none]) (.seq (.seq (.reg [AOper.mk (some (.o (.o (.i (.i (.o (.o .h))))))) (.slice (.slice 1) (.t (.o (.i (.o .h)))) none (some (.c (.int .i64 (.ofNat 4)))) none) none, AOper.mk (some (.i (.o (.i (.i (.o (.o .h))))))) (.conv .toStr (.t (.o (.o (.i (.i (.o (.o .h)))))))) none, AOper.mk (some (.o (.i (.i (.i (.o (.o .h))))))) (.call n_RTable [.t (.o (.o (.o .h))), .t (.i (.o (.i (.i (.o (.o .h))))))]) none, AOper.mk (some (.i (.i (.i (.i (.o (.o .h))))))) (.extract (.t (.o (.i (.i (.i (.o (.o .h))))))) 0) none, AOper.mk (some (.o (.o (.o (.o (.i (.o .h))))))) (.extract (.t (.o (.i (.i (.i (.o (.o .h))))))) 1) none, AOper.mk (some (.i (.i (.i .h)))) (.mv (.t (.i (.i (.i (.i (.o (.o .h)))))))) none, AOper.mk (some (.o (.o (.o (.o .h))))) (.mv (.t (.o (.o (.o (.o (.i (.o .h)))))))) none]) (.seq (.reg [AOper.mk (some (.i (.o (.o (.o (.i (.o .h))))))) (.mv (.t (.o (.o (.o (.o .h)))))) none]) (.cond (.t (.i (.o (.o (.o (.i (.o .h))))))) (.seq (.reg [AOper.mk (some (.i .h)) (.mv (.c (.ptr none))) none, AOper.mk (some (.o (.o .h))) (.mv (.c (.int .i64 (.ofNat 2)))) none]) .ret) .skip))) (.seq (.reg [AOper.mk (some (.o (.i (.i (.o (.i (.o .h))))))) (.call n_RPart [.t .h, .t (.i (.i (.o .h))), .t (.i (.o (.i .h)))]) none, AOper.mk (some (.i (.i (.i (.o (.i (.o .h))))))) (.extract (.t (.o (.i (.i (.o (.i (.o .h))))))) 0) none, AOper.mk (some (.o (.o (.o (.i (.i (.o .h))))))) (.extract (.t (.o (.i (.i (.o (.i (.o .h))))))) 1) none, AOper.mk (some (.i (.o (.o (.o .h))))) (.mv (.t (.i (.i (.i (.o (.i (.o .h)))))))) none, AOper.mk (some (.o (.i (.o (.o .h))))) (.mv (.t (.o (.o (.o (.i (.i (.o .h)))))))) none]) (.seq (.seq (.reg [AOper.mk (some (.o (.i (.o (.i (.i (.o .h))))))) (.un .not (.t (.o (.i (.o (.o .h)))))) none]) (.cond (.t (.o (.i (.o (.i (.i (.o .h))))))) (.seq (.reg [AOper.mk (some (.i .h)) (.mv (.c (.ptr none))) none, AOper.mk (some (.o (.o .h))) (.mv (.c (.int .i64 (.ofNat 3)))) none]) .ret) .skip)) (.seq (.dreg [(AOper.mk (some (.i (.i (.o (.i (.i (.o .h))))))) (.mv (.t (.o (.o (.o .h))))) none, []), (AOper.mk (some (.o (.o (.i (.i (.i (.o .h))))))) (.mv (.t (.o (.o (.o .h))))) none, []), (AOper.mk (some (.i (.o (.i (.i (.i (.o .h))))))) (.nilchk (.t (.o (.o (.i (.i (.i (.o .h)))))))) none, []), (AOper.mk (some (.o (.i (.i (.i (.i (.o .h))))))) (.fieldAddr 0 (.t (.i (.o (.i (.i (.i (.o .h)))))))) none, []), (AOper.mk (some (.i (.i (.i (.i (.i (.o .h))))))) (.load false 1 (.t (.o (.i (.i (.i (.i (.o .h)))))))) none, [7, 8]), (AOper.mk (some (.o (.o (.o (.o (.o (.i .h))))))) (.mv (.t (.o (.i (.o .h))))) none, []), (AOper.mk (some (.i (.o (.o (.o (.o (.i .h))))))) (.slice (.slice 1) (.t (.o (.o (.o (.o (.o (.i .h))))))) none (some (.c (.int .i64 (.ofNat 4)))) none) none, []), (AOper.mk (some (.o (.i (.o (.o (.o (.i .h))))))) (.conv .toStr (.t (.i (.o (.o (.o (.o (.i .h)))))))) none, [4]), (AOper.mk (some (.i (.i (.o (.o (.o (.i .h))))))) (.bslice 1 1 [.str []] [(0, (1, .t (.o (.i (.o (.o (.o (.i .h))))))))]) none, [4]), (AOper.mk (some (.o (.o (.i (.o (.o (.i .h))))))) (.append 1 16 (.t (.i (.i (.i (.i (.i (.o .h))))))) (.t (.i (.i (.o (.o (.o (.i .h)))))))) none, []), (AOper.mk (some (.i (.o (.i (.o (.o (.i .h))))))) (.nilchk (.t (.i (.i (.o (.i (.i (.o .h)))))))) none, []), (AOper.mk (some (.o (.i (.i (.o (.o (.i .h))))))) (.fieldAddr 0 (.t (.i (.o (.i (.o (.o (.i .h)))))))) none, []), (AOper.mk none (.store 1 (.t (.o (.i (.i (.o (.o (.i .h))))))) (.t (.o (.o (.i (.o (.o (.i .h)))))))) none, [])]) (.reg [AOper.mk (some (.i (.o (.o (.i (.o (.i .h))))))) (.nilchk (.t (.o (.o (.o .h))))) none, AOper.mk (some (.o (.i (.o (.i (.o (.i .h))))))) (.fieldAddr 1 (.t (.i (.o (.o (.i (.o (.i .h)))))))) none, AOper.mk (some (.i (.i (.o (.i (.o (.i .h))))))) (.load false 1 (.t (.o (.i (.o (.i (.o (.i .h)))))))) none, AOper.mk (some (.i (.o (.i (.i (.o (.i .h))))))) (.bslice 1 1 [.slice none 0 0 0 true] [(0, (1, .t (.i (.o (.o (.o .h))))))]) none, AOper.mk (some (.o (.i (.i (.i (.o (.i .h))))))) (.append 1 24 (.t (.i (.i (.o (.i (.o (.i .h))))))) (.t (.i (.o (.i (.i (.o (.i .h)))))))) none, AOper.mk (some (.i (.i (.i (.i (.o (.i .h))))))) (.nilchk (.t (.o (.o (.o .h))))) none, AOper.mk (some (.o (.o (.o (.o (.i (.i .h))))))) (.fieldAddr 1 (.t (.i (.i (.i (.i (.o (.i .h)))))))) none, AOper.mk none (.store 1 (.t (.o (.o (.o (.o (.i (.i .h))))))) (.t (.o (.i (.i (.i (.o (.i .h)))))))) none]))))))))) (.reg [AOper.mk (some (.o (.i (.i (.o (.i .h)))))) (.bin .add (.val .int) (.t (.i (.o (.o .h)))) (.c (.int .i64 (.ofNat 1)))) none, AOper.mk (some (.i (.o (.o .h)))) (.mv (.t (.o (.i (.i (.o (.i .h))))))) none])))))) (.seq (.reg [AOper.mk (some (.i .h)) (.mv (.t (.o (.o (.o .h))))) none, AOper.mk (some (.o (.o .h))) (.mv (.c (.int .i64 (.ofNat 0)))) none]) .ret)))))))))) [.tmp (.i .h), .tmp (.o (.o .h))]
def RTable_c : AFunc := AFunc.mk 32 (.seq (.reg [AOper.mk (some (.i (.o .h))) (.mv (.c (.slice none 0 0 0 true))) none, AOper.mk (some (.o (.i .h))) (.mv (.c (.bool false))) none]) (.seq (.seq (.reg [AOper.mk (some (.i (.i .h))) (.mv (.c (.int .i64 (.ofNat 0)))) none]) (.block 0 (.loop (.seq (.seq (.reg [AOper.mk (some (.o (.i (.o .h)))) (.nilchk (.t .h)) none, AOper.mk (some (.i (.i (.o .h)))) (.fieldAddr 0 (.t (.o (.i (.o .h))))) none, AOper.mk (some (.o (.o (.i .h)))) (.load false 1 (.t (.i (.i (.o .h))))) none, AOper.mk (some (.i (.o (.i .h)))) (.len .slice (.t (.o (.o (.i .h))))) none, AOper.mk (some (.o (.i (.i .h)))) (.bin .lss (.val .int) (.t (.i (.i .h))) (.t (.i (.o (.i .h))))) none]) (.cond (.t (.o (.i (.i .h)))) .skip (.exit 0))) (.seq (.block 1 (.seq (.reg [AOper.mk (some (.o (.i (.o (.o .h))))) (.nilchk (.t .h)) none, AOper.mk (some (.i (.i (.o (.o .h))))) (.fieldAddr 0 (.t (.o (.i (.o (.o .h)))))) none, AOper.mk (some (.o (.o (.i (.o .h))))) (.load false 1 (.t (.i (.i (.o (.o .h)))))) none, AOper.mk (some (.o (.i (.i (.o .h))))) (.idxAddr (.slice 1) (.t (.o (.o (.i (.o .h))))) (.t (.i (.i .h)))) none, AOper.mk (some (.i (.i (.i (.o .h))))) (.load false 1 (.t (.o (.i (.i (.o .h)))))) none, AOper.mk (some (.i (.o (.o (.i .h))))) (.bin .eql (.val .str) (.t (.i (.i (.i (.o .h))))) (.t (.o .h))) none]) (.cond (.t (.i (.o (.o (.i .h))))) (.seq (.reg [AOper.mk (some (.i (.i (.o (.i .h))))) (.nilchk (.t .h)) none, AOper.mk (some (.o (.o (.i (.i .h))))) (.fieldAddr 1 (.t (.i (.i (.o (.i .h)))))) none, AOper.mk (some (.i (.o (.i (.i .h))))) (.load false 1 (.t (.o (.o (.i (.i .h)))))) none, AOper.mk (some (.i (.i (.i (.i .h))))) (.idxAddr (.slice 1) (.t (.i (.o (.i (.i .h))))) (.t (.i (.i .h)))) none, AOper.mk (some (.o (.o (.o (.o (.o .h)))))) (.load false 1 (.t (.i (.i (.i (.i .h)))))) none, AOper.mk (some (.i (.o .h))) (.mv (.t (.o (.o (.o (.o (.o .h))))))) none, AOper.mk (some (.o (.i .h))) (.mv (.c (.bool true))) none]) .ret) .skip))) (.reg [AOper.mk (some (.o (.o (.o (.o .h))))) (.bin .add (.val .int) (.t (.i (.i .h))) (.c (.int .i64 (.ofNat 1)))) none, AOper.mk (some (.i (.i .h))) (.mv (.t (.o (.o (.o (.o .h)))))) none])))))) (.seq (.reg [AOper.mk (some (.i (.o .h))) (.mv (.c (.slice none 0 0 0 true))) none, AOper.mk (some (.o (.i .h))) (.mv (.c (.bool false))) none]) .ret))) [.tmp (.i (.o .h)), .tmp (.o (.i .h))]
attribute [local simp] wp_skip wp_ret wp_exit wp_reg wp_seq wp_cond wp_block thenQ_normal thenQ_ret thenQ_exit blockQ_normal blockQ_ret blockQ_exit wpCond_true wpCond_false wpOps_nil wpVal_some wpGuard_true wpGuard_false wpOps_guard wpOps_cons
  put_at put_no ev_c ev_slot posEq_h posEq_o posEq_i posEq_ho posEq_hi posEq_oh posEq_ih posEq_oi posEq_io sel_true sel_false
  okv_some step_mv step_call step_pick pickV_bool step_bin bin_add bin_sub bin_mul bin_eql bin_neq bin_lss bin_leq bin_gtr bin_geq bin_eqb bin_neb bin_eqs bin_nes step_un un_not un_neg step_len len_slice len_str len_const step_extract extractV nth step_convInt conv_int step_convStr step_slice step_idxAddr natOf_nat step_load step_index step_field step_fieldAddr step_build step_minmax
  step_alloc step_bslice bsliceV_some newV_some step_store step_append boolIs_b boolIs_t finQ_ret finQ_normal ressE_nil ressE_cons resE_tmp consO_some initE_nil initE_cons pos_0 pos_1 pos_2 pos_3 pos_4 pos_5 pos_6 pos_7 pos_8 plain_bool plain_int plain_str plain_ptr plain_slice plain_map plain_agg plain_func plain_nilFunc V.undef oneOf_one oneOf_two ble_self
open Go.Vabs.Pk Go.Vabs.Ph Go.Vabs.Sa Go.Vabs.Sb Go.Vabs.Sc
attribute [local simp] step_nilchk nilchk_ptr step_box cells_int cells_bool cells_str cells_slice cells_ptr cells_agg few_alloc lawOut_nil lawOut_one
  wp_dreg wpDs_nil wpDs_cons wantedE_none wantedE_some wpDGuard_true wpDGuard_lim wpDGuard_false wpDLim_true wpDVal_free wpDVal_lim back_limited next_limited limF_dir foot_load foot_store foot_bslice foot_append foot_convStr
  foot_box foot_call foot_alloc okAll_nil okAll_cons pastsOf nthP ahead alloc_dir backv back_back back_few next_back few_next load_limited convStr_limited okPair_dd okPair_dc okPair_cd okPair_cc anyIn_nil anyIn_same anyIn_cons meets_nil meets_nil' meets_cons mem_nil mem_cons nbeq_dec blt_dec ble_dec fieldAddrV natOf_zero
def lookT (t : List Nat) : List (List Nat) → List V → V
  | x :: ts, v :: vs => if x = t then .tuple [v, .bool true] else lookT t ts vs
  | _, _ => .tuple [.slice none 0 0 0 true, .bool false]
theorem lookT_drop {t : List Nat} {ts : List (List Nat)} {vs : List V} {k : Nat} {x : List Nat} {v : V} (h : ts[k]? = some x) (h' : vs[k]? = some v) : lookT t (ts.drop k) (vs.drop k) = if x = t then .tuple [v, .bool true] else lookT t (ts.drop (k + 1)) (vs.drop (k + 1)) := by
  obtain ⟨hk, he⟩ := List.getElem?_eq_some_iff.1 h
  obtain ⟨hk', he'⟩ := List.getElem?_eq_some_iff.1 h'
  rw [List.drop_eq_getElem_cons hk, he, List.drop_eq_getElem_cons hk', he']
  rfl
theorem lookT_no {t : List Nat} : ∀ {ts : List (List Nat)} {vs : List V}, ¬ t ∈ ts → lookT t ts vs = .tuple [.slice none 0 0 0 true, .bool false]
  | [], vs, _ => rfl
  | x :: ts, [], _ => rfl
  | x :: ts, v :: vs, h => by
    show (if x = t then _ else lookT t ts vs) = _
    rw [if_neg (fun e => h (by rw [e]; exact List.mem_cons_self ..))]
    exact lookT_no fun e => h (List.mem_cons_of_mem _ e)
theorem lookT_yes {t : List Nat} : ∀ {ts : List (List Nat)} {vs : List V}, ts.length = vs.length → t ∈ ts → ∃ v ∈ vs, lookT t ts vs = .tuple [v, .bool true]
  | x :: ts, v :: vs, hl, h => by
    show ∃ u ∈ _, (if x = t then _ else lookT t ts vs) = _
    by_cases e : x = t
    · rw [if_pos e]; exact ⟨v, List.mem_cons_self .., rfl⟩
    · rw [if_neg e]
      rcases List.mem_cons.1 h with h | h
      · exact absurd h.symm e
      · obtain ⟨u, hu, hh⟩ := lookT_yes (by simpa using hl) h
        exact ⟨u, List.mem_cons_of_mem _ hu, hh⟩
structure RAt (os : List (Option AObj)) (F q r : Nat) (ts : List (List Nat)) (vs : List V) : Prop where
  font : ∃ o, (os[F]?).join = some (.cells o [tagsV q ts.length, tagsV r ts.length])
  tags : ts ≠ [] → ∃ o, (os[q]?).join = some (.cells o (strsV ts))
  tabs : ts ≠ [] → ∃ o, (os[r]?).join = some (.cells o vs)
  len : vs.length = ts.length
  plain : ∀ v ∈ vs, v.plain = true
theorem RTable_run {call : CallT} {lf : Nat} {os : List (Option AObj)} {F q r : Nat} {ts : List (List Nat)} {vs : List V} (h : RAt os F q r ts vs) (t : List Nat) (hlf : ts.length < lf) (hs : ts.length ≤ 64) :
    enterF call lf [.ptr (some (F, 0)), .str t] (few os) RTable_c = some (lookT t ts vs, few os) := by
  obtain ⟨o1, hF⟩ := h.font
  have l0 : loadV (few os) false 1 (.ptr (some (F, 0))) = some (tagsV q ts.length) := (load_few hF).trans rfl
  have l1 : loadV (few os) false 1 (.ptr (some (F, 1))) = some (tagsV r ts.length) := (load_few hF).trans rfl
  have ll : lenV (few os) .slice (tagsV q ts.length) = some (.int .i64 (ts.length : Int)) := by
    unfold tagsV; split
    · rename_i h0; rw [h0]; rfl
    · rfl
  refine enter_eq ?_
  simp
  refine wp_loop (fun k s st => ∃ i, i + k = ts.length ∧ st = few os ∧ s .h = .ptr (some (F, 0)) ∧ s (.o .h) = .str t ∧ s (.i (.i .h)) = .int .i64 (i : Int) ∧ lookT t ts vs = lookT t (ts.drop i) (vs.drop i)) ts.length ?_ hlf ?_
  · exact ⟨0, by omega, rfl, by simp, by simp, by simp, rfl⟩
  · rintro k s st ⟨i, hi, rfl, s1, s2, s3, s4⟩
    cases k with
    | zero =>
      have : i = ts.length := by omega
      subst this
      rw [List.drop_length] at s4
      have s4 : lookT t ts vs = .tuple [.slice none 0 0 0 true, .bool false] := s4
      simp (disch := omega) [s1, s2, s3, s4, l0, ll, dltn_f]
    | succ k =>
      have hlt : i < ts.length := by omega
      have hne : ts ≠ [] := by intro e; rw [e] at hlt; simp at hlt
      obtain ⟨x, hx⟩ : ∃ x, ts[i]? = some x := ⟨_, List.getElem?_eq_getElem hlt⟩
      obtain ⟨v, hv⟩ : ∃ v, vs[i]? = some v := ⟨_, List.getElem?_eq_getElem (by rw [h.len]; exact hlt)⟩
      obtain ⟨o2, hq⟩ := h.tags hne
      obtain ⟨o3, hr⟩ := h.tabs hne
      have hvp := h.plain v (List.mem_of_getElem? hv)
      have lx : loadV (few os) false 1 (.ptr (some (q, i))) = some (.str x) := by rw [load_few hq, strsV_at, hx]; rfl
      have lv : loadV (few os) false 1 (.ptr (some (r, i))) = some v := by rw [load_few hr, hv]
      obtain ⟨n, hn⟩ : ∃ n, n = ts.length := ⟨_, rfl⟩
      have tq : tagsV q ts.length = .slice (some (q, 0)) 1 n n false := by unfold tagsV; rw [if_neg (by omega), hn]
      have tr : tagsV r ts.length = .slice (some (r, 0)) 1 n n false := by unfold tagsV; rw [if_neg (by omega), hn]
      rw [tq] at l0 ll
      rw [tr] at l1
      have hin : i < n := by omega
      rw [lookT_drop hx hv] at s4
      by_cases hc : x = t
      · rw [if_pos hc] at s4
        simp (disch := omega) [s1, s2, s3, s4, l0, l1, hn, hin, hlt, dltn_t, natOf_int, idxAddr_slice, lx, lv, hc, hvp]
      · rw [if_neg hc] at s4
        simp (disch := omega) [s1, s2, s3, l0, hn, hin, hlt, dltn_t, natOf_int, idxAddr_slice, lx, hc, wrap_i]
        exact ⟨k, by omega, i + 1, by omega, by simp, s4⟩
def RTableF (call : CallT) (g : Nat) : Prop := ∀ (os : List (Option AObj)) (F q r : Nat) (ts : List (List Nat)) (vs : List V) (t : List Nat), RAt os F q r ts vs → ts.length ≤ 64 → call g [.ptr (some (F, 0)), .str t] (few os) = some (lookT t ts vs, few os)
theorem RTableF.code {base : CallT} {g lf : Nat} (hlf : 65 ≤ lf) : RTableF (Vabs.withF base g lf RTable_c) g := fun os F q r ts vs t h hs => by rw [withF_same]; exact RTable_run h t (by omega) hs
theorem growS {os : List (Option AObj)} {q n bytes : Nat} {cs : List V} {v : V} (hn : n = cs.length) (hs : n ≤ 64) (hb : bytes ≤ 4096) (h : n ≠ 0 → (os[q]?).join = some (.cells true cs)) :
    appendV (few os) 1 bytes (tagsV q n) (some 1) (some [v]) = some (.slice (some (os.length, 0)) 1 (n + 1) (n + 1) false, few ((if n = 0 then os else os.set q none) ++ [some (AObj.cells true (cs ++ [v]))])) := by
  have hm : ∀ m, m ≤ 65 → (2 * m + 1024) * bytes ≤ 281474976710656 := fun m hm => by
    have : (2 * m + 1024) * bytes ≤ 1154 * 4096 := Nat.mul_le_mul (by omega) hb
    omega
  unfold tagsV
  split
  · rename_i h0
    subst h0
    have : cs = [] := by cases cs with | nil => rfl | cons _ _ => simp at hn
    subst this
    rw [grow_none, if_pos ⟨hm _ (by omega), by simp⟩]
    rfl
  · rename_i h0
    have hg := h h0
    have ho : ownAt os q = some cs := by rw [ownAt_eq, hg]
    rw [grow_some, ho, growC_some, if_pos ⟨hm _ (by omega), by simp, by omega⟩]
theorem num_sub {bs : List Nat} {a x z : Nat} (h : a + 16 ≤ bs.length) (hx : x + z ≤ 16) : num ((bs.drop a).take 16) (x : Int) z = num bs ((a + x : Nat) : Int) z := by
  have hl : ((bs.drop a).take 16).length = 16 := by rw [List.length_take, List.length_drop]; omega
  unfold num
  rw [if_pos (thereB_true.2 (by rw [hl]; omega)), if_pos (thereB_true.2 (by omega)), Int.toNat_natCast, Int.toNat_natCast, List.drop_take, List.take_take, List.drop_drop, Nat.min_eq_left (by omega)]
def slsV (L : List (List Nat × List Nat)) (ps : List Nat) : List V := List.zipWith (fun x p => V.slice (some (p, 0)) 1 x.2.length x.2.length false) L ps
theorem sls_len {L : List (List Nat × List Nat)} {ps : List Nat} (h : ps.length = L.length) : (slsV L ps).length = L.length := by
  unfold slsV
  rw [List.length_zipWith, h, Nat.min_self]
theorem sls_snoc {L : List (List Nat × List Nat)} {ps : List Nat} (h : ps.length = L.length) (x : List Nat × List Nat) (p : Nat) : slsV (L ++ [x]) (ps ++ [p]) = slsV L ps ++ [V.slice (some (p, 0)) 1 x.2.length x.2.length false] := by
  unfold slsV
  rw [List.zipWith_append h.symm]
  rfl
theorem sls_plain {L : List (List Nat × List Nat)} {ps : List Nat} : ∀ v ∈ slsV L ps, v.plain = true := by
  intro v hv
  unfold slsV at hv
  obtain ⟨i, hi, rfl⟩ := List.getElem_of_mem hv
  rw [List.getElem_zipWith]
  rfl
structure RFontAt (os : List (Option AObj)) (N F q r : Nat) (L : List (List Nat × List Nat)) (ps : List Nat) : Prop where
  font : (os[F]?).join = some (.cells true [tagsV q L.length, tagsV r L.length])
  tags : L ≠ [] → (os[q]?).join = some (.cells true (strsV (L.map (·.1))))
  sls : L ≠ [] → (os[r]?).join = some (.cells true (slsV L ps))
  tabs : ∀ (j p : Nat) (x : List Nat × List Nat), ps[j]? = some p → L[j]? = some x → (os[p]?).join = some (newBytes x.2)
  len : ps.length = L.length
  lo : N ≤ F ∧ N ≤ q ∧ N ≤ r ∧ ∀ p ∈ ps, N ≤ p
  ne : q ≠ F ∧ r ≠ F ∧ q ≠ r ∧ F ∉ ps ∧ q ∉ ps ∧ r ∉ ps ∧ ps.Nodup
theorem RFontAt.at_ {os : List (Option AObj)} {N F q r : Nat} {L : List (List Nat × List Nat)} {ps : List Nat} (h : RFontAt os N F q r L ps) : RAt os F q r (L.map (·.1)) (slsV L ps) :=
  ⟨⟨true, by rw [List.length_map]; exact h.font⟩, fun e => ⟨true, h.tags (fun e' => e (by rw [e']; rfl))⟩, fun e => ⟨true, h.sls (fun e' => e (by rw [e']; rfl))⟩, by rw [sls_len h.len, List.length_map], sls_plain⟩
def ROpenPost (os : List (Option AObj)) (bs : List Nat) (v : V) (st : St) : Prop :=
  (∃ e, fontS bs = .inl e ∧ v = errV e) ∨ ∃ L os' F q r ps, fontS bs = .inr L ∧ v = .tuple [.ptr (some (F, 0)), .int .i64 0] ∧ st = few os' ∧ RFontAt os' os.length F q r L ps ∧ (∀ i, i < os.length → (os'[i]?).join = (os[i]?).join)
set_option maxHeartbeats 4000000 in
theorem ROpen_run {call : CallT} {lf nN nT nP : Nat} (hlf : 66 ≤ lf) (hN : NumF call nN) (hT : RTableF call nT) (hP : L2.RPartF call nP)
    {os : List (Option AObj)} {v : V} {bs : List Nat} (h : bytesAt (few os) v = some bs) (hl : bs.length ≤ 140737488354000) (hlen : lenV (few os) .slice v = some (.int .i64 (bs.length : Int))) :
    ∃ w st', enterF call lf [v] (few os) (ROpen_c nN nT nP) = some (w, st') ∧ ROpenPost os bs w st' := by
  refine enter_wp ?_
  have hb := bytesAt_lt h
  have hcnt : cnt bs < 4294967296 := num_le hb (by omega)
  by_cases c1 : bs.length < 12
  · simp (disch := omega) [hlen, dlt_t]
    exact .inl ⟨3, by unfold fontS; rw [if_pos c1], rfl⟩
  obtain ⟨i0, o, c, f, own, cs, rfl, hnc, hg, hm, hcs⟩ := bytesAt_place h (by intro e; subst e; simp at c1)
  have hg0 : (os[i0]?).join = some (.cells own cs) := by rw [← few_get]; exact hg
  have hkind : convV (few os) .toStr (.slice (some (i0, o)) 1 4 c f) = some (.str (bs.take 4)) := by
    have := str_part (c := c) (f := f) (m := 4) hg0 hm hcs hb 0 (by omega)
    simpa using this
  obtain ⟨kd, hkd⟩ : ∃ kd, kd = bs.take 4 := ⟨_, rfl⟩
  rw [← hkd] at hkind
  have hn : call nN [.slice (some (i0, o)) 1 bs.length c f, .int .i64 4, .int .i64 2] (few os) = some (.tuple [.int .i64 (cnt bs : Int), .bool (num bs 4 2).isSome], few os) := hN (few os) _ bs 4 2 h (by omega) (by omega)
  by_cases c2 : kd ∈ versL
  rotate_left
  · have n1 : kd ≠ [0, 1, 0, 0] := fun e => c2 (by rw [e]; simp [versL])
    have n2 : kd ≠ [79, 84, 84, 79] := fun e => c2 (by rw [e]; simp [versL])
    have n3 : kd ≠ [116, 114, 117, 101] := fun e => c2 (by rw [e]; simp [versL])
    simp (disch := omega) [hlen, dlt_f, slice_hiF, shiftA_some, hkind, n1, n2, n3]
    exact .inl ⟨2, by unfold fontS; rw [if_neg c1, if_pos (by rw [← hkd]; exact c2)], rfl⟩
  have hver : ∃ b1 b2 b3 : Bool, decide (kd = [0, 1, 0, 0]) = b1 ∧ decide (kd = [79, 84, 84, 79]) = b2 ∧ decide (kd = [116, 114, 117, 101]) = b3 ∧ (b1 || b2 || b3) = true := by
    refine ⟨_, _, _, rfl, rfl, rfl, ?_⟩
    simp only [versL, List.mem_cons, List.not_mem_nil, or_false] at c2
    rcases c2 with rfl | rfl | rfl <;> decide
  have hfail : fontS bs = (if 64 < cnt bs then .inl 4 else if bs.length < 12 + cnt bs * 16 then .inl 3 else tabs bs (cnt bs) []) := by
    unfold fontS; rw [if_neg c1, if_neg (by rw [← hkd]; simpa using c2)]
  have body : ∀ (s : Env), s .h = .slice (some (i0, o)) 1 bs.length c f → True := fun _ _ => trivial
  simp only [versL, List.mem_cons, List.not_mem_nil, or_false] at c2
  by_cases c3 : 64 < cnt bs
  · rw [if_pos c3] at hfail
    rcases c2 with hk | hk | hk <;> rw [hk] at hkind <;> simp (disch := omega) [hlen, dlt_f, dlt_t, dltn_t, slice_hiF, shiftA_some, hkind, hn] <;> exact .inl ⟨4, hfail, rfl⟩
  by_cases c4 : bs.length < 12 + cnt bs * 16
  · rw [if_neg c3, if_pos c4] at hfail
    rcases c2 with hk | hk | hk <;> rw [hk] at hkind <;> simp (disch := omega) [hlen, dlt_f, dlt_t, dltn_t, dltn_f, slice_hiF, shiftA_some, hkind, hn, wrap_i] <;> exact .inl ⟨3, hfail, rfl⟩
  rw [if_neg c3, if_neg c4] at hfail
  rcases c2 with hk | hk | hk <;> rw [hk] at hkind
  all_goals
    simp (disch := omega) [hlen, dlt_f, dlt_t, dltn_t, dltn_f, slice_hiF, shiftA_some, hkind, hn, wrap_i, fill, newV]
    refine wp_loop (fun k s st => ∃ L os' ps q r, st = few os' ∧ RFontAt os' os.length os.length q r L ps ∧ (∀ i, i < os.length → (os'[i]?).join = (os[i]?).join) ∧ L.length + k = cnt bs ∧ tabs bs k L = fontS bs ∧
      s .h = .slice (some (i0, o)) 1 bs.length c f ∧ s (.o (.o (.o .h))) = .ptr (some (os.length, 0)) ∧ s (.o (.i .h)) = .int .i64 (cnt bs : Int) ∧ s (.i (.o (.o .h))) = .int .i64 (L.length : Int)) (cnt bs) ?_ (by omega) ?_
    · refine ⟨[], _, [], os.length + 1, os.length + 2, rfl, ⟨?_, ?_, ?_, ?_, ?_, ?_, ?_⟩, ?_, ?_, ?_, ?_, ?_, ?_, ?_⟩ <;> try simp [tagsV, slsV, hfail]
      exact fun i hi => join_app hi
    · rintro k s st ⟨L, os', ps, q, r, rfl, hF, hsame, hk', htabs, s1, s2, s3, s4⟩
      cases k with
      | zero =>
        have hkn : L.length = cnt bs := by omega
        have h5 : fontS bs = .inr L := by rw [← htabs]; rfl
        simp (disch := omega) [s1, s2, s3, s4, hkn, dlt_f, dltn_f]
        exact .inr ⟨L, os', _, q, r, ps, h5, rfl, rfl, hF, hsame⟩
      | succ k =>
        obtain ⟨n, hnL⟩ : ∃ n, n = L.length := ⟨_, rfl⟩
        rw [← hnL] at hk' s4
        have hin : i0 < os.length := join_lt hg0
        have hg' : (os'[i0]?).join = some (.cells own cs) := by rw [hsame i0 hin]; exact hg0
        have hB : bytesAt (few os') (.slice (some (i0, o)) 1 bs.length c f) = some bs := bytesAt_grow h hsame
        have hF0 := join_lt hF.font
        have hn16 : 12 + 16 * n + 16 ≤ bs.length := by omega
        obtain ⟨c', hc'⟩ : ∃ c', c' = c - (12 + 16 * n) := ⟨_, rfl⟩
        have hsl : sliceOp (.slice 1) (.slice (some (i0, o)) 1 bs.length c f) (some (.int .i64 (12 + 16 * (n : Int)))) (some (.int .i64 (28 + 16 * (n : Int)))) none = some (.slice (some (i0, o + (12 + 16 * n))) 1 16 c' f) := by
          rw [slice_lohiF (by omega) (by omega) (by omega) (by omega), show (12 + 16 * (n : Int)).toNat = 12 + 16 * n from by omega, show (28 + 16 * (n : Int)).toNat - (12 + 16 * n) = 16 from by omega, Nat.mul_one, ← hc']
          rfl
        have hrc : (cs.drop (o + (12 + 16 * n))).take 16 = bytesV ((bs.drop (12 + 16 * n)).take 16) := by
          rw [← bytesV_take, ← bytesV_drop, ← hcs, List.drop_take, List.take_take, List.drop_drop, Nat.min_eq_left (by omega)]
        have hrb : bytesAt (few os') (.slice (some (i0, o + (12 + 16 * n))) 1 16 c' f) = some ((bs.drop (12 + 16 * n)).take 16) := bytesAt_few hg' (by omega) (by omega) hrc (fun b hb' => hb b (List.mem_of_mem_drop (List.mem_of_mem_take hb')))
        have hrl : ((bs.drop (12 + 16 * n)).take 16).length = 16 := by rw [List.length_take, List.length_drop]; omega
        have hoff : call nN [.slice (some (i0, o + (12 + 16 * n))) 1 16 c' f, .int .i64 8, .int .i64 4] (few os') = some (.tuple [.int .i64 (offB bs n : Int), .bool (num bs ((12 + 16 * n + 8 : Nat) : Int) 4).isSome], few os') := by
          have := hN (few os') _ _ ((8 : Nat) : Int) 4 hrb (by rw [hrl]; omega) (by omega)
          rw [num_sub (by omega) (by omega)] at this
          exact this
        have hlb : call nN [.slice (some (i0, o + (12 + 16 * n))) 1 16 c' f, .int .i64 12, .int .i64 4] (few os') = some (.tuple [.int .i64 (lenB bs n : Int), .bool (num bs ((12 + 16 * n + 12 : Nat) : Int) 4).isSome], few os') := by
          have := hN (few os') _ _ ((12 : Nat) : Int) 4 hrb (by rw [hrl]; omega) (by omega)
          rw [num_sub (by omega) (by omega)] at this
          exact this
        have htagX : ∀ X : List (Option AObj), (X[i0]?).join = some (.cells own cs) → convV (few X) .toStr (.slice (some (i0, o + (12 + 16 * n))) 1 4 c' f) = some (.str (tagB bs n)) := fun X hX => str_part hX hm hcs hb (12 + 16 * n) (by omega)
        have htag := htagX os' hg'
        have htab := hT os' os.length q r (L.map (·.1)) (slsV L ps) (tagB bs n) hF.at_ (by simp; omega)
        have hpart := hP (few os') _ bs (offB bs n) (lenB bs n) hB hl (by
          have := num_le (x := ((12 + 16 * n + 12 : Nat) : Int)) (z := 4) hb (by omega)
          unfold lenB
          omega)
        have hnext : tabs bs (k + 1) L = (if tagB bs n ∈ L.map (·.1) then .inl 2 else if thereB bs.length (offB bs n) (lenB bs n) = true then tabs bs k (L ++ [(tagB bs n, cutB bs (offB bs n) (lenB bs n))]) else .inl 3) := by
          rw [hnL]; rfl
        rw [hnext] at htabs
        have hc0 : 0 < c' := by omega
        have hc4 : 4 ≤ c' := by omega
        by_cases hmem : tagB bs n ∈ L.map (·.1)
        · rw [if_pos hmem] at htabs
          obtain ⟨w, hw, hlt⟩ := lookT_yes (ts := L.map (·.1)) (vs := slsV L ps) (by rw [sls_len hF.len]; simp) hmem
          rw [hlt] at htab
          simp (disch := omega) [s1, s2, s3, s4, dlt_t, dltn_t, wrap_i, hsl, slice_hiF, shiftA_some, hoff, hlb, htag, htab]
          exact .inl ⟨2, htabs.symm, rfl⟩
        rw [if_neg hmem] at htabs
        rw [lookT_no hmem] at htab
        by_cases hth : thereB bs.length (offB bs n) (lenB bs n) = true
        rotate_left
        · rw [if_neg hth] at htabs
          have hp2 : call nP [.slice (some (i0, o)) 1 bs.length c f, .int .i64 (offB bs n : Int), .int .i64 (lenB bs n : Int)] (few os') = some (.tuple [.slice none 0 0 0 true, .bool false], few os') := by
            rw [hpart, show thereB bs.length (offB bs n) (lenB bs n) = false from by simpa using hth]; rfl
          simp (disch := omega) [s1, s2, s3, s4, dlt_t, dltn_t, wrap_i, hsl, slice_hiF, shiftA_some, hoff, hlb, htag, htab, hp2]
          exact .inl ⟨3, htabs.symm, rfl⟩
        rw [if_pos hth] at htabs
        obtain ⟨t, ht⟩ : ∃ t, t = cutB bs (offB bs n) (lenB bs n) := ⟨_, rfl⟩
        rw [← ht] at htabs
        obtain ⟨A, hA⟩ : ∃ A, A = os' ++ [some (newBytes t)] := ⟨_, rfl⟩
        have hAl : A.length = os'.length + 1 := by rw [hA]; simp
        have hp2 : call nP [.slice (some (i0, o)) 1 bs.length c f, .int .i64 (offB bs n : Int), .int .i64 (lenB bs n : Int)] (few os') = some (.tuple [.slice (some (os'.length, 0)) 1 t.length t.length false, .bool true], few A) := by
          rw [hpart, hth, hA, ht]; exact lawOut_one
        have hAo : ∀ j, j < os'.length → (A[j]?).join = (os'[j]?).join := fun j hj => by rw [hA]; exact join_app hj
        have hps : ∀ p ∈ ps, p < os'.length := by
          intro p hp
          obtain ⟨j, hj, he⟩ := List.getElem_of_mem hp
          have hj' : j < L.length := by rw [← hF.len]; exact hj
          exact join_lt (hF.tabs j p L[j] (by rw [List.getElem?_eq_getElem hj, he]) (List.getElem?_eq_getElem hj'))
        have hi0' := join_lt hg'
        have htagA := htagX A (by rw [hAo i0 hi0']; exact hg')
        have hldA : loadV (few A) false 1 (.ptr (some (os.length, 0))) = some (tagsV q n) := by
          rw [hnL]; exact (load_few (by rw [hAo _ hF0]; exact hF.font)).trans rfl
        obtain ⟨Bm, hBm⟩ : ∃ Bm, Bm = A ++ [some (AObj.cells true [V.str (tagB bs n)])] := ⟨_, rfl⟩
        have hBl : Bm.length = os'.length + 2 := by rw [hBm]; simp [hAl]
        have hBo : ∀ j, j < os'.length + 1 → (Bm[j]?).join = (A[j]?).join := fun j hj => by rw [hBm, join_app (by omega)]
        have alB : (few A).alloc (AObj.cells true [V.str (tagB bs n)]) = some (os'.length + 1, few Bm) := by rw [hBm, ← hAl]; exact few_alloc A _
        have hfB : firstN (few Bm) 1 1 (.slice (some (os'.length + 1, 0)) 1 1 1 true) = some [V.str (tagB bs n)] := by
          show sel (Nat.beq 1 1 && Nat.ble 1 1) ((few Bm).loadN (os'.length + 1) 0 (1 * 1)) none = _
          rw [← hAl, loadN_few (own := true) (cs := [V.str (tagB bs n)]) (by rw [hBm]; simp) (by simp)]
          rfl
        have hqo : n ≠ 0 → q < os'.length ∧ (os'[q]?).join = some (.cells true (strsV (L.map (·.1)))) := fun h0 => by
          have := hF.tags (fun e => h0 (by rw [hnL, e]; rfl))
          exact ⟨join_lt this, this⟩
        have hro : n ≠ 0 → r < os'.length ∧ (os'[r]?).join = some (.cells true (slsV L ps)) := fun h0 => by
          have := hF.sls (fun e => h0 (by rw [hnL, e]; rfl))
          exact ⟨join_lt this, this⟩
        have gX := growS (os := Bm) (q := q) (n := n) (bytes := 16) (cs := strsV (L.map (·.1))) (v := V.str (tagB bs n)) (by rw [strsV_len, List.length_map, hnL]) (by omega) (by omega) (fun h0 => by rw [hBo q (by have := (hqo h0).1; omega), hAo q (hqo h0).1]; exact (hqo h0).2)
        rw [hBl] at gX
        rw [hBm] at hfB
        have gX : appendV (few (A ++ [some (AObj.cells true [V.str (tagB bs n)])])) 1 16 (tagsV q n) (some 1) (some [V.str (tagB bs n)]) = some (.slice (some (os'.length + 2, 0)) 1 (n + 1) (n + 1) false, few ((if n = 0 then Bm else Bm.set q none) ++ [some (AObj.cells true (strsV (L.map (·.1)) ++ [V.str (tagB bs n)]))])) := by rw [← hBm]; exact gX
        obtain ⟨X, hX⟩ : ∃ X, X = (if n = 0 then Bm else Bm.set q none) ++ [some (AObj.cells true (strsV (L.map (·.1)) ++ [V.str (tagB bs n)]))] := ⟨_, rfl⟩
        rw [← hX] at gX
        have hBm' : (if n = 0 then Bm else Bm.set q none).length = Bm.length := by split <;> simp
        have hXl : X.length = os'.length + 3 := by rw [hX, List.length_append, hBm', hBl]; rfl
        have hXo : ∀ j, j < os'.length + 2 → (n ≠ 0 → j ≠ q) → (X[j]?).join = (Bm[j]?).join := by
          intro j hj hjq
          rw [hX, join_app (by rw [hBm', hBl]; exact hj)]
          split
          · rfl
          · rename_i h0; rw [join_set (fun e => hjq h0 e.symm)]
        have old1 : ∀ j, j < os'.length → (n ≠ 0 → j ≠ q) → (X[j]?).join = (os'[j]?).join := fun j hj hjq => by rw [hXo j (by omega) hjq, hBo j (by omega), hAo j hj]
        have hXf : (X[os.length]?).join = some (.cells true [tagsV q n, tagsV r n]) := by
          rw [old1 _ hF0 (fun _ e => hF.ne.1 e.symm), hnL]; exact hF.font
        have st1 := store_few (o := 0) (v := .slice (some (os'.length + 2, 0)) 1 (n + 1) (n + 1) false) hXf (by simp)
        rw [show [tagsV q n, tagsV r n].set 0 (.slice (some (os'.length + 2, 0)) 1 (n + 1) (n + 1) false) = [tagsV (os'.length + 2) (n + 1), tagsV r n] from rfl] at st1
        obtain ⟨Y, hY⟩ : ∃ Y, Y = X.set os.length (some (AObj.cells true [tagsV (os'.length + 2) (n + 1), tagsV r n])) := ⟨_, rfl⟩
        rw [← hY] at st1
        have hYl : Y.length = os'.length + 3 := by rw [hY]; simp [hXl]
        have hYf : (Y[os.length]?).join = some (.cells true [tagsV (os'.length + 2) (n + 1), tagsV r n]) := by rw [hY, join_set_same (by omega)]
        have hldY : loadV (few Y) false 1 (.ptr (some (os.length, 1))) = some (tagsV r n) := (load_few hYf).trans rfl
        obtain ⟨Cm, hCm⟩ : ∃ Cm, Cm = Y ++ [some (AObj.cells true [V.slice (some (os'.length, 0)) 1 t.length t.length false])] := ⟨_, rfl⟩
        have hCl : Cm.length = os'.length + 4 := by rw [hCm]; simp [hYl]
        have alC : (few Y).alloc (AObj.cells true [V.slice (some (os'.length, 0)) 1 t.length t.length false]) = some (os'.length + 3, few Cm) := by rw [hCm, ← hYl]; exact few_alloc Y _
        have hfC : firstN (few Cm) 1 1 (.slice (some (os'.length + 3, 0)) 1 1 1 true) = some [V.slice (some (os'.length, 0)) 1 t.length t.length false] := by
          show sel (Nat.beq 1 1 && Nat.ble 1 1) ((few Cm).loadN (os'.length + 3) 0 (1 * 1)) none = _
          rw [← hYl, loadN_few (own := true) (cs := [V.slice (some (os'.length, 0)) 1 t.length t.length false]) (by rw [hCm]; simp) (by simp)]
          rfl
        have hCo : ∀ j, j < os'.length + 3 → j ≠ os.length → (Cm[j]?).join = (X[j]?).join := fun j hj hne => by rw [hCm, join_app (by omega), hY, join_set (fun e => hne e.symm)]
        have gD := growS (os := Cm) (q := r) (n := n) (bytes := 24) (cs := slsV L ps) (v := V.slice (some (os'.length, 0)) 1 t.length t.length false) (by rw [sls_len hF.len, hnL]) (by omega) (by omega) (fun h0 => by
          rw [hCo r (by have := (hro h0).1; omega) hF.ne.2.1, old1 r (hro h0).1 (fun _ e => hF.ne.2.2.1 e.symm)]; exact (hro h0).2)
        rw [hCl] at gD
        obtain ⟨Dm, hDm⟩ : ∃ Dm, Dm = (if n = 0 then Cm else Cm.set r none) ++ [some (AObj.cells true (slsV L ps ++ [V.slice (some (os'.length, 0)) 1 t.length t.length false]))] := ⟨_, rfl⟩
        rw [← hDm] at gD
        have hCm' : (if n = 0 then Cm else Cm.set r none).length = Cm.length := by split <;> simp
        have hDl : Dm.length = os'.length + 5 := by rw [hDm, List.length_append, hCm', hCl]; rfl
        have hDo : ∀ j, j < os'.length + 4 → (n ≠ 0 → j ≠ r) → (Dm[j]?).join = (Cm[j]?).join := by
          intro j hj hjq
          rw [hDm, join_app (by rw [hCm', hCl]; exact hj)]
          split
          · rfl
          · rename_i h0; rw [join_set (fun e => hjq h0 e.symm)]
        have hDf : (Dm[os.length]?).join = some (.cells true [tagsV (os'.length + 2) (n + 1), tagsV r n]) := by
          rw [hDo _ (by omega) (fun _ e => hF.ne.2.1 e.symm), hCm, join_app (by omega)]; exact hYf
        have st2 := store_few (o := 1) (v := .slice (some (os'.length + 4, 0)) 1 (n + 1) (n + 1) false) hDf (by simp)
        rw [show [tagsV (os'.length + 2) (n + 1), tagsV r n].set 1 (.slice (some (os'.length + 4, 0)) 1 (n + 1) (n + 1) false) = [tagsV (os'.length + 2) (n + 1), tagsV (os'.length + 4) (n + 1)] from rfl] at st2
        obtain ⟨E, hE⟩ : ∃ E, E = Dm.set os.length (some (AObj.cells true [tagsV (os'.length + 2) (n + 1), tagsV (os'.length + 4) (n + 1)])) := ⟨_, rfl⟩
        rw [← hE] at st2
        have hEo : ∀ j, j < os'.length + 5 → j ≠ os.length → (E[j]?).join = (Dm[j]?).join := fun j hj hne => by rw [hE, join_set (fun e => hne e.symm)]
        have oldE : ∀ j, j < os'.length → j ≠ os.length → (n ≠ 0 → j ≠ q) → (n ≠ 0 → j ≠ r) → (E[j]?).join = (os'[j]?).join := fun j hj h1 h2 h3 => by
          rw [hEo j (by omega) h1, hDo j (by omega) h3, hCo j (by omega) h1, old1 j hj h2]
        have hR : RFontAt E os.length os.length (os'.length + 2) (os'.length + 4) (L ++ [(tagB bs n, t)]) (ps ++ [os'.length]) := by
          obtain ⟨n1, n2, n3, n4, n5, n6, n7⟩ := hF.ne
          obtain ⟨_, lo2, lo3, lo4⟩ := hF.lo
          refine ⟨?_, ?_, ?_, ?_, ?_, ?_, ?_⟩
          · rw [hE, join_set_same (by omega)]; simp [hnL]
          · intro _
            rw [hEo _ (by omega) (by omega), hDo _ (by omega) (fun h0 => by have := (hro h0).1; omega), hCo _ (by omega) (by omega), hX, List.getElem?_append_right (by omega), hBm', hBl, Nat.sub_self, List.map_append]
            simp [strsV]
          · intro _
            rw [hEo _ (by omega) (by omega), hDm, List.getElem?_append_right (by omega), hCm', hCl, Nat.sub_self, sls_snoc hF.len]
            rfl
          · intro j p x hp hx
            rcases Nat.lt_or_ge j L.length with hj | hj
            · rw [List.getElem?_append_left (by rw [hF.len]; exact hj)] at hp
              rw [List.getElem?_append_left hj] at hx
              have hpm := List.mem_of_getElem? hp
              rw [oldE p (hps p hpm) (fun e => n4 (e ▸ hpm)) (fun _ e => n5 (e ▸ hpm)) (fun _ e => n6 (e ▸ hpm))]
              exact hF.tabs j p x hp hx
            · have hj' : j = L.length := by
                have := (List.getElem?_eq_some_iff.1 hx).1
                simp at this; omega
              subst hj'
              have hp' : p = os'.length := by
                rw [← hF.len] at hp
                simpa using hp.symm
              have hx' : x = (tagB bs n, t) := by simpa using hx.symm
              subst hp' hx'
              rw [hEo _ (by omega) (by omega), hDo _ (by omega) (fun h0 => by have := (hro h0).1; omega), hCo _ (by omega) (by omega), hXo _ (by omega) (fun h0 => by have := (hqo h0).1; omega), hBo _ (by omega), hA]
              simp
          · simp [hF.len]
          · refine ⟨Nat.le_refl _, by omega, by omega, fun p hp => ?_⟩
            rcases List.mem_append.1 hp with hp | hp
            · exact lo4 p hp
            · simp at hp; omega
          · have mem : ∀ p, p ∈ ps ++ [os'.length] → p < os'.length ∨ p = os'.length := fun p hp => by
              rcases List.mem_append.1 hp with hp | hp
              · exact .inl (hps p hp)
              · simp at hp; exact .inr hp
            refine ⟨by omega, by omega, by omega, ?_, fun hp => by have := mem _ hp; omega, fun hp => by have := mem _ hp; omega, ?_⟩
            · intro hp
              rcases List.mem_append.1 hp with hp | hp
              · exact n4 hp
              · simp at hp; omega
            · rw [List.nodup_append]
              refine ⟨n7, by simp, fun a ha b hb' => ?_⟩
              have := hps a ha
              simp at hb'; omega
        have hEs : ∀ i, i < os.length → (E[i]?).join = (os[i]?).join := fun i hi => by
          obtain ⟨_, lo2, lo3, lo4⟩ := hF.lo
          rw [oldE i (by omega) (by omega) (fun _ => by omega) (fun _ => by omega)]; exact hsame i hi
        simp (disch := omega) [-few_alloc, s1, s2, s3, s4, dlt_t, dltn_t, wrap_i, hsl, slice_hiF, shiftA_some, hoff, hlb, htag, htab, hp2, fill, repN, splice, over, newV, lenOf, firstNo, hAl, hldA, htagA, hfB, gX, st1, hldY, alC, hfC, gD, st2]
        exact ⟨k, by omega, L ++ [(tagB bs n, t)], E, rfl, ⟨ps ++ [os'.length], _, _, hR⟩, hEs, by simp; omega, htabs, by simp [hnL]⟩
theorem len_bytes {st st' : St} {v : V} {bs : List Nat} (h : bytesAt st v = some bs) : lenV st' .slice v = some (.int .i64 (bs.length : Int)) := by
  by_cases hne : bs = []
  · subst hne
    unfold bytesAt at h
    split at h
    · rfl
    · rename_i i o n c f
      split at h
      · split at h
        · split at h
          · rename_i l hl
            have : n = 0 := by
              cases l with
              | nil =>
                cases n with
                | zero => rfl
                | succ n =>
                  exfalso
                  have key : ∀ (o : Nat) (cs : List V), cut o (n + 1) cs ≠ some [] := by
                    intro o
                    induction o with
                    | zero =>
                      intro cs hc
                      cases cs with
                      | nil => cases hc
                      | cons x cs =>
                        have hc : (match takeN n cs with | some r => some (x :: r) | none => none) = some [] := hc
                        split at hc <;> cases hc
                    | succ o ih =>
                      intro cs hc
                      cases cs with
                      | nil => cases hc
                      | cons x cs => exact ih cs hc
                  exact key _ _ hl
              | cons x l =>
                exfalso
                cases x with
                | int k z =>
                  have h := (bytesL_some h).1
                  cases h
                | _ => exact absurd (bytesL_some h).1 (by intro e; cases e)
            subst this; rfl
          · cases h
        · cases h
      · cases h
    · cases h
  · obtain ⟨i, o, c, f, own, cs, rfl, hnc, hg, hm, hcs⟩ := bytesAt_place h hne
    rfl
noncomputable def rfontObjs (N : Nat) (L : List (List Nat × List Nat)) : List AObj :=
  [AObj.cells true [tagsV (N + 1 + L.length) L.length, tagsV (N + 2 + L.length) L.length]] ++ (L.map (fun x => newBytes x.2) ++ (if L = [] then [] else [AObj.cells true (strsV (L.map (·.1))), AObj.cells true (slsV L (idsOf' (N + 1) L.length))]))
noncomputable def ropenA (N : Nat) (bs : List Nat) : Ans :=
  match fontS bs with
  | .inl e => ([], fun _ => errV e)
  | .inr L => (rfontObjs N L, fun k => .tuple [.ptr (some (k, 0)), .int .i64 0])
noncomputable def ropenSpec : Nat → Sight → List V → Option Ans := fun N l args =>
  match args with
  | [v] => match lookB l v with | some bs => if bs.length ≤ 140737488354000 then some (ropenA N bs) else none | none => none
  | _ => none
theorem ropenSpec_mono : MonoN ropenSpec := by
  intro n l l' args a h ha
  unfold ropenSpec at ha ⊢
  split at ha
  · split at ha
    · rename_i bs hbs
      rw [lookB_mono h hbs]
      exact ha
    · cases ha
  · cases ha
theorem tagsV_ren {m : Nat → Nat → Prop} {q q' n : Nat} (h : n ≠ 0 → m q q') : Ren0 m (tagsV q n) (tagsV q' n) := by
  unfold tagsV
  split
  · exact ⟨rfl, rfl⟩
  · rename_i h0
    exact ⟨h h0, rfl, rfl, rfl, Nat.le_refl _, Nat.le_refl _, fun e => by cases e⟩
theorem sls_ren {m : Nat → Nat → Prop} {L : List (List Nat × List Nat)} {ps ps' : List Nat} (h : ps.length = L.length) (h' : ps'.length = L.length) (hm : ∀ (j p p' : Nat), ps[j]? = some p → ps'[j]? = some p' → m p p') : RenO m (.cells true (slsV L ps)) (.cells true (slsV L ps')) := by
  refine ⟨by rw [sls_len h, sls_len h']; exact Nat.le_refl _, fun k v hv => ?_⟩
  have hk := (List.getElem?_eq_some_iff.1 hv).1
  rw [sls_len h'] at hk
  obtain ⟨p, hp⟩ : ∃ p, ps[k]? = some p := ⟨_, List.getElem?_eq_getElem (by rw [h]; exact hk)⟩
  obtain ⟨p', hp'⟩ : ∃ p', ps'[k]? = some p' := ⟨_, List.getElem?_eq_getElem (by rw [h']; exact hk)⟩
  have hx := List.getElem?_eq_getElem hk
  unfold slsV at hv ⊢
  rw [List.getElem?_zipWith, hx, hp'] at hv
  cases hv
  refine ⟨.slice (some (p, 0)) 1 L[k].2.length L[k].2.length false, by rw [List.getElem?_zipWith, hx, hp], hm k p p' hp hp', rfl, rfl, rfl, Nat.le_refl _, Nat.le_refl _, fun e => by cases e⟩
theorem ropen_left {os os' : List (Option AObj)} {F q r : Nat} {L : List (List Nat × List Nat)} {ps : List Nat} (h : RFontAt os' os.length F q r L ps) :
    ∃ σ, Left (wayId os.length) os.length (few os) (few os') (.tuple [.ptr (some (F, 0)), .int .i64 0]) (rfontObjs os.length L) σ (.tuple [.ptr (some (os.length, 0)), .int .i64 0]) := by
  obtain ⟨σ, hσ⟩ : ∃ σ, σ = [F] ++ (ps ++ (if L = [] then [] else [q, r])) := ⟨_, rfl⟩
  have hF : σ[0]? = some F := by rw [hσ]; rfl
  have hp : ∀ j p, ps[j]? = some p → σ[1 + j]? = some p := by
    intro j p hj
    have := (List.getElem?_eq_some_iff.1 hj).1
    rw [hσ, List.getElem?_append_right (by simp), List.getElem?_append_left (by simpa using this)]
    simpa using hj
  have hq : L ≠ [] → σ[1 + L.length]? = some q := by
    intro hne
    rw [hσ, List.getElem?_append_right (by simp), if_neg hne, List.getElem?_append_right (by simp [h.len])]
    simp [h.len]
  have hr : L ≠ [] → σ[2 + L.length]? = some r := by
    intro hne
    rw [hσ, List.getElem?_append_right (by simp; omega), if_neg hne, List.getElem?_append_right (by simp [h.len])]
    rw [show 2 + L.length - [F].length - ps.length = 1 from by simp [h.len]]
    rfl
  have hnz : L.length ≠ 0 → L ≠ [] := fun h0 e => h0 (by rw [e]; rfl)
  have m0 : ren os.length σ F os.length := .inr ⟨0, hF, rfl⟩
  refine ⟨σ, Left.ren (by intro e; cases e) ?_ ?_ ?_ ?_⟩
  · exact ⟨⟨m0, rfl⟩, ⟨rfl, rfl⟩, trivial⟩
  · rw [hσ]; unfold rfontObjs
    split <;> simp [h.len]
  · intro j k o hk ho
    unfold rfontObjs at ho
    have hj := (List.getElem?_eq_some_iff.1 hk).1
    match j, hk, ho with
    | 0, hk, ho =>
      rw [hF] at hk; cases hk
      have ho : some (AObj.cells true [tagsV (os.length + 1 + L.length) L.length, tagsV (os.length + 2 + L.length) L.length]) = some o := ho
      cases ho
      refine ⟨h.lo.1, AObj.cells true [tagsV q L.length, tagsV r L.length], by rw [few_heap]; exact h.font, Nat.le_refl _, fun k v hv => ?_⟩
      match k, hv with
      | 0, hv =>
        cases hv
        exact ⟨_, rfl, tagsV_ren fun h0 => .inr ⟨1 + L.length, hq (hnz h0), by omega⟩⟩
      | 1, hv =>
        cases hv
        exact ⟨_, rfl, tagsV_ren fun h0 => .inr ⟨2 + L.length, hr (hnz h0), by omega⟩⟩
      | k + 2, hv => cases hv
    | j + 1, hk, ho =>
      rw [show j + 1 = [AObj.cells true [tagsV (os.length + 1 + L.length) L.length, tagsV (os.length + 2 + L.length) L.length]].length + j from by simp; omega, List.getElem?_append_right (by omega)] at ho
      simp only [Nat.add_sub_cancel_left] at ho
      rcases Nat.lt_or_ge j L.length with hjl | hjl
      · obtain ⟨p, hpj⟩ : ∃ p, ps[j]? = some p := ⟨_, List.getElem?_eq_getElem (by rw [h.len]; exact hjl)⟩
        have hx := List.getElem?_eq_getElem hjl
        have e1 := hp j p hpj
        rw [Nat.add_comm] at e1
        rw [e1] at hk
        cases hk
        rw [List.getElem?_append_left (by simpa using hjl), List.getElem?_map, hx] at ho
        cases ho
        exact ⟨h.lo.2.2.2 _ (List.mem_of_getElem? hpj), _, by rw [few_heap]; exact h.tabs j _ _ hpj hx, renO_flat bytesV_flat⟩
      · have hne : L ≠ [] := by
          intro e
          rw [hσ, if_pos e] at hj
          simp [h.len] at hj
          omega
        rw [List.getElem?_append_right (by simpa using hjl), if_neg hne] at ho
        have hjn : j = L.length ∨ j = L.length + 1 := by
          rw [hσ, if_neg hne] at hj
          simp [h.len] at hj
          omega
        rcases hjn with hjn | hjn
        · subst hjn
          have e1 := hq hne
          rw [Nat.add_comm] at e1
          rw [e1] at hk
          cases hk
          simp at ho
          subst ho
          exact ⟨h.lo.2.1, _, by rw [few_heap]; exact h.tags hne, renO_flat strsV_flat⟩
        · subst hjn
          have e1 := hr hne
          rw [show 2 + L.length = L.length + 1 + 1 from by omega] at e1
          rw [e1] at hk
          cases hk
          simp at ho
          subst ho
          refine ⟨h.lo.2.2.1, AObj.cells true (slsV L ps), by rw [few_heap]; exact h.sls hne, sls_ren h.len (by simp [idsOf']) fun j p p' hj hj' => .inr ⟨1 + j, hp j p hj, ?_⟩⟩
          unfold idsOf' at hj'
          rw [List.getElem?_map] at hj'
          have hjl : j < L.length := by rw [← h.len]; exact (List.getElem?_eq_some_iff.1 hj).1
          rw [List.getElem?_range hjl] at hj'
          have : os.length + 1 + j = p' := by simpa using hj'
          omega
  · have hnd : σ.Nodup := by
      obtain ⟨n1, n2, n3, n4, n5, n6, n7⟩ := h.ne
      rw [hσ]
      split
      · simp [n4, n7]
      · rw [List.nodup_append]
        refine ⟨by simp, ?_, ?_⟩
        · rw [List.nodup_append]
          exact ⟨n7, by simp [n3], fun a ha b hb => by simp at hb; rcases hb with rfl | rfl; exact fun e => n5 (e ▸ ha); exact fun e => n6 (e ▸ ha)⟩
        · intro a ha b hb
          simp at ha hb
          subst ha
          rcases hb with hb | rfl | rfl
          · exact fun e => n4 (e ▸ hb)
          · exact fun e => n1 e.symm
          · exact fun e => n2 e.symm
    intro j j' k hj hj'
    exact nodup_at hnd hj hj'
theorem ROpen_sound {P : Program} {call : CallT} (hmix : P.follows .mixedOrders = true) (hs : Sound P call) {g nN nT nP : Nat} (hN : NumF call nN) (hT : RTableF call nT) (hP : L2.RPartF call nP)
    (hc : compF P g = some (ROpen_c nN nT nP)) : Sound P (withL call g (lawOf (sightRdN ropenSpec))) := by
  refine hs.sightN hmix 100 hc ropenSpec_mono fun os args new f hg hx => ?_
  unfold ropenSpec at hx
  split at hx
  · rename_i v
    split at hx
    · rename_i bs hbs
      split at hx
      · rename_i hl
        have hx : ropenA os.length bs = (new, f) := Option.some.inj hx
        have hnew : new = (ropenA os.length bs).1 := by rw [hx]
        have hff : f = (ropenA os.length bs).2 := by rw [hx]
        subst hnew hff
        obtain ⟨w, st', h1, h2⟩ := ROpen_run (lf := 100) (by omega) hN hT hP (lookB_at hbs) hl (len_bytes (lookB_at hbs))
        rcases h2 with ⟨e, h3, rfl⟩ | ⟨L, os', F, q, r, ps, h3, rfl, rfl, h4, _⟩
        · refine ⟨st', _, [], h1, ?_⟩
          unfold ropenA
          rw [h3]
          exact Left.flat rfl
        · obtain ⟨σ, hσ⟩ := ropen_left h4
          refine ⟨_, _, σ, h1, ?_⟩
          unfold ropenA
          rw [h3]
          exact hσ
      · cases hx
    · cases hx
  · cases hx
def ROpenF (call : CallT) (g : Nat) : Prop := ∀ os v bs, v.good os.length = true → lookB (few os).look v = some bs → bs.length ≤ 140737488354000 → call g [v] (few os) = some ((ropenA os.length bs).2 os.length, few (os ++ (ropenA os.length bs).1.map some))
theorem ropen_fact {call : CallT} {g : Nat} : ROpenF (withL call g (lawOf (sightRdN ropenSpec))) g := by
  intro os v bs hg hb hl
  rw [sightN_call (by simp [goods, hg, few_next])]
  unfold ropenSpec
  dsimp only
  rw [hb]
  dsimp only
  rw [if_pos hl]
  exact lawOut_few
end Go.Vabs.Sg
