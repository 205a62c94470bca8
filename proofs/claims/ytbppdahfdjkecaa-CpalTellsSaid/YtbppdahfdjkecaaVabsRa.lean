/- Lemmas for this claim, text Ra. No condition. -/
import Derived.Test.YtbppdahfdjkecaaVabsNb
namespace Go.Vabs.Ra
set_option linter.unusedVariables false
set_option linter.unusedSimpArgs false
set_option maxRecDepth 10000
def openT_c (n_Font : Nat) (n_Open : Nat) (n_ROpen : Nat) : AFunc := AFunc.mk 28 (.seq (.reg [AOper.mk (some (.i (.o .h))) (.mv (.c (.ptr none))) none, AOper.mk (some (.o (.i .h))) (.mv (.c (.ptr none))) none]) (.seq (.reg [AOper.mk (some (.i (.o (.i .h)))) (.bslice 1 1 [.str []] [(0, (1, .t .h))]) none, AOper.mk (some (.i (.i (.i .h)))) (.bslice 1 1 [.slice none 0 0 0 true] [(0, (1, .t (.o .h)))]) none, AOper.mk (some (.o (.o (.o (.o .h))))) (.call n_Font [.t (.i (.o (.i .h))), .t (.i (.i (.i .h)))]) none, AOper.mk (some (.i (.i .h))) (.mv (.t (.o (.o (.o (.o .h)))))) none]) (.seq (.reg [AOper.mk (some (.i (.i (.o (.o .h))))) (.call n_Open [.t (.i (.i .h))]) none, AOper.mk (some (.o (.o (.i (.o .h))))) (.extract (.t (.i (.i (.o (.o .h))))) 0) none, AOper.mk (some (.i (.o (.i (.o .h))))) (.extract (.t (.i (.i (.o (.o .h))))) 1) none, AOper.mk (some (.o (.o (.o .h)))) (.mv (.t (.o (.o (.i (.o .h)))))) none, AOper.mk (some (.i (.o (.o .h)))) (.mv (.t (.i (.o (.i (.o .h)))))) none]) (.seq (.reg [AOper.mk (some (.o (.o (.o (.i .h))))) (.call n_ROpen [.t (.i (.i .h))]) none, AOper.mk (some (.i (.o (.o (.i .h))))) (.extract (.t (.o (.o (.o (.i .h))))) 0) none, AOper.mk (some (.o (.i (.o (.i .h))))) (.extract (.t (.o (.o (.o (.i .h))))) 1) none, AOper.mk (some (.o (.i (.o .h)))) (.mv (.t (.i (.o (.o (.i .h)))))) none, AOper.mk (some (.i (.i (.o .h)))) (.mv (.t (.o (.i (.o (.i .h)))))) none]) (.seq (.reg [AOper.mk (some (.i (.o .h))) (.mv (.t (.o (.o (.o .h))))) none, AOper.mk (some (.o (.i .h))) (.mv (.t (.o (.i (.o .h))))) none]) .ret))))) [.tmp (.i (.o .h)), .tmp (.o (.i .h))]
attribute [local simp] wp_skip wp_ret wp_exit wp_reg wp_seq wp_cond wp_block thenQ_normal thenQ_ret thenQ_exit blockQ_normal blockQ_ret blockQ_exit wpCond_true wpCond_false wpOps_nil wpVal_some wpGuard_true wpGuard_false wpOps_guard wpOps_cons
  put_at put_no ev_c ev_slot posEq_h posEq_o posEq_i posEq_ho posEq_hi posEq_oh posEq_ih posEq_oi posEq_io sel_true sel_false
  okv_some step_mv step_call step_pick pickV_bool step_bin bin_add bin_sub bin_mul bin_eql bin_neq bin_lss bin_leq bin_gtr bin_geq bin_eqb bin_neb bin_eqs bin_nes step_un un_not un_neg step_len len_slice len_str len_const step_extract extractV nth step_convInt conv_int step_convStr step_slice step_idxAddr natOf_nat step_load step_index step_field step_fieldAddr step_build step_minmax
  step_alloc step_bslice bsliceV_some newV_some step_store step_append boolIs_b boolIs_t finQ_ret finQ_normal ressE_nil ressE_cons resE_tmp consO_some initE_nil initE_cons pos_0 pos_1 pos_2 pos_3 pos_4 pos_5 pos_6 pos_7 pos_8 plain_bool plain_int plain_str plain_ptr plain_slice plain_map plain_agg plain_func plain_nilFunc V.undef oneOf_one oneOf_two ble_self
open Go.Vabs.Pk Go.Vabs.Ph Go.Vabs.Sa Go.Vabs.Sb Go.Vabs.Sc Go.Vabs.Sd Go.Vabs.Se Go.Vabs.Sg Go.Vabs.Sh Go.Vabs.Sm Go.Vabs.Sn Go.Vabs.Sp Go.Vabs.Sr Go.Vabs.St Go.Vabs.Su Go.Vabs.L2 Go.Vabs.Na Go.Vabs.Nb
attribute [local simp] step_nilchk nilchk_ptr step_box cells_int cells_bool cells_str cells_slice cells_ptr cells_agg fieldAddrV natOf_zero fill repN splice over newV step_appendZ
theorem lookB_cells' {l : Sight} {v : V} {b : List Nat} (h : lookB l v = some b) : v.cells = some [v] ∧ v.plain = true := by
  unfold lookB at h
  split at h
  · exact ⟨rfl, rfl⟩
  · exact ⟨rfl, rfl⟩
  · cases h
end Go.Vabs.Ra
