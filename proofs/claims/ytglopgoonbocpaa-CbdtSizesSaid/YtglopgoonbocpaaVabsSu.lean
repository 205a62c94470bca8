/-
  SfntTells' run.
-/
import Derived.Test.YtglopgoonbocpaaVabsSr
namespace Go.Vabs.Su
set_option linter.unusedVariables false
set_option linter.unusedSimpArgs false
set_option maxRecDepth 10000
attribute [local simp] wp_skip wp_ret wp_exit wp_reg wp_seq wp_cond wp_block thenQ_normal thenQ_ret thenQ_exit blockQ_normal blockQ_ret blockQ_exit wpCond_true wpCond_false wpOps_nil wpVal_some wpGuard_true wpGuard_false wpOps_guard wpOps_cons
  put_at put_no ev_c ev_slot posEq_h posEq_o posEq_i posEq_ho posEq_hi posEq_oh posEq_ih posEq_oi posEq_io sel_true sel_false
  okv_some step_mv step_call step_pick pickV_bool step_bin bin_add bin_sub bin_mul bin_eql bin_neq bin_lss bin_leq bin_gtr bin_geq bin_eqb bin_neb bin_eqs bin_nes step_un un_not un_neg step_len len_slice len_str len_const step_extract extractV nth step_convInt conv_int step_convStr step_slice step_idxAddr natOf_nat step_load step_index step_field step_fieldAddr step_build step_minmax
  step_alloc step_bslice bsliceV_some newV_some step_store step_append boolIs_b boolIs_t finQ_ret finQ_normal ressE_nil ressE_cons resE_tmp consO_some initE_nil initE_cons pos_0 pos_1 pos_2 pos_3 pos_4 pos_5 pos_6 pos_7 pos_8 plain_bool plain_int plain_str plain_ptr plain_slice plain_map plain_agg plain_func plain_nilFunc V.undef oneOf_one oneOf_two ble_self
open Go.Vabs.Pk Go.Vabs.Ph Go.Vabs.Sa Go.Vabs.Sb Go.Vabs.Sc Go.Vabs.Sd Go.Vabs.Se Go.Vabs.Sg Go.Vabs.Sh Go.Vabs.Sm Go.Vabs.Sn Go.Vabs.Sp Go.Vabs.Sr Go.Vabs.St Go.Vabs.L2
attribute [local simp] step_nilchk nilchk_ptr cells_int cells_bool cells_str cells_slice cells_ptr cells_agg fieldAddrV natOf_zero fill repN splice over newV step_appendZ
  wp_dreg wpDs_nil wpDs_cons wantedE_none wantedE_some wpDGuard_true wpDGuard_lim wpDGuard_false wpDLim_true wpDVal_free wpDVal_lim back_limited next_limited limF_dir foot_load foot_convStr okAll_nil okAll_cons pastsOf nthP ahead few_next load_limited convStr_limited blt_dec okPair_dd okPair_dc okPair_cd okPair_cc anyIn_nil anyIn_same anyIn_cons meets_nil meets_nil'
/- WHAT IS TOLD OF A FONT -/
/-- A table, told whether it is there. -/
theorem FontMem.ask {call : CallT} {g : Nat} (hT : TableF call g) (hN : TableNF call g) {os : List (Option AObj)} {F : Nat} {L : List Itm} (h : FontMem os F L) (hnd : (L.map (·.1)).Nodup) (hs : ∀ x ∈ L, x.2.length ≤ 140737488354816) (t : List Nat) :
    ∃ v l, call g [.ptr (some (F, 0)), .str t] (few os) = some (.tuple [v, .bool (decide (t ∈ L.map (·.1)))], few (os ++ l)) ∧ v.plain = true := by
  by_cases ht : t ∈ L.map (·.1)
  · rw [decide_eq_true ht]
    obtain ⟨x, hx, rfl⟩ := List.mem_map.1 ht
    obtain ⟨j, hj, hjx⟩ := List.mem_iff_getElem.1 hx
    have hj' : L[j]? = some x := by rw [List.getElem?_eq_getElem hj, hjx]
    have h1 := h.table hT hnd hj' (hs x hx)
    obtain ⟨p, l, hcl, _, _⟩ := clone_held (os := os) (b := x.2)
    rw [hcl] at h1
    exact ⟨_, l, h1, rfl⟩
  · rw [decide_eq_false ht]
    exact ⟨_, [], by rw [List.append_nil]; exact h.no hN ht, rfl⟩
end Go.Vabs.Su
