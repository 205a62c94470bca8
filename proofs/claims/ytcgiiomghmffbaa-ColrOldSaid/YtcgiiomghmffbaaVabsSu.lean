/- Lemmas for this claim, text Su. No condition. -/
import Derived.Test.YtcgiiomghmffbaaVabsSr
namespace Go.Vabs.Su
set_option linter.unusedVariables false
set_option linter.unusedSimpArgs false
set_option maxRecDepth 10000
attribute [local simp] wp_skip wp_ret wp_exit wp_reg wp_seq wp_cond wp_block thenQ_normal thenQ_ret thenQ_exit blockQ_normal blockQ_ret blockQ_exit wpCond_true wpCond_false wpOps_nil wpVal_some wpGuard_true wpGuard_false wpOps_guard wpOps_cons
  put_at put_no ev_c ev_slot posEq_h posEq_o posEq_i posEq_ho posEq_hi posEq_oh posEq_ih posEq_oi posEq_io sel_true sel_false
  okv_some step_mv step_call step_pick pickV_bool step_bin bin_add bin_sub bin_mul bin_eql bin_neq bin_lss bin_leq bin_gtr bin_geq bin_eqb bin_neb bin_eqs bin_nes step_un un_not un_neg step_len len_slice len_str len_const step_extract extractV nth step_convInt conv_int step_convStr step_slice step_idxAddr natOf_nat step_load step_index step_field step_fieldAddr step_build step_minmax
  step_alloc step_bslice bsliceV_some newV_some step_store step_append boolIs_b boolIs_t finQ_ret finQ_normal ressE_nil ressE_cons resE_tmp consO_some initE_nil initE_cons pos_0 pos_1 pos_2 pos_3 pos_4 pos_5 pos_6 pos_7 pos_8 plain_bool plain_int plain_str plain_ptr plain_slice plain_map plain_agg plain_func plain_nilFunc V.undef oneOf_one oneOf_two ble_self
open Go.Vabs.Pk Go.Vabs.Ph Go.Vabs.Sa Go.Vabs.Sb Go.Vabs.Sc Go.Vabs.Sd Go.Vabs.Se Go.Vabs.Sg Go.Vabs.Sh Go.Vabs.Sm Go.Vabs.Sn Go.Vabs.Sp Go.Vabs.Sr Go.Vabs.St Go.Vabs.L2
attribute [local simp] step_nilchk nilchk_ptr cells_int cells_bool cells_str cells_slice cells_ptr cells_agg fieldAddrV natOf_zero fill repN splice over newV step_appendZ
  wp_dreg wpDs_nil wpDs_cons wantedE_none wantedE_some wpDGuard_true wpDGuard_lim wpDGuard_false wpDLim_true wpDVal_free wpDVal_lim back_limited next_limited limF_dir foot_load foot_convStr okAll_nil okAll_cons pastsOf nthP ahead few_next load_limited convStr_limited blt_dec okPair_dd okPair_dc okPair_cd okPair_cc anyIn_nil anyIn_same anyIn_cons meets_nil meets_nil'
structure RFontMem (os : List (Option AObj)) (F : Nat) (L : List Itm) : Prop where
  f0 : (os[F]?).join = some (.cells true [tagsV (F + 1 + L.length) L.length, tagsV (F + 2 + L.length) L.length])
  ft : ∀ j x, L[j]? = some x → (os[F + 1 + j]?).join = some (newBytes x.2)
  tq : L ≠ [] → (os[F + 1 + L.length]?).join = some (.cells true (strsV (L.map (·.1))))
  tr : L ≠ [] → (os[F + 2 + L.length]?).join = some (.cells true (slsV L (idsOf' (F + 1) L.length)))
theorem RFontMem.keep {os os' : List (Option AObj)} {F : Nat} {L : List Itm} (h : RFontMem os F L) (he : ∀ i, i < os.length → (os'[i]?).join = (os[i]?).join) : RFontMem os' F L :=
  ⟨by rw [he _ (join_lt h.f0)]; exact h.f0, fun j x hx => by rw [he _ (join_lt (h.ft j x hx))]; exact h.ft j x hx, fun hne => by rw [he _ (join_lt (h.tq hne))]; exact h.tq hne, fun hne => by rw [he _ (join_lt (h.tr hne))]; exact h.tr hne⟩
theorem rfont_mem {os : List (Option AObj)} {L : List Itm} : RFontMem (os ++ (rfontObjs os.length L).map some) os.length L := by
  have atF : ∀ j o, (rfontObjs os.length L)[j]? = some o → ((os ++ (rfontObjs os.length L).map some)[os.length + j]?).join = some o := by
    intro j o hj
    rw [List.getElem?_append_right (by omega), Nat.add_sub_cancel_left, List.getElem?_map, hj]
    rfl
  refine ⟨atF 0 _ rfl, fun j x hx => ?_, fun hne => ?_, fun hne => ?_⟩
  · have hj := (List.getElem?_eq_some_iff.1 hx).1
    have := atF (1 + j) (newBytes x.2) (by
      unfold rfontObjs
      rw [List.getElem?_append_right (by simp), List.getElem?_append_left (by simp; omega)]
      simp [hx])
    rw [show os.length + 1 + j = os.length + (1 + j) from by omega]
    exact this
  · have := atF (1 + L.length) (.cells true (strsV (L.map (·.1)))) (by
      unfold rfontObjs
      rw [if_neg hne, List.getElem?_append_right (by simp), List.getElem?_append_right (by simp)]
      simp)
    rw [show os.length + 1 + L.length = os.length + (1 + L.length) from by omega]
    exact this
  · have := atF (2 + L.length) (.cells true (slsV L (idsOf' (os.length + 1) L.length))) (by
      unfold rfontObjs
      rw [if_neg hne, List.getElem?_append_right (by simp only [List.length_cons, List.length_nil]; omega), List.getElem?_append_right (by simp only [List.length_cons, List.length_nil, List.length_map]; omega)]
      simp only [List.length_cons, List.length_nil, List.length_map]
      rw [show 2 + L.length - (0 + 1) - L.length = 1 from by omega]
      rfl)
    rw [show os.length + 2 + L.length = os.length + (2 + L.length) from by omega]
    exact this
theorem RFontMem.at_ {os : List (Option AObj)} {F : Nat} {L : List Itm} (h : RFontMem os F L) : RAt os F (F + 1 + L.length) (F + 2 + L.length) (L.map (·.1)) (slsV L (idsOf' (F + 1) L.length)) :=
  ⟨⟨true, by rw [List.length_map]; exact h.f0⟩, fun e => ⟨true, h.tq (fun e' => e (by rw [e']; rfl))⟩, fun e => ⟨true, h.tr (fun e' => e (by rw [e']; rfl))⟩, by rw [sls_len (by simp [idsOf']), List.length_map], sls_plain⟩
end Go.Vabs.Su
