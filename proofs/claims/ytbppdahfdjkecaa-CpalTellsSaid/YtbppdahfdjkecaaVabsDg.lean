/- Lemmas for this claim, text Dg. No condition. -/
import Derived.Test.YtbppdahfdjkecaaVabsDd
import Derived.Test.YtbppdahfdjkecaaVabsZd
namespace Go.Vabs.Dg
set_option linter.unusedVariables false
set_option linter.unusedSimpArgs false
set_option maxRecDepth 10000
attribute [local simp] wp_skip wp_ret wp_exit wp_reg wp_seq wp_cond wp_block thenQ_normal thenQ_ret thenQ_exit blockQ_normal blockQ_ret blockQ_exit wpCond_true wpCond_false wpOps_nil wpVal_some wpGuard_true wpGuard_false wpOps_guard wpOps_cons
  put_at put_no ev_c ev_slot posEq_h posEq_o posEq_i posEq_ho posEq_hi posEq_oh posEq_ih posEq_oi posEq_io sel_true sel_false
  okv_some step_mv step_call step_pick pickV_bool step_bin bin_add bin_sub bin_mul bin_eql bin_neq bin_lss bin_leq bin_gtr bin_geq bin_eqb bin_neb bin_eqs bin_nes step_un un_not un_neg step_len len_slice len_str len_const step_extract extractV nth step_convInt conv_int step_convStr step_slice step_idxAddr natOf_nat step_load step_index step_field step_fieldAddr step_build step_minmax
  step_alloc step_bslice bsliceV_some newV_some step_store step_append boolIs_b boolIs_t finQ_ret finQ_normal ressE_nil ressE_cons resE_tmp consO_some initE_nil initE_cons pos_0 pos_1 pos_2 pos_3 pos_4 pos_5 pos_6 pos_7 pos_8 plain_bool plain_int plain_str plain_ptr plain_slice plain_map plain_agg plain_func plain_nilFunc V.undef oneOf_one oneOf_two ble_self bin_agg eqV_parts eqV_int eqV_bool eqV_str eqParts_nil eqParts_cons eqC_true eqC_false eqO_some eqR_eql eqR_neq
open Go.Vabs.Pk Go.Vabs.Ph Go.Vabs.Sa Go.Vabs.Sb Go.Vabs.Sc Go.Vabs.Sd Go.Vabs.Se Go.Vabs.Sg Go.Vabs.Sh Go.Vabs.Sm Go.Vabs.Sn Go.Vabs.Sp Go.Vabs.Sr Go.Vabs.St Go.Vabs.Su Go.Vabs.L2 Go.Vabs.Na Go.Vabs.Nb Go.Vabs.Ra Go.Vabs.Rb Go.Vabs.Rc Go.Vabs.Rd Go.Vabs.Re Go.Vabs.Ca Go.Vabs.Cb Go.Vabs.Vc Go.Vabs.Da Go.Vabs.Db Go.Vabs.Dc Go.Vabs.Dd Go.Vabs.De Go.Vabs.Df
attribute [local simp] step_nilchk nilchk_ptr step_box cells_int cells_bool cells_str cells_slice cells_ptr cells_agg fieldAddrV natOf_zero fill repN splice over newV step_appendZ
  wp_dreg wpDs_nil wpDs_cons wantedE_none wantedE_some wpDGuard_true wpDGuard_lim wpDGuard_false wpDLim_true wpDVal_free wpDVal_lim back_limited next_limited limF_dir limF_false foot_load foot_store foot_convStr okAll_nil okAll_cons pastsOf nthP ahead few_next load_limited convStr_limited blt_dec okPair_dd okPair_dc okPair_cd okPair_cc anyIn_nil anyIn_same anyIn_cons meets_nil meets_nil'
  tn_alloc tn_load tn_load0 tn_store tn_store0 storeT_some loadC_some cellsAt_zero cellsAt_succ ownAt_zero ownAt_succ tn_first tn_first0 firstC_some tn_grow_none tn_grow tn_grow0 growN_some tn_fix tn_fix0 fixN_some bn_load bn_first bn_grow bn_store tn_next tn_alloc_dir tl_store_d tl_back tl_back_few few_back_tl backv_some back_back cut takeN nbeq_dec ble_dec meets_cons mem_nil mem_cons idOf load_d convStr_d lenOfS firstNo natOf_int if_leN bn_fix foot_bslice foot_alloc foot_box foot_append foot_call
theorem PalAt.keep {os os' : List (Option AObj)} {P each : Nat} {X : List (List Px)} (h : PalAt os P each X) (he : ∀ i, i < os.length → (os'[i]?).join = (os[i]?).join) (hl : os.length ≤ os'.length) : PalAt os' P each X := by
  obtain ⟨w, own, h1, h2⟩ := h.ex
  exact ⟨⟨w, own, by rw [he P (join_lt h1)]; exact h1, h2.keep he hl⟩, h.len, h.few⟩
theorem colorAt_in {X : List (List Px)} {i k : Nat} {row : List Px} {Q : Px} (h1 : X[i]? = some row) (h2 : row[k]? = some Q) : colorAt X i k = some Q := by
  unfold colorAt
  rw [if_pos (by omega), Int.toNat_natCast, Int.toNat_natCast, h1]
  exact h2
theorem layQ_lt {n e : Nat} {f : Nat → Nat} {F : List Px} (h : ∀ P ∈ F, P.ok) : ∀ b ∈ layQ n e f F, b < 256 := by
  intro b hb
  unfold layQ hdr ixs rowB at hb
  simp only [List.mem_append, List.mem_flatten, List.mem_map] at hb
  rcases hb with ((hb | hb | hb | hb | hb) | ⟨t, ⟨i, _, rfl⟩, h2⟩) | ⟨t, ⟨P, hP, rfl⟩, h2⟩
  · exact bigB_lt _ _ b hb
  · exact bigB_lt _ _ b hb
  · exact bigB_lt _ _ b hb
  · exact bigB_lt _ _ b hb
  · exact bigB_lt _ _ b hb
  · exact bigB_lt _ _ b h2
  · obtain ⟨k1, k2, k3, k4⟩ := h P hP
    simp [pxB] at h2
    omega
theorem bytesV_set {d : List Nat} {o b : Nat} : (bytesV d).set o (.int .u8 (b : Int)) = bytesV (d.set o b) := by unfold bytesV; rw [List.map_set]
end Go.Vabs.Dg

namespace Go.Vabs.Dh
set_option linter.unusedVariables false
set_option linter.unusedSimpArgs false
set_option maxRecDepth 10000
def RightPx_c : AFunc := AFunc.mk 41 (.seq (.reg [AOper.mk (some (.o .h)) (.box (.t .h)) none, AOper.mk (some (.i .h)) (.mv (.c (.bool false))) none]) (.seq (.reg [AOper.mk (some (.o (.o .h))) (.fieldAddr 0 (.t (.o .h))) none, AOper.mk (some (.i (.o .h))) (.load false 1 (.t (.o (.o .h)))) none, AOper.mk (some (.o (.i .h))) (.bin .geq (.val .int) (.t (.i (.o .h))) (.c (.int .i64 (.ofNat 0)))) none, AOper.mk (some (.i (.i .h))) (.mv (.t (.o (.i .h)))) none, AOper.mk (some (.o (.o (.o .h)))) (.fieldAddr 0 (.t (.o .h))) (some (.i (.i .h), true)), AOper.mk (some (.i (.o (.o .h)))) (.load false 1 (.t (.o (.o (.o .h))))) (some (.i (.i .h), true)), AOper.mk (some (.o (.i (.o .h)))) (.bin .leq (.val .int) (.t (.i (.o (.o .h)))) (.c (.int .i64 (.ofNat 255)))) (some (.i (.i .h), true)), AOper.mk (some (.i (.i (.o .h)))) (.pick (.t (.i (.i .h))) (.t (.o (.i (.o .h)))) (.c (.bool false))) none, AOper.mk (some (.o (.o (.i .h)))) (.mv (.t (.i (.i (.o .h))))) none, AOper.mk (some (.i (.o (.i .h)))) (.fieldAddr 1 (.t (.o .h))) (some (.o (.o (.i .h)), true)), AOper.mk (some (.o (.i (.i .h)))) (.load false 1 (.t (.i (.o (.i .h))))) (some (.o (.o (.i .h)), true)), AOper.mk (some (.i (.i (.i .h)))) (.bin .geq (.val .int) (.t (.o (.i (.i .h)))) (.c (.int .i64 (.ofNat 0)))) (some (.o (.o (.i .h)), true)), AOper.mk (some (.o (.o (.o (.o .h))))) (.pick (.t (.o (.o (.i .h)))) (.t (.i (.i (.i .h)))) (.c (.bool false))) none, AOper.mk (some (.i (.o (.o (.o .h))))) (.mv (.t (.o (.o (.o (.o .h)))))) none, AOper.mk (some (.o (.i (.o (.o .h))))) (.fieldAddr 1 (.t (.o .h))) (some (.i (.o (.o (.o .h))), true)), AOper.mk (some (.i (.i (.o (.o .h))))) (.load false 1 (.t (.o (.i (.o (.o .h)))))) (some (.i (.o (.o (.o .h))), true)), AOper.mk (some (.o (.o (.i (.o .h))))) (.bin .leq (.val .int) (.t (.i (.i (.o (.o .h))))) (.c (.int .i64 (.ofNat 255)))) (some (.i (.o (.o (.o .h))), true)), AOper.mk (some (.i (.o (.i (.o .h))))) (.pick (.t (.i (.o (.o (.o .h))))) (.t (.o (.o (.i (.o .h))))) (.c (.bool false))) none, AOper.mk (some (.o (.i (.i (.o .h))))) (.mv (.t (.i (.o (.i (.o .h)))))) none, AOper.mk (some (.i (.i (.i (.o .h))))) (.fieldAddr 2 (.t (.o .h))) (some (.o (.i (.i (.o .h))), true)), AOper.mk (some (.o (.o (.o (.i .h))))) (.load false 1 (.t (.i (.i (.i (.o .h)))))) (some (.o (.i (.i (.o .h))), true)), AOper.mk (some (.i (.o (.o (.i .h))))) (.bin .geq (.val .int) (.t (.o (.o (.o (.i .h))))) (.c (.int .i64 (.ofNat 0)))) (some (.o (.i (.i (.o .h))), true)), AOper.mk (some (.o (.i (.o (.i .h))))) (.pick (.t (.o (.i (.i (.o .h))))) (.t (.i (.o (.o (.i .h))))) (.c (.bool false))) none, AOper.mk (some (.i (.i (.o (.i .h))))) (.mv (.t (.o (.i (.o (.i .h)))))) none, AOper.mk (some (.o (.o (.i (.i .h))))) (.fieldAddr 2 (.t (.o .h))) (some (.i (.i (.o (.i .h))), true)), AOper.mk (some (.i (.o (.i (.i .h))))) (.load false 1 (.t (.o (.o (.i (.i .h)))))) (some (.i (.i (.o (.i .h))), true)), AOper.mk (some (.o (.i (.i (.i .h))))) (.bin .leq (.val .int) (.t (.i (.o (.i (.i .h))))) (.c (.int .i64 (.ofNat 255)))) (some (.i (.i (.o (.i .h))), true)), AOper.mk (some (.i (.i (.i (.i .h))))) (.pick (.t (.i (.i (.o (.i .h))))) (.t (.o (.i (.i (.i .h))))) (.c (.bool false))) none, AOper.mk (some (.o (.o (.o (.o (.o .h)))))) (.mv (.t (.i (.i (.i (.i .h)))))) none, AOper.mk (some (.i (.o (.o (.o (.o .h)))))) (.fieldAddr 3 (.t (.o .h))) (some (.o (.o (.o (.o (.o .h)))), true)), AOper.mk (some (.o (.i (.o (.o (.o .h)))))) (.load false 1 (.t (.i (.o (.o (.o (.o .h))))))) (some (.o (.o (.o (.o (.o .h)))), true)), AOper.mk (some (.i (.i (.o (.o (.o .h)))))) (.bin .geq (.val .int) (.t (.o (.i (.o (.o (.o .h)))))) (.c (.int .i64 (.ofNat 0)))) (some (.o (.o (.o (.o (.o .h)))), true)), AOper.mk (some (.o (.o (.i (.o (.o .h)))))) (.pick (.t (.o (.o (.o (.o (.o .h)))))) (.t (.i (.i (.o (.o (.o .h)))))) (.c (.bool false))) none, AOper.mk (some (.i (.o (.i (.o (.o .h)))))) (.mv (.t (.o (.o (.i (.o (.o .h))))))) none, AOper.mk (some (.o (.i (.i (.o (.o .h)))))) (.fieldAddr 3 (.t (.o .h))) (some (.i (.o (.i (.o (.o .h)))), true)), AOper.mk (some (.i (.i (.i (.o (.o .h)))))) (.load false 1 (.t (.o (.i (.i (.o (.o .h))))))) (some (.i (.o (.i (.o (.o .h)))), true)), AOper.mk (some (.o (.o (.o (.i (.o .h)))))) (.bin .leq (.val .int) (.t (.i (.i (.i (.o (.o .h)))))) (.c (.int .i64 (.ofNat 255)))) (some (.i (.o (.i (.o (.o .h)))), true)), AOper.mk (some (.i (.o (.o (.i (.o .h)))))) (.pick (.t (.i (.o (.i (.o (.o .h)))))) (.t (.o (.o (.o (.i (.o .h)))))) (.c (.bool false))) none, AOper.mk (some (.i .h)) (.mv (.t (.i (.o (.o (.i (.o .h))))))) none]) .ret)) [.tmp (.i .h)]
def LayREnd : ACode := (.seq (.reg [AOper.mk (some (.o (.o (.o (.i (.o (.i .h))))))) (.append 1 1 (.t (.o (.i .h))) (.t (.i (.i .h)))) none, AOper.mk (some (.i .h)) (.mv (.t (.o (.o (.o (.i (.o (.i .h)))))))) none, AOper.mk (some (.o (.o .h))) (.mv (.c (.bool true))) none]) .ret)
def LayRBody (n_Big : Nat) (n_RightPx : Nat) : ACode := (.seq (.reg [AOper.mk (some (.o (.i (.i (.i .h))))) (.bslice 1 2 [.int .u8 (.ofNat 0)] [(0, (1, .c (.int .u8 (.ofNat 0)))), (1, (1, .c (.int .u8 (.ofNat 0))))]) none, AOper.mk (some (.o (.o (.o (.o (.o .h)))))) (.call n_Big [.t (.i (.o .h)), .c (.int .i64 (.ofNat 2))]) none, AOper.mk (some (.i (.o (.o (.o (.o .h)))))) (.append 1 1 (.t (.o (.i (.i (.i .h))))) (.t (.o (.o (.o (.o (.o .h))))))) none, AOper.mk (some (.o (.i .h))) (.mv (.t (.i (.o (.o (.o (.o .h))))))) none]) (.seq (.reg [AOper.mk (some (.o (.o (.i (.o (.o .h)))))) (.len .slice (.t .h)) none, AOper.mk (some (.i (.o (.i (.o (.o .h)))))) (.call n_Big [.t (.o (.o (.i (.o (.o .h))))), .c (.int .i64 (.ofNat 2))]) none, AOper.mk (some (.o (.i (.i (.o (.o .h)))))) (.append 1 1 (.t (.o (.i .h))) (.t (.i (.o (.i (.o (.o .h))))))) none, AOper.mk (some (.o (.i .h))) (.mv (.t (.o (.i (.i (.o (.o .h))))))) none]) (.seq (.reg [AOper.mk (some (.o (.i (.o (.i (.o .h)))))) (.len .slice (.t .h)) none, AOper.mk (some (.i (.i (.o (.i (.o .h)))))) (.bin .mul (.val .int) (.t (.i (.o .h))) (.t (.o (.i (.o (.i (.o .h))))))) none, AOper.mk (some (.o (.o (.i (.i (.o .h)))))) (.call n_Big [.t (.i (.i (.o (.i (.o .h))))), .c (.int .i64 (.ofNat 2))]) none, AOper.mk (some (.i (.o (.i (.i (.o .h)))))) (.append 1 1 (.t (.o (.i .h))) (.t (.o (.o (.i (.i (.o .h))))))) none, AOper.mk (some (.o (.i .h))) (.mv (.t (.i (.o (.i (.i (.o .h))))))) none]) (.seq (.reg [AOper.mk (some (.o (.o (.o (.o (.i .h)))))) (.len .slice (.t .h)) none, AOper.mk (some (.i (.o (.o (.o (.i .h)))))) (.bin .mul (.val .int) (.c (.int .i64 (.ofNat 2))) (.t (.o (.o (.o (.o (.i .h))))))) none, AOper.mk (some (.o (.i (.o (.o (.i .h)))))) (.bin .add (.val .int) (.c (.int .i64 (.ofNat 12))) (.t (.i (.o (.o (.o (.i .h))))))) none, AOper.mk (some (.i (.i (.o (.o (.i .h)))))) (.call n_Big [.t (.o (.i (.o (.o (.i .h))))), .c (.int .i64 (.ofNat 4))]) none, AOper.mk (some (.o (.o (.i (.o (.i .h)))))) (.append 1 1 (.t (.o (.i .h))) (.t (.i (.i (.o (.o (.i .h))))))) none, AOper.mk (some (.o (.i .h))) (.mv (.t (.o (.o (.i (.o (.i .h))))))) none]) (.seq (.reg [AOper.mk (some (.i (.i .h))) (.mv (.c (.slice none 0 0 0 true))) none]) (.seq (.seq (.reg [AOper.mk (some (.o (.o (.o .h)))) (.mv (.c (.int .i64 (.ofNat 0)))) none]) (.block 0 (.loop (.seq (.seq (.reg [AOper.mk (some (.i (.i (.i (.o (.i .h)))))) (.len .slice (.t .h)) none, AOper.mk (some (.o (.o (.o (.i (.i .h)))))) (.bin .lss (.val .int) (.t (.o (.o (.o .h)))) (.t (.i (.i (.i (.o (.i .h))))))) none]) (.cond (.t (.o (.o (.o (.i (.i .h)))))) .skip (.exit 0))) (.seq (.block 1 (.seq (.seq (.reg [AOper.mk (some (.i (.o (.i (.i (.i .h)))))) (.idxAddr (.slice 1) (.t .h) (.t (.o (.o (.o .h))))) none, AOper.mk (some (.o (.i (.i (.i (.i .h)))))) (.load false 1 (.t (.i (.o (.i (.i (.i .h))))))) none, AOper.mk (some (.i (.i (.i (.i (.i .h)))))) (.len .slice (.t (.o (.i (.i (.i (.i .h))))))) none, AOper.mk (some (.i (.o (.o (.o (.o (.o .h))))))) (.bin .neq (.val .int) (.t (.i (.i (.i (.i (.i .h)))))) (.t (.i (.o .h)))) none]) (.cond (.t (.i (.o (.o (.o (.o (.o .h))))))) (.seq (.reg [AOper.mk (some (.i .h)) (.mv (.c (.slice none 0 0 0 true))) none, AOper.mk (some (.o (.o .h))) (.mv (.c (.bool false))) none]) .ret) .skip)) (.seq (.reg [AOper.mk (some (.i (.o (.i (.o (.o (.o .h))))))) (.bin .mul (.val .int) (.t (.i (.o .h))) (.t (.o (.o (.o .h))))) none, AOper.mk (some (.o (.i (.i (.o (.o (.o .h))))))) (.call n_Big [.t (.i (.o (.i (.o (.o (.o .h)))))), .c (.int .i64 (.ofNat 2))]) none, AOper.mk (some (.i (.i (.i (.o (.o (.o .h))))))) (.append 1 1 (.t (.o (.i .h))) (.t (.o (.i (.i (.o (.o (.o .h)))))))) none, AOper.mk (some (.o (.i .h))) (.mv (.t (.i (.i (.i (.o (.o (.o .h)))))))) none]) (.seq (.reg [AOper.mk (some (.i (.o (.o .h)))) (.mv (.c (.int .i64 (.ofNat 0)))) none]) (.block 2 (.loop (.seq (.seq (.reg [AOper.mk (some (.o (.i (.o (.i (.o (.o .h))))))) (.bin .lss (.val .int) (.t (.i (.o (.o .h)))) (.t (.i (.o .h)))) none]) (.cond (.t (.o (.i (.o (.i (.o (.o .h))))))) .skip (.exit 2))) (.seq (.block 3 (.seq (.reg [AOper.mk (some (.i (.i (.i (.i (.o (.o .h))))))) (.idxAddr (.slice 1) (.t .h) (.t (.o (.o (.o .h))))) none, AOper.mk (some (.o (.o (.o (.o (.i (.o .h))))))) (.load false 1 (.t (.i (.i (.i (.i (.o (.o .h)))))))) none, AOper.mk (some (.o (.i (.o (.o (.i (.o .h))))))) (.idxAddr (.slice 4) (.t (.o (.o (.o (.o (.i (.o .h))))))) (.t (.i (.o (.o .h))))) none, AOper.mk (some (.i (.i (.o (.o (.i (.o .h))))))) (.load true 4 (.t (.o (.i (.o (.o (.i (.o .h)))))))) none, AOper.mk (some (.o (.i (.o .h)))) (.alloc [.int .i64 (.ofNat 0), .int .i64 (.ofNat 0), .int .i64 (.ofNat 0), .int .i64 (.ofNat 0)]) none, AOper.mk none (.store 4 (.t (.o (.i (.o .h)))) (.t (.i (.i (.o (.o (.i (.o .h)))))))) none]) (.seq (.seq (.reg [AOper.mk (some (.o (.o (.i (.o (.i (.o .h))))))) (.load true 4 (.t (.o (.i (.o .h))))) none, AOper.mk (some (.i (.o (.i (.o (.i (.o .h))))))) (.call n_RightPx [.t (.o (.o (.i (.o (.i (.o .h))))))]) none, AOper.mk (some (.o (.i (.i (.o (.i (.o .h))))))) (.un .not (.t (.i (.o (.i (.o (.i (.o .h)))))))) none]) (.cond (.t (.o (.i (.i (.o (.i (.o .h))))))) (.seq (.reg [AOper.mk (some (.i .h)) (.mv (.c (.slice none 0 0 0 true))) none, AOper.mk (some (.o (.o .h))) (.mv (.c (.bool false))) none]) .ret) .skip)) (.reg [AOper.mk (some (.o (.o (.o (.i (.i (.o .h))))))) (.fieldAddr 2 (.t (.o (.i (.o .h))))) none, AOper.mk (some (.i (.o (.o (.i (.i (.o .h))))))) (.load false 1 (.t (.o (.o (.o (.i (.i (.o .h)))))))) none, AOper.mk (some (.o (.i (.o (.i (.i (.o .h))))))) (.conv (.int .u8) (.t (.i (.o (.o (.i (.i (.o .h)))))))) none, AOper.mk (some (.i (.i (.o (.i (.i (.o .h))))))) (.fieldAddr 1 (.t (.o (.i (.o .h))))) none, AOper.mk (some (.o (.o (.i (.i (.i (.o .h))))))) (.load false 1 (.t (.i (.i (.o (.i (.i (.o .h)))))))) none, AOper.mk (some (.i (.o (.i (.i (.i (.o .h))))))) (.conv (.int .u8) (.t (.o (.o (.i (.i (.i (.o .h)))))))) none, AOper.mk (some (.o (.i (.i (.i (.i (.o .h))))))) (.fieldAddr 0 (.t (.o (.i (.o .h))))) none, AOper.mk (some (.i (.i (.i (.i (.i (.o .h))))))) (.load false 1 (.t (.o (.i (.i (.i (.i (.o .h)))))))) none, AOper.mk (some (.o (.o (.o (.o (.o (.i .h))))))) (.conv (.int .u8) (.t (.i (.i (.i (.i (.i (.o .h)))))))) none, AOper.mk (some (.i (.o (.o (.o (.o (.i .h))))))) (.fieldAddr 3 (.t (.o (.i (.o .h))))) none, AOper.mk (some (.o (.i (.o (.o (.o (.i .h))))))) (.load false 1 (.t (.i (.o (.o (.o (.o (.i .h)))))))) none, AOper.mk (some (.i (.i (.o (.o (.o (.i .h))))))) (.conv (.int .u8) (.t (.o (.i (.o (.o (.o (.i .h)))))))) none, AOper.mk (some (.o (.o (.i (.o (.o (.i .h))))))) (.bslice 1 4 [.int .u8 (.ofNat 0)] [(0, (1, .t (.o (.i (.o (.i (.i (.o .h)))))))), (1, (1, .t (.i (.o (.i (.i (.i (.o .h)))))))), (2, (1, .t (.o (.o (.o (.o (.o (.i .h)))))))), (3, (1, .t (.i (.i (.o (.o (.o (.i .h))))))))]) none, AOper.mk (some (.i (.o (.i (.o (.o (.i .h))))))) (.append 1 1 (.t (.i (.i .h))) (.t (.o (.o (.i (.o (.o (.i .h)))))))) none, AOper.mk (some (.i (.i .h))) (.mv (.t (.i (.o (.i (.o (.o (.i .h)))))))) none])))) (.reg [AOper.mk (some (.o (.o (.i (.i (.o (.o .h))))))) (.bin .add (.val .int) (.t (.i (.o (.o .h)))) (.c (.int .i64 (.ofNat 1)))) none, AOper.mk (some (.i (.o (.o .h)))) (.mv (.t (.o (.o (.i (.i (.o (.o .h)))))))) none]))))))))) (.reg [AOper.mk (some (.o (.i (.o (.i (.i .h)))))) (.bin .add (.val .int) (.t (.o (.o (.o .h)))) (.c (.int .i64 (.ofNat 1)))) none, AOper.mk (some (.o (.o (.o .h)))) (.mv (.t (.o (.i (.o (.i (.i .h))))))) none])))))) LayREnd))))))
def LayR_c (n_Big : Nat) (n_RightPx : Nat) : AFunc := AFunc.mk 104 (.seq (.reg [AOper.mk (some (.i .h)) (.mv (.c (.slice none 0 0 0 true))) none, AOper.mk (some (.o (.o .h))) (.mv (.c (.bool false))) none]) (.seq (.seq (.reg [AOper.mk (some (.o (.o (.i .h)))) (.len .slice (.t .h)) none, AOper.mk (some (.i (.o (.i .h)))) (.bin .gtr (.val .int) (.t (.o (.o (.i .h)))) (.c (.int .i64 (.ofNat 64)))) none]) (.cond (.t (.i (.o (.i .h)))) (.seq (.reg [AOper.mk (some (.i .h)) (.mv (.c (.slice none 0 0 0 true))) none, AOper.mk (some (.o (.o .h))) (.mv (.c (.bool false))) none]) .ret) .skip)) (.seq (.reg [AOper.mk (some (.i (.o .h))) (.mv (.c (.int .i64 (.ofNat 0)))) none]) (.seq (.seq (.reg [AOper.mk (some (.i (.i (.i .h)))) (.len .slice (.t .h)) none, AOper.mk (some (.o (.o (.o (.o .h))))) (.bin .gtr (.val .int) (.t (.i (.i (.i .h)))) (.c (.int .i64 (.ofNat 0)))) none]) (.cond (.t (.o (.o (.o (.o .h))))) (.reg [AOper.mk (some (.o (.i (.o (.o .h))))) (.idxAddr (.slice 1) (.t .h) (.c (.int .i64 (.ofNat 0)))) none, AOper.mk (some (.i (.i (.o (.o .h))))) (.load false 1 (.t (.o (.i (.o (.o .h)))))) none, AOper.mk (some (.o (.o (.i (.o .h))))) (.len .slice (.t (.i (.i (.o (.o .h)))))) none, AOper.mk (some (.i (.o .h))) (.mv (.t (.o (.o (.i (.o .h)))))) none]) .skip)) (.seq (.seq (.reg [AOper.mk (some (.o (.i (.i (.o .h))))) (.bin .gtr (.val .int) (.t (.i (.o .h))) (.c (.int .i64 (.ofNat 256)))) none, AOper.mk (some (.i (.i (.i (.o .h))))) (.mv (.t (.o (.i (.i (.o .h)))))) none, AOper.mk (some (.o (.i (.o (.i .h))))) (.len .slice (.t .h)) (some (.i (.i (.i (.o .h))), false)), AOper.mk (some (.i (.i (.o (.i .h))))) (.bin .mul (.val .int) (.t (.i (.o .h))) (.t (.o (.i (.o (.i .h)))))) (some (.i (.i (.i (.o .h))), false)), AOper.mk (some (.o (.o (.i (.i .h))))) (.bin .gtr (.val .int) (.t (.i (.i (.o (.i .h))))) (.c (.int .i64 (.ofNat 65535)))) (some (.i (.i (.i (.o .h))), false)), AOper.mk (some (.i (.o (.i (.i .h))))) (.pick (.t (.i (.i (.i (.o .h))))) (.c (.bool true)) (.t (.o (.o (.i (.i .h)))))) none]) (.cond (.t (.i (.o (.i (.i .h))))) (.seq (.reg [AOper.mk (some (.i .h)) (.mv (.c (.slice none 0 0 0 true))) none, AOper.mk (some (.o (.o .h))) (.mv (.c (.bool false))) none]) .ret) .skip)) (LayRBody n_Big n_RightPx)))))) [.tmp (.i .h), .tmp (.o (.o .h))]
def ReadRLoop (n_Num : Nat) : ACode := (.seq (.reg [AOper.mk (some (.i (.i (.o (.o .h))))) (.mv (.c (.slice none 0 0 0 true))) none]) (.seq (.seq (.reg [AOper.mk (some (.o (.o (.i (.o .h))))) (.mv (.c (.int .i64 (.ofNat 0)))) none]) (.block 1 (.loop (.seq (.seq (.reg [AOper.mk (some (.o (.i (.o (.i (.i (.o .h))))))) (.bin .lss (.val .int) (.t (.o (.o (.i (.o .h))))) (.t (.o (.o (.i .h))))) none]) (.cond (.t (.o (.i (.o (.i (.i (.o .h))))))) .skip (.exit 1))) (.seq (.block 2 (.seq (.reg [AOper.mk (some (.o (.o (.o (.o (.o (.i .h))))))) (.bin .mul (.val .int) (.c (.int .i64 (.ofNat 2))) (.t (.o (.o (.i (.o .h)))))) none, AOper.mk (some (.i (.o (.o (.o (.o (.i .h))))))) (.bin .add (.val .int) (.c (.int .i64 (.ofNat 12))) (.t (.o (.o (.o (.o (.o (.i .h)))))))) none, AOper.mk (some (.o (.i (.o (.o (.o (.i .h))))))) (.call n_Num [.t (.o (.i .h)), .t (.i (.o (.o (.o (.o (.i .h)))))), .c (.int .i64 (.ofNat 2))]) none, AOper.mk (some (.i (.i (.o (.o (.o (.i .h))))))) (.extract (.t (.o (.i (.o (.o (.o (.i .h))))))) 0) none, AOper.mk (some (.o (.o (.i (.o (.o (.i .h))))))) (.extract (.t (.o (.i (.o (.o (.o (.i .h))))))) 1) none, AOper.mk (some (.i (.o (.i (.o .h))))) (.mv (.t (.i (.i (.o (.o (.o (.i .h)))))))) none, AOper.mk (some (.o (.i (.i (.o .h))))) (.mv (.t (.o (.o (.i (.o (.o (.i .h)))))))) none]) (.seq (.seq (.reg [AOper.mk (some (.i (.i (.i (.o (.o (.i .h))))))) (.bin .add (.val .int) (.t (.i (.o (.i (.o .h))))) (.t (.o (.i (.o .h))))) none, AOper.mk (some (.i (.o (.o (.i (.o (.i .h))))))) (.bin .gtr (.val .int) (.t (.i (.i (.i (.o (.o (.i .h))))))) (.t (.o (.i (.i .h))))) none]) (.cond (.t (.i (.o (.o (.i (.o (.i .h))))))) (.seq (.reg [AOper.mk (some (.i .h)) (.mv (.c (.slice none 0 0 0 true))) none, AOper.mk (some (.o (.o .h))) (.mv (.c (.int .i64 (.ofNat 0)))) none, AOper.mk (some (.i (.o .h))) (.mv (.c (.int .i64 (.ofNat 2)))) none]) .ret) .skip)) (.seq (.reg [AOper.mk (some (.i (.i (.i (.o .h))))) (.mv (.c (.slice none 0 0 0 true))) none]) (.seq (.seq (.reg [AOper.mk (some (.o (.o (.o (.i .h))))) (.mv (.c (.int .i64 (.ofNat 0)))) none]) (.block 3 (.loop (.seq (.seq (.reg [AOper.mk (some (.o (.o (.i (.i (.o (.i .h))))))) (.bin .lss (.val .int) (.t (.o (.o (.o (.i .h))))) (.t (.o (.i (.o .h))))) none]) (.cond (.t (.o (.o (.i (.i (.o (.i .h))))))) .skip (.exit 3))) (.seq (.block 4 (.seq (.reg [AOper.mk (some (.o (.i (.o (.o (.i (.i .h))))))) (.bin .add (.val .int) (.t (.i (.o (.i (.o .h))))) (.t (.o (.o (.o (.i .h)))))) none, AOper.mk (some (.i (.i (.o (.o (.i (.i .h))))))) (.bin .mul (.val .int) (.c (.int .i64 (.ofNat 4))) (.t (.o (.i (.o (.o (.i (.i .h)))))))) none, AOper.mk (some (.o (.o (.i (.o (.i (.i .h))))))) (.slice (.slice 1) (.t (.o (.i (.o (.o .h))))) (some (.t (.i (.i (.o (.o (.i (.i .h)))))))) none none) none, AOper.mk (some (.i (.o (.o (.i .h))))) (.mv (.t (.o (.o (.i (.o (.i (.i .h)))))))) none]) (.dreg [(AOper.mk (some (.i (.o (.i (.o (.i (.i .h))))))) (.mv (.t (.i (.i (.i (.o .h)))))) none, []), (AOper.mk (some (.o (.i (.i (.o (.i (.i .h))))))) (.mv (.t (.i (.o (.o (.i .h)))))) none, []), (AOper.mk (some (.i (.i (.i (.o (.i (.i .h))))))) (.idxAddr (.slice 1) (.t (.o (.i (.i (.o (.i (.i .h))))))) (.c (.int .i64 (.ofNat 2)))) none, []), (AOper.mk (some (.o (.o (.o (.i (.i (.i .h))))))) (.load false 1 (.t (.i (.i (.i (.o (.i (.i .h)))))))) none, [7, 11, 15]), (AOper.mk (some (.i (.o (.o (.i (.i (.i .h))))))) (.conv (.int .i64) (.t (.o (.o (.o (.i (.i (.i .h)))))))) none, []), (AOper.mk (some (.o (.i (.o (.i (.i (.i .h))))))) (.mv (.t (.i (.o (.o (.i .h)))))) none, []), (AOper.mk (some (.i (.i (.o (.i (.i (.i .h))))))) (.idxAddr (.slice 1) (.t (.o (.i (.o (.i (.i (.i .h))))))) (.c (.int .i64 (.ofNat 1)))) none, []), (AOper.mk (some (.o (.o (.i (.i (.i (.i .h))))))) (.load false 1 (.t (.i (.i (.o (.i (.i (.i .h)))))))) none, [3, 11, 15]), (AOper.mk (some (.i (.o (.i (.i (.i (.i .h))))))) (.conv (.int .i64) (.t (.o (.o (.i (.i (.i (.i .h)))))))) none, []), (AOper.mk (some (.o (.i (.i (.i (.i (.i .h))))))) (.mv (.t (.i (.o (.o (.i .h)))))) none, []), (AOper.mk (some (.i (.i (.i (.i (.i (.i .h))))))) (.idxAddr (.slice 1) (.t (.o (.i (.i (.i (.i (.i .h))))))) (.c (.int .i64 (.ofNat 0)))) none, []), (AOper.mk (some (.o (.o (.o (.o (.o (.o (.o .h)))))))) (.load false 1 (.t (.i (.i (.i (.i (.i (.i .h)))))))) none, [3, 7, 15]), (AOper.mk (some (.i (.o (.o (.o (.o (.o (.o .h)))))))) (.conv (.int .i64) (.t (.o (.o (.o (.o (.o (.o (.o .h))))))))) none, []), (AOper.mk (some (.o (.i (.o (.o (.o (.o (.o .h)))))))) (.mv (.t (.i (.o (.o (.i .h)))))) none, []), (AOper.mk (some (.i (.i (.o (.o (.o (.o (.o .h)))))))) (.idxAddr (.slice 1) (.t (.o (.i (.o (.o (.o (.o (.o .h)))))))) (.c (.int .i64 (.ofNat 3)))) none, []), (AOper.mk (some (.o (.o (.i (.o (.o (.o (.o .h)))))))) (.load false 1 (.t (.i (.i (.o (.o (.o (.o (.o .h))))))))) none, [3, 7, 11]), (AOper.mk (some (.i (.o (.i (.o (.o (.o (.o .h)))))))) (.conv (.int .i64) (.t (.o (.o (.i (.o (.o (.o (.o .h))))))))) none, []), (AOper.mk (some (.o (.i (.i (.o (.o (.o (.o .h)))))))) (.build [.int .i64 (.ofNat 0), .int .i64 (.ofNat 0), .int .i64 (.ofNat 0), .int .i64 (.ofNat 0)] [(0, (1, .t (.i (.o (.o (.i (.i (.i .h)))))))), (1, (1, .t (.i (.o (.i (.i (.i (.i .h)))))))), (2, (1, .t (.i (.o (.o (.o (.o (.o (.o .h))))))))), (3, (1, .t (.i (.o (.i (.o (.o (.o (.o .h)))))))))]) none, []), (AOper.mk (some (.i (.i (.i (.o (.o (.o (.o .h)))))))) (.bslice 4 1 [.int .i64 (.ofNat 0), .int .i64 (.ofNat 0), .int .i64 (.ofNat 0), .int .i64 (.ofNat 0)] [(0, (4, .t (.o (.i (.i (.o (.o (.o (.o .h)))))))))]) none, []), (AOper.mk (some (.o (.o (.o (.i (.o (.o (.o .h)))))))) (.append 4 32 (.t (.i (.o (.i (.o (.i (.i .h))))))) (.t (.i (.i (.i (.o (.o (.o (.o .h))))))))) none, []), (AOper.mk (some (.i (.i (.i (.o .h))))) (.mv (.t (.o (.o (.o (.i (.o (.o (.o .h))))))))) none, [])]))) (.reg [AOper.mk (some (.o (.i (.i (.i (.o (.i .h))))))) (.bin .add (.val .int) (.t (.o (.o (.o (.i .h))))) (.c (.int .i64 (.ofNat 1)))) none, AOper.mk (some (.o (.o (.o (.i .h))))) (.mv (.t (.o (.i (.i (.i (.o (.i .h)))))))) none])))))) (.reg [AOper.mk (some (.i (.i (.o (.i (.o (.o (.o .h)))))))) (.bslice 1 1 [.slice none 0 0 0 true] [(0, (1, .t (.i (.i (.i (.o .h))))))]) none, AOper.mk (some (.o (.o (.i (.i (.o (.o (.o .h)))))))) (.append 1 24 (.t (.i (.i (.o (.o .h))))) (.t (.i (.i (.o (.i (.o (.o (.o .h))))))))) none, AOper.mk (some (.i (.i (.o (.o .h))))) (.mv (.t (.o (.o (.i (.i (.o (.o (.o .h))))))))) none])))))) (.reg [AOper.mk (some (.o (.o (.i (.i (.i (.o .h))))))) (.bin .add (.val .int) (.t (.o (.o (.i (.o .h))))) (.c (.int .i64 (.ofNat 1)))) none, AOper.mk (some (.o (.o (.i (.o .h))))) (.mv (.t (.o (.o (.i (.i (.i (.o .h)))))))) none])))))) (.seq (.reg [AOper.mk (some (.i .h)) (.mv (.t (.i (.i (.o (.o .h)))))) none, AOper.mk (some (.o (.o .h))) (.mv (.t (.o (.i (.o .h))))) none, AOper.mk (some (.i (.o .h))) (.mv (.c (.int .i64 (.ofNat 0)))) none]) .ret)))
def ReadR_c (n_RTable : Nat) (n_Num : Nat) (n_RPart : Nat) : AFunc := AFunc.mk 142 (.seq (.reg [AOper.mk (some (.i .h)) (.mv (.c (.slice none 0 0 0 true))) none, AOper.mk (some (.o (.o .h))) (.mv (.c (.int .i64 (.ofNat 0)))) none, AOper.mk (some (.i (.o .h))) (.mv (.c (.int .i64 (.ofNat 0)))) none]) (.seq (.reg [AOper.mk (some (.o (.o (.i (.i .h))))) (.call n_RTable [.t .h, .c (.str [67, 80, 65, 76])]) none, AOper.mk (some (.i (.o (.i (.i .h))))) (.extract (.t (.o (.o (.i (.i .h))))) 0) none, AOper.mk (some (.o (.i (.i (.i .h))))) (.extract (.t (.o (.o (.i (.i .h))))) 1) none, AOper.mk (some (.o (.i .h))) (.mv (.t (.i (.o (.i (.i .h)))))) none, AOper.mk (some (.i (.i .h))) (.mv (.t (.o (.i (.i (.i .h)))))) none]) (.seq (.seq (.reg [AOper.mk (some (.o (.o (.o (.o (.o .h)))))) (.un .not (.t (.i (.i .h)))) none]) (.cond (.t (.o (.o (.o (.o (.o .h)))))) (.seq (.reg [AOper.mk (some (.i .h)) (.mv (.c (.slice none 0 0 0 true))) none, AOper.mk (some (.o (.o .h))) (.mv (.c (.int .i64 (.ofNat 0)))) none, AOper.mk (some (.i (.o .h))) (.mv (.c (.int .i64 (.ofNat 6)))) none]) .ret) .skip)) (.seq (.seq (.reg [AOper.mk (some (.o (.i (.o (.o (.o .h)))))) (.len .slice (.t (.o (.i .h)))) none, AOper.mk (some (.i (.i (.o (.o (.o .h)))))) (.bin .lss (.val .int) (.t (.o (.i (.o (.o (.o .h)))))) (.c (.int .i64 (.ofNat 12)))) none]) (.cond (.t (.i (.i (.o (.o (.o .h)))))) (.seq (.reg [AOper.mk (some (.i .h)) (.mv (.c (.slice none 0 0 0 true))) none, AOper.mk (some (.o (.o .h))) (.mv (.c (.int .i64 (.ofNat 0)))) none, AOper.mk (some (.i (.o .h))) (.mv (.c (.int .i64 (.ofNat 3)))) none]) .ret) .skip)) (.seq (.reg [AOper.mk (some (.o (.i (.i (.o (.o .h)))))) (.call n_Num [.t (.o (.i .h)), .c (.int .i64 (.ofNat 0)), .c (.int .i64 (.ofNat 2))]) none, AOper.mk (some (.i (.i (.i (.o (.o .h)))))) (.extract (.t (.o (.i (.i (.o (.o .h)))))) 0) none, AOper.mk (some (.o (.o (.o (.i (.o .h)))))) (.extract (.t (.o (.i (.i (.o (.o .h)))))) 1) none, AOper.mk (some (.o (.o (.o .h)))) (.mv (.t (.i (.i (.i (.o (.o .h))))))) none, AOper.mk (some (.i (.o (.o .h)))) (.mv (.t (.o (.o (.o (.i (.o .h))))))) none]) (.seq (.reg [AOper.mk (some (.i (.i (.o (.i (.o .h)))))) (.call n_Num [.t (.o (.i .h)), .c (.int .i64 (.ofNat 2)), .c (.int .i64 (.ofNat 2))]) none, AOper.mk (some (.o (.o (.i (.i (.o .h)))))) (.extract (.t (.i (.i (.o (.i (.o .h)))))) 0) none, AOper.mk (some (.i (.o (.i (.i (.o .h)))))) (.extract (.t (.i (.i (.o (.i (.o .h)))))) 1) none, AOper.mk (some (.o (.i (.o .h)))) (.mv (.t (.o (.o (.i (.i (.o .h))))))) none, AOper.mk (some (.i (.i (.o .h)))) (.mv (.t (.i (.o (.i (.i (.o .h))))))) none]) (.seq (.reg [AOper.mk (some (.o (.o (.o (.o (.i .h)))))) (.call n_Num [.t (.o (.i .h)), .c (.int .i64 (.ofNat 4)), .c (.int .i64 (.ofNat 2))]) none, AOper.mk (some (.i (.o (.o (.o (.i .h)))))) (.extract (.t (.o (.o (.o (.o (.i .h)))))) 0) none, AOper.mk (some (.o (.i (.o (.o (.i .h)))))) (.extract (.t (.o (.o (.o (.o (.i .h)))))) 1) none, AOper.mk (some (.o (.o (.i .h)))) (.mv (.t (.i (.o (.o (.o (.i .h))))))) none, AOper.mk (some (.i (.o (.i .h)))) (.mv (.t (.o (.i (.o (.o (.i .h))))))) none]) (.seq (.reg [AOper.mk (some (.i (.o (.i (.o (.i .h)))))) (.call n_Num [.t (.o (.i .h)), .c (.int .i64 (.ofNat 6)), .c (.int .i64 (.ofNat 2))]) none, AOper.mk (some (.o (.i (.i (.o (.i .h)))))) (.extract (.t (.i (.o (.i (.o (.i .h)))))) 0) none, AOper.mk (some (.i (.i (.i (.o (.i .h)))))) (.extract (.t (.i (.o (.i (.o (.i .h)))))) 1) none, AOper.mk (some (.o (.i (.i .h)))) (.mv (.t (.o (.i (.i (.o (.i .h))))))) none, AOper.mk (some (.i (.i (.i .h)))) (.mv (.t (.i (.i (.i (.o (.i .h))))))) none]) (.seq (.reg [AOper.mk (some (.o (.i (.o (.i (.i .h)))))) (.call n_Num [.t (.o (.i .h)), .c (.int .i64 (.ofNat 8)), .c (.int .i64 (.ofNat 4))]) none, AOper.mk (some (.i (.i (.o (.i (.i .h)))))) (.extract (.t (.o (.i (.o (.i (.i .h)))))) 0) none, AOper.mk (some (.o (.o (.i (.i (.i .h)))))) (.extract (.t (.o (.i (.o (.i (.i .h)))))) 1) none, AOper.mk (some (.o (.o (.o (.o .h))))) (.mv (.t (.i (.i (.o (.i (.i .h))))))) none, AOper.mk (some (.i (.o (.o (.o .h))))) (.mv (.t (.o (.o (.i (.i (.i .h))))))) none]) (.seq (.block 0 (.seq (.reg [AOper.mk (some (.i (.i (.i (.i (.i .h)))))) (.bin .gtr (.val .int) (.t (.o (.o (.o .h)))) (.c (.int .i64 (.ofNat 1)))) none, AOper.mk (some (.i (.o (.i (.i (.i .h)))))) (.mv (.t (.i (.i (.i (.i (.i .h))))))) none]) (.cond (.t (.i (.o (.i (.i (.i .h)))))) (.seq (.reg [AOper.mk (some (.i .h)) (.mv (.c (.slice none 0 0 0 true))) none, AOper.mk (some (.o (.o .h))) (.mv (.c (.int .i64 (.ofNat 0)))) none, AOper.mk (some (.i (.o .h))) (.mv (.c (.int .i64 (.ofNat 2)))) none]) .ret) (.seq (.reg [AOper.mk (some (.o (.i (.o (.o (.o (.o .h))))))) (.bin .gtr (.val .int) (.t (.o (.o (.i .h)))) (.c (.int .i64 (.ofNat 64)))) none, AOper.mk (some (.i (.i (.o (.o (.o (.o .h))))))) (.mv (.t (.o (.i (.o (.o (.o (.o .h)))))))) none, AOper.mk (some (.i (.o (.i (.o (.o (.o .h))))))) (.bin .gtr (.val .int) (.t (.o (.i (.o .h)))) (.c (.int .i64 (.ofNat 256)))) (some (.i (.i (.o (.o (.o (.o .h))))), false)), AOper.mk (some (.o (.i (.i (.o (.o (.o .h))))))) (.pick (.t (.i (.i (.o (.o (.o (.o .h))))))) (.c (.bool true)) (.t (.i (.o (.i (.o (.o (.o .h)))))))) none, AOper.mk (some (.o (.o (.o (.o (.o (.o .h))))))) (.mv (.t (.o (.i (.i (.o (.o (.o .h)))))))) none]) (.cond (.t (.o (.o (.o (.o (.o (.o .h))))))) (.seq (.reg [AOper.mk (some (.i .h)) (.mv (.c (.slice none 0 0 0 true))) none, AOper.mk (some (.o (.o .h))) (.mv (.c (.int .i64 (.ofNat 0)))) none, AOper.mk (some (.i (.o .h))) (.mv (.c (.int .i64 (.ofNat 4)))) none]) .ret) (.seq (.reg [AOper.mk (some (.i (.o (.o (.i (.o (.o .h))))))) (.len .slice (.t (.o (.i .h)))) none, AOper.mk (some (.i (.i (.o (.i (.o (.o .h))))))) (.bin .mul (.val .int) (.c (.int .i64 (.ofNat 2))) (.t (.o (.o (.i .h))))) none, AOper.mk (some (.o (.o (.i (.i (.o (.o .h))))))) (.bin .add (.val .int) (.c (.int .i64 (.ofNat 12))) (.t (.i (.i (.o (.i (.o (.o .h)))))))) none, AOper.mk (some (.i (.o (.i (.i (.o (.o .h))))))) (.bin .lss (.val .int) (.t (.i (.o (.o (.i (.o (.o .h))))))) (.t (.o (.o (.i (.i (.o (.o .h)))))))) none, AOper.mk (some (.i (.i (.i (.o (.o (.o .h))))))) (.mv (.t (.i (.o (.i (.i (.o (.o .h)))))))) none]) (.cond (.t (.i (.i (.i (.o (.o (.o .h))))))) (.seq (.reg [AOper.mk (some (.i .h)) (.mv (.c (.slice none 0 0 0 true))) none, AOper.mk (some (.o (.o .h))) (.mv (.c (.int .i64 (.ofNat 0)))) none, AOper.mk (some (.i (.o .h))) (.mv (.c (.int .i64 (.ofNat 3)))) none]) .ret) .skip))))))) (.seq (.reg [AOper.mk (some (.o (.i (.o (.o (.i (.o .h))))))) (.bin .mul (.val .int) (.c (.int .i64 (.ofNat 4))) (.t (.o (.i (.i .h))))) none, AOper.mk (some (.i (.i (.o (.o (.i (.o .h))))))) (.call n_RPart [.t (.o (.i .h)), .t (.o (.o (.o (.o .h)))), .t (.o (.i (.o (.o (.i (.o .h))))))]) none, AOper.mk (some (.o (.o (.i (.o (.i (.o .h))))))) (.extract (.t (.i (.i (.o (.o (.i (.o .h))))))) 0) none, AOper.mk (some (.i (.o (.i (.o (.i (.o .h))))))) (.extract (.t (.i (.i (.o (.o (.i (.o .h))))))) 1) none, AOper.mk (some (.o (.i (.o (.o .h))))) (.mv (.t (.o (.o (.i (.o (.i (.o .h)))))))) none, AOper.mk (some (.i (.i .h))) (.mv (.t (.i (.o (.i (.o (.i (.o .h)))))))) none]) (.seq (.seq (.reg [AOper.mk (some (.i (.i (.i (.o (.i (.o .h))))))) (.un .not (.t (.i (.i .h)))) none]) (.cond (.t (.i (.i (.i (.o (.i (.o .h))))))) (.seq (.reg [AOper.mk (some (.i .h)) (.mv (.c (.slice none 0 0 0 true))) none, AOper.mk (some (.o (.o .h))) (.mv (.c (.int .i64 (.ofNat 0)))) none, AOper.mk (some (.i (.o .h))) (.mv (.c (.int .i64 (.ofNat 3)))) none]) .ret) .skip)) (ReadRLoop n_Num))))))))))))) [.tmp (.i .h), .tmp (.o (.o .h)), .tmp (.i (.o .h))]
attribute [local simp] wp_skip wp_ret wp_exit wp_reg wp_seq wp_cond wp_block thenQ_normal thenQ_ret thenQ_exit blockQ_normal blockQ_ret blockQ_exit wpCond_true wpCond_false wpOps_nil wpVal_some wpGuard_true wpGuard_false wpOps_guard wpOps_cons
  put_at put_no ev_c ev_slot posEq_h posEq_o posEq_i posEq_ho posEq_hi posEq_oh posEq_ih posEq_oi posEq_io sel_true sel_false
  okv_some step_mv step_call step_pick pickV_bool step_bin bin_add bin_sub bin_mul bin_eql bin_neq bin_lss bin_leq bin_gtr bin_geq bin_eqb bin_neb bin_eqs bin_nes step_un un_not un_neg step_len len_slice len_str len_const step_extract extractV nth step_convInt conv_int step_convStr step_slice step_idxAddr natOf_nat step_load step_index step_field step_fieldAddr step_build step_minmax
  step_alloc step_bslice bsliceV_some newV_some step_store step_append boolIs_b boolIs_t finQ_ret finQ_normal ressE_nil ressE_cons resE_tmp consO_some initE_nil initE_cons pos_0 pos_1 pos_2 pos_3 pos_4 pos_5 pos_6 pos_7 pos_8 plain_bool plain_int plain_str plain_ptr plain_slice plain_map plain_agg plain_func plain_nilFunc V.undef oneOf_one oneOf_two ble_self
open Go.Vabs.Pk Go.Vabs.Ph Go.Vabs.Sa Go.Vabs.Sb Go.Vabs.Sc Go.Vabs.Sd Go.Vabs.Se Go.Vabs.Sg Go.Vabs.Sh Go.Vabs.Sm Go.Vabs.Sn Go.Vabs.Sp Go.Vabs.Sr Go.Vabs.St Go.Vabs.Su Go.Vabs.L2 Go.Vabs.Na Go.Vabs.Nb Go.Vabs.Ra Go.Vabs.Rb Go.Vabs.Rc Go.Vabs.Rd Go.Vabs.Re Go.Vabs.Ca Go.Vabs.Cb Go.Vabs.Vc Go.Vabs.Da Go.Vabs.Db Go.Vabs.Dc Go.Vabs.Dd Go.Vabs.De Go.Vabs.Df Go.Vabs.Dg
attribute [local simp] step_nilchk nilchk_ptr step_box cells_int cells_bool cells_str cells_slice cells_ptr cells_agg fieldAddrV natOf_zero fill repN splice over newV step_appendZ
  wp_dreg wpDs_nil wpDs_cons wantedE_none wantedE_some wpDGuard_true wpDGuard_lim wpDGuard_false wpDLim_true wpDVal_free wpDVal_lim back_limited next_limited limF_dir limF_false foot_load foot_store foot_convStr okAll_nil okAll_cons pastsOf nthP ahead few_next load_limited convStr_limited blt_dec okPair_dd okPair_dc okPair_cd okPair_cc anyIn_nil anyIn_same anyIn_cons meets_nil meets_nil'
  tn_alloc tn_load tn_load0 tn_store tn_store0 storeT_some loadC_some cellsAt_zero cellsAt_succ ownAt_zero ownAt_succ tn_first tn_first0 firstC_some tn_grow_none tn_grow tn_grow0 growN_some tn_fix tn_fix0 fixN_some bn_load bn_first bn_grow bn_store tn_next tn_alloc_dir tl_store_d tl_back tl_back_few few_back_tl backv_some back_back cut takeN nbeq_dec ble_dec meets_cons mem_nil mem_cons idOf load_d convStr_d lenOfS firstNo natOf_int if_leN bn_fix foot_bslice foot_alloc foot_box foot_append foot_call
theorem RightPx.auto {base : CallT} {g lf : Nat} : RightL (withL base g (lawOf (autoRd base lf RightPx_c)) g) := fun os P hP => by
  obtain ⟨h1, h2, h3, h4⟩ := hP
  refine auto_flat rfl rfl rfl fun Y hY => ?_
  refine enter_ex ?_
  unfold pxV
  rw [tl_of (X := Y)]
  simp (disch := omega) [dlt_t, dlt_f, dle_t, dle_f, dltn_t, dltn_f, dlen_t, dlen_f, deq_t, deq_f, deqn_t, deqn_f]
theorem append_zero {st : St} {e b e' n c : Nat} {a : Option (Nat × Nat)} {f : Bool} {l : List V} : appendV st e b (.slice a e' n c f) (some 0) (some l) = some (.slice a e' n c f, st) := rfl
theorem first_nil {st : St} {e n e' l c : Nat} {f : Bool} : firstN st e n (.slice none e' l c f) = some [] := rfl
theorem hdr_split {n e : Nat} : hdr n e = [0, 0] ++ bigB e 2 ++ bigB n 2 ++ bigB (n * e) 2 ++ bigB (12 + 2 * n) 4 := by
  unfold hdr
  rw [show bigB 0 2 = [0, 0] from rfl]
  simp
theorem layP_hdr {X : List (List Px)} (hn : X.length ≤ 64) : layP X = hdr X.length (eachX X) ++ idxB (eachX X) X.length ++ colB X := by
  rw [layP_Q hn, colB_flat]
  rfl
def LayRF (f : FnT) : Prop := ∀ os v X, XSee os v X → X.length ≤ 8 → (∀ row ∈ X, row.length ≤ 8 ∧ ∀ P ∈ row, P.ok) →
  f [v] (few os) = if ∀ row ∈ X, row.length = eachX X then some (.tuple [.slice (some (os.length, 0)) 1 (layP X).length (layP X).length false, .bool true], few (os ++ [some (newBytes (layP X))])) else some (.tuple [.slice none 0 0 0 true, .bool false], few os)
def LayRPost (os : List (Option AObj)) (X : List (List Px)) (u : V) (st : St) : Prop := ∃ os', st = few os' ∧ if ∀ row ∈ X, row.length = eachX X then (∃ p, u = .tuple [.slice (some (p, 0)) 1 (layP X).length (layP X).length false, .bool true] ∧ os.length ≤ p ∧ (os'[p]?).join = some (newBytes (layP X))) else u = .tuple [.slice none 0 0 0 true, .bool false]
theorem bytes_app {a b : List Nat} : bytesV a ++ bytesV b = bytesV (a ++ b) := by simp [bytesV]
set_option maxHeartbeats 8000000 in
theorem LayRBody_run {base : CallT} {lf nB nR : Nat} (hlf : 100 ≤ lf) (hB : BigF base nB) (hR : RightL (base nR)) {os : List (Option AObj)} {v : V} {X : List (List Px)} (hX : XSee os v X) (hn : X.length ≤ 8) (hr : ∀ row ∈ X, row.length ≤ 8 ∧ ∀ P ∈ row, P.ok) (he8 : eachX X ≤ 8)
    {s0 : Env} (e1 : s0 .h = v) (e2 : s0 (.i (.o .h)) = .int .i64 (eachX X : Int)) :
    wp base lf (LayRBody nB nR) s0 (few os) (finQ [.tmp (.i .h), .tmp (.o (.o .h))] (LayRPost os X)) := by
  unfold LayRBody
  obtain ⟨n, hne⟩ : ∃ n, n = X.length := ⟨_, rfl⟩
  obtain ⟨each, he⟩ : ∃ each, each = eachX X := ⟨_, rfl⟩
  have hln := fun st => hX.len st
  have hpl := hX.plain
  rw [← hne] at hln
  rw [← he] at e2 he8
  obtain ⟨ne, hned⟩ : ∃ t, t = n * each := ⟨_, rfl⟩
  have hmul : (each : Int) * (n : Int) = (ne : Int) := by rw [hned, Int.mul_comm]; push_cast; rfl
  have hneb : ne ≤ 64 := by rw [hned]; exact Nat.le_trans (Nat.mul_le_mul (show n ≤ 8 by omega) (show each ≤ 8 by omega)) (by omega)
  have b2 : ∀ (k : Nat) (Y l : List (Option AObj)), base nB [.int .i64 (k : Int), .int .i64 2] (tl Y l) = some (.slice (some (Y.length + l.length, 0)) 1 2 2 false, tl Y (l ++ [some (.cells true (bytesV (bigB k 2)))])) := fun k Y l => by
    have := hB (Y ++ l) k 2 (by omega) (by omega)
    rw [List.length_append, List.append_assoc] at this
    exact this
  have b4 : ∀ (Y l : List (Option AObj)), base nB [.int .i64 (12 + 2 * (n : Int)), .int .i64 4] (tl Y l) = some (.slice (some (Y.length + l.length, 0)) 1 4 4 false, tl Y (l ++ [some (.cells true (bytesV (bigB (12 + 2 * n) 4)))])) := fun Y l => by
    have := hB (Y ++ l) (12 + 2 * n) 4 (by omega) (by omega)
    rw [List.length_append, List.append_assoc] at this
    rw [show 12 + 2 * (n : Int) = ((12 + 2 * n : Nat) : Int) from by omega]
    exact this
  rw [tl_of (X := os)]
  simp (disch := omega) [e1, e2, hln, hpl, b2, b4, take_big2, bytesV_len, bigB_len, hmul, wrap_i]
  rw [tl_eq]
  refine wp_loop (fun k s st => ∃ i W qb qc, i + k = n ∧ st = few W ∧ LInv os.length os W (hdr n each ++ idxB each i) (colB (X.take i)) qb qc ∧ (∀ (j : Nat) (row : List Px), j < i → X[j]? = some row → row.length = each) ∧ s .h = v ∧ s (.i (.o .h)) = .int .i64 (each : Int) ∧ s (.o (.i .h)) = .slice (some (qb, 0)) 1 (12 + 2 * i) (12 + 2 * i) false ∧ s (.i (.i .h)) = elS 1 qc (colB (X.take i)).length ∧ s (.o (.o (.o .h))) = .int .i64 (i : Int)) n ?_ (by omega) ?_
  · refine ⟨0, _, os.length + 8, 0, by omega, rfl, ⟨fun j hj => join_app hj, by simp, fun _ => ⟨by omega, ?_⟩, fun h => absurd rfl h, fun _ h => absurd rfl h⟩, fun j row h => by omega, ?_, ?_, ?_, ?_, ?_⟩
    · rw [tl_at, hdr_split, ← hned]
      simp [idxB, bytesV]
    all_goals simp [e1, e2, elS, colB]
  · rintro k s st ⟨i, W, qb, qc, hk, rfl, hI, hall, s1, s2, s3, s4, s5⟩
    have hil : (hdr n each ++ idxB each i).length = 12 + 2 * i := by rw [List.length_append, hdr_len, idxB_len]
    obtain ⟨c, hc⟩ : ∃ c, c = (colB (X.take i)).length := ⟨_, rfl⟩
    have hcb : c ≤ i * 32 := by
      have := colB_le (X := X.take i) (e := 8) fun r h => (hr r (List.mem_of_mem_take h)).1
      have h2 := List.length_take_le i X
      rw [List.length_take] at this
      have h3 : min i X.length * (4 * 8) ≤ i * 32 := Nat.mul_le_mul_right _ (Nat.min_le_left ..)
      omega
    cases k with
    | zero =>
      have hin : i = n := by omega
      subst hin
      have hall' : ∀ row ∈ X, row.length = eachX X := fun row h => by
        obtain ⟨j, hj⟩ := List.mem_iff_getElem?.1 h
        rw [← he]
        exact hall j row (by have := (List.getElem?_eq_some_iff.1 hj).1; omega) hj
      rw [List.take_of_length_le (by omega)] at hI s4 hc
      rw [← hc] at s4
      have hlay : layP X = (hdr i each ++ idxB each i) ++ colB X := by rw [layP_hdr (by omega), ← hne, ← he]
      have hlayl : (layP X).length = 12 + 2 * i + c := by rw [hlay, List.length_append, hil, hc]
      haveI : At W qb (.cells true (bytesV (hdr i each ++ idxB each i))) := ⟨(hI.i (by omega)).2⟩
      unfold LayREnd
      by_cases hc0 : c = 0
      · have hCe : colB X = [] := List.length_eq_zero_iff.1 (by omega)
        subst hc0
        have hel : elS 1 qc 0 = .slice none 0 0 0 true := rfl
        rw [hel] at s4
        simp (disch := omega) [s1, s2, s3, s4, s5, hln, dlt_t, dlt_f, dle_t, dle_f, dltn_t, dltn_f, dlen_t, dlen_f, deq_t, deq_f, deqn_t, deqn_f, append_zero, first_nil]
        refine ⟨W, rfl, ?_⟩
        rw [if_pos hall']
        exact ⟨qb, by rw [hlayl, Nat.add_zero], (hI.i (by omega)).1, by rw [hlay, hCe, List.append_nil]; exact (hI.i (by omega)).2⟩
      · obtain ⟨c1, rfl⟩ : ∃ c1, c = c1 + 1 := ⟨c - 1, by omega⟩
        haveI : At W qc (.cells true (bytesV (colB X))) := ⟨(hI.c (by omega)).2⟩
        have hel : elS 1 qc (c1 + 1) = .slice (some (qc, 0)) 1 (c1 + 1) (c1 + 1) false := if_neg (by omega)
        rw [hel] at s4
        have htk : takeN (c1 + 1) (bytesV (colB X)) = some (bytesV (colB X)) := by rw [takeN_of (by rw [bytesV_len]; omega), List.take_of_length_le (by rw [bytesV_len]; omega)]
        rw [tl_of (X := W)]
        simp (disch := omega) [s1, s2, s3, s4, s5, hln, dlt_t, dlt_f, dle_t, dle_f, dltn_t, dltn_f, dlen_t, dlen_f, deq_t, deq_f, deqn_t, deqn_f, htk, bytesV_len, ← hc, hil]
        refine ⟨_, rfl, ?_⟩
        rw [if_pos hall']
        refine ⟨W.length, ?_, hI.le, ?_⟩
        · rw [hlayl]
        · rw [show W.length = (W.set qb none).length + 0 from by simp, tl_at, hlay]
          unfold newBytes
          rw [show bytesV ((hdr i each ++ idxB each i) ++ colB X) = bytesV (hdr i each ++ idxB each i) ++ bytesV (colB X) from bytes_app.symm]
          rfl
    | succ k =>
      obtain ⟨row, hrow⟩ : ∃ row, X[i]? = some row := ⟨_, List.getElem?_eq_getElem (by omega)⟩
      obtain ⟨hr8, hrok⟩ := hr row (List.mem_of_getElem? hrow)
      have hle := hI.le
      obtain ⟨⟨pq, po⟩, w, d1, d3os, d2os⟩ := hX.ldK hrow
      have d1 : idxAddrV (.slice 1) v (some i) = some (.ptr (some (pq, po))) := d1 (.int .i64 (i : Int)) rfl
      have d2 := fun l => d2os W l hI.old
      have hwl := fun st => d3os.len st
      have hwp := d3os.plain
      obtain ⟨z, hz⟩ : ∃ z, z = row.length := ⟨_, rfl⟩
      rw [← hz] at hwl hr8
      rw [tl_of (X := W)]
      by_cases hze : z = each
      · obtain ⟨t, ht⟩ : ∃ t, t = i * each := ⟨_, rfl⟩
        have hmul2 : (each : Int) * (i : Int) = (t : Int) := by rw [ht, Int.mul_comm]; push_cast; rfl
        have htb : t ≤ 64 := by rw [ht]; exact Nat.le_trans (Nat.mul_le_mul (show i ≤ 8 by omega) (show each ≤ 8 by omega)) (by omega)
        haveI : At W qb (.cells true (bytesV (hdr n each ++ idxB each i))) := ⟨(hI.i (by omega)).2⟩
        have hwl' : ∀ st, lenV st .slice w = some (.int .i64 (each : Int)) := fun st => by rw [hwl, hze]
        have hel : elS 1 qb (12 + 2 * i) = .slice (some (qb, 0)) 1 (12 + 2 * i) (12 + 2 * i) false := if_neg (by omega)
        have g1 : ∀ l, appendV (tl W l) 1 1 (.slice (some (qb, 0)) 1 (12 + 2 * i) (12 + 2 * i) false) (some 2) (some (bytesV (bigB t 2))) = some (.slice (some (W.length + l.length, 0)) 1 (12 + 2 * i + 2) (12 + 2 * i + 2) false, tl (Sp.setK (12 + 2 * i) W qb) (l ++ [some (.cells true (bytesV ((hdr n each ++ idxB each i) ++ bigB t 2)))])) := fun l => by
          rw [← hel]
          exact growB_tn (X := W) (m := 1) hil (bigB_len _ _) (by omega) (fun h => (hI.i (by rw [hil]; exact h)).2) l
        simp (disch := omega) [s1, s2, s3, s4, s5, hln, dlt_t, dlt_f, dle_t, dle_f, dltn_t, dltn_f, dlen_t, dlen_f, deq_t, deq_f, deqn_t, deqn_f, d1, d2, hwp, hwl', hmul2, wrap_i, b2, take_big2, -bn_grow, g1]
        have hI1 := hI.addI (n := 12 + 2 * i) hil.symm (nb := bigB t 2) (l := [some (.cells true (bytesV (bigB t 2))), some (.cells true (bytesV ((hdr n each ++ idxB each i) ++ bigB t 2)))]) (k := 1) rfl
        have hI1e : (hdr n each ++ idxB each i) ++ bigB t 2 = hdr n each ++ idxB each (i + 1) := by rw [idxB_succ, ht, List.append_assoc]
        rw [hI1e] at hI1
        rw [tl_eq, show idxB each i ++ bigB t 2 = idxB each (i + 1) from by rw [idxB_succ, ht]]
        refine wp_loop (fun k' s st => ∃ j Y qj, j + k' = each ∧ st = few Y ∧ LInv os.length os Y (hdr n each ++ idxB each (i + 1)) (colB (X.take i) ++ rowB (row.take j)) (W.length + 1) qj ∧ s .h = v ∧ s (.i (.o .h)) = .int .i64 (each : Int) ∧ s (.o (.i .h)) = .slice (some (W.length + 1, 0)) 1 (12 + 2 * i + 2) (12 + 2 * i + 2) false ∧ s (.i (.i .h)) = elS 1 qj (c + 4 * j) ∧ s (.o (.o (.o .h))) = .int .i64 (i : Int) ∧ s (.i (.o (.o .h))) = .int .i64 (j : Int)) each ?_ (by omega) ?_
        · refine ⟨0, _, qc, by omega, rfl, by rw [List.take_zero, show rowB [] = [] from rfl, List.append_nil]; exact hI1, ?_, ?_, ?_, ?_, ?_, ?_⟩ <;> simp [s1, s2, s3, s4, s5, hc]
        · rintro k' s' st ⟨j, Y, qj, hk', rfl, hJ, t1, t2, t3, t4, t5, t6⟩
          have hJl : (colB (X.take i) ++ rowB (row.take j)).length = c + 4 * j := by rw [List.length_append, rowB_len, List.length_take, Nat.min_eq_left (by omega), hc]
          cases k' with
          | zero =>
            have hje : j = each := by omega
            subst hje
            simp (disch := omega) [t1, t2, t3, t4, t5, t6, dlt_t, dlt_f, dle_t, dle_f, dltn_t, dltn_f, dlen_t, dlen_f, deq_t, deq_f, deqn_t, deqn_f, wrap_i]
            have etk : row.take j = row := List.take_of_length_le (by omega)
            rw [etk, ← colB_succ hrow] at hJ hJl
            exact ⟨k, by omega, i + 1, by omega, Y, rfl, W.length + 1, qj, hJ, fun b r hb hbr => by
              by_cases hbi : b < i
              · exact hall b r hbi hbr
              · have : b = i := by omega
                subst this
                rw [hrow] at hbr; cases hbr; omega, ⟨rfl, by omega⟩, by rw [hJl], by omega⟩
          | succ k' =>
            obtain ⟨P, hP⟩ : ∃ P, row[j]? = some P := ⟨_, List.getElem?_eq_getElem (by omega)⟩
            have hPok := hrok P (List.mem_of_getElem? hP)
            obtain ⟨h1, h2, h3, h4⟩ := hPok
            have d2Y := fun l => d2os Y l hJ.old
            have d3Y : RowSee Y w row := d3os.keep hJ.old hJ.le
            obtain ⟨⟨xq, xo⟩, x1, x2⟩ := d3Y.ld hP
            have x1 : idxAddrV (.slice 4) w (some j) = some (.ptr (some (xq, xo))) := x1 (.int .i64 (j : Int)) rfl
            have x2 : ∀ l, loadV (tl Y l) true 4 (.ptr (some (xq, xo))) = some (.agg [.int .i64 (P.r : Int), .int .i64 (P.g : Int), .int .i64 (P.b : Int), .int .i64 (P.a : Int)]) := x2
            have cr : ∀ l, base nR [.agg [.int .i64 (P.r : Int), .int .i64 (P.g : Int), .int .i64 (P.b : Int), .int .i64 (P.a : Int)]] (tl Y l) = some (.bool true, tl Y l) := fun l => hR (Y ++ l) P ⟨h1, h2, h3, h4⟩
            have w1 : wrapV .u8 (P.r : Int) = (P.r : Int) := wrap_u8 h1
            have w2 : wrapV .u8 (P.g : Int) = (P.g : Int) := wrap_u8 h2
            have w3 : wrapV .u8 (P.b : Int) = (P.b : Int) := wrap_u8 h3
            have w4 : wrapV .u8 (P.a : Int) = (P.a : Int) := wrap_u8 h4
            have g2 : ∀ l, appendV (tl Y l) 1 1 (elS 1 qj (c + 4 * j)) (some 4) (some [.int .u8 (P.b : Int), .int .u8 (P.g : Int), .int .u8 (P.r : Int), .int .u8 (P.a : Int)]) = some (.slice (some (Y.length + l.length, 0)) 1 (c + 4 * j + 4) (c + 4 * j + 4) false, tl (Sp.setK (c + 4 * j) Y qj) (l ++ [some (.cells true (bytesV ((colB (X.take i) ++ rowB (row.take j)) ++ pxB P)))])) := fun l =>
              growB_tn (X := Y) (m := 3) (nb := pxB P) hJl rfl (by omega) (fun h => (hJ.c (by rw [hJl]; exact h)).2) l
            rw [tl_of (X := Y)]
            simp (disch := omega) [t1, t2, t3, t4, t5, t6, dlt_t, dlt_f, dle_t, dle_f, dltn_t, dltn_f, dlen_t, dlen_f, deq_t, deq_f, deqn_t, deqn_f, d1, d2Y, hwp, x1, x2, cr, w1, w2, w3, w4, g2, wrap_i]
            have hJ1 := hJ.addC (n := c + 4 * j) hJl.symm (nb := pxB P) (l := [some (.cells true (pxV P)), some (.cells true [.int .u8 (P.b : Int), .int .u8 (P.g : Int), .int .u8 (P.r : Int), .int .u8 (P.a : Int)]), some (.cells true (bytesV ((colB (X.take i) ++ rowB (row.take j)) ++ pxB P)))]) (k := 2) rfl
            rw [List.append_assoc, ← rowB_succ hP] at hJ1
            rw [← rowB_succ hP]
            exact ⟨k', by omega, j + 1, by omega, _, rfl, Y.length + 2, hJ1, (if_neg (by omega)).symm, by omega⟩
      · have hbad : ¬ ∀ row ∈ X, row.length = eachX X := fun h => hze (by rw [hz, he]; exact h row (List.mem_of_getElem? hrow))
        simp (disch := omega) [s1, s2, s3, s4, s5, hln, dlt_t, dlt_f, dle_t, dle_f, dltn_t, dltn_f, dlen_t, dlen_f, deq_t, deq_f, deqn_t, deqn_f, d1, d2, hwp, hwl]
        exact ⟨W, tl_of.symm, by rw [if_neg hbad]⟩
set_option maxHeartbeats 1000000 in
theorem LayRF.auto {base : CallT} {g lf nB nR : Nat} (hlf : 100 ≤ lf) (hB : BigF base nB) (hR : RightL (base nR)) : LayRF (withL base g (lawOf (autoRd base lf (LayR_c nB nR))) g) := fun os v X hX hn hr => by
  have he8 : eachX X ≤ 8 := by
    unfold eachX
    cases X with
    | nil => simp
    | cons row X => exact (hr row (List.mem_cons_self ..)).1
  have run : ∀ Y, covers (few os) Y → ∃ u st', enterF base lf [v] (few Y) (LayR_c nB nR) = some (u, st') ∧ LayRPost Y X u st' := fun Y hY => by
    have hX := hX.cov hY
    have main := enter_wp (call := base) (lf := lf) (n := 104) (args := [v]) (st := few Y) (K := LayRPost Y X) (c := (LayR_c nB nR).code) (rs := (LayR_c nB nR).results) ?_
    · exact main
    · unfold LayR_c
      dsimp only
      obtain ⟨n, hne⟩ : ∃ n, n = X.length := ⟨_, rfl⟩
      have hln := fun st => hX.len st
      have hpl := hX.plain
      rw [← hne] at hln
      have rest : ∀ {t : Env}, t .h = v → t (.i (.o .h)) = .int .i64 (eachX X : Int) → wp base lf (LayRBody nB nR) t (few Y) (finQ [.tmp (.i .h), .tmp (.o (.o .h))] (LayRPost Y X)) := fun h1 h2 => LayRBody_run hlf hB hR hX hn hr he8 h1 h2
      by_cases hn0 : n = 0
      · have e0 : eachX X = 0 := by rw [show X = [] from List.length_eq_zero_iff.1 (by omega)]; rfl
        subst hn0
        simp (disch := omega) [hln, hpl, dlt_t, dlt_f, dle_t, dle_f, dltn_t, dltn_f, dlen_t, dlen_f, deq_t, deq_f, deqn_t, deqn_f, wrap_i]
        refine rest ?_ ?_ <;> simp [e0]
      · obtain ⟨row, hrow⟩ : ∃ row, X[0]? = some row := ⟨_, List.getElem?_eq_getElem (by omega)⟩
        obtain ⟨p, w, d1, d3, d2⟩ := hX.ldK hrow
        have d1 : idxAddrV (.slice 1) v (some 0) = some (.ptr (some p)) := d1 (.int .i64 0) rfl
        have d2 := fun l => d2 Y l (fun _ _ => rfl)
        have hwl := fun st => d3.len st
        have ee : row.length = eachX X := by
          unfold eachX
          cases X with
          | nil => simp at hrow
          | cons r X => cases hrow; rfl
        rw [ee] at hwl
        obtain ⟨each, hea⟩ : ∃ each, each = eachX X := ⟨_, rfl⟩
        rw [← hea] at hwl rest he8
        obtain ⟨ne, hned⟩ : ∃ t, t = n * each := ⟨_, rfl⟩
        have hmul : (each : Int) * (n : Int) = (ne : Int) := by rw [hned, Int.mul_comm]; push_cast; rfl
        have hneb : ne ≤ 64 := by rw [hned]; exact Nat.le_trans (Nat.mul_le_mul (show n ≤ 8 by omega) (show each ≤ 8 by omega)) (by omega)
        rw [tl_of (X := Y)]
        simp (disch := omega) [hln, hpl, dlt_t, dlt_f, dle_t, dle_f, dltn_t, dltn_f, dlen_t, dlen_f, deq_t, deq_f, deqn_t, deqn_f, d1, d2, hwl, hmul, wrap_i]
        rw [← tl_of]
        refine rest ?_ ?_ <;> simp
  have hg : goods os.length [v] = true := by simp [goods, hX.good]
  by_cases hall : ∀ row ∈ X, row.length = eachX X
  · rw [if_pos hall]
    refine auto_one (cs := bytesV (layP X)) (F := fun p => .tuple [.slice (some (p, 0)) 1 (layP X).length (layP X).length false, .bool true]) hg (List.all_eq_true.2 bytesV_flat) (fun p => ⟨rfl, ?_, fun n hn => ?_⟩) fun Y hY => ?_
    · simp [ok2, ok1, V.leads, V.flat]
    · simp [rn2, rn1, rn0, rn, Nat.not_lt.2 hn]
    · obtain ⟨u, st', e, os', rfl, h⟩ := run Y hY
      rw [if_pos hall] at h
      obtain ⟨p, rfl, h1, h2⟩ := h
      exact ⟨p, os', e, by rw [cov_len hY] at h1; exact h1, h2⟩
  · rw [if_neg hall]
    refine auto_flat hg rfl rfl fun Y hY => ?_
    obtain ⟨u, st', e, os', rfl, h⟩ := run Y hY
    rw [if_neg hall] at h
    subst h
    exact ⟨_, e⟩
end Go.Vabs.Dh
