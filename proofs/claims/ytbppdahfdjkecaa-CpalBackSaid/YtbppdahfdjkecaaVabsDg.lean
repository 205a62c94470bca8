/-
  Dg
-/
import Derived.Test.YtbppdahfdjkecaaVabsDd
import Derived.Test.YtbppdahfdjkecaaVabsZd
namespace Go.Vabs.Dg
set_option linter.unusedVariables false
set_option linter.unusedSimpArgs false
set_option maxRecDepth 10000
def BackLoop (n_color : Nat) : ACode := (.seq (.seq (.reg [AOper.mk (some (.o (.o (.i (.i (.i (.o .h))))))) (.len .slice (.t (.o (.i (.o .h))))) none, AOper.mk (some (.i (.o (.i (.i (.i (.o .h))))))) (.mv (.c (.int .i64 (.ofNat 0)))) none]) (.block 2 (.loop (.seq (.reg [AOper.mk (some (.o (.i (.i (.i (.i (.o .h))))))) (.bin .lss (.val .int) (.t (.i (.o (.i (.i (.i (.o .h))))))) (.t (.o (.o (.i (.i (.i (.o .h)))))))) none]) (.seq (.cond (.t (.o (.i (.i (.i (.i (.o .h))))))) .skip (.exit 2)) (.seq (.block 3 (.seq (.reg [AOper.mk (some (.o (.i (.o (.o .h))))) (.mv (.t (.i (.o (.i (.i (.i (.o .h)))))))) none]) (.seq (.reg [AOper.mk (some (.o (.i (.o (.o (.o (.i .h))))))) (.idxAddr (.slice 1) (.t (.o (.i (.o .h)))) (.t (.o (.i (.o (.o .h)))))) none, AOper.mk (some (.i (.i (.o (.o (.o (.i .h))))))) (.load false 1 (.t (.o (.i (.o (.o (.o (.i .h)))))))) none, AOper.mk (some (.o (.o (.i (.o (.o (.i .h))))))) (.len .slice (.t (.i (.i (.o (.o (.o (.i .h)))))))) none, AOper.mk (some (.i (.o (.i (.o (.o (.i .h))))))) (.mv (.c (.int .i64 (.ofNat 0)))) none]) (.block 4 (.loop (.seq (.reg [AOper.mk (some (.o (.i (.i (.o (.o (.i .h))))))) (.bin .lss (.val .int) (.t (.i (.o (.i (.o (.o (.i .h))))))) (.t (.o (.o (.i (.o (.o (.i .h)))))))) none]) (.seq (.cond (.t (.o (.i (.i (.o (.o (.i .h))))))) .skip (.exit 4)) (.seq (.block 5 (.seq (.reg [AOper.mk (some (.i (.i (.o (.o .h))))) (.mv (.t (.i (.o (.i (.o (.o (.i .h)))))))) none]) (.seq (.reg [AOper.mk (some (.o (.o (.i (.i (.o (.i .h))))))) (.call n_color [.t (.o (.o (.o (.o .h)))), .t (.o (.i (.o (.o .h)))), .t (.i (.i (.o (.o .h))))]) none, AOper.mk (some (.i (.o (.i (.i (.o (.i .h))))))) (.extract (.t (.o (.o (.i (.i (.o (.i .h))))))) 0) none, AOper.mk (some (.o (.i (.i (.i (.o (.i .h))))))) (.extract (.t (.o (.o (.i (.i (.o (.i .h))))))) 1) none, AOper.mk (some (.o (.o (.i (.o .h))))) (.alloc [.int .i64 (.ofNat 0), .int .i64 (.ofNat 0), .int .i64 (.ofNat 0), .int .i64 (.ofNat 0)]) none, AOper.mk none (.store 4 (.t (.o (.o (.i (.o .h))))) (.t (.i (.o (.i (.i (.o (.i .h)))))))) none, AOper.mk (some (.i (.o (.i (.o .h))))) (.mv (.t (.o (.i (.i (.i (.o (.i .h)))))))) none]) (.seq (.dreg [(AOper.mk (some (.i (.i (.i (.i (.o (.i .h))))))) (.mv (.t (.i (.o (.i (.o .h)))))) none, []), (AOper.mk (some (.o (.o (.o (.o (.i (.i .h))))))) (.un .not (.t (.i (.i (.i (.i (.o (.i .h)))))))) none, []), (AOper.mk (some (.i (.o (.o (.o (.i (.i .h))))))) (.mv (.t (.o (.o (.o (.o (.i (.i .h)))))))) none, []), (AOper.mk (some (.o (.i (.o (.o (.i (.i .h))))))) (.load true 4 (.t (.o (.o (.i (.o .h)))))) (some (.i (.o (.o (.o (.i (.i .h))))), false)), [7, 10]), (AOper.mk (some (.i (.i (.o (.o (.i (.i .h))))))) (.mv (.t (.o (.i (.o .h))))) (some (.i (.o (.o (.o (.i (.i .h))))), false)), []), (AOper.mk (some (.o (.o (.i (.o (.i (.i .h))))))) (.mv (.t (.o (.i (.o (.o .h)))))) (some (.i (.o (.o (.o (.i (.i .h))))), false)), []), (AOper.mk (some (.i (.o (.i (.o (.i (.i .h))))))) (.idxAddr (.slice 1) (.t (.i (.i (.o (.o (.i (.i .h))))))) (.t (.o (.o (.i (.o (.i (.i .h)))))))) (some (.i (.o (.o (.o (.i (.i .h))))), false)), []), (AOper.mk (some (.o (.i (.i (.o (.i (.i .h))))))) (.load false 1 (.t (.i (.o (.i (.o (.i (.i .h)))))))) (some (.i (.o (.o (.o (.i (.i .h))))), false)), [3]), (AOper.mk (some (.i (.i (.i (.o (.i (.i .h))))))) (.mv (.t (.i (.i (.o (.o .h)))))) (some (.i (.o (.o (.o (.i (.i .h))))), false)), []), (AOper.mk (some (.o (.o (.o (.i (.i (.i .h))))))) (.idxAddr (.slice 4) (.t (.o (.i (.i (.o (.i (.i .h))))))) (.t (.i (.i (.i (.o (.i (.i .h)))))))) (some (.i (.o (.o (.o (.i (.i .h))))), false)), []), (AOper.mk (some (.i (.o (.o (.i (.i (.i .h))))))) (.load true 4 (.t (.o (.o (.o (.i (.i (.i .h)))))))) (some (.i (.o (.o (.o (.i (.i .h))))), false)), [3]), (AOper.mk (some (.o (.i (.o (.i (.i (.i .h))))))) (.bin .neq (.val (.parts [(0, (1, (false, .int))), (1, (1, (false, .int))), (2, (1, (false, .int))), (3, (1, (false, .int)))])) (.t (.o (.i (.o (.o (.i (.i .h))))))) (.t (.i (.o (.o (.i (.i (.i .h)))))))) (some (.i (.o (.o (.o (.i (.i .h))))), false)), []), (AOper.mk (some (.i (.i (.o (.i (.i (.i .h))))))) (.pick (.t (.i (.o (.o (.o (.i (.i .h))))))) (.c (.bool true)) (.t (.o (.i (.o (.i (.i (.i .h)))))))) none, [])]) (.cond (.t (.i (.i (.o (.i (.i (.i .h))))))) (.seq (.reg [AOper.mk (some (.i (.o (.o .h)))) (.mv (.c (.bool false))) none]) .ret) .skip))))) (.reg [AOper.mk (some (.o (.o (.i (.i (.i (.i .h))))))) (.bin .add (.val .int) (.t (.i (.o (.i (.o (.o (.i .h))))))) (.c (.int .i64 (.ofNat 1)))) none, AOper.mk (some (.i (.o (.i (.o (.o (.i .h))))))) (.mv (.t (.o (.o (.i (.i (.i (.i .h)))))))) none]))))))))) (.reg [AOper.mk (some (.i (.o (.i (.i (.i (.i .h))))))) (.bin .add (.val .int) (.t (.i (.o (.i (.i (.i (.o .h))))))) (.c (.int .i64 (.ofNat 1)))) none, AOper.mk (some (.i (.o (.i (.i (.i (.o .h))))))) (.mv (.t (.i (.o (.i (.i (.i (.i .h)))))))) none]))))))) (.seq (.reg [AOper.mk (some (.i (.o (.o .h)))) (.mv (.c (.bool true))) none]) .ret))
def BackRest (n_open : Nat) (n_read : Nat) (n_count : Nat) (n_color : Nat) : ACode := (.seq (.reg [AOper.mk (some (.o (.i (.i (.o (.o (.o .h))))))) (.call n_open [.c (.str [67, 80, 65, 76]), .t (.i (.i (.o .h)))]) none, AOper.mk (some (.i (.i (.i (.o (.o (.o .h))))))) (.extract (.t (.o (.i (.i (.o (.o (.o .h))))))) 0) none, AOper.mk (some (.o (.o (.o (.i (.o (.o .h))))))) (.extract (.t (.o (.i (.i (.o (.o (.o .h))))))) 1) none, AOper.mk (some (.o (.i (.i .h)))) (.mv (.t (.i (.i (.i (.o (.o (.o .h)))))))) none, AOper.mk (some (.i (.i (.i .h)))) (.mv (.t (.o (.o (.o (.i (.o (.o .h)))))))) none]) (.seq (.reg [AOper.mk (some (.i (.i (.o (.i (.o (.o .h))))))) (.call n_read [.t (.o (.i (.i .h)))]) none, AOper.mk (some (.o (.o (.i (.i (.o (.o .h))))))) (.extract (.t (.i (.i (.o (.i (.o (.o .h))))))) 0) none, AOper.mk (some (.i (.o (.i (.i (.o (.o .h))))))) (.extract (.t (.i (.i (.o (.i (.o (.o .h))))))) 1) none, AOper.mk (some (.o (.o (.o (.o .h))))) (.mv (.t (.o (.o (.i (.i (.o (.o .h)))))))) none, AOper.mk (some (.i (.o (.o (.o .h))))) (.mv (.t (.i (.o (.i (.i (.o (.o .h)))))))) none]) (.seq (.seq (.reg [AOper.mk (some (.i (.i (.i (.i (.o (.o .h))))))) (.bin .neq (.val .int) (.t (.i (.o (.o (.o .h))))) (.c (.int .i64 (.ofNat 0)))) none, AOper.mk (some (.o (.o (.o (.o (.i (.o .h))))))) (.mv (.t (.i (.i (.i (.i (.o (.o .h)))))))) none, AOper.mk (some (.o (.i (.o (.o (.i (.o .h))))))) (.bin .eql (.nils .ptr) (.t (.o (.o (.o (.o .h))))) (.c (.ptr none))) (some (.o (.o (.o (.o (.i (.o .h))))), false)), AOper.mk (some (.i (.i (.o (.o (.i (.o .h))))))) (.pick (.t (.o (.o (.o (.o (.i (.o .h))))))) (.c (.bool true)) (.t (.o (.i (.o (.o (.i (.o .h)))))))) none, AOper.mk (some (.o (.o (.i (.o (.i (.o .h))))))) (.mv (.t (.i (.i (.o (.o (.i (.o .h)))))))) none, AOper.mk (some (.o (.i (.i (.o (.i (.o .h))))))) (.call n_count [.t (.o (.o (.o (.o .h))))]) (some (.o (.o (.i (.o (.i (.o .h))))), false)), AOper.mk (some (.o (.o (.o (.i (.i (.o .h))))))) (.len .slice (.t (.o (.i (.o .h))))) (some (.o (.o (.i (.o (.i (.o .h))))), false)), AOper.mk (some (.i (.o (.o (.i (.i (.o .h))))))) (.bin .neq (.val .int) (.t (.o (.i (.i (.o (.i (.o .h))))))) (.t (.o (.o (.o (.i (.i (.o .h)))))))) (some (.o (.o (.i (.o (.i (.o .h))))), false)), AOper.mk (some (.o (.i (.o (.i (.i (.o .h))))))) (.pick (.t (.o (.o (.i (.o (.i (.o .h))))))) (.c (.bool true)) (.t (.i (.o (.o (.i (.i (.o .h)))))))) none]) (.cond (.t (.o (.i (.o (.i (.i (.o .h))))))) (.seq (.reg [AOper.mk (some (.i (.o (.o .h)))) (.mv (.c (.bool false))) none]) .ret) .skip)) (BackLoop n_color))))
def Back_c (n_pal : Nat) (n_lay : Nat) (n_known : Nat) (n_open : Nat) (n_read : Nat) (n_count : Nat) (n_color : Nat) : AFunc := AFunc.mk 125 (.seq (.reg [AOper.mk (some (.i (.o (.o .h)))) (.mv (.c (.bool false))) none]) (.seq (.reg [AOper.mk (some (.i (.o (.o (.i .h))))) (.call n_pal [.t .h, .t (.o .h), .t (.i .h)]) none, AOper.mk (some (.o (.i (.o .h)))) (.mv (.t (.i (.o (.o (.i .h)))))) none]) (.seq (.reg [AOper.mk (some (.o (.o (.i (.i .h))))) (.call n_lay [.t (.o (.i (.o .h)))]) none, AOper.mk (some (.i (.o (.i (.i .h))))) (.extract (.t (.o (.o (.i (.i .h))))) 0) none, AOper.mk (some (.o (.i (.i (.i .h))))) (.extract (.t (.o (.o (.i (.i .h))))) 1) none, AOper.mk (some (.i (.i (.o .h)))) (.mv (.t (.i (.o (.i (.i .h)))))) none, AOper.mk (some (.o (.o (.i .h)))) (.mv (.t (.o (.i (.i (.i .h)))))) none]) (.seq (.seq (.reg [AOper.mk (some (.i (.i (.i (.i .h))))) (.call n_known []) none, AOper.mk (some (.o (.o (.o (.o (.o .h)))))) (.un .not (.t (.i (.i (.i (.i .h)))))) none, AOper.mk (some (.i (.o (.o (.o (.o .h)))))) (.mv (.t (.o (.o (.o (.o (.o .h))))))) none, AOper.mk (some (.i (.i (.o (.o (.o .h)))))) (.bin .neq (.val .int) (.t (.o (.o (.i .h)))) (.c (.int .i64 (.ofNat 0)))) (some (.i (.o (.o (.o (.o .h)))), false)), AOper.mk (some (.o (.o (.i (.o (.o .h)))))) (.pick (.t (.i (.o (.o (.o (.o .h)))))) (.c (.bool true)) (.t (.i (.i (.o (.o (.o .h))))))) none]) (.cond (.t (.o (.o (.i (.o (.o .h)))))) (.seq (.reg [AOper.mk (some (.i (.o (.o .h)))) (.mv (.c (.bool false))) none]) .ret) .skip)) (.seq (.seq (.reg [AOper.mk (some (.o (.i (.i (.o (.o .h)))))) (.mv (.t (.o (.o .h)))) none, AOper.mk (some (.o (.o (.o (.i (.o .h)))))) (.len .slice (.t (.o (.i (.o .h))))) (some (.o (.i (.i (.o (.o .h)))), true)), AOper.mk (some (.i (.o (.o (.i (.o .h)))))) (.bin .gtr (.val .int) (.t (.o (.o (.o (.i (.o .h)))))) (.c (.int .i64 (.ofNat 1)))) (some (.o (.i (.i (.o (.o .h)))), true)), AOper.mk (some (.o (.i (.o (.i (.o .h)))))) (.pick (.t (.o (.i (.i (.o (.o .h)))))) (.t (.i (.o (.o (.i (.o .h)))))) (.c (.bool false))) none]) (.cond (.t (.o (.i (.o (.i (.o .h)))))) (.seq (.reg [AOper.mk (some (.i (.i (.o (.i (.o .h)))))) (.bslice 1 0 [.int .u8 (.ofNat 0)] []) none, AOper.mk (some (.i (.o (.i (.i (.o .h)))))) (.append 1 1 (.t (.i (.i (.o (.i (.o .h)))))) (.t (.i (.i (.o .h))))) none, AOper.mk (some (.i (.i (.o .h)))) (.mv (.t (.i (.o (.i (.i (.o .h))))))) none]) (.seq (.reg [AOper.mk (some (.i (.i (.i (.i (.o .h)))))) (.len .slice (.t (.o (.i (.o .h))))) none, AOper.mk (some (.o (.o (.o (.o (.i .h)))))) (.mv (.c (.int .i64 (.ofNat 0)))) none]) (.block 0 (.loop (.seq (.reg [AOper.mk (some (.i (.o (.o (.o (.i .h)))))) (.bin .lss (.val .int) (.t (.o (.o (.o (.o (.i .h)))))) (.t (.i (.i (.i (.i (.o .h))))))) none]) (.seq (.cond (.t (.i (.o (.o (.o (.i .h)))))) .skip (.exit 0)) (.seq (.block 1 (.seq (.reg [AOper.mk (some (.i (.o (.i .h)))) (.mv (.t (.o (.o (.o (.o (.i .h))))))) none]) (.seq (.reg [AOper.mk (some (.i (.o (.i (.o (.i .h)))))) (.bin .mul (.val .int) (.c (.int .i64 (.ofNat 2))) (.t (.i (.o (.i .h))))) none, AOper.mk (some (.o (.i (.i (.o (.i .h)))))) (.bin .add (.val .int) (.c (.int .i64 (.ofNat 12))) (.t (.i (.o (.i (.o (.i .h))))))) none, AOper.mk (some (.i (.i (.i (.o (.i .h)))))) (.idxAddr (.slice 1) (.t (.i (.i (.o .h)))) (.t (.o (.i (.i (.o (.i .h))))))) none, AOper.mk none (.store 1 (.t (.i (.i (.i (.o (.i .h)))))) (.c (.int .u8 (.ofNat 0)))) none]) (.seq (.reg [AOper.mk (some (.o (.i (.o (.i (.i .h)))))) (.bin .mul (.val .int) (.c (.int .i64 (.ofNat 2))) (.t (.i (.o (.i .h))))) none, AOper.mk (some (.i (.i (.o (.i (.i .h)))))) (.bin .add (.val .int) (.c (.int .i64 (.ofNat 13))) (.t (.o (.i (.o (.i (.i .h))))))) none, AOper.mk (some (.o (.o (.i (.i (.i .h)))))) (.idxAddr (.slice 1) (.t (.i (.i (.o .h)))) (.t (.i (.i (.o (.i (.i .h))))))) none, AOper.mk none (.store 1 (.t (.o (.o (.i (.i (.i .h)))))) (.c (.int .u8 (.ofNat 0)))) none]) (.reg [AOper.mk (some (.o (.o (.o (.o (.o (.o .h))))))) (.idxAddr (.slice 1) (.t (.o (.i (.o .h)))) (.c (.int .i64 (.ofNat 0)))) none, AOper.mk (some (.i (.o (.o (.o (.o (.o .h))))))) (.load false 1 (.t (.o (.o (.o (.o (.o (.o .h)))))))) none, AOper.mk (some (.o (.i (.o (.o (.o (.o .h))))))) (.idxAddr (.slice 1) (.t (.o (.i (.o .h)))) (.t (.i (.o (.i .h))))) none, AOper.mk none (.store 1 (.t (.o (.i (.o (.o (.o (.o .h))))))) (.t (.i (.o (.o (.o (.o (.o .h)))))))) none]))))) (.reg [AOper.mk (some (.i (.i (.o (.o (.o (.o .h))))))) (.bin .add (.val .int) (.t (.o (.o (.o (.o (.i .h)))))) (.c (.int .i64 (.ofNat 1)))) none, AOper.mk (some (.o (.o (.o (.o (.i .h)))))) (.mv (.t (.i (.i (.o (.o (.o (.o .h)))))))) none])))))))) .skip)) (BackRest n_open n_read n_count n_color)))))) [.tmp (.i (.o (.o .h)))]

attribute [local simp] wp_skip wp_ret wp_exit wp_reg wp_seq wp_cond wp_block thenQ_normal thenQ_ret thenQ_exit blockQ_normal blockQ_ret blockQ_exit wpCond_true wpCond_false wpOps_nil wpVal_some wpGuard_true wpGuard_false wpOps_guard wpOps_cons
  put_at put_no ev_c ev_slot posEq_h posEq_o posEq_i posEq_ho posEq_hi posEq_oh posEq_ih posEq_oi posEq_io sel_true sel_false
  okv_some step_mv step_call step_pick pickV_bool step_bin bin_add bin_sub bin_mul bin_eql bin_neq bin_lss bin_leq bin_gtr bin_geq bin_eqb bin_neb bin_eqs bin_nes step_un un_not un_neg step_len len_slice len_str len_const step_extract extractV nth step_convInt conv_int step_convStr step_slice step_idxAddr natOf_nat step_load step_index step_field step_fieldAddr step_build step_minmax
  step_alloc step_bslice bsliceV_some newV_some step_store step_append boolIs_b boolIs_t finQ_ret finQ_normal ressE_nil ressE_cons resE_tmp consO_some initE_nil initE_cons pos_0 pos_1 pos_2 pos_3 pos_4 pos_5 pos_6 pos_7 pos_8 plain_bool plain_int plain_str plain_ptr plain_slice plain_map plain_agg plain_func plain_nilFunc V.undef oneOf_one oneOf_two ble_self bin_agg eqV_parts eqV_int eqV_bool eqV_str eqParts_nil eqParts_cons eqC_true eqC_false eqO_some eqR_eql eqR_neq
open Go.Vabs.Pk Go.Vabs.Ph Go.Vabs.Sa Go.Vabs.Sb Go.Vabs.Sc Go.Vabs.Sd Go.Vabs.Se Go.Vabs.Sg Go.Vabs.Sh Go.Vabs.Sm Go.Vabs.Sn Go.Vabs.Sp Go.Vabs.Sr Go.Vabs.St Go.Vabs.Su Go.Vabs.L2 Go.Vabs.Na Go.Vabs.Nb Go.Vabs.Ra Go.Vabs.Rb Go.Vabs.Rc Go.Vabs.Rd Go.Vabs.Re Go.Vabs.Ca Go.Vabs.Cb Go.Vabs.Vc Go.Vabs.Da Go.Vabs.Db Go.Vabs.Dc Go.Vabs.Dd Go.Vabs.De Go.Vabs.Df
attribute [local simp] step_nilchk nilchk_ptr step_box cells_int cells_bool cells_str cells_slice cells_ptr cells_agg fieldAddrV natOf_zero fill repN splice over newV step_appendZ
  wp_dreg wpDs_nil wpDs_cons wantedE_none wantedE_some wpDGuard_true wpDGuard_lim wpDGuard_false wpDLim_true wpDVal_free wpDVal_lim back_limited next_limited limF_dir limF_false foot_load foot_store foot_convStr okAll_nil okAll_cons pastsOf nthP ahead few_next load_limited convStr_limited blt_dec okPair_dd okPair_dc okPair_cd okPair_cc anyIn_nil anyIn_same anyIn_cons meets_nil meets_nil'
  tn_alloc tn_load tn_load0 tn_store tn_store0 storeT_some loadC_some cellsAt_zero cellsAt_succ ownAt_zero ownAt_succ tn_first tn_first0 firstC_some tn_grow_none tn_grow tn_grow0 growN_some tn_fix tn_fix0 fixN_some bn_load bn_first bn_grow bn_store tn_next tn_alloc_dir tl_store_d tl_back tl_back_few few_back_tl backv_some back_back cut takeN nbeq_dec ble_dec meets_cons mem_nil mem_cons idOf load_d convStr_d lenOfS firstNo natOf_int if_leN bn_fix foot_bslice foot_alloc foot_box foot_append foot_call
theorem PalAt.keep {os os' : List (Option AObj)} {P each : Nat} {X : List (List Px)} (h : PalAt os P each X) (he : ∀ i, i < os.length → (os'[i]?).join = (os[i]?).join) (hl : os.length ≤ os'.length) : PalAt os' P each X := by
  obtain ⟨w, own, h1, h2⟩ := h.ex
  exact ⟨⟨w, own, by rw [he P (join_lt h1)]; exact h1, h2.keep he hl⟩, h.len, h.few⟩
theorem colorAt_in {X : List (List Px)} {i k : Nat} {row : List Px} {Q : Px} (h1 : X[i]? = some row) (h2 : row[k]? = some Q) : colorAt X i k = some Q := by
  unfold colorAt
  rw [if_pos (by omega), Int.toNat_natCast, Int.toNat_natCast, h1]
  exact h2
set_option maxHeartbeats 4000000 in
theorem BackLoop_run {call : CallT} {lf nC : Nat} (hlf : 100 ≤ lf) (hC : ColorAtL (call nC)) {W : List (Option AObj)} {v : V} {X : List (List Px)} {P each : Nat} (hX : XSee W v X) (hP : PalAt W P each X) (hn : X.length ≤ 8) (he : each ≤ 8) {s0 : Env} (e1 : s0 (.o (.i (.o .h))) = v) (e2 : s0 (.o (.o (.o (.o .h)))) = .ptr (some (P, 0))) :
    wp call lf (BackLoop nC) s0 (few W) (finQ [ARes.tmp (.i (.o (.o .h)))] fun u _ => u = .bool true) := by
  unfold BackLoop
  obtain ⟨n, hne⟩ : ∃ n, n = X.length := ⟨_, rfl⟩
  have hln := fun st => hX.len st
  rw [← hne] at hln
  simp (disch := omega) [e1, e2, hln]
  refine wp_loop (fun k s st => ∃ i Z, i + k = n ∧ st = few Z ∧ (∀ j, j < W.length → (Z[j]?).join = (W[j]?).join) ∧ W.length ≤ Z.length ∧ s (.o (.i (.o .h))) = v ∧ s (.o (.o (.o (.o .h)))) = .ptr (some (P, 0)) ∧ s (.o (.o (.i (.i (.i (.o .h)))))) = .int .i64 (n : Int) ∧ s (.i (.o (.i (.i (.i (.o .h)))))) = .int .i64 (i : Int)) n ?_ (by omega) ?_
  · refine ⟨0, W, by omega, rfl, fun _ _ => rfl, Nat.le_refl _, ?_, ?_, ?_, ?_⟩ <;> simp [e1, e2]
  · rintro k s st ⟨i, Z, hk, rfl, hZ, hZl, s1, s2, s3, s4⟩
    cases k with
    | zero => simp (disch := omega) [s1, s2, s3, s4, dlt_t, dlt_f, dle_t, dle_f, dltn_t, dltn_f, dlen_t, dlen_f, deq_t, deq_f, deqn_t, deqn_f]
    | succ k =>
      obtain ⟨row, hrow⟩ : ∃ row, X[i]? = some row := ⟨_, List.getElem?_eq_getElem (by omega)⟩
      have hrl := hP.len row (List.mem_of_getElem? hrow)
      obtain ⟨⟨pq, po⟩, w, d1, d3, d2⟩ := hX.ldK hrow
      have d1 : idxAddrV (.slice 1) v (some i) = some (.ptr (some (pq, po))) := d1 (.int .i64 (i : Int)) rfl
      have d2Z := fun l => d2 Z l hZ
      have hwl := fun st => d3.len st
      rw [hrl] at hwl
      have hwp := d3.plain
      rw [tl_of (X := Z)]
      simp (disch := omega) [s1, s2, s3, s4, dlt_t, dlt_f, dle_t, dle_f, dltn_t, dltn_f, dlen_t, dlen_f, deq_t, deq_f, deqn_t, deqn_f, d1, d2Z, hwl, hwp]
      rw [← tl_of]
      refine wp_loop (fun k' s st => ∃ j Z, j + k' = each ∧ st = few Z ∧ (∀ j, j < W.length → (Z[j]?).join = (W[j]?).join) ∧ W.length ≤ Z.length ∧ s (.o (.i (.o .h))) = v ∧ s (.o (.o (.o (.o .h)))) = .ptr (some (P, 0)) ∧ s (.o (.o (.i (.i (.i (.o .h)))))) = .int .i64 (n : Int) ∧ s (.i (.o (.i (.i (.i (.o .h)))))) = .int .i64 (i : Int) ∧ s (.o (.i (.o (.o .h)))) = .int .i64 (i : Int) ∧ s (.o (.o (.i (.o (.o (.i .h)))))) = .int .i64 (each : Int) ∧ s (.i (.o (.i (.o (.o (.i .h)))))) = .int .i64 (j : Int)) each ?_ (by omega) ?_
      · refine ⟨0, Z, by omega, rfl, hZ, hZl, ?_, ?_, ?_, ?_, ?_, ?_, ?_⟩ <;> simp [s1, s2, s3, s4]
      · rintro k' s' st ⟨j, Y, hk', rfl, hY, hYl, t1, t2, t3, t4, t5, t6, t7⟩
        cases k' with
        | zero =>
          simp (disch := omega) [t1, t2, t3, t4, t5, t6, t7, dlt_t, dlt_f, dle_t, dle_f, dltn_t, dltn_f, dlen_t, dlen_f, deq_t, deq_f, deqn_t, deqn_f, wrap_i]
          exact ⟨k, by omega, i + 1, by omega, Y, rfl, hY, hYl, by omega⟩
        | succ k' =>
          obtain ⟨Q, hQ⟩ : ∃ Q, row[j]? = some Q := ⟨_, List.getElem?_eq_getElem (by omega)⟩
          have d2Y := fun l => d2 Y l hY
          obtain ⟨⟨xq, xo⟩, x1, x2⟩ := (d3.keep hY hYl).ld hQ
          have x1 : idxAddrV (.slice 4) w (some j) = some (.ptr (some (xq, xo))) := x1 (.int .i64 (j : Int)) rfl
          have x2 : ∀ l, loadV (tl Y l) true 4 (.ptr (some (xq, xo))) = some (.agg [.int .i64 (Q.r : Int), .int .i64 (Q.g : Int), .int .i64 (Q.b : Int), .int .i64 (Q.a : Int)]) := x2
          have cc : ∀ l, call nC [.ptr (some (P, 0)), .int .i64 (i : Int), .int .i64 (j : Int)] (tl Y l) = some (.tuple [.agg [.int .i64 (Q.r : Int), .int .i64 (Q.g : Int), .int .i64 (Q.b : Int), .int .i64 (Q.a : Int)], .bool true], tl Y l) := fun l => by
            have := hC (Y ++ l) P each X i j (PalAt.keep hP (fun a ha => by rw [join_app (by omega), hY a ha]) (by simp; omega))
            rw [colorAt_in hrow hQ] at this
            exact this
          rw [tl_of (X := Y)]
          simp (disch := omega) [t1, t2, t3, t4, t5, t6, t7, dlt_t, dlt_f, dle_t, dle_f, dltn_t, dltn_f, dlen_t, dlen_f, deq_t, deq_f, deqn_t, deqn_f, d1, d2Y, hwp, x1, x2, cc, wrap_i, limF_dir, part]
          exact ⟨k', by omega, j + 1, by omega, _, rfl, fun a ha => by rw [join_app (by omega), hY a ha], by simp; omega, by omega⟩
set_option maxHeartbeats 4000000 in
theorem BackRest_run {call : CallT} {lf nO nR nN nC : Nat} (hlf : 100 ≤ lf) (hO : OneTF call nO) (hR : De.ReadF call nR) (hN : CountL (call nN)) (hC : ColorAtL (call nC)) {W : List (Option AObj)} {v bv : V} {X : List (List Px)} {bs : List Nat} {each : Nat} (hX : XSee W v X) (hb : See W bv bs) (hbl : bs.length ≤ 5000000) (hr : cpalR bs = .inr X) (hee : nm bs 2 2 = each) (hrow : ∀ row ∈ X, row.length = each) (hn : X.length ≤ 8) (he : each ≤ 8)
    {s0 : Env} (e1 : s0 (.o (.i (.o .h))) = v) (e2 : s0 (.i (.i (.o .h))) = bv) : wp call lf (BackRest nO nR nN nC) s0 (few W) (finQ [ARes.tmp (.i (.o (.o .h)))] fun u _ => u = .bool true) := by
  unfold BackRest
  obtain ⟨F, G, Y, c1, hfm, _, k1, k2⟩ := hO W bv tCpal bs rfl (by decide) hb.1 hb.2 hbl
  have hT : Tame [(tCpal, bs)] := ⟨by simp, by simp, fun x hx => by rw [List.mem_singleton.1 hx]; exact ⟨by show bs.length ≤ _; omega, hb.lt⟩⟩
  obtain ⟨u, st', c2, Z, rfl, k3, k4, hp⟩ := hR Y F bs (FontMem.see hfm) hT
  rw [hr] at hp
  obtain ⟨P, w, rfl, hP, hXw⟩ := hp
  have hPal : PalAt Z P each X := ⟨⟨w, true, by rw [← hee]; exact hP, hXw⟩, hrow, by omega, by omega⟩
  have hXZ : XSee Z v X := hX.keep (fun i hi => by rw [k3 i (by omega), k1 i hi]) (by omega)
  have c3 := hN Z P each X hPal
  have hln := fun st => hX.len st
  unfold tCpal at c1
  have hvp := hX.plain
  have hbp := hb.plain
  simp (disch := omega) [e1, e2, c1, c2, c3, hln, dlt_t, dlt_f, dle_t, dle_f, dltn_t, dltn_f, dlen_t, dlen_f, deq_t, deq_f, deqn_t, deqn_f, hvp, hbp, bin_eqptr]
  refine BackLoop_run hlf hC hXZ hPal hn he ?_ ?_ <;> simp [e1]
/- ALL PALETTES AT THE FIRST ONE'S COLOURS -/
theorem layQ_lt {n e : Nat} {f : Nat → Nat} {F : List Px} (h : ∀ P ∈ F, P.ok) : ∀ b ∈ layQ n e f F, b < 256 := by
  intro b hb
  unfold layQ hdr ixs rowB at hb
  simp only [List.mem_append, List.mem_flatten, List.mem_map] at hb
  rcases hb with ((hb | hb | hb | hb | hb) | ⟨t, ⟨i, _, rfl⟩, h2⟩) | ⟨t, ⟨P, hP, rfl⟩, h2⟩
  · exact bigB_lt _ _ b hb
  · exact bigB_lt _ _ b hb
  · exact bigB_lt _ _ b hb
  · exact bigB_lt _ _ b hb
  · exact bigB_lt _ _ b hb
  · exact bigB_lt _ _ b h2
  · obtain ⟨k1, k2, k3, k4⟩ := h P hP
    simp [pxB] at h2
    omega
theorem ixs_upd {f : Nat → Nat} {k n : Nat} (h : k < n) : ∃ R, ∀ g : Nat → Nat, (∀ j, j ≠ k → g j = f j) → ixs g n = ixs f k ++ bigB (g k) 2 ++ R := by
  have low : ∀ (m : Nat) (g : Nat → Nat), (∀ j, j < m → g j = f j) → ixs g m = ixs f m := fun m g hg => by
    unfold ixs
    congr 1
    exact List.map_congr_left fun j hj => by rw [hg j (List.mem_range.1 hj)]
  induction n with
  | zero => omega
  | succ n ih =>
    by_cases e : k = n
    · subst e
      exact ⟨[], fun g hg => by rw [ixs_succ, low k g (fun j hj => hg j (by omega))]; simp⟩
    · obtain ⟨R, hR⟩ := ih (by omega)
      exact ⟨R ++ bigB (f n) 2, fun g hg => by rw [ixs_succ, hR g hg, hg n (by omega)]; simp⟩
def zf (e i k : Nat) : Nat := if k < i then 0 else k * e
theorem zf_step {n e i : Nat} {F : List Px} (h : i < n) : ((layQ n e (zf e i) F).set (12 + 2 * i) 0).set (13 + 2 * i) 0 = layQ n e (zf e (i + 1)) F := by
  obtain ⟨R, hR⟩ := ixs_upd (f := zf e i) h
  have h1 := hR (zf e i) fun _ _ => rfl
  have h2 := hR (zf e (i + 1)) fun j hj => by
    unfold zf
    by_cases hji : j < i
    · rw [if_pos hji, if_pos (by omega)]
    · rw [if_neg hji, if_neg (by omega)]
  have hz : zf e (i + 1) i = 0 := if_pos (by omega)
  rw [hz] at h2
  have hl : (hdr n e ++ ixs (zf e i) i).length = 12 + 2 * i := by rw [List.length_append, hdr_len, ixs_len]
  obtain ⟨a, b, hab⟩ : ∃ a b, bigB (zf e i i) 2 = [a, b] := ⟨_, _, rfl⟩
  unfold layQ
  rw [h1, h2, hab]
  have e1 : hdr n e ++ (ixs (zf e i) i ++ [a, b] ++ R) ++ rowB F = (hdr n e ++ ixs (zf e i) i) ++ (a :: b :: (R ++ rowB F)) := by simp
  rw [e1, List.set_append_right _ _ (by omega), hl, Nat.sub_self, List.set_append_right _ _ (by omega), hl, show 13 + 2 * i - (12 + 2 * i) = 1 from by omega]
  simp [bigB]
theorem splice_one {l : List V} {o : Nat} {x : V} (h : o < l.length) : splice o [x] l = some (l.set o x) := by
  induction l generalizing o with
  | nil => simp at h
  | cons y l ih =>
    cases o with
    | zero => rfl
    | succ o =>
      show (match splice o [x] l with | some r => some (y :: r) | none => none) = _
      rw [ih (by simp at h; omega)]
      rfl
theorem bytesV_set {d : List Nat} {o b : Nat} : (bytesV d).set o (.int .u8 (b : Int)) = bytesV (d.set o b) := by unfold bytesV; rw [List.map_set]
set_option maxHeartbeats 4000000 in
theorem Back_run {call : CallT} {lf nP nL nK nO nR nN nC : Nat} (hlf : 100 ≤ lf) (hPal : PalF call nP) (hL : LayPF (call nL)) (hK : ∀ st, call nK [] st = some (.bool true, st)) (hO : OneTF call nO) (hR : De.ReadF call nR) (hN : CountL (call nN)) (hC : ColorAtL (call nC)) {os : List (Option AObj)} {n m : Int} {v : V} {l : List Int} {share : Bool} (hv : ParI os v l) :
    ∃ s1, enterF call lf [.int .i64 n, .int .i64 m, v, .bool share] (few os) (Back_c nP nL nK nO nR nN nC) = some (.bool true, s1) := by
  refine enter_ex ?_
  obtain ⟨a0, r0, hve, _⟩ := hv.ex
  have hvp : v.plain = true := by rw [hve]; rfl
  have hn5 := pickI_lt (n := n) (m := 5) (by omega)
  have hm7 := pickI_lt (n := m) (m := 7) (by omega)
  obtain ⟨r, Y, c1, hRows, k1, k2⟩ := hPal os n m v l hv
  obtain ⟨N, hNe⟩ : ∃ N, N = (pickI n 5).toNat := ⟨_, rfl⟩
  obtain ⟨M, hMe⟩ : ∃ M, M = (pickI m 7).toNat := ⟨_, rfl⟩
  rw [← hNe] at c1 hRows
  rw [← hMe] at hRows
  obtain ⟨X, hX⟩ : ∃ X, X = palX l N M := ⟨_, rfl⟩
  have hXl : X.length = N := by rw [hX]; exact palX_len
  have hXr : ∀ row ∈ X, row.length = M := fun row h => by
    rw [hX] at h; unfold palX at h
    obtain ⟨i, _, rfl⟩ := List.mem_map.1 h
    exact rowX_len
  have hXok : ∀ row ∈ X, ∀ P ∈ row, P.ok := fun row h P hP => by
    rw [hX] at h; unfold palX at h
    obtain ⟨i, _, rfl⟩ := List.mem_map.1 h
    unfold rowX at hP
    obtain ⟨k, _, rfl⟩ := List.mem_map.1 hP
    exact colorP_ok
  rw [← hX] at hRows
  have hsee := RowsAt.see hRows
  rw [hXl] at hsee
  obtain ⟨E, hE⟩ : ∃ E, E = eachX X := ⟨_, rfl⟩
  have hEM : X ≠ [] → E = M := fun h => by
    rw [hE]; unfold eachX
    cases X with
    | nil => exact absurd rfl h
    | cons row X => exact hXr row (List.mem_cons_self ..)
  have hE8 : E ≤ 8 := by
    by_cases h : X = []
    · rw [hE, h]; simp [eachX]
    · rw [hEM h]; omega
  have hXE : ∀ row ∈ X, row.length = E := fun row h => by rw [hXr row h, hEM (fun e => by rw [e] at h; cases h)]
  have c2 := hL Y (elS 1 r N) X hsee (by omega) (fun row h => ⟨by rw [hXE row h]; exact hE8, hXok row h⟩)
  rw [if_pos (by rw [← hE]; exact hXE)] at c2
  obtain ⟨L, hLe⟩ : ∃ L, L = (layP X).length := ⟨_, rfl⟩
  rw [← hLe] at c2
  have hpl := elS_plain (e := 1) (q := r) (n := N)
  obtain ⟨Fl, hFl⟩ : ∃ Fl, Fl = X.flatten := ⟨_, rfl⟩
  have hFll : Fl.length = N * E := by rw [hFl, flat_len hXE, hXl]
  have hNE : N * E ≤ 64 := Nat.le_trans (Nat.mul_le_mul (show N ≤ 8 by omega) hE8) (by omega)
  have hQ : layP X = layQ N E (zf E 0) Fl := by
    rw [layP_Q (by omega), hXl, ← hE, ← hFl]
    congr 1
  have hfk : ∀ k, k < N → k * E + E ≤ N * E := fun k hk => by
    rw [← Nat.succ_mul]; exact Nat.mul_le_mul_right _ hk
  have hLl : L = 12 + 2 * N + 4 * (N * E) := by rw [hLe, hQ, layQ_len, hFll]
  have hcp := cpal_layQ (n := N) (e := E) (f := zf E 0) (F := Fl) (by omega) (by omega) (by omega) hFll (fun k hk => by unfold zf; rw [if_neg (by omega)]; exact hfk k hk)
  rw [← hQ] at hcp
  have hrows0 : ((List.range N).map fun k => (Fl.drop (zf E 0 k)).take E) = X := by
    refine List.ext_getElem? fun k => ?_
    by_cases hk : k < N
    · obtain ⟨row, hrow⟩ : ∃ row, X[k]? = some row := ⟨_, List.getElem?_eq_getElem (by omega)⟩
      rw [List.getElem?_map, List.getElem?_range hk, hrow]
      show some ((Fl.drop (zf E 0 k)).take E) = _
      rw [show zf E 0 k = k * E from if_neg (by omega), hFl, flat_at hXE hrow]
    · rw [List.getElem?_eq_none (by simp; omega), List.getElem?_eq_none (by omega)]
  rw [hrows0] at hcp
  have hFok : ∀ P ∈ Fl, P.ok := fun P hP => by
    rw [hFl] at hP
    obtain ⟨row, h1, h2⟩ := List.mem_flatten.1 hP
    exact hXok row h1 P h2
  have h256 : ∀ b ∈ layP X, b < 256 := by rw [hQ]; exact layQ_lt hFok
  have bsee := See.own (os := Y ++ [some (newBytes (layP X))]) (p := Y.length) (c := L) (bs := layP X) (f := false) (by simp) h256 (by omega)
  rw [← hLe] at bsee
  have plain_case : ∀ {t : Env}, t (.o (.i (.o .h))) = elS 1 r N → t (.i (.i (.o .h))) = .slice (some (Y.length, 0)) 1 L L false → wp call lf (BackRest nO nR nN nC) t (few (Y ++ [some (newBytes (layP X))])) (finQ [ARes.tmp (.i (.o (.o .h)))] fun u _ => u = .bool true) := fun h1 h2 =>
    BackRest_run hlf hO hR hN hC (hsee.grow) bsee (by omega) hcp.1 hcp.2 hXE (by omega) hE8 h1 h2
  cases share with
  | false =>
    simp (disch := omega) [c1, c2, hK, dlt_t, dlt_f, dle_t, dle_f, dltn_t, dltn_f, dlen_t, dlen_f, deq_t, deq_f, deqn_t, deqn_f, hpl, hvp]
    refine plain_case ?_ ?_ <;> simp
  | true =>
    by_cases hN1 : 1 < N
    · obtain ⟨L1, rfl⟩ : ∃ L1, L = L1 + 1 := ⟨L - 1, by omega⟩
      have c2' : call nL [elS 1 r N] (few Y) = some (.tuple [.slice (some (Y.length, 0)) 1 (L1 + 1) (L1 + 1) false, .int .i64 0], tl Y [some (.cells true (bytesV (layP X)))]) := c2
      have htk : takeN (L1 + 1) (bytesV (layP X)) = some (bytesV (layP X)) := by rw [takeN_of (by rw [bytesV_len]; omega), List.take_of_length_le (by rw [bytesV_len]; omega)]
      simp (disch := omega) [c1, c2', hK, dlt_t, dlt_f, dle_t, dle_f, dltn_t, dltn_f, dlen_t, dlen_f, deq_t, deq_f, deqn_t, deqn_f, hpl, hvp, elS_len, htk, bytesV_len, ← hLe]
      rw [tl_eq]
      obtain ⟨vs, w1, w2, w3⟩ := hRows.ex
      have hX0 : X ≠ [] := fun e => by rw [e] at hXl; simp at hXl; omega
      obtain ⟨row0, hrow0⟩ : ∃ row, X[0]? = some row := ⟨_, List.getElem?_eq_getElem (by omega)⟩
      obtain ⟨v0, hv0⟩ : ∃ v, vs[0]? = some v := ⟨_, List.getElem?_eq_getElem (by omega)⟩
      obtain ⟨q0, hq0, g0⟩ := w3 0 v0 row0 hv0 hrow0
      have hv0c : v0.cells = some [v0] := by rw [hq0]; exact elS_cells
      have hv0p : v0.plain = true := by rw [hq0]; exact elS_plain
      obtain ⟨z1, z2⟩ := w2 hX0
      rw [elV_oneS] at z2
      have hrY := join_lt z2
      obtain ⟨pb, hpb⟩ : ∃ pb, pb = Y.length + 2 := ⟨_, rfl⟩
      have hel : elS 1 r N = .slice (some (r, 0)) 1 N N false := if_neg (by omega)
      have vsI : ∀ i, i < N → (List.replicate i v0 ++ vs.drop i).length = N ∧ nth 0 (List.replicate i v0 ++ vs.drop i) = some v0 ∧ splice i [v0] (List.replicate i v0 ++ vs.drop i) = some (List.replicate (i + 1) v0 ++ vs.drop (i + 1)) := fun i hi => by
        have hl : (List.replicate i v0 ++ vs.drop i).length = N := by rw [List.length_append, List.length_replicate, List.length_drop]; omega
        refine ⟨hl, ?_, ?_⟩
        · rw [nth_eq]
          cases i with
          | zero => exact hv0
          | succ i => rfl
        · rw [splice_one (by omega), List.set_append_right _ _ (by rw [List.length_replicate]; exact Nat.le_refl _), List.length_replicate, Nat.sub_self]
          have : vs.drop i = vs[i]'(by omega) :: vs.drop (i + 1) := List.drop_eq_getElem_cons (by omega)
          rw [this, List.set_cons_zero, List.replicate_succ', List.append_assoc]; rfl
      refine wp_loop (fun k s st => ∃ i W, i + k = N ∧ st = few W ∧ (∀ j, j < Y.length → j ≠ r → (W[j]?).join = (Y[j]?).join) ∧ Y.length + 3 ≤ W.length ∧ (W[r]?).join = some (.cells true (List.replicate i v0 ++ vs.drop i)) ∧ (W[pb]?).join = some (.cells true (bytesV (layQ N E (zf E i) Fl))) ∧
        s (.o (.i (.o .h))) = elS 1 r N ∧ s (.i (.i (.o .h))) = .slice (some (pb, 0)) 1 (L1 + 1) (L1 + 1) false ∧ s (.i (.i (.i (.i (.o .h))))) = .int .i64 (N : Int) ∧ s (.o (.o (.o (.o (.i .h))))) = .int .i64 (i : Int)) N ?_ (by omega) ?_
      · refine ⟨0, _, by omega, rfl, fun j hj _ => join_app hj, by simp, ?_, ?_, ?_, ?_, ?_, ?_⟩
        · rw [join_app hrY, z2]; rfl
        · rw [hpb, tl_at, ← hQ]; rfl
        all_goals simp [hpb]
      · rintro k s st ⟨i, W, hk, rfl, hW, hWl, hWr, hWb, s1, s2, s3, s4⟩
        cases k with
        | zero =>
          have hin : i = N := by omega
          subst hin
          rw [List.drop_eq_nil_of_le (by omega), List.append_nil] at hWr
          have hz : ∀ k, k < i → zf E i k = 0 := fun k hk => if_pos hk
          have hcp2 := cpal_layQ (n := i) (e := E) (f := zf E i) (F := Fl) (by omega) (by omega) (by omega) hFll (fun k hk => by
            rw [hz k hk]
            have := hfk k hk
            omega)
          have hrows2 : ((List.range i).map fun k => (Fl.drop (zf E i k)).take E) = List.replicate i row0 := by
            refine List.ext_getElem? fun k => ?_
            by_cases hk : k < i
            · rw [List.getElem?_map, List.getElem?_range hk, List.getElem?_replicate, if_pos hk]
              show some ((Fl.drop (zf E i k)).take E) = _
              rw [hz k hk, hFl]
              have := flat_at hXE hrow0
              rw [Nat.zero_mul] at this
              rw [this]
            · rw [List.getElem?_eq_none (by simp; omega), List.getElem?_eq_none (by simp; omega)]
          rw [hrows2] at hcp2
          have hsee2 : XSee W (elS 1 r i) (List.replicate i row0) := by
            refine ⟨r, List.replicate i v0, true, by rw [List.length_replicate], fun _ => ⟨hWr, goods_mem.2 fun v hv => ?_⟩, by simp, fun j v row hv hr => ?_⟩
            · rw [List.eq_of_mem_replicate hv, hq0]
              exact elS_goods fun h0 => by
                have := join_lt (g0 (fun e => h0 (by rw [e]; rfl))).2.2
                omega
            · have hj := (List.getElem?_eq_some_iff.1 hv).1
              rw [List.length_replicate] at hj
              rw [List.getElem?_replicate, if_pos hj] at hv hr
              cases hv; cases hr
              rw [hq0]
              by_cases h0 : row0 = []
              · rw [h0]; exact .nil
              · have hn0 : row0.length ≠ 0 := fun e => h0 (List.length_eq_zero_iff.1 e)
                obtain ⟨y1, y2, y3⟩ := g0 h0
                have hq := join_lt y3
                have hl : (elV pxV row0).length = row0.length * 4 := elV_len pxV_len
                have e : elS 4 q0 row0.length = .slice (some (q0, 0)) 4 row0.length row0.length false := if_neg hn0
                rw [e]
                exact .mem (own := true) (Nat.le_refl _) (by rw [hW q0 hq (y2 hX0)]; exact y3) (flats_good (elV_flat fun a => rfl)) (by omega) (by rw [List.drop_zero, List.take_of_length_le (by omega)])
          have h2562 := layQ_lt (n := i) (e := E) (f := zf E i) hFok
          have hl2 : (layQ i E (zf E i) Fl).length = L1 + 1 := by rw [layQ_len, hFll]; omega
          have bsee2 := See.own (os := W) (p := pb) (c := L1 + 1) (bs := layQ i E (zf E i) Fl) (f := false) hWb h2562 (by omega)
          rw [hl2] at bsee2
          have rest : ∀ {t : Env}, t (.o (.i (.o .h))) = elS 1 r i → t (.i (.i (.o .h))) = .slice (some (pb, 0)) 1 (L1 + 1) (L1 + 1) false → wp call lf (BackRest nO nR nN nC) t (few W) (finQ [ARes.tmp (.i (.o (.o .h)))] fun u _ => u = .bool true) := fun h1 h2 =>
            BackRest_run hlf hO hR hN hC hsee2 bsee2 (by omega) hcp2.1 hcp2.2 (fun row hrow => by rw [List.eq_of_mem_replicate hrow]; exact hXE row0 (List.mem_of_getElem? hrow0)) (by simp; omega) hE8 h1 h2
          simp (disch := omega) [s1, s2, s3, s4, dlt_t, dlt_f, dle_t, dle_f, dltn_t, dltn_f, dlen_t, dlen_f, deq_t, deq_f, deqn_t, deqn_f]
          refine rest ?_ ?_ <;> simp [s1, s2]
        | succ k =>
          have hiN : i < N := by omega
          obtain ⟨y1, y2, y3⟩ := vsI i hiN
          obtain ⟨d, hd⟩ : ∃ d, d = layQ N E (zf E i) Fl := ⟨_, rfl⟩
          have hdl : d.length = L1 + 1 := by rw [hd, layQ_len, hFll]; omega
          have hstep := zf_step (n := N) (e := E) (i := i) (F := Fl) hiN
          rw [← hd] at hstep hWb
          haveI : At W r (.cells true (List.replicate i v0 ++ vs.drop i)) := ⟨hWr⟩
          haveI : At W pb (.cells true (bytesV d)) := ⟨hWb⟩
          haveI : Df 1 pb r := ⟨fun _ => by omega⟩
          have sp1 : splice (12 + 2 * i) [.int .u8 0] (bytesV d) = some (bytesV (d.set (12 + 2 * i) 0)) := by rw [splice_one (by rw [bytesV_len]; omega)]; exact congrArg some (bytesV_set (b := 0))
          have sp2 : splice (13 + 2 * i) [.int .u8 0] (bytesV (d.set (12 + 2 * i) 0)) = some (bytesV (layQ N E (zf E (i + 1)) Fl)) := by rw [splice_one (by rw [bytesV_len, List.length_set]; omega), ← hstep]; exact congrArg some (bytesV_set (b := 0))
          have hto1 : (12 + 2 * (i : Int)).toNat = 12 + 2 * i := by omega
          have hto2 : (13 + 2 * (i : Int)).toNat = 13 + 2 * i := by omega
          rw [hel] at s1
          rw [tl_of (X := W)]
          simp (disch := omega) [s1, s2, s3, s4, dlt_t, dlt_f, dle_t, dle_f, dltn_t, dltn_f, dlen_t, dlen_f, deq_t, deq_f, deqn_t, deqn_f, idxAddr_slice, hto1, hto2, sp1, sp2, y2, y3, hv0c, hv0p, wrap_i]
          exact ⟨k, by omega, i + 1, by omega, _, tl_of.symm, fun j h1 h2 => by rw [join_set (fun e => h2 e.symm), join_set (by omega), hW j h1 h2], by simp; omega, by rw [join_set_same (by rw [List.length_set]; omega)], by rw [join_set (by omega), join_set_same (by omega)], hel.symm, by omega⟩
    · simp (disch := omega) [c1, c2, hK, dlt_t, dlt_f, dle_t, dle_f, dltn_t, dltn_f, dlen_t, dlen_f, deq_t, deq_f, deqn_t, deqn_f, hpl, hvp, elS_len]
      refine plain_case ?_ ?_ <;> simp

end Go.Vabs.Dg
