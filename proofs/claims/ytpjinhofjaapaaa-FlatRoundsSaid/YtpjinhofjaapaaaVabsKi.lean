/-
  FlatRounds' run.
-/
import Derived.Test.YtpjinhofjaapaaaVabsKh
namespace Go.Vabs.Ki
set_option linter.unusedVariables false
set_option linter.unusedSimpArgs false
set_option maxRecDepth 10000
def FlatRounds_c (n_known : Nat) (n_affine : Nat) (n_Contours : Nat) (n_Segs : Nat) (n_RWhole : Nat) (n_RApply : Nat) : AFunc := AFunc.mk 121 (.seq (.reg [AOper.mk (some (.o (.o .h))) (.box (.t (.o .h))) none, AOper.mk (some (.i (.o .h))) (.mv (.c (.bool false))) none]) (.seq (.seq (.reg [AOper.mk (some (.i (.i (.o (.o .h))))) (.call n_known []) none, AOper.mk (some (.o (.o (.i (.o .h))))) (.un .not (.t (.i (.i (.o (.o .h)))))) none]) (.cond (.t (.o (.o (.i (.o .h))))) (.seq (.reg [AOper.mk (some (.i (.o .h))) (.mv (.c (.bool false))) none]) .ret) .skip)) (.seq (.reg [AOper.mk (some (.i (.o (.i (.o .h))))) (.load true 6 (.t (.o (.o .h)))) none, AOper.mk (some (.o (.i (.i (.o .h))))) (.call n_affine [.t (.i (.o (.i (.o .h))))]) none, AOper.mk (some (.o (.i .h))) (.alloc [.int .i64 (.ofNat 0), .int .i64 (.ofNat 0), .int .i64 (.ofNat 0), .int .i64 (.ofNat 0), .int .i64 (.ofNat 0), .int .i64 (.ofNat 0)]) none, AOper.mk none (.store 6 (.t (.o (.i .h))) (.t (.o (.i (.i (.o .h)))))) none]) (.seq (.seq (.reg [AOper.mk (some (.o (.o (.o (.i .h))))) (.call n_Contours [.t .h]) none, AOper.mk (some (.i (.o (.o (.i .h))))) (.len .slice (.t (.o (.o (.o (.i .h)))))) none, AOper.mk (some (.o (.i (.o (.i .h))))) (.mv (.c (.int .i64 (.ofNat 0)))) none]) (.block 0 (.loop (.seq (.reg [AOper.mk (some (.i (.i (.o (.i .h))))) (.bin .lss (.val .int) (.t (.o (.i (.o (.i .h))))) (.t (.i (.o (.o (.i .h)))))) none]) (.seq (.cond (.t (.i (.i (.o (.i .h))))) .skip (.exit 0)) (.seq (.block 1 (.seq (.reg [AOper.mk (some (.o (.o (.i (.i .h))))) (.idxAddr (.slice 1) (.t (.o (.o (.o (.i .h))))) (.t (.o (.i (.o (.i .h)))))) none, AOper.mk (some (.i (.o (.i (.i .h))))) (.load false 1 (.t (.o (.o (.i (.i .h)))))) none, AOper.mk (some (.o (.o (.o .h)))) (.mv (.t (.i (.o (.i (.i .h)))))) none]) (.seq (.reg [AOper.mk (some (.i (.i (.i (.i .h))))) (.bslice 1 1 [.slice none 0 0 0 true] [(0, (1, .t (.o (.o (.o .h)))))]) none, AOper.mk (some (.o (.o (.o (.o (.o .h)))))) (.load true 6 (.t (.o (.i .h)))) none, AOper.mk (some (.i (.o (.o (.o (.o .h)))))) (.call n_Segs [.t (.i (.i (.i (.i .h)))), .t (.o (.o (.o (.o (.o .h)))))]) none, AOper.mk (some (.i (.o (.o .h)))) (.mv (.t (.i (.o (.o (.o (.o .h))))))) none]) (.seq (.seq (.reg [AOper.mk (some (.i (.i (.o (.o (.o .h)))))) (.len .slice (.t (.o (.o (.o .h))))) none, AOper.mk (some (.o (.o (.i (.o (.o .h)))))) (.bin .lss (.val .int) (.t (.i (.i (.o (.o (.o .h)))))) (.c (.int .i64 (.ofNat 2)))) none]) (.cond (.t (.o (.o (.i (.o (.o .h)))))) (.seq (.seq (.reg [AOper.mk (some (.o (.i (.i (.o (.o .h)))))) (.len .slice (.t (.i (.o (.o .h))))) none, AOper.mk (some (.i (.i (.i (.o (.o .h)))))) (.bin .gtr (.val .int) (.t (.o (.i (.i (.o (.o .h)))))) (.c (.int .i64 (.ofNat 0)))) none]) (.cond (.t (.i (.i (.i (.o (.o .h)))))) (.seq (.reg [AOper.mk (some (.i (.o .h))) (.mv (.c (.bool false))) none]) .ret) .skip)) (.exit 1)) .skip)) (.seq (.seq (.reg [AOper.mk (some (.i (.o (.o (.i (.o .h)))))) (.len .slice (.t (.i (.o (.o .h))))) none, AOper.mk (some (.o (.i (.o (.i (.o .h)))))) (.bin .lss (.val .int) (.t (.i (.o (.o (.i (.o .h)))))) (.c (.int .i64 (.ofNat 2)))) none]) (.cond (.t (.o (.i (.o (.i (.o .h)))))) (.seq (.reg [AOper.mk (some (.i (.o .h))) (.mv (.c (.bool false))) none]) .ret) .skip)) (.seq (.seq (.reg [AOper.mk (some (.o (.o (.i (.i (.o .h)))))) (.len .slice (.t (.i (.o (.o .h))))) none, AOper.mk (some (.i (.o (.i (.i (.o .h)))))) (.mv (.c (.int .i64 (.ofNat 0)))) none]) (.block 2 (.loop (.seq (.reg [AOper.mk (some (.o (.i (.i (.i (.o .h)))))) (.bin .lss (.val .int) (.t (.i (.o (.i (.i (.o .h)))))) (.t (.o (.o (.i (.i (.o .h))))))) none]) (.seq (.cond (.t (.o (.i (.i (.i (.o .h)))))) .skip (.exit 2)) (.seq (.block 3 (.seq (.reg [AOper.mk (some (.o (.i (.o .h)))) (.mv (.t (.i (.o (.i (.i (.o .h))))))) none]) (.seq (.reg [AOper.mk (some (.i (.i (.o (.o (.i .h)))))) (.len .slice (.t (.i (.o (.o .h))))) none, AOper.mk (some (.o (.o (.i (.o (.i .h)))))) (.bin .add (.val .int) (.t (.o (.i (.o .h)))) (.t (.i (.i (.o (.o (.i .h))))))) none, AOper.mk (some (.i (.o (.i (.o (.i .h)))))) (.bin .sub (.val .int) (.t (.o (.o (.i (.o (.i .h)))))) (.c (.int .i64 (.ofNat 1)))) none, AOper.mk (some (.i (.i (.i (.o (.i .h)))))) (.len .slice (.t (.i (.o (.o .h))))) none, AOper.mk (some (.o (.o (.o (.i (.i .h)))))) (.bin .rem (.val .int) (.t (.i (.o (.i (.o (.i .h)))))) (.t (.i (.i (.i (.o (.i .h))))))) none, AOper.mk (some (.i (.o (.o (.i (.i .h)))))) (.idxAddr (.slice 4) (.t (.i (.o (.o .h)))) (.t (.o (.o (.o (.i (.i .h))))))) none, AOper.mk (some (.o (.i (.o (.i (.i .h)))))) (.load true 4 (.t (.i (.o (.o (.i (.i .h))))))) none, AOper.mk (some (.i (.i (.o .h)))) (.alloc [.int .i64 (.ofNat 0), .int .i64 (.ofNat 0), .int .i64 (.ofNat 0), .int .i64 (.ofNat 0)]) none, AOper.mk none (.store 4 (.t (.i (.i (.o .h)))) (.t (.o (.i (.o (.i (.i .h))))))) none]) (.seq (.dreg [(AOper.mk (some (.i (.i (.o (.i (.i .h)))))) (.mv (.t (.i (.o (.o .h))))) none, []), (AOper.mk (some (.o (.o (.i (.i (.i .h)))))) (.mv (.t (.o (.i (.o .h))))) none, []), (AOper.mk (some (.i (.o (.i (.i (.i .h)))))) (.idxAddr (.slice 4) (.t (.i (.i (.o (.i (.i .h)))))) (.t (.o (.o (.i (.i (.i .h))))))) none, []), (AOper.mk (some (.o (.i (.i (.i (.i .h)))))) (.fieldAddr 0 (.t (.i (.o (.i (.i (.i .h))))))) none, []), (AOper.mk (some (.i (.i (.i (.i (.i .h)))))) (.load false 1 (.t (.o (.i (.i (.i (.i .h))))))) none, [6]), (AOper.mk (some (.o (.o (.o (.o (.o (.o .h))))))) (.fieldAddr 2 (.t (.i (.i (.o .h))))) none, []), (AOper.mk (some (.i (.o (.o (.o (.o (.o .h))))))) (.load false 1 (.t (.o (.o (.o (.o (.o (.o .h)))))))) none, [4]), (AOper.mk (some (.o (.i (.o (.o (.o (.o .h))))))) (.bin .neq (.val .int) (.t (.i (.i (.i (.i (.i .h)))))) (.t (.i (.o (.o (.o (.o (.o .h)))))))) none, []), (AOper.mk (some (.i (.i (.o (.o (.o (.o .h))))))) (.mv (.t (.o (.i (.o (.o (.o (.o .h)))))))) none, []), (AOper.mk (some (.o (.o (.i (.o (.o (.o .h))))))) (.mv (.t (.i (.o (.o .h))))) (some (.i (.i (.o (.o (.o (.o .h))))), false)), []), (AOper.mk (some (.i (.o (.i (.o (.o (.o .h))))))) (.mv (.t (.o (.i (.o .h))))) (some (.i (.i (.o (.o (.o (.o .h))))), false)), []), (AOper.mk (some (.o (.i (.i (.o (.o (.o .h))))))) (.idxAddr (.slice 4) (.t (.o (.o (.i (.o (.o (.o .h))))))) (.t (.i (.o (.i (.o (.o (.o .h)))))))) (some (.i (.i (.o (.o (.o (.o .h))))), false)), []), (AOper.mk (some (.i (.i (.i (.o (.o (.o .h))))))) (.fieldAddr 1 (.t (.o (.i (.i (.o (.o (.o .h)))))))) (some (.i (.i (.o (.o (.o (.o .h))))), false)), []), (AOper.mk (some (.o (.o (.o (.i (.o (.o .h))))))) (.load false 1 (.t (.i (.i (.i (.o (.o (.o .h)))))))) (some (.i (.i (.o (.o (.o (.o .h))))), false)), [15]), (AOper.mk (some (.i (.o (.o (.i (.o (.o .h))))))) (.fieldAddr 3 (.t (.i (.i (.o .h))))) (some (.i (.i (.o (.o (.o (.o .h))))), false)), []), (AOper.mk (some (.o (.i (.o (.i (.o (.o .h))))))) (.load false 1 (.t (.i (.o (.o (.i (.o (.o .h)))))))) (some (.i (.i (.o (.o (.o (.o .h))))), false)), [13]), (AOper.mk (some (.i (.i (.o (.i (.o (.o .h))))))) (.bin .neq (.val .int) (.t (.o (.o (.o (.i (.o (.o .h))))))) (.t (.o (.i (.o (.i (.o (.o .h)))))))) (some (.i (.i (.o (.o (.o (.o .h))))), false)), []), (AOper.mk (some (.o (.o (.i (.i (.o (.o .h))))))) (.pick (.t (.i (.i (.o (.o (.o (.o .h))))))) (.c (.bool true)) (.t (.i (.i (.o (.i (.o (.o .h)))))))) none, [])]) (.cond (.t (.o (.o (.i (.i (.o (.o .h))))))) (.seq (.reg [AOper.mk (some (.i (.o .h))) (.mv (.c (.bool false))) none]) .ret) .skip))))) (.reg [AOper.mk (some (.i (.o (.i (.i (.o (.o .h))))))) (.bin .add (.val .int) (.t (.i (.o (.i (.i (.o .h)))))) (.c (.int .i64 (.ofNat 1)))) none, AOper.mk (some (.i (.o (.i (.i (.o .h)))))) (.mv (.t (.i (.o (.i (.i (.o (.o .h)))))))) none]))))))) (.seq (.reg [AOper.mk (some (.o (.i (.i (.i (.o (.o .h))))))) (.mv (.t (.o (.o (.o .h))))) none, AOper.mk (some (.i (.i (.i (.i (.o (.o .h))))))) (.len .slice (.t (.o (.i (.i (.i (.o (.o .h)))))))) none, AOper.mk (some (.o (.o (.o (.o (.i (.o .h))))))) (.mv (.c (.int .i64 (.ofNat 0)))) none]) (.block 4 (.loop (.seq (.reg [AOper.mk (some (.i (.o (.o (.o (.i (.o .h))))))) (.bin .lss (.val .int) (.t (.o (.o (.o (.o (.i (.o .h))))))) (.t (.i (.i (.i (.i (.o (.o .h)))))))) none]) (.seq (.cond (.t (.i (.o (.o (.o (.i (.o .h))))))) .skip (.exit 4)) (.seq (.block 5 (.seq (.reg [AOper.mk (some (.o (.i (.o (.o (.i (.o .h))))))) (.idxAddr (.slice 3) (.t (.o (.i (.i (.i (.o (.o .h))))))) (.t (.o (.o (.o (.o (.i (.o .h)))))))) none, AOper.mk (some (.i (.i (.o (.o (.i (.o .h))))))) (.load true 3 (.t (.o (.i (.o (.o (.i (.o .h)))))))) none, AOper.mk (some (.i (.o (.i .h)))) (.alloc [.int .i64 (.ofNat 0), .int .i64 (.ofNat 0), .bool false]) none, AOper.mk none (.store 3 (.t (.i (.o (.i .h)))) (.t (.i (.i (.o (.o (.i (.o .h)))))))) none]) (.seq (.seq (.reg [AOper.mk (some (.o (.o (.i (.o (.i (.o .h))))))) (.fieldAddr 2 (.t (.i (.o (.i .h))))) none, AOper.mk (some (.i (.o (.i (.o (.i (.o .h))))))) (.load false 1 (.t (.o (.o (.i (.o (.i (.o .h)))))))) none, AOper.mk (some (.o (.i (.i (.o (.i (.o .h))))))) (.un .not (.t (.i (.o (.i (.o (.i (.o .h)))))))) none]) (.cond (.t (.o (.i (.i (.o (.i (.o .h))))))) (.exit 5) .skip)) (.seq (.dreg [(AOper.mk (some (.o (.o (.o (.i (.i (.o .h))))))) (.load true 6 (.t (.o (.i .h)))) none, [2, 3, 5, 6]), (AOper.mk (some (.i (.o (.o (.i (.i (.o .h))))))) (.fieldAddr 0 (.t (.i (.o (.i .h))))) none, []), (AOper.mk (some (.o (.i (.o (.i (.i (.o .h))))))) (.load false 1 (.t (.i (.o (.o (.i (.i (.o .h)))))))) none, [0, 5]), (AOper.mk (some (.i (.i (.o (.i (.i (.o .h))))))) (.call n_RWhole [.t (.o (.i (.o (.i (.i (.o .h))))))]) none, [0, 5]), (AOper.mk (some (.o (.o (.i (.i (.i (.o .h))))))) (.fieldAddr 1 (.t (.i (.o (.i .h))))) none, []), (AOper.mk (some (.i (.o (.i (.i (.i (.o .h))))))) (.load false 1 (.t (.o (.o (.i (.i (.i (.o .h)))))))) none, [0, 2, 3]), (AOper.mk (some (.o (.i (.i (.i (.i (.o .h))))))) (.call n_RWhole [.t (.i (.o (.i (.i (.i (.o .h))))))]) none, [0]), (AOper.mk (some (.i (.i (.i (.i (.i (.o .h))))))) (.call n_RApply [.t (.o (.o (.o (.i (.i (.o .h)))))), .t (.i (.i (.o (.i (.i (.o .h)))))), .t (.o (.i (.i (.i (.i (.o .h))))))]) none, []), (AOper.mk (some (.i (.i (.i (.o (.i (.o .h))))))) (.mv (.t (.i (.i (.i (.i (.i (.o .h)))))))) none, []), (AOper.mk (some (.o (.o (.o (.o (.o (.i .h))))))) (.extract (.t (.i (.i (.i (.o (.i (.o .h))))))) 0) none, []), (AOper.mk (some (.i (.o (.o (.o (.o (.i .h))))))) (.extract (.t (.i (.i (.i (.o (.i (.o .h))))))) 1) none, []), (AOper.mk (some (.o (.i (.i .h)))) (.mv (.t (.o (.o (.o (.o (.o (.i .h)))))))) none, []), (AOper.mk (some (.i (.i (.i .h)))) (.mv (.t (.i (.o (.o (.o (.o (.i .h)))))))) none, [])]) (.seq (.reg [AOper.mk (some (.o (.o (.o (.o .h))))) (.mv (.c (.bool false))) none]) (.seq (.seq (.reg [AOper.mk (some (.o (.i (.o (.o (.o (.i .h))))))) (.mv (.t (.i (.o (.o .h))))) none, AOper.mk (some (.i (.i (.o (.o (.o (.i .h))))))) (.len .slice (.t (.o (.i (.o (.o (.o (.i .h)))))))) none, AOper.mk (some (.o (.o (.i (.o (.o (.i .h))))))) (.mv (.c (.int .i64 (.ofNat 0)))) none]) (.block 6 (.loop (.seq (.reg [AOper.mk (some (.i (.o (.i (.o (.o (.i .h))))))) (.bin .lss (.val .int) (.t (.o (.o (.i (.o (.o (.i .h))))))) (.t (.i (.i (.o (.o (.o (.i .h)))))))) none]) (.seq (.cond (.t (.i (.o (.i (.o (.o (.i .h))))))) .skip (.exit 6)) (.seq (.block 7 (.seq (.reg [AOper.mk (some (.o (.i (.i (.o (.o (.i .h))))))) (.idxAddr (.slice 4) (.t (.o (.i (.o (.o (.o (.i .h))))))) (.t (.o (.o (.i (.o (.o (.i .h)))))))) none, AOper.mk (some (.i (.i (.i (.o (.o (.i .h))))))) (.load true 4 (.t (.o (.i (.i (.o (.o (.i .h)))))))) none, AOper.mk (some (.o (.i (.o (.o .h))))) (.alloc [.int .i64 (.ofNat 0), .int .i64 (.ofNat 0), .int .i64 (.ofNat 0), .int .i64 (.ofNat 0)]) none, AOper.mk none (.store 4 (.t (.o (.i (.o (.o .h))))) (.t (.i (.i (.i (.o (.o (.i .h)))))))) none]) (.reg [AOper.mk (some (.i (.o (.o (.i (.o (.i .h))))))) (.mv (.t (.o (.o (.o (.o .h)))))) none, AOper.mk (some (.o (.i (.o (.i (.o (.i .h))))))) (.fieldAddr 0 (.t (.o (.i (.o (.o .h)))))) (some (.i (.o (.o (.i (.o (.i .h))))), false)), AOper.mk (some (.i (.i (.o (.i (.o (.i .h))))))) (.load false 1 (.t (.o (.i (.o (.i (.o (.i .h)))))))) (some (.i (.o (.o (.i (.o (.i .h))))), false)), AOper.mk (some (.i (.o (.i (.i (.o (.i .h))))))) (.bin .eql (.val .int) (.t (.i (.i (.o (.i (.o (.i .h))))))) (.t (.o (.i (.i .h))))) (some (.i (.o (.o (.i (.o (.i .h))))), false)), AOper.mk (some (.o (.i (.i (.i (.o (.i .h))))))) (.mv (.t (.i (.o (.i (.i (.o (.i .h)))))))) (some (.i (.o (.o (.i (.o (.i .h))))), false)), AOper.mk (some (.i (.i (.i (.i (.o (.i .h))))))) (.fieldAddr 1 (.t (.o (.i (.o (.o .h)))))) (some (.o (.i (.i (.i (.o (.i .h))))), true)), AOper.mk (some (.o (.o (.o (.o (.i (.i .h))))))) (.load false 1 (.t (.i (.i (.i (.i (.o (.i .h)))))))) (some (.o (.i (.i (.i (.o (.i .h))))), true)), AOper.mk (some (.o (.i (.o (.o (.i (.i .h))))))) (.bin .eql (.val .int) (.t (.o (.o (.o (.o (.i (.i .h))))))) (.t (.i (.i (.i .h))))) (some (.o (.i (.i (.i (.o (.i .h))))), true)), AOper.mk (some (.i (.i (.o (.o (.i (.i .h))))))) (.pick (.t (.o (.i (.i (.i (.o (.i .h))))))) (.t (.o (.i (.o (.o (.i (.i .h))))))) (.c (.bool false))) (some (.i (.o (.o (.i (.o (.i .h))))), false)), AOper.mk (some (.o (.o (.i (.o (.i (.i .h))))))) (.pick (.t (.i (.o (.o (.i (.o (.i .h))))))) (.c (.bool true)) (.t (.i (.i (.o (.o (.i (.i .h)))))))) none, AOper.mk (some (.o (.o (.o (.o .h))))) (.mv (.t (.o (.o (.i (.o (.i (.i .h)))))))) none]))) (.reg [AOper.mk (some (.i (.o (.i (.o (.i (.i .h))))))) (.bin .add (.val .int) (.t (.o (.o (.i (.o (.o (.i .h))))))) (.c (.int .i64 (.ofNat 1)))) none, AOper.mk (some (.o (.o (.i (.o (.o (.i .h))))))) (.mv (.t (.i (.o (.i (.o (.i (.i .h)))))))) none]))))))) (.seq (.reg [AOper.mk (some (.i (.i (.i (.o (.i (.i .h))))))) (.un .not (.t (.o (.o (.o (.o .h)))))) none]) (.cond (.t (.i (.i (.i (.o (.i (.i .h))))))) (.seq (.reg [AOper.mk (some (.i (.o .h))) (.mv (.c (.bool false))) none]) .ret) .skip)))))))) (.reg [AOper.mk (some (.o (.o (.o (.i (.i (.i .h))))))) (.bin .add (.val .int) (.t (.o (.o (.o (.o (.i (.o .h))))))) (.c (.int .i64 (.ofNat 1)))) none, AOper.mk (some (.o (.o (.o (.o (.i (.o .h))))))) (.mv (.t (.o (.o (.o (.i (.i (.i .h)))))))) none]))))))))))))) (.reg [AOper.mk (some (.i (.o (.o (.i (.i (.i .h))))))) (.bin .add (.val .int) (.t (.o (.i (.o (.i .h))))) (.c (.int .i64 (.ofNat 1)))) none, AOper.mk (some (.o (.i (.o (.i .h))))) (.mv (.t (.i (.o (.o (.i (.i (.i .h)))))))) none]))))))) (.seq (.reg [AOper.mk (some (.i (.o .h))) (.mv (.c (.bool true))) none]) .ret))))) [.tmp (.i (.o .h))]
attribute [local simp] wp_skip wp_ret wp_exit wp_reg wp_seq wp_cond wp_block thenQ_normal thenQ_ret thenQ_exit blockQ_normal blockQ_ret blockQ_exit wpCond_true wpCond_false wpOps_nil wpVal_some wpGuard_true wpGuard_false wpOps_guard wpOps_cons
  put_at put_no ev_c ev_slot posEq_h posEq_o posEq_i posEq_ho posEq_hi posEq_oh posEq_ih posEq_oi posEq_io sel_true sel_false
  okv_some step_mv step_call step_pick pickV_bool step_bin bin_add bin_sub bin_mul bin_eql bin_neq bin_lss bin_leq bin_gtr bin_geq bin_eqb bin_neb bin_eqs bin_nes step_un un_not un_neg step_len len_slice len_str len_const step_extract extractV nth step_convInt conv_int step_convStr step_slice step_idxAddr natOf_nat step_load step_index step_field step_fieldAddr step_build step_minmax
  step_alloc step_bslice bsliceV_some newV_some step_store step_append boolIs_b boolIs_t finQ_ret finQ_normal ressE_nil ressE_cons resE_tmp consO_some initE_nil initE_cons pos_0 pos_1 pos_2 pos_3 pos_4 pos_5 pos_6 pos_7 pos_8 plain_bool plain_int plain_str plain_ptr plain_slice plain_map plain_agg plain_func plain_nilFunc V.undef oneOf_one oneOf_two ble_self
open Go.Vabs.Ph Go.Vabs.Fl Go.Vabs.Ka Go.Vabs.Kb Go.Vabs.Kc Go.Vabs.Kd Go.Vabs.Ke Go.Vabs.Kf Go.Vabs.Kg Go.Vabs.Kh
attribute [local simp] step_nilchk nilchk_ptr step_box cells_int cells_bool cells_str cells_slice cells_ptr cells_agg fieldAddrV natOf_zero fill repN splice over newV
  wp_dreg wpDs_nil wpDs_cons wantedE_none wantedE_some wpDGuard_true wpDGuard_lim wpDGuard_false wpDLim_true wpDVal_free wpDVal_lim back_limited next_limited limF_dir limF_false foot_load foot_convStr okAll_nil okAll_cons pastsOf nthP ahead few_next load_limited okPair_dd okPair_dc okPair_cd okPair_cc anyIn_nil anyIn_same anyIn_cons meets_nil meets_nil' blt_dec
/- THE LAW'S RUN -/
/-- What stays in memory: the contours, the affine. -/
structure Kept (os : List (Option AObj)) (w : V) (cs : List (List Pl)) (Mi : Nat) (m : Aff) : Prop where
  cin : CIn os w cs
  aff : (os[Mi]?).join = some (.cells true m.cells)
theorem Kept.grow {os os' : List (Option AObj)} {w : V} {cs : List (List Pl)} {Mi : Nat} {m : Aff} (h : Kept os w cs Mi m) (he : ∀ i, i < os.length → (os'[i]?).join = (os[i]?).join) (hl : os.length ≤ os'.length) : Kept os' w cs Mi m :=
  ⟨h.cin.grow he hl, by rw [he Mi (joinLt h.aff)]; exact h.aff⟩
theorem Kept.load {os : List (Option AObj)} {w : V} {cs : List (List Pl)} {Mi : Nat} {m : Aff} (h : Kept os w cs Mi m) : loadV (few os) true 6 (.ptr (some (Mi, 0))) = some m.V := loadAll h.aff (Aff.len m)
/-- The slots that the loop over the contours keeps. -/
structure Outer (s : Env) (w : V) (n j Mi : Nat) : Prop where
  a : s (.o (.o (.o (.i .h)))) = w
  b : s (.i (.o (.o (.i .h)))) = .int .i64 (n : Int)
  c : s (.o (.i (.o (.i .h)))) = .int .i64 (j : Int)
  d : s (.o (.i .h)) = .ptr (some (Mi, 0))
/-- Some segment begins there, among the first k. -/
def hasS (S : List Sg) (k : Nat) (x y : Int) : Bool := (S.take k).any fun q => decide (q.a = x) && decide (q.b = y)
theorem hasS_next {S : List Sg} {k : Nat} {q : Sg} {x y : Int} (h : S[k]? = some q) : hasS S (k + 1) x y = (hasS S k x y || (decide (q.a = x) && decide (q.b = y))) := by
  unfold hasS
  rw [List.take_add_one, h]
  simp
theorem hasS_all {S : List Sg} {x y : Int} (h : ∃ q ∈ S, q.a = x ∧ q.b = y) : hasS S S.length x y = true := by
  unfold hasS
  rw [List.take_length, List.any_eq_true]
  obtain ⟨q, h1, h2, h3⟩ := h
  exact ⟨q, h1, by simp [h2, h3]⟩
set_option maxHeartbeats 4000000 in
theorem Rounds_run {call : CallT} {lf nK nA nC nS nRA nW : Nat} (hlf : 9000 < lf) (hK : ∀ st, call nK [] st = some (.bool true, st)) (hA : RawF call nA) (hC : ContF call nC) (hS : SegsF call nS) (hRA : ApplyF call nRA) (hW : WholeF call nW)
    {nil : Bool} {ns : List Int} (hn : nil = true → ns = []) (hns : ∀ n ∈ ns, in64 n) (hl : ns.length ≤ 140737488351232) {m : Aff} (hm : in64 m.xx ∧ in64 m.yx ∧ in64 m.xy ∧ in64 m.yy ∧ in64 m.dx ∧ in64 m.dy) :
    ∃ s1, enterF call lf [slAt nil 0 ns.length, m.V] (few [objOf nil (intsV .i64 ns)]) (FlatRounds_c nK nA nC nS nW nRA) = some (.bool true, s1) := by
  have main := enter_wp (call := call) (lf := lf) (n := 121) (args := [slAt nil 0 ns.length, m.V]) (st := few [objOf nil (intsV .i64 ns)]) (K := fun u _ => u = .bool true) (c := (FlatRounds_c nK nA nC nS nW nRA).code) (rs := (FlatRounds_c nK nA nC nS nW nRA).results) ?_
  · obtain ⟨u, st', h1, rfl⟩ := main
    exact ⟨st', h1⟩
  · obtain ⟨os, hos⟩ : ∃ os, os = [objOf nil (intsV .i64 ns)] := ⟨_, rfl⟩
    have hv : InI os (slAt nil 0 ns.length) ns := InI.of hn fun h => by rw [hos, h]; rfl
    rw [← hos]
    obtain ⟨v, hve⟩ : ∃ v, v = slAt nil 0 ns.length := ⟨_, rfl⟩
    rw [← hve] at hv ⊢
    -- the affine
    obtain ⟨A, hA'⟩ : ∃ A, A = os ++ [some (.cells true m.cells)] := ⟨_, rfl⟩
    have alA : (few os).alloc (.cells true m.cells) = some (os.length, few A) := by rw [few_alloc, hA']
    have hAl : A.length = os.length + 1 := by rw [hA']; simp
    have hAo : ∀ i, i < os.length → (A[i]?).join = (os[i]?).join := fun i hi => by rw [hA', joinApp hi]
    have lA : loadV (few A) true 6 (.ptr (some (os.length, 0))) = some m.V := loadAll (by rw [hA', joinEnd]) (Aff.len m)
    obtain ⟨r, hr⟩ : ∃ r, r = rawA m := ⟨_, rfl⟩
    have cr := hA m (few A) hm
    rw [← hr] at cr
    have cM := cellsM m
    have cR := cellsM r
    have alB : (few A).alloc (.cells true [.int .i64 0, .int .i64 0, .int .i64 0, .int .i64 0, .int .i64 0, .int .i64 0]) = some (A.length, few (A ++ [some (.cells true [.int .i64 0, .int .i64 0, .int .i64 0, .int .i64 0, .int .i64 0, .int .i64 0])])) := few_alloc _ _
    have stB : storeV (few (A ++ [some (.cells true [.int .i64 0, .int .i64 0, .int .i64 0, .int .i64 0, .int .i64 0, .int .i64 0])])) 6 (.ptr (some (A.length, 0))) (some r.cells) = some (V.undef, few (A ++ [some (.cells true r.cells)])) := storeNew rfl rfl
    obtain ⟨B, hB⟩ : ∃ B, B = A ++ [some (AObj.cells true r.cells)] := ⟨_, rfl⟩
    obtain ⟨B0, hB0⟩ : ∃ B0, B0 = A ++ [some (AObj.cells true [.int .i64 0, .int .i64 0, .int .i64 0, .int .i64 0, .int .i64 0, .int .i64 0])] := ⟨_, rfl⟩
    rw [← hB, ← hB0] at stB
    rw [← hB0] at alB
    have hBl : B.length = A.length + 1 := by rw [hB]; simp
    have hBo : ∀ i, i < os.length → (B[i]?).join = (os[i]?).join := fun i hi => by rw [hB, joinApp (by omega), hAo i hi]
    have hBe : (B[A.length]?).join = some (.cells true r.cells) := by rw [hB, joinEnd]
    obtain ⟨w, C, vs, cs, c1, c2, c3, c4⟩ := hC B v ns (hv.keep hBo (by omega)) hns hl
    have hKept : Kept C w cs A.length r := ⟨Conts.cin c2, by rw [c3 _ (by omega)]; exact hBe⟩
    obtain ⟨hcs, hcc⟩ := c2.few
    have hlw := hKept.cin.lenV
    obtain ⟨n, hnn⟩ : ∃ n, n = cs.length := ⟨_, rfl⟩
    rw [← hnn] at hlw hcs
    obtain ⟨Mi, hMi⟩ : ∃ Mi, Mi = A.length := ⟨_, rfl⟩
    rw [← hMi] at hKept alB stB
    unfold FlatRounds_c
    dsimp only
    simp [cM, alA, hK, lA, cr, alB, cR, stB, c1, hlw]
    refine wp_loop (fun k s st => ∃ (os' : List (Option AObj)) (j : Nat), st = few os' ∧ j + k = n ∧ Outer s w n j Mi ∧ Kept os' w cs Mi r) n ?_ (by omega) ?_
    · refine ⟨C, 0, rfl, by omega, ⟨?_, ?_, ?_, ?_⟩, hKept⟩ <;> simp
    · rintro k s st ⟨os', j, rfl, hk, ⟨s1, s2, s3, s4⟩, hkp⟩
      cases k with
      | zero =>
        have hj : j = n := by omega
        subst hj
        simp (disch := omega) [s1, s2, s3, s4, dltn_f]
      | succ k =>
        obtain ⟨c, hcj⟩ : ∃ c, cs[j]? = some c := ⟨_, List.getElem?_eq_getElem (by omega)⟩
        obtain ⟨q, u, h1, h2, h3, h4⟩ := hkp.cin.at_ j c hcj
        have hul := h4.lenV
        have hcl := hcc c (List.mem_of_getElem? hcj)
        have huc := h4.cells
        obtain ⟨D, hD⟩ : ∃ D, D = os' ++ [some (.cells true [u])] := ⟨_, rfl⟩
        have alD : (few os').alloc (.cells true [u]) = some (os'.length, few D) := by rw [few_alloc, hD]
        have hDl : D.length = os'.length + 1 := by rw [hD]; simp
        have hDo : ∀ i, i < os'.length → (D[i]?).join = (os'[i]?).join := fun i hi => by rw [hD, joinApp hi]
        have hDe : (D[os'.length]?).join = some (.cells true [u]) := by rw [hD, joinEnd]
        have hkD := hkp.grow hDo (by omega)
        have h4D := h4.keepAll hDo
        have lD := hkD.load
        obtain ⟨sv, E, e1, e2, e3, e4⟩ := hS D (.slice (some (os'.length, 0)) 1 1 1 true) r [c] (cinOne hDe h4D) (by simp) (by simpa using hcl)
        have hSe : segsP r [c] = segs1 r c := by simp [segsP]
        rw [hSe] at e2
        have hkE := hkD.grow e3 e4
        have hsl := e2.lenV
        have hslen := segs1_len (m := r) hcl
        have h4E := h4D.keepAll e3
        obtain ⟨cl, hcle⟩ : ∃ cl, cl = c.length := ⟨_, rfl⟩
        obtain ⟨SL, hSL⟩ : ∃ SL, SL = (segs1 r c).length := ⟨_, rfl⟩
        rw [← hSL] at hsl hslen
        rw [← hcle] at hul hcl
        by_cases hge : 2 ≤ cl
        · obtain ⟨w1, w2, w3⟩ := round_law (m := r) (c := c) (by omega)
          rw [← hSL] at w1 w2
          simp (disch := omega) [s1, s2, s3, s4, dltn_t, dltn_f, natOf_j, h1, h3, huc, alD, lD, e1, hul, hsl, dlt_f]
          refine wp_loop (fun k1 s st => ∃ (os1 : List (Option AObj)) (i : Nat), st = few os1 ∧ i + k1 = SL ∧ Outer s w n j Mi ∧ Kept os1 w cs Mi r ∧ OutG Pl.cells 3 os1 0 u c ∧ OutG Sg.cells 4 os1 0 sv (segs1 r c) ∧ s (.o (.o (.o .h))) = u ∧ s (.i (.o (.o .h))) = sv ∧ s (.o (.o (.i (.i (.o .h))))) = .int .i64 (SL : Int) ∧ s (.i (.o (.i (.i (.o .h))))) = .int .i64 (i : Int)) SL ?_ (by omega) ?_
          · refine ⟨E, 0, rfl, by omega, ⟨?_, ?_, ?_, ?_⟩, hkE, h4E, e2.lower (Nat.zero_le _), ?_, ?_, ?_, ?_⟩ <;> simp [s1, s2, s3, s4]
          · rintro k1 sa st ⟨os1, i, rfl, hk1, ⟨t1, t2, t3, t4⟩, kp1, u1, g1, r1, r2, r3, r4⟩
            cases k1 with
            | zero =>
              have hi : i = SL := by omega
              rw [hi] at r4
              have hul1 := u1.lenV
              rw [← hcle] at hul1
              simp (disch := omega) [t1, t2, t3, t4, r1, r2, r3, r4, dltn_f, hul1]
              refine wp_loop (fun k2 s st => ∃ (os2 : List (Option AObj)) (i : Nat), st = few os2 ∧ i + k2 = cl ∧ Outer s w n j Mi ∧ Kept os2 w cs Mi r ∧ OutG Pl.cells 3 os2 0 u c ∧ OutG Sg.cells 4 os2 0 sv (segs1 r c) ∧ s (.i (.o (.o .h))) = sv ∧ s (.o (.i (.i (.i (.o (.o .h)))))) = u ∧ s (.i (.i (.i (.i (.o (.o .h)))))) = .int .i64 (cl : Int) ∧ s (.o (.o (.o (.o (.i (.o .h)))))) = .int .i64 (i : Int)) cl ?_ (by omega) ?_
              · refine ⟨os1, 0, rfl, by omega, ⟨?_, ?_, ?_, ?_⟩, kp1, u1, g1, ?_, ?_, ?_, ?_⟩ <;> simp [t1, t2, t3, t4, r1, r2]
              · rintro k2 sb st ⟨os2, i, rfl, hk2, ⟨v1, v2, v3, v4⟩, kp2, u2, g2, b1, b2, b3, b4⟩
                cases k2 with
                | zero =>
                  simp (disch := omega) [v1, v2, v3, v4, b1, b2, b3, b4, dltn_f, wrap_i]
                  refine ⟨k, by omega, os2, rfl, j + 1, by omega, ⟨?_, ?_, ?_, ?_⟩, kp2⟩ <;> simp [v1, v2, v3, v4]
                | succ k2 =>
                  obtain ⟨p, hp⟩ : ∃ p, c[i]? = some p := ⟨_, List.getElem?_eq_getElem (by omega)⟩
                  obtain ⟨y1, _, y2, _, y4, y5, _⟩ := u2.row (fun a => Pl.len a) hp
                  have y5 : loadV (few os2) true 3 (.ptr (some (y1, i * 3))) = some (.agg p.cells) := y5
                  have cp := cellsP p
                  have al1 : (few os2).alloc (.cells true [.int .i64 0, .int .i64 0, .bool false]) = some (os2.length, few (os2 ++ [some (.cells true [.int .i64 0, .int .i64 0, .bool false])])) := few_alloc _ _
                  have st1 : storeV (few (os2 ++ [some (.cells true [.int .i64 0, .int .i64 0, .bool false])])) 3 (.ptr (some (os2.length, 0))) (some p.cells) = some (V.undef, few (os2 ++ [some (.cells true p.cells)])) := storeNew rfl rfl
                  obtain ⟨G, hG⟩ : ∃ G, G = os2 ++ [some (AObj.cells true p.cells)] := ⟨_, rfl⟩
                  obtain ⟨G0, hG0⟩ : ∃ G0, G0 = os2 ++ [some (AObj.cells true [.int .i64 0, .int .i64 0, .bool false])] := ⟨_, rfl⟩
                  rw [← hG, ← hG0] at st1
                  rw [← hG0] at al1
                  have hGl : G.length = os2.length + 1 := by rw [hG]; simp
                  have hGo : ∀ i, i < os2.length → (G[i]?).join = (os2[i]?).join := fun i hi => by rw [hG, joinApp hi]
                  have hGe : (G[os2.length]?).join = some (.cells true p.cells) := by rw [hG, joinEnd]
                  have x0 : loadV (few G) false 1 (.ptr (some (os2.length, 0))) = some (.int .i64 p.x) := (load_few hGe).trans rfl
                  have x1 : loadV (few G) false 1 (.ptr (some (os2.length, 1))) = some (.int .i64 p.y) := (load_few hGe).trans rfl
                  have x2 : loadV (few G) false 1 (.ptr (some (os2.length, 2))) = some (.bool p.on) := (load_few hGe).trans rfl
                  have kpG := kp2.grow hGo (by omega)
                  have lG := kpG.load
                  have wx := hW p.x
                  have wy := hW p.y
                  have ap := hRA r (wholeI p.x) (wholeI p.y)
                  have hil : i < cl := by omega
                  cases hon : p.on with
                  | false =>
                    rw [hon] at x2
                    simp (disch := omega) [v1, v2, v3, v4, b1, b2, b3, b4, dltn_t, hil, natOf_j, y4, y5, cp, al1, st1, x2, wrap_i]
                    refine ⟨k2, by omega, G, rfl, i + 1, by omega, ⟨?_, ?_, ?_, ?_⟩, kpG, u2.keepAll hGo, g2.keepAll hGo, ?_⟩ <;> simp [v1, v2, v3, v4, b1, b2, b3]
                  | true =>
                    rw [hon] at x2
                    have hhas := hasS_all (w3 p (List.mem_of_getElem? hp) hon)
                    rw [← hSL] at hhas
                    obtain ⟨X, hX⟩ : ∃ X, X = appX r (wholeI p.x) (wholeI p.y) := ⟨_, rfl⟩
                    obtain ⟨Y, hY⟩ : ∃ Y, Y = appY r (wholeI p.x) (wholeI p.y) := ⟨_, rfl⟩
                    rw [← hX, ← hY] at hhas
                    simp only [← hX, ← hY] at ap
                    have hsv2 : ∀ st, lenV st .slice sv = some (.int .i64 (SL : Int)) := hsl
                    simp (disch := omega) [v1, v2, v3, v4, b1, b2, b3, b4, dltn_t, hil, natOf_j, y4, y5, cp, al1, st1, x0, x1, x2, lG, wx, wy, ap, hsv2, load_d, foot_call, foot_load, idOf, back_limF, next_limF]
                    refine wp_loop (fun k3 s st => ∃ (os3 : List (Option AObj)) (i3 : Nat), st = few os3 ∧ i3 + k3 = SL ∧ Outer s w n j Mi ∧ Kept os3 w cs Mi r ∧ OutG Pl.cells 3 os3 0 u c ∧ OutG Sg.cells 4 os3 0 sv (segs1 r c) ∧ s (.i (.o (.o .h))) = sv ∧ s (.o (.i (.i (.i (.o (.o .h)))))) = u ∧ s (.i (.i (.i (.i (.o (.o .h)))))) = .int .i64 (cl : Int) ∧ s (.o (.o (.o (.o (.i (.o .h)))))) = .int .i64 (i : Int) ∧
                        s (.o (.i (.o (.o (.o (.i .h)))))) = sv ∧ s (.i (.i (.o (.o (.o (.i .h)))))) = .int .i64 (SL : Int) ∧ s (.o (.o (.i (.o (.o (.i .h)))))) = .int .i64 (i3 : Int) ∧ s (.o (.i (.i .h))) = .int .i64 X ∧ s (.i (.i (.i .h))) = .int .i64 Y ∧ s (.o (.o (.o (.o .h)))) = .bool (hasS (segs1 r c) i3 X Y)) SL ?_ (by omega) ?_
                    · refine ⟨G, 0, rfl, by omega, ⟨?_, ?_, ?_, ?_⟩, kpG, u2.keepAll hGo, g2.keepAll hGo, ?_, ?_, ?_, ?_, ?_, ?_, ?_, ?_, ?_, ?_⟩ <;> simp [v1, v2, v3, v4, b1, b2, b3, b4, hasS]
                    · rintro k3 sc st ⟨os3, i3, rfl, hk3, ⟨e1, e2, e3, e4⟩, kp3, u3, g3, d1, d2, d3, d4, d5, d6, d7, d8, d9, d10⟩
                      cases k3 with
                      | zero =>
                        have hi3 : i3 = SL := by omega
                        rw [hi3] at d7 d10
                        rw [hhas] at d10
                        simp (disch := omega) [e1, e2, e3, e4, d1, d2, d3, d4, d5, d6, d7, d8, d9, d10, dltn_f, wrap_i]
                        refine ⟨k2, by omega, os3, rfl, i + 1, by omega, ⟨?_, ?_, ?_, ?_⟩, kp3, u3, g3, ?_⟩ <;> simp [e1, e2, e3, e4, d1, d2, d3]
                      | succ k3 =>
                        obtain ⟨qa, hqa⟩ : ∃ q, (segs1 r c)[i3]? = some q := ⟨_, List.getElem?_eq_getElem (by omega)⟩
                        have hnx := hasS_next (x := X) (y := Y) hqa
                        obtain ⟨z1, _, z2, _, z4, z5, _⟩ := g3.row (fun a => Sg.len a) hqa
                        have z5 : loadV (few os3) true 4 (.ptr (some (z1, i3 * 4))) = some (.agg qa.cells) := z5
                        have cb : (V.agg qa.cells).cells = some qa.cells := rfl
                        have al3 : (few os3).alloc (.cells true [.int .i64 0, .int .i64 0, .int .i64 0, .int .i64 0]) = some (os3.length, few (os3 ++ [some (.cells true [.int .i64 0, .int .i64 0, .int .i64 0, .int .i64 0])])) := few_alloc _ _
                        have st3 : storeV (few (os3 ++ [some (.cells true [.int .i64 0, .int .i64 0, .int .i64 0, .int .i64 0])])) 4 (.ptr (some (os3.length, 0))) (some qa.cells) = some (V.undef, few (os3 ++ [some (.cells true qa.cells)])) := storeNew rfl rfl
                        obtain ⟨H, hH⟩ : ∃ H, H = os3 ++ [some (AObj.cells true qa.cells)] := ⟨_, rfl⟩
                        obtain ⟨H0, hH0⟩ : ∃ H0, H0 = os3 ++ [some (AObj.cells true [.int .i64 0, .int .i64 0, .int .i64 0, .int .i64 0])] := ⟨_, rfl⟩
                        rw [← hH, ← hH0] at st3
                        rw [← hH0] at al3
                        have hHl : H.length = os3.length + 1 := by rw [hH]; simp
                        have hHo : ∀ i, i < os3.length → (H[i]?).join = (os3[i]?).join := fun i hi => by rw [hH, joinApp hi]
                        have hHe : (H[os3.length]?).join = some (.cells true qa.cells) := by rw [hH, joinEnd]
                        have q0 : loadV (few H) false 1 (.ptr (some (os3.length, 0))) = some (.int .i64 qa.a) := (load_few hHe).trans rfl
                        have q1 : loadV (few H) false 1 (.ptr (some (os3.length, 1))) = some (.int .i64 qa.b) := (load_few hHe).trans rfl
                        have hi3 : i3 < SL := by omega
                        cases hb : hasS (segs1 r c) i3 X Y with
                        | true =>
                          rw [hb] at d10 hnx
                          rw [Bool.true_or] at hnx
                          simp (disch := omega) [e1, e2, e3, e4, d1, d2, d3, d4, d5, d6, d7, d8, d9, d10, dltn_t, hi3, natOf_j, z4, z5, cb, al3, st3, q0, q1, wrap_i]
                          refine ⟨k3, by omega, H, rfl, i3 + 1, by omega, ⟨?_, ?_, ?_, ?_⟩, kp3.grow hHo (by omega), u3.keepAll hHo, g3.keepAll hHo, by omega, ?_⟩ <;> simp [e1, e2, e3, e4, hnx]
                        | false =>
                          rw [hb] at d10 hnx
                          rw [Bool.false_or] at hnx
                          by_cases hx : qa.a = X
                          · have dx : decide (qa.a = X) = true := decide_eq_true hx
                            rw [dx, Bool.true_and] at hnx
                            by_cases hy : qa.b = Y
                            · have dy : decide (qa.b = Y) = true := decide_eq_true hy
                              rw [dy] at hnx
                              simp (disch := omega) [e1, e2, e3, e4, d1, d2, d3, d4, d5, d6, d7, d8, d9, d10, dltn_t, hi3, natOf_j, z4, z5, cb, al3, st3, q0, q1, wrap_i, dx, dy]
                              refine ⟨k3, by omega, H, rfl, i3 + 1, by omega, ⟨?_, ?_, ?_, ?_⟩, kp3.grow hHo (by omega), u3.keepAll hHo, g3.keepAll hHo, by omega, ?_⟩ <;> simp [e1, e2, e3, e4, hnx]
                            · have dy : decide (qa.b = Y) = false := decide_eq_false hy
                              rw [dy] at hnx
                              simp (disch := omega) [e1, e2, e3, e4, d1, d2, d3, d4, d5, d6, d7, d8, d9, d10, dltn_t, hi3, natOf_j, z4, z5, cb, al3, st3, q0, q1, wrap_i, dx, dy]
                              refine ⟨k3, by omega, H, rfl, i3 + 1, by omega, ⟨?_, ?_, ?_, ?_⟩, kp3.grow hHo (by omega), u3.keepAll hHo, g3.keepAll hHo, by omega, ?_⟩ <;> simp [e1, e2, e3, e4, hnx]
                          · have dx : decide (qa.a = X) = false := decide_eq_false hx
                            rw [dx, Bool.false_and] at hnx
                            simp (disch := omega) [e1, e2, e3, e4, d1, d2, d3, d4, d5, d6, d7, d8, d9, d10, dltn_t, hi3, natOf_j, z4, z5, cb, al3, st3, q0, q1, wrap_i, dx]
                            refine ⟨k3, by omega, H, rfl, i3 + 1, by omega, ⟨?_, ?_, ?_, ?_⟩, kp3.grow hHo (by omega), u3.keepAll hHo, g3.keepAll hHo, by omega, ?_⟩ <;> simp [e1, e2, e3, e4, hnx]
            | succ k1 =>
              have hi : i < SL := by omega
              obtain ⟨qa, hqa⟩ : ∃ q, (segs1 r c)[i]? = some q := ⟨_, List.getElem?_eq_getElem (by omega)⟩
              obtain ⟨pi, hpi⟩ : ∃ pi, pi = (i + SL - 1) % SL := ⟨_, rfl⟩
              have hpil : pi < SL := by rw [hpi]; exact Nat.mod_lt _ (by omega)
              obtain ⟨qb, hqb⟩ : ∃ q, (segs1 r c)[pi]? = some q := ⟨_, List.getElem?_eq_getElem (by omega)⟩
              obtain ⟨eab1, eab2⟩ := w2 i qa qb hqa (by rw [← hpi]; exact hqb)
              have htm : Int.tmod ((i : Int) + (SL : Int) - 1) (SL : Int) = (pi : Int) := by
                rw [show (i : Int) + (SL : Int) - 1 = ((i + SL - 1 : Nat) : Int) from by omega, ← Int.ofNat_tmod, hpi]
              obtain ⟨y1, _, y2, y3, y4, _, y5⟩ := g1.row (fun a => Sg.len a) hqa
              obtain ⟨z1, _, z2, z3, z4, z5, _⟩ := g1.row (fun a => Sg.len a) hqb
              have z5 : loadV (few os1) true 4 (.ptr (some (z1, pi * 4))) = some (.agg qb.cells) := z5
              have cb : (V.agg qb.cells).cells = some qb.cells := rfl
              have al1 : (few os1).alloc (.cells true [.int .i64 0, .int .i64 0, .int .i64 0, .int .i64 0]) = some (os1.length, few (os1 ++ [some (.cells true [.int .i64 0, .int .i64 0, .int .i64 0, .int .i64 0])])) := few_alloc _ _
              have st1 : storeV (few (os1 ++ [some (.cells true [.int .i64 0, .int .i64 0, .int .i64 0, .int .i64 0])])) 4 (.ptr (some (os1.length, 0))) (some qb.cells) = some (V.undef, few (os1 ++ [some (.cells true qb.cells)])) := storeNew rfl rfl
              obtain ⟨F, hF⟩ : ∃ F, F = os1 ++ [some (AObj.cells true qb.cells)] := ⟨_, rfl⟩
              obtain ⟨F0, hF0⟩ : ∃ F0, F0 = os1 ++ [some (AObj.cells true [.int .i64 0, .int .i64 0, .int .i64 0, .int .i64 0])] := ⟨_, rfl⟩
              rw [← hF, ← hF0] at st1
              rw [← hF0] at al1
              have hFl : F.length = os1.length + 1 := by rw [hF]; simp
              have hFo : ∀ i, i < os1.length → (F[i]?).join = (os1[i]?).join := fun i hi => by rw [hF, joinApp hi]
              have hFe : (F[os1.length]?).join = some (.cells true qb.cells) := by rw [hF, joinEnd]
              have gF := g1.keepAll hFo
              obtain ⟨y1', _, _, y3', _, _, y5'⟩ := gF.row (fun a => Sg.len a) hqa
              have hyy : y1' = y1 := by rw [y3] at y3'; injection y3' with e; injection e with e; injection e with e1 e2; exact e1.symm
              subst hyy
              have f0 : loadV (few F) false 1 (.ptr (some (y1', i * 4))) = some (.int .i64 qb.c) := by rw [← eab1]; exact y5' 0 (by omega)
              have f1 : loadV (few F) false 1 (.ptr (some (y1', i * 4 + 1))) = some (.int .i64 qb.d) := by rw [← eab2]; exact y5' 1 (by omega)
              have f2 : loadV (few F) false 1 (.ptr (some (os1.length, 2))) = some (.int .i64 qb.c) := (load_few hFe).trans rfl
              have f3 : loadV (few F) false 1 (.ptr (some (os1.length, 3))) = some (.int .i64 qb.d) := (load_few hFe).trans rfl
              have hsv : ∀ st, lenV st .slice sv = some (.int .i64 (SL : Int)) := hsl
              have hsl0 : (SL : Int) ≠ 0 := by omega
              simp (disch := omega) [t1, t2, t3, t4, r1, r2, r3, r4, dltn_t, hi, hsv, wrap_i, bin_rem, hsl0, htm, natOf_j, z4, z5, cb, al1, st1, y4, f0, f1, f2, f3, load_d, foot_call, foot_load, idOf, meets_cons, mem_cons, mem_nil, nbeq_dec, ble_dec, deqn_f, dlen_f]
              refine ⟨k1, by omega, F, rfl, i + 1, by omega, ⟨?_, ?_, ?_, ?_⟩, kp1.grow hFo (by omega), u1.keepAll hFo, gF, ?_⟩ <;> simp [t1, t2, t3, t4, r1, r2, r3]
        · have hS0 : SL = 0 := by rw [hSL]; unfold segs1; rw [if_neg (by omega)]; rfl
          have hlt : cl < 2 := by omega
          simp (disch := omega) [s1, s2, s3, s4, dltn_t, natOf_j, h1, h3, huc, alD, lD, e1, hul, hsl, dlt_t, hS0, wrap_i]
          refine ⟨k, by omega, E, rfl, j + 1, by omega, ⟨?_, ?_, ?_, ?_⟩, hkE⟩ <;> simp [s1, s2, s3, s4]
theorem curveF_withF {call : CallT} {n g lf : Nat} {fn : AFunc} (h : CurveF call n) (hne : n ≠ g) : CurveF (Vabs.withF call g lf fn) n := fun ax ay bx by_ cx cy p q r st h1 h2 h3 h4 h5 h6 => by rw [withF_other hne]; exact h ax ay bx by_ cx cy p q r st h1 h2 h3 h4 h5 h6
theorem segF_withF {call : CallT} {n g lf : Nat} {fn : AFunc} (h : SegF call n) (hne : n ≠ g) : SegF (Vabs.withF call g lf fn) n := fun x y z w p q st => by rw [withF_other hne]; exact h x y z w p q st

end Go.Vabs.Ki
