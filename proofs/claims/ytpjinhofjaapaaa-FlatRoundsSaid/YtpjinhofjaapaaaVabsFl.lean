/-
  Curves as lines.
-/
import Derived.Test.YtpjinhofjaapaaaVabsZf
import Derived.Test.YtpjinhofjaapaaaVabsPh
namespace Go.Vabs.Fl
set_option linter.unusedVariables false
set_option linter.unusedSimpArgs false
set_option maxRecDepth 10000
def brought_c : AFunc := AFunc.mk 12 (.seq (.reg [AOper.mk (some (.i (.i .h))) (.mv (.c (.int .i64 (.ofNat 0)))) none]) (.seq (.reg [AOper.mk (some (.i (.i (.o .h)))) (.minmax false (.t .h) [.t (.i .h)]) none, AOper.mk (some (.o (.o (.i .h)))) (.minmax true (.t (.o .h)) [.t (.i (.i (.o .h)))]) none, AOper.mk (some (.i (.i .h))) (.mv (.t (.o (.o (.i .h))))) none]) .ret)) [.tmp (.i (.i .h))]
def Clip_c (n_brought : Nat) : AFunc := AFunc.mk 5 (.seq (.reg [AOper.mk (some (.i .h)) (.mv (.c (.int .i64 (.ofNat 0)))) none]) (.seq (.reg [AOper.mk (some (.i (.o .h))) (.call n_brought [.t .h, .c (.int .i64 (.negSucc 2147483646)), .c (.int .i64 (.ofNat 2147483647))]) none, AOper.mk (some (.i .h)) (.mv (.t (.i (.o .h)))) none]) .ret)) [.tmp (.i .h)]
def bent_c : AFunc := AFunc.mk 31 (.seq (.reg [AOper.mk (some (.i (.o (.o .h)))) (.mv (.c (.int .i64 (.ofNat 0)))) none]) (.seq (.reg [AOper.mk (some (.o (.o (.i .h)))) (.bin .sub (.val .int) (.c (.int .i64 (.ofNat 8))) (.t (.o (.o .h)))) none, AOper.mk (some (.o (.i (.o .h)))) (.mv (.t (.o (.o (.i .h))))) none]) (.seq (.reg [AOper.mk (some (.i (.i (.i .h)))) (.bin .mul (.val .int) (.t .h) (.t (.o (.i (.o .h))))) none, AOper.mk (some (.i (.o (.o (.o .h))))) (.bin .mul (.val .int) (.t (.i (.i (.i .h)))) (.t (.o (.i (.o .h))))) none, AOper.mk (some (.i (.i (.o (.o .h))))) (.bin .mul (.val .int) (.c (.int .i64 (.ofNat 2))) (.t (.o .h))) none, AOper.mk (some (.i (.o (.i (.o .h))))) (.bin .mul (.val .int) (.t (.i (.i (.o (.o .h))))) (.t (.o (.o .h)))) none, AOper.mk (some (.i (.i (.i (.o .h))))) (.bin .mul (.val .int) (.t (.i (.o (.i (.o .h))))) (.t (.o (.i (.o .h))))) none, AOper.mk (some (.o (.o (.o (.i .h))))) (.bin .add (.val .int) (.t (.i (.o (.o (.o .h))))) (.t (.i (.i (.i (.o .h)))))) none, AOper.mk (some (.i (.i (.o (.i .h))))) (.bin .mul (.val .int) (.t (.i .h)) (.t (.o (.o .h)))) none, AOper.mk (some (.i (.o (.i (.i .h))))) (.bin .mul (.val .int) (.t (.i (.i (.o (.i .h))))) (.t (.o (.o .h)))) none, AOper.mk (some (.o (.i (.i (.i .h))))) (.bin .add (.val .int) (.t (.o (.o (.o (.i .h))))) (.t (.i (.o (.i (.i .h)))))) none, AOper.mk (some (.i (.i (.i (.i .h))))) (.bin .shr (.val .int) (.t (.o (.i (.i (.i .h))))) (.c (.int .u64 (.ofNat 6)))) none, AOper.mk (some (.i (.o (.o .h)))) (.mv (.t (.i (.i (.i (.i .h)))))) none]) .ret))) [.tmp (.i (.o (.o .h)))]
def seg_c : AFunc := AFunc.mk 14 (.seq (.reg [AOper.mk (some (.i .h)) (.box (.t .h)) none, AOper.mk (some (.o (.o .h))) (.box (.t (.o .h))) none, AOper.mk (some (.i (.o .h))) (.alloc [.int .i64 (.ofNat 0), .int .i64 (.ofNat 0), .int .i64 (.ofNat 0), .int .i64 (.ofNat 0)]) none]) (.seq (.reg [AOper.mk (some (.o (.i .h))) (.fieldAddr 0 (.t (.i .h))) none, AOper.mk (some (.i (.i .h))) (.load false 1 (.t (.o (.i .h)))) none, AOper.mk (some (.o (.o (.o .h)))) (.fieldAddr 1 (.t (.i .h))) none, AOper.mk (some (.i (.o (.o .h)))) (.load false 1 (.t (.o (.o (.o .h))))) none, AOper.mk (some (.o (.i (.o .h)))) (.fieldAddr 0 (.t (.o (.o .h)))) none, AOper.mk (some (.i (.i (.o .h)))) (.load false 1 (.t (.o (.i (.o .h))))) none, AOper.mk (some (.o (.o (.i .h)))) (.fieldAddr 1 (.t (.o (.o .h)))) none, AOper.mk (some (.i (.o (.i .h)))) (.load false 1 (.t (.o (.o (.i .h))))) none, AOper.mk (some (.o (.i (.i .h)))) (.build [.int .i64 (.ofNat 0), .int .i64 (.ofNat 0), .int .i64 (.ofNat 0), .int .i64 (.ofNat 0)] [(0, (1, .t (.i (.i .h)))), (1, (1, .t (.i (.o (.o .h))))), (2, (1, .t (.i (.i (.o .h))))), (3, (1, .t (.i (.o (.i .h)))))]) none, AOper.mk none (.store 4 (.t (.i (.o .h))) (.t (.o (.i (.i .h))))) none]) .ret)) [.cell (.i (.o .h)) true 4]
def curve_c (n_bent : Nat) (n_seg : Nat) : AFunc := AFunc.mk 41 (.seq (.reg [AOper.mk (some (.o (.o .h))) (.box (.t .h)) none, AOper.mk (some (.i (.o .h))) (.box (.t (.o .h))) none, AOper.mk (some (.o (.i .h))) (.box (.t (.i .h))) none, AOper.mk (some (.i (.i .h))) (.mv (.c (.slice none 0 0 0 true))) none]) (.seq (.reg [AOper.mk (some (.o (.o (.o .h)))) (.mv (.c (.slice none 0 0 0 true))) none]) (.seq (.reg [AOper.mk (some (.o (.o (.i .h)))) (.load true 3 (.t (.o (.o .h)))) none, AOper.mk (some (.i (.o (.o .h)))) (.alloc [.int .i64 (.ofNat 0), .int .i64 (.ofNat 0), .bool false]) none, AOper.mk none (.store 3 (.t (.i (.o (.o .h)))) (.t (.o (.o (.i .h))))) none]) (.seq (.seq (.reg [AOper.mk (some (.o (.i (.o .h)))) (.mv (.c (.int .i64 (.ofNat 1)))) none]) (.block 0 (.loop (.seq (.seq (.reg [AOper.mk (some (.o (.i (.i .h)))) (.bin .leq (.val .int) (.t (.o (.i (.o .h)))) (.c (.int .i64 (.ofNat 8)))) none]) (.cond (.t (.o (.i (.i .h)))) .skip (.exit 0))) (.seq (.block 1 (.seq (.dreg [(AOper.mk (some (.i (.o (.o (.o .h))))) (.fieldAddr 0 (.t (.o (.o .h)))) none, []), (AOper.mk (some (.o (.i (.o (.o .h))))) (.load false 1 (.t (.i (.o (.o (.o .h)))))) none, [3, 5, 9, 11, 13, 17]), (AOper.mk (some (.i (.i (.o (.o .h))))) (.fieldAddr 0 (.t (.i (.o .h)))) none, []), (AOper.mk (some (.o (.o (.i (.o .h))))) (.load false 1 (.t (.i (.i (.o (.o .h)))))) none, [1, 5, 9, 11, 13, 17]), (AOper.mk (some (.i (.o (.i (.o .h))))) (.fieldAddr 0 (.t (.o (.i .h)))) none, []), (AOper.mk (some (.o (.i (.i (.o .h))))) (.load false 1 (.t (.i (.o (.i (.o .h)))))) none, [1, 3, 9, 11, 13, 17]), (AOper.mk (some (.i (.i (.i (.o .h))))) (.mv (.t (.o (.i (.o .h))))) none, []), (AOper.mk (some (.o (.o (.o (.i .h))))) (.call n_bent [.t (.o (.i (.o (.o .h)))), .t (.o (.o (.i (.o .h)))), .t (.o (.i (.i (.o .h)))), .t (.i (.i (.i (.o .h))))]) none, [9, 11, 13, 17]), (AOper.mk (some (.i (.o (.o (.i .h))))) (.fieldAddr 1 (.t (.o (.o .h)))) none, []), (AOper.mk (some (.o (.i (.o (.i .h))))) (.load false 1 (.t (.i (.o (.o (.i .h)))))) none, [1, 3, 5, 7, 11, 13, 17]), (AOper.mk (some (.i (.i (.o (.i .h))))) (.fieldAddr 1 (.t (.i (.o .h)))) none, []), (AOper.mk (some (.o (.o (.i (.i .h))))) (.load false 1 (.t (.i (.i (.o (.i .h)))))) none, [1, 3, 5, 7, 9, 13, 17]), (AOper.mk (some (.i (.o (.i (.i .h))))) (.fieldAddr 1 (.t (.o (.i .h)))) none, []), (AOper.mk (some (.o (.i (.i (.i .h))))) (.load false 1 (.t (.i (.o (.i (.i .h)))))) none, [1, 3, 5, 7, 9, 11, 17]), (AOper.mk (some (.i (.i (.i (.i .h))))) (.mv (.t (.o (.i (.o .h))))) none, []), (AOper.mk (some (.o (.o (.o (.o (.o .h)))))) (.call n_bent [.t (.o (.i (.o (.i .h)))), .t (.o (.o (.i (.i .h)))), .t (.o (.i (.i (.i .h)))), .t (.i (.i (.i (.i .h))))]) none, [17]), (AOper.mk (some (.i (.o (.o (.o (.o .h)))))) (.build [.int .i64 (.ofNat 0), .int .i64 (.ofNat 0), .bool false] [(0, (1, .t (.o (.o (.o (.i .h)))))), (1, (1, .t (.o (.o (.o (.o (.o .h))))))), (2, (1, .c (.bool true)))]) none, []), (AOper.mk (some (.i (.i (.o .h)))) (.alloc [.int .i64 (.ofNat 0), .int .i64 (.ofNat 0), .bool false]) none, [1, 3, 5, 7, 9, 11, 13, 15]), (AOper.mk none (.store 3 (.t (.i (.i (.o .h)))) (.t (.i (.o (.o (.o (.o .h))))))) none, [])]) (.dreg [(AOper.mk (some (.o (.i (.o (.o (.o .h)))))) (.mv (.t (.o (.o (.o .h))))) none, []), (AOper.mk (some (.i (.i (.o (.o (.o .h)))))) (.load true 3 (.t (.i (.o (.o .h))))) none, [2, 6]), (AOper.mk (some (.o (.o (.i (.o (.o .h)))))) (.load true 3 (.t (.i (.i (.o .h))))) none, [1, 6]), (AOper.mk (some (.i (.o (.i (.o (.o .h)))))) (.call n_seg [.t (.i (.i (.o (.o (.o .h))))), .t (.o (.o (.i (.o (.o .h)))))]) none, [6]), (AOper.mk (some (.o (.i (.i (.o (.o .h)))))) (.bslice 4 1 [.int .i64 (.ofNat 0), .int .i64 (.ofNat 0), .int .i64 (.ofNat 0), .int .i64 (.ofNat 0)] [(0, (4, .t (.i (.o (.i (.o (.o .h)))))))]) none, [6]), (AOper.mk (some (.i (.i (.i (.o (.o .h)))))) (.append 4 32 (.t (.o (.i (.o (.o (.o .h)))))) (.t (.o (.i (.i (.o (.o .h))))))) none, [6]), (AOper.mk (some (.o (.o (.o (.i (.o .h)))))) (.load true 3 (.t (.i (.i (.o .h))))) none, [1, 2, 3, 4, 5]), (AOper.mk (some (.o (.o (.o .h)))) (.mv (.t (.i (.i (.i (.o (.o .h))))))) none, []), (AOper.mk none (.store 3 (.t (.i (.o (.o .h)))) (.t (.o (.o (.o (.i (.o .h))))))) none, [])]))) (.reg [AOper.mk (some (.o (.o (.o (.o .h))))) (.bin .add (.val .int) (.t (.o (.i (.o .h)))) (.c (.int .i64 (.ofNat 1)))) none, AOper.mk (some (.o (.i (.o .h)))) (.mv (.t (.o (.o (.o (.o .h)))))) none])))))) (.seq (.reg [AOper.mk (some (.i (.i .h))) (.mv (.t (.o (.o (.o .h))))) none]) .ret))))) [.tmp (.i (.i .h))]
def Num_c (n_Pick : Nat) : AFunc := AFunc.mk 32 (.seq (.reg [AOper.mk (some (.i .h)) (.mv (.c (.int .i64 (.ofNat 0)))) none]) (.seq (.seq (.reg [AOper.mk (some (.i (.o .h))) (.call n_Pick [.t .h, .c (.int .i64 (.ofNat 8))]) none]) (.block 0 (.seq (.reg [AOper.mk (some (.i (.i .h))) (.bin .eql (.val .int) (.t (.i (.o .h))) (.c (.int .i64 (.ofNat 0)))) none, AOper.mk (some (.o (.i .h))) (.mv (.t (.i (.i .h)))) none]) (.cond (.t (.o (.i .h))) (.seq (.reg [AOper.mk (some (.i .h)) (.mv (.t .h)) none]) .ret) (.seq (.reg [AOper.mk (some (.o (.i (.o .h)))) (.bin .eql (.val .int) (.t (.i (.o .h))) (.c (.int .i64 (.ofNat 1)))) none, AOper.mk (some (.i (.o (.o .h)))) (.mv (.t (.o (.i (.o .h))))) none]) (.cond (.t (.i (.o (.o .h)))) (.seq (.reg [AOper.mk (some (.o (.o (.i .h)))) (.bin .quo (.val .int) (.t .h) (.c (.int .i64 (.ofNat 8)))) none, AOper.mk (some (.i (.o (.i .h)))) (.call n_Pick [.t (.o (.o (.i .h))), .c (.int .i64 (.ofNat 2001))]) none, AOper.mk (some (.o (.i (.i .h)))) (.bin .sub (.val .int) (.t (.i (.o (.i .h)))) (.c (.int .i64 (.ofNat 1000)))) none, AOper.mk (some (.i (.i (.i .h)))) (.bin .mul (.val .int) (.t (.o (.i (.i .h)))) (.c (.int .i64 (.ofNat 65536)))) none, AOper.mk (some (.i .h)) (.mv (.t (.i (.i (.i .h))))) none]) .ret) (.seq (.reg [AOper.mk (some (.i (.o (.o (.o .h))))) (.bin .eql (.val .int) (.t (.i (.o .h))) (.c (.int .i64 (.ofNat 2)))) none, AOper.mk (some (.o (.o (.o (.o .h))))) (.mv (.t (.i (.o (.o (.o .h)))))) none]) (.cond (.t (.o (.o (.o (.o .h))))) (.seq (.reg [AOper.mk (some (.i (.i (.o (.o .h))))) (.bin .quo (.val .int) (.t .h) (.c (.int .i64 (.ofNat 8)))) none, AOper.mk (some (.o (.o (.i (.o .h))))) (.call n_Pick [.t (.i (.i (.o (.o .h)))), .c (.int .i64 (.ofNat 9))]) none, AOper.mk (some (.i (.o (.i (.o .h))))) (.bin .sub (.val .int) (.t (.o (.o (.i (.o .h))))) (.c (.int .i64 (.ofNat 4)))) none, AOper.mk (some (.i .h)) (.mv (.t (.i (.o (.i (.o .h)))))) none]) .ret) (.seq (.reg [AOper.mk (some (.i (.i (.i (.o .h))))) (.bin .eql (.val .int) (.t (.i (.o .h))) (.c (.int .i64 (.ofNat 3)))) none, AOper.mk (some (.o (.i (.i (.o .h))))) (.mv (.t (.i (.i (.i (.o .h)))))) none]) (.cond (.t (.o (.i (.i (.o .h))))) (.seq (.reg [AOper.mk (some (.i (.o (.o (.i .h))))) (.bin .quo (.val .int) (.t .h) (.c (.int .i64 (.ofNat 8)))) none, AOper.mk (some (.o (.i (.o (.i .h))))) (.call n_Pick [.t (.i (.o (.o (.i .h)))), .c (.int .i64 (.ofNat 9))]) none, AOper.mk (some (.i (.i (.o (.i .h))))) (.bin .sub (.val .int) (.t (.o (.i (.o (.i .h))))) (.c (.int .i64 (.ofNat 4)))) none, AOper.mk (some (.o (.o (.i (.i .h))))) (.bin .mul (.val .int) (.t (.i (.i (.o (.i .h))))) (.c (.int .i64 (.ofNat 32768)))) none, AOper.mk (some (.i .h)) (.mv (.t (.o (.o (.i (.i .h)))))) none]) .ret) .skip)))))))))) (.seq (.reg [AOper.mk (some (.o (.i (.i (.i .h))))) (.bin .quo (.val .int) (.t .h) (.c (.int .i64 (.ofNat 8)))) none, AOper.mk (some (.i (.i (.i (.i .h))))) (.call n_Pick [.t (.o (.i (.i (.i .h)))), .c (.int .i64 (.ofNat 1310720))]) none, AOper.mk (some (.o (.o (.o (.o (.o .h)))))) (.bin .sub (.val .int) (.t (.i (.i (.i (.i .h))))) (.c (.int .i64 (.ofNat 655360)))) none, AOper.mk (some (.i .h)) (.mv (.t (.o (.o (.o (.o (.o .h))))))) none]) .ret))) [.tmp (.i .h)]
attribute [local simp] wp_skip wp_ret wp_exit wp_reg wp_seq wp_cond wp_block thenQ_normal thenQ_ret thenQ_exit blockQ_normal blockQ_ret blockQ_exit wpCond_true wpCond_false wpOps_nil wpVal_some wpGuard_true wpGuard_false wpOps_guard wpOps_cons
  put_at put_no ev_c ev_slot posEq_h posEq_o posEq_i posEq_ho posEq_hi posEq_oh posEq_ih posEq_oi posEq_io sel_true sel_false
  okv_some step_mv step_call step_pick pickV_bool step_bin bin_add bin_sub bin_mul bin_eql bin_neq bin_lss bin_leq bin_gtr bin_geq bin_eqb bin_neb bin_eqs bin_nes step_un un_not un_neg step_len len_slice len_str len_const step_extract extractV nth step_convInt conv_int step_convStr step_slice step_idxAddr natOf_nat step_load step_index step_field step_fieldAddr step_build step_minmax
  step_alloc step_bslice bsliceV_some newV_some step_store step_append boolIs_b boolIs_t finQ_ret finQ_normal ressE_nil ressE_cons resE_tmp consO_some initE_nil initE_cons pos_0 pos_1 pos_2 pos_3 pos_4 pos_5 pos_6 pos_7 pos_8 plain_bool plain_int plain_str plain_ptr plain_slice plain_map plain_agg plain_func plain_nilFunc V.undef oneOf_one oneOf_two ble_self bin_agg eqV_parts eqV_int eqV_bool eqV_str eqParts_nil eqParts_cons eqC_true eqC_false eqO_some eqR_eql eqR_neq
open Go.Vabs.Ph
attribute [local simp] wp_dreg wpDs_nil wpDs_cons wantedE_none wantedE_some wpDGuard_true wpDGuard_lim wpDGuard_false wpDLim_true wpDVal_free wpDVal_lim back_limited next_limited limF_dir limF_false ahead blt_dec foot_convStr foot_load foot_store foot_alloc foot_box foot_bslice foot_append foot_call okAll_nil okAll_cons pastsOf nthP
  wp_rounds wpRounds_succ roundQ_normal roundQ_ret roundQ_exit cells_int cells_bool cells_str cells_agg cells_slice few_alloc lawOut_nil lawOut_one step_box newV alloc_dir backv back_back back_few next_back few_next resE_cell load_fewC store_fewC first_fewC grow_none grow_some cellsAt_zero cellsAt_succ ownAt_zero ownAt_succ loadC_some storeC_some firstC_some growC_some load_d convStr_d convStr_d0 store_d append_d2 append_d1 first_d2 first_d1 cut takeN nth splice over idOf okPair_dd okPair_dc okPair_cd okPair_cc anyIn_nil anyIn_cons meets_nil meets_nil' meets_cons mem_nil mem_cons nbeq_dec blt_dec ble_dec fill repN firstNo lenOf idxAddrV fieldAddrV fieldV part natOf_zero natOf_one

/- NUMBERS -/
def clip (n : Int) : Int := max (-2147483647) (min n 2147483647)
theorem clip_id {n : Int} (h1 : -2147483647 ≤ n) (h2 : n ≤ 2147483647) : clip n = n := by unfold clip; omega
theorem clip_le (n : Int) : -2147483647 ≤ clip n ∧ clip n ≤ 2147483647 := by unfold clip; omega
theorem mm_min {k : IntKind} {x y : Int} : mmAll false (.int k x) [.int k y] = some (.int k (min x y)) := by
  show (match mm2 false (.int k x) (.int k y) with | some z => mmAll false z [] | none => none) = _
  simp only [mm2, if_true, ltI_eq]
  show some (V.int k (sel (decide (y < x)) y x)) = _
  by_cases h : y < x
  · rw [decide_eq_true h, sel_true, Int.min_eq_right (by omega)]
  · rw [decide_eq_false h, sel_false, Int.min_eq_left (by omega)]
theorem mm_max {k : IntKind} {x y : Int} : mmAll true (.int k x) [.int k y] = some (.int k (max x y)) := by
  show (match mm2 true (.int k x) (.int k y) with | some z => mmAll true z [] | none => none) = _
  simp only [mm2, if_true, ltI_eq]
  show some (V.int k (sel (decide (x < y)) y x)) = _
  by_cases h : x < y
  · rw [decide_eq_true h, sel_true, Int.max_eq_right (by omega)]
  · rw [decide_eq_false h, sel_false, Int.max_eq_left (by omega)]
def BroughtF (call : CallT) (g : Nat) : Prop := ∀ n a b st, call g [.int .i64 n, .int .i64 a, .int .i64 b] st = some (.int .i64 (max a (min n b)), st)
def ClipF (call : CallT) (g : Nat) : Prop := ∀ n st, call g [.int .i64 n] st = some (.int .i64 (clip n), st)
theorem brought_run {call : CallT} {lf : Nat} {n a b : Int} {st : St} : enterF call lf [.int .i64 n, .int .i64 a, .int .i64 b] st brought_c = some (.int .i64 (max a (min n b)), st) := by
  refine enter_eq ?_
  simp [mm_min, mm_max]
theorem BroughtF.code {base : CallT} {g lf : Nat} : BroughtF (withF base g lf brought_c) g := fun n a b st => by rw [withF_same]; exact brought_run
theorem clip_run {call : CallT} {lf m : Nat} (h : BroughtF call m) {n : Int} {st : St} : enterF call lf [.int .i64 n] st (Clip_c m) = some (.int .i64 (clip n), st) := by
  refine enter_eq ?_
  have e : (Int.negSucc 2147483646) = -2147483647 := rfl
  simp [h _ _ _ _, clip, e]
theorem ClipF.code {base : CallT} {g m lf : Nat} (h : BroughtF base m) : ClipF (withF base g lf (Clip_c m)) g := fun n st => by rw [withF_same]; exact clip_run h
theorem ClipF.withF {call : CallT} {n g lf : Nat} {fn : AFunc} (h : ClipF call n) (hne : n ≠ g) : ClipF (Vabs.withF call g lf fn) n := fun a st => by rw [withF_other hne]; exact h a st
theorem ClipF.other {call : CallT} {n g : Nat} {l : List V → St → Option (V × St)} (h : ClipF call n) (hne : n ≠ g) : ClipF (withL call g l) n := fun a st => by rw [withL_other hne]; exact h a st

/-- Where a curve is, at a step. -/
def bentI (a b c k : Int) : Int := (a * (8 - k) * (8 - k) + 2 * b * k * (8 - k) + c * k * k) / 64
theorem bent_0 (a b c : Int) : bentI a b c 0 = a := by unfold bentI; omega
def BentF (call : CallT) (g : Nat) : Prop := ∀ a b c k st, (-2147483647 ≤ a ∧ a ≤ 2147483647) → (-2147483647 ≤ b ∧ b ≤ 2147483647) → (-2147483647 ≤ c ∧ c ≤ 2147483647) → (1 ≤ k ∧ k ≤ 8) → call g [.int .i64 a, .int .i64 b, .int .i64 c, .int .i64 k] st = some (.int .i64 (bentI a b c k), st)
theorem shr_6 {eq : EqKind} {x : Int} : binV .shr eq (.int .i64 x) (.int .u64 6) = some (.int .i64 (x / 64)) := by
  have e : binV .shr eq (.int .i64 x) (.int .u64 6) = some (.int .i64 (Int.fdiv x 64)) := bin_shr (n := 6)
  rw [e, Int.fdiv_eq_ediv_of_nonneg _ (by omega)]
theorem bent_run {call : CallT} {lf : Nat} {a b c k : Int} {st : St} (ha : -2147483647 ≤ a ∧ a ≤ 2147483647) (hb : -2147483647 ≤ b ∧ b ≤ 2147483647) (hc : -2147483647 ≤ c ∧ c ≤ 2147483647) (hk : 1 ≤ k ∧ k ≤ 8) :
    enterF call lf [.int .i64 a, .int .i64 b, .int .i64 c, .int .i64 k] st bent_c = some (.int .i64 (bentI a b c k), st) := by
  refine enter_eq ?_
  unfold bentI
  have : k = 1 ∨ k = 2 ∨ k = 3 ∨ k = 4 ∨ k = 5 ∨ k = 6 ∨ k = 7 ∨ k = 8 := by omega
  rcases this with rfl | rfl | rfl | rfl | rfl | rfl | rfl | rfl <;> simp (disch := omega) [wrap_i, shr_6]
theorem BentF.code {base : CallT} {g lf : Nat} : BentF (withF base g lf bent_c) g := fun a b c k st h1 h2 h3 h4 => by rw [withF_same]; exact bent_run h1 h2 h3 h4
theorem BentF.withF {call : CallT} {n g lf : Nat} {fn : AFunc} (h : BentF call n) (hne : n ≠ g) : BentF (Vabs.withF call g lf fn) n := fun a b c k st h1 h2 h3 h4 => by rw [withF_other hne]; exact h a b c k st h1 h2 h3 h4
theorem BentF.other {call : CallT} {n g : Nat} {l : List V → St → Option (V × St)} (h : BentF call n) (hne : n ≠ g) : BentF (withL call g l) n := fun a b c k st h1 h2 h3 h4 => by rw [withL_other hne]; exact h a b c k st h1 h2 h3 h4

/- PLACES -/
def placeV (x y : Int) : V := .agg [.int .i64 x, .int .i64 y, .bool true]
def pairV (x y : Int) : V := .agg [.int .i64 x, .int .i64 y]
def OfF (call : CallT) (g : Nat) : Prop := ∀ x y st, call g [pairV x y] st = some (placeV (clip x) (clip y), st)
def segV (a b c d : Int) : V := .agg [.int .i64 a, .int .i64 b, .int .i64 c, .int .i64 d]
noncomputable def segS : List V → Option Ans
  | [.agg [.int .i64 x, .int .i64 y, .bool _], .agg [.int .i64 z, .int .i64 w, .bool _]] => some ([], fun _ => segV x y z w)
  | _ => none
def SegF (call : CallT) (g : Nat) : Prop := ∀ x y z w p q, ∀ st, call g [.agg [.int .i64 x, .int .i64 y, .bool p], .agg [.int .i64 z, .int .i64 w, .bool q]] st = some (segV x y z w, st)
theorem seg_sound {P : Program} {call : CallT} (hmix : P.follows .mixedOrders = true) (h : Sound P call) {g : Nat} (hc : compF P g = some seg_c) : Sound P (withL call g (lawOf (flatRd segS))) :=
  h.flat hmix 1 hc fun args os f h1 => by
    unfold segS at h1
    split at h1
    · rename_i x y p z w q
      cases h1
      have e : ∃ s1, enterF call 1 [.agg [.int .i64 x, .int .i64 y, .bool p], .agg [.int .i64 z, .int .i64 w, .bool q]] (few []) seg_c = some (segV x y z w, s1) := by
        refine enter_ex ?_
        simp [segV]
      obtain ⟨s1, e⟩ := e
      exact ⟨_, s1, [], e, fun n => Left.flatA rfl⟩
    · cases h1
theorem seg_fact {call : CallT} {g : Nat} : SegF (withL call g (lawOf (flatRd segS))) g := fun x y z w p q st => (flat_call rfl).trans rfl
theorem SegF.other {call : CallT} {n g : Nat} {l : List V → St → Option (V × St)} (h : SegF call n) (hne : n ≠ g) : SegF (withL call g l) n := fun x y z w p q st => by rw [withL_other hne]; exact h x y z w p q st
theorem OfF.other {call : CallT} {n g : Nat} {l : List V → St → Option (V × St)} (h : OfF call n) (hne : n ≠ g) : OfF (withL call g l) n := fun x y st => by rw [withL_other hne]; exact h x y st

/-- A chord of a curve. -/
noncomputable def chordL (ax ay bx by_ cx cy : Int) (k : Int) : List V := [.int .i64 (bentI ax bx cx k), .int .i64 (bentI ay by_ cy k), .int .i64 (bentI ax bx cx (k + 1)), .int .i64 (bentI ay by_ cy (k + 1))]
noncomputable def chordsL (ax ay bx by_ cx cy : Int) : List V :=
  chordL ax ay bx by_ cx cy 0 ++ chordL ax ay bx by_ cx cy 1 ++ chordL ax ay bx by_ cx cy 2 ++ chordL ax ay bx by_ cx cy 3 ++ chordL ax ay bx by_ cx cy 4 ++ chordL ax ay bx by_ cx cy 5 ++ chordL ax ay bx by_ cx cy 6 ++ chordL ax ay bx by_ cx cy 7
def inB (n : Int) : Prop := -2147483647 ≤ n ∧ n ≤ 2147483647
instance (n : Int) : Decidable (inB n) := inferInstanceAs (Decidable (_ ∧ _))
noncomputable def curveA (ax ay bx by_ cx cy : Int) : Ans := ([.cells true (chordsL ax ay bx by_ cx cy)], fun k => .slice (some (k, 0)) 4 8 8 false)
noncomputable def curveS : List V → Option Ans
  | [.agg [.int .i64 ax, .int .i64 ay, .bool _], .agg [.int .i64 bx, .int .i64 by_, .bool _], .agg [.int .i64 cx, .int .i64 cy, .bool _]] =>
    if inB ax ∧ inB ay ∧ inB bx ∧ inB by_ ∧ inB cx ∧ inB cy then some (curveA ax ay bx by_ cx cy) else none
  | _ => none
set_option maxHeartbeats 4000000 in
theorem curve_sound {P : Program} {call : CallT} (hmix : P.follows .mixedOrders = true) (h : Sound P call) {g nb ns : Nat} (hb : BentF call nb) (hs : SegF call ns) (hc : compF P g = some (curve_c nb ns)) : Sound P (withL call g (lawOf (flatRd curveS))) :=
  h.flat hmix 10 hc fun args os f h1 => by
    unfold curveS at h1
    split at h1
    · rename_i ax ay p bx by_ q cx cy r
      split at h1
      · rename_i hin
        cases h1
        obtain ⟨i1, i2, i3, i4, i5, i6⟩ := hin
        have b1 := fun k st hk => hb ax bx cx k st i1 i3 i5 hk
        have b2 := fun k st hk => hb ay by_ cy k st i2 i4 i6 hk
        have e : ∃ s1, enterF call 10 [.agg [.int .i64 ax, .int .i64 ay, .bool p], .agg [.int .i64 bx, .int .i64 by_, .bool q], .agg [.int .i64 cx, .int .i64 cy, .bool r]] (few []) (curve_c nb ns) = some (.slice (some (27, 0)) 4 8 8 false, s1) ∧ s1.heap.get 27 = some (.cells true (chordsL ax ay bx by_ cx cy)) := by
          refine enter_wp2 ?_
          simp (disch := omega) [b1, b2, hs _ _ _ _ _ _ _, segV, wrap_i]
          rw [few_heap]
          simp [chordsL, chordL, bent_0]
        obtain ⟨s1, e, e2⟩ := e
        refine ⟨_, s1, [27], e, fun n => Left.cells ?_ (Nat.le_refl _) (Nat.zero_le _) e2⟩
        intro v hv
        simp [chordsL, chordL] at hv
        rcases hv with rfl | rfl | rfl | rfl | rfl | rfl | rfl | rfl | rfl | rfl | rfl | rfl | rfl | rfl | rfl | rfl | rfl | rfl | rfl | rfl | rfl | rfl | rfl | rfl | rfl | rfl | rfl | rfl | rfl | rfl | rfl | rfl <;> rfl
      · cases h1
    · cases h1

def CurveF (call : CallT) (g : Nat) : Prop := ∀ ax ay bx by_ cx cy p q r st, inB ax → inB ay → inB bx → inB by_ → inB cx → inB cy →
  call g [.agg [.int .i64 ax, .int .i64 ay, .bool p], .agg [.int .i64 bx, .int .i64 by_, .bool q], .agg [.int .i64 cx, .int .i64 cy, .bool r]] st = lawOut (some (curveA ax ay bx by_ cx cy)) st
theorem curve_fact {call : CallT} {g : Nat} : CurveF (withL call g (lawOf (flatRd curveS))) g := fun ax ay bx by_ cx cy p q r st h1 h2 h3 h4 h5 h6 => by
  rw [flat_call rfl]
  show lawOut (if inB ax ∧ inB ay ∧ inB bx ∧ inB by_ ∧ inB cx ∧ inB cy then some (curveA ax ay bx by_ cx cy) else none) st = _
  rw [if_pos ⟨h1, h2, h3, h4, h5, h6⟩]
theorem CurveF.other {call : CallT} {n g : Nat} {l : List V → St → Option (V × St)} (h : CurveF call n) (hne : n ≠ g) : CurveF (withL call g l) n := fun ax ay bx by_ cx cy p q r st h1 h2 h3 h4 h5 h6 => by rw [withL_other hne]; exact h ax ay bx by_ cx cy p q r st h1 h2 h3 h4 h5 h6
def Curve2F (call : CallT) (g : Nat) : Prop := ∀ ax ay bx by_ cx cy st, call g [pairV ax ay, pairV bx by_, pairV cx cy] st = lawOut (some (curveA (clip ax) (clip ay) (clip bx) (clip by_) (clip cx) (clip cy))) st
theorem Curve2F.other {call : CallT} {n g : Nat} {l : List V → St → Option (V × St)} (h : Curve2F call n) (hne : n ≠ g) : Curve2F (withL call g l) n := fun ax ay bx by_ cx cy st => by rw [withL_other hne]; exact h ax ay bx by_ cx cy st
theorem tdiv_lit {n k : Int} : Int.tdiv n k = if 0 ≤ n then n / k else -((-n) / k) := by
  split
  · exact Int.tdiv_eq_ediv_of_nonneg ‹_›
  · rw [← Int.tdiv_eq_ediv_of_nonneg (show 0 ≤ -n by omega), Int.neg_tdiv, Int.neg_neg]
/-- A raw number as one of 16.16. -/
def numI (n : Int) : Int :=
  if pickI n 8 = 0 then n else if pickI n 8 = 1 then (pickI (Int.tdiv n 8) 2001 - 1000) * 65536 else if pickI n 8 = 2 then pickI (Int.tdiv n 8) 9 - 4 else if pickI n 8 = 3 then (pickI (Int.tdiv n 8) 9 - 4) * 32768 else pickI (Int.tdiv n 8) 1310720 - 655360
def NumHF (call : CallT) (g : Nat) : Prop := ∀ n st, (-9223372036854775808 ≤ n ∧ n < 9223372036854775808) → call g [.int .i64 n] st = some (.int .i64 (numI n), st)
theorem num_run {call : CallT} {lf m : Nat} (hp : PickF call m) {n : Int} {st : St} (hn : -9223372036854775808 ≤ n ∧ n < 9223372036854775808) : enterF call lf [.int .i64 n] st (Num_c m) = some (.int .i64 (numI n), st) := by
  have p8 := fun st => hp n 8 st (by omega) (by omega)
  have b8 := pickI_lt (n := n) (m := 8) (by omega)
  have hd : -9223372036854775808 ≤ Int.tdiv n 8 ∧ Int.tdiv n 8 < 9223372036854775808 := by
    rw [tdiv_lit]
    split <;> omega
  have q1 := fun st => hp (Int.tdiv n 8) 2001 st (by omega) (by omega)
  have q2 := fun st => hp (Int.tdiv n 8) 9 st (by omega) (by omega)
  have q3 := fun st => hp (Int.tdiv n 8) 1310720 st (by omega) (by omega)
  have b1 := pickI_lt (n := Int.tdiv n 8) (m := 2001) (by omega)
  have b2 := pickI_lt (n := Int.tdiv n 8) (m := 9) (by omega)
  have b3 := pickI_lt (n := Int.tdiv n 8) (m := 1310720) (by omega)
  refine enter_eq ?_
  unfold numI
  by_cases h0 : pickI n 8 = 0
  · simp (disch := omega) [p8, h0]
  by_cases h1 : pickI n 8 = 1
  · simp (disch := omega) [p8, h0, h1, bin_quo, wrap_i, q1]
  by_cases h2 : pickI n 8 = 2
  · simp (disch := omega) [p8, h0, h1, h2, bin_quo, wrap_i, q2]
  by_cases h3 : pickI n 8 = 3
  · simp (disch := omega) [p8, h0, h1, h2, h3, bin_quo, wrap_i, q2]
  simp (disch := omega) [p8, h0, h1, h2, h3, bin_quo, wrap_i, q3]
theorem NumHF.code {base : CallT} {g m lf : Nat} (h : PickF base m) : NumHF (withF base g lf (Num_c m)) g := fun n st hn => by rw [withF_same]; exact num_run h hn
theorem NumHF.withF {call : CallT} {n g lf : Nat} {fn : AFunc} (h : NumHF call n) (hne : n ≠ g) : NumHF (Vabs.withF call g lf fn) n := fun a st hn => by rw [withF_other hne]; exact h a st hn
theorem NumHF.other {call : CallT} {n g : Nat} {l : List V → St → Option (V × St)} (h : NumHF call n) (hne : n ≠ g) : NumHF (withL call g l) n := fun a st hn => by rw [withL_other hne]; exact h a st hn
theorem numI_in {n : Int} (hn : -9223372036854775808 ≤ n ∧ n < 9223372036854775808) : -9223372036854775808 ≤ numI n ∧ numI n < 9223372036854775808 := by
  have b1 := pickI_lt (n := Int.tdiv n 8) (m := 2001) (by omega)
  have b2 := pickI_lt (n := Int.tdiv n 8) (m := 9) (by omega)
  have b3 := pickI_lt (n := Int.tdiv n 8) (m := 1310720) (by omega)
  unfold numI
  repeat' split
  all_goals omega

end Go.Vabs.Fl
