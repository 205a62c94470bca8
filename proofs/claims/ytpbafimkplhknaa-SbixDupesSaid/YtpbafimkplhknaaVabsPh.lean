/-
  Small functions of the hand.
-/
import Derived.Test.YtpbafimkplhknaaVabsZc
namespace Go.Vabs.Ph
set_option linter.unusedVariables false
set_option linter.unusedSimpArgs false
set_option maxRecDepth 10000
def Pick_c : AFunc := AFunc.mk 14 (.seq (.reg [AOper.mk (some (.i (.o .h))) (.mv (.c (.int .i64 (.ofNat 0)))) none]) (.seq (.reg [AOper.mk (some (.o (.o (.o .h)))) (.bin .rem (.val .int) (.t .h) (.t (.o .h))) none, AOper.mk (some .h) (.mv (.t (.o (.o (.o .h))))) none]) (.seq (.seq (.reg [AOper.mk (some (.o (.i (.o .h)))) (.bin .lss (.val .int) (.t .h) (.c (.int .i64 (.ofNat 0)))) none]) (.cond (.t (.o (.i (.o .h)))) (.reg [AOper.mk (some (.i (.o (.i .h)))) (.bin .add (.val .int) (.t .h) (.t (.o .h))) none, AOper.mk (some .h) (.mv (.t (.i (.o (.i .h))))) none]) .skip)) (.seq (.reg [AOper.mk (some (.i (.o .h))) (.mv (.t .h)) none]) .ret)))) [.tmp (.i (.o .h))]
attribute [local simp] wp_skip wp_ret wp_exit wp_reg wp_seq wp_cond wp_block thenQ_normal thenQ_ret thenQ_exit blockQ_normal blockQ_ret blockQ_exit wpCond_true wpCond_false wpOps_nil wpVal_some wpGuard_true wpGuard_false wpOps_guard wpOps_cons
  put_at put_no ev_c ev_slot posEq_h posEq_o posEq_i posEq_ho posEq_hi posEq_oh posEq_ih posEq_oi posEq_io sel_true sel_false
  okv_some step_mv step_call step_pick pickV_bool step_bin bin_add bin_sub bin_mul bin_eql bin_neq bin_lss bin_leq bin_gtr bin_geq bin_eqb bin_neb bin_eqs bin_nes step_un un_not un_neg step_len len_slice len_str len_const step_extract extractV nth step_convInt conv_int step_convStr step_slice step_idxAddr natOf_nat step_load step_index step_field step_fieldAddr step_build step_minmax
  step_alloc step_bslice bsliceV_some newV_some step_store step_append boolIs_b boolIs_t finQ_ret finQ_normal ressE_nil ressE_cons resE_tmp consO_some initE_nil initE_cons pos_0 pos_1 pos_2 pos_3 pos_4 pos_5 pos_6 pos_7 pos_8 plain_bool plain_int plain_str plain_ptr plain_slice plain_map plain_agg plain_func plain_nilFunc V.undef oneOf_one oneOf_two ble_self
/-- n brought into 0 to m - 1. -/
def pickI (n m : Int) : Int := if Int.tmod n m < 0 then Int.tmod n m + m else Int.tmod n m
theorem pickI_lt {n m : Int} (h : 0 < m) : 0 ≤ pickI n m ∧ pickI n m < m := by
  have h1 := Int.tmod_lt_of_pos n h
  have h2 := Int.lt_tmod_of_pos n h
  unfold pickI
  split <;> omega
def PickF (call : CallT) (g : Nat) : Prop := ∀ n m st, 0 < m → m < 4611686018427387904 → call g [.int .i64 n, .int .i64 m] st = some (.int .i64 (pickI n m), st)
theorem Pick_run {call : CallT} {lf : Nat} {n m : Int} {st : St} (h : 0 < m) (hm : m < 4611686018427387904) : enterF call lf [.int .i64 n, .int .i64 m] st Pick_c = some (.int .i64 (pickI n m), st) := by
  have h1 := Int.tmod_lt_of_pos n h
  have h2 := Int.lt_tmod_of_pos n h
  refine enter_eq ?_
  unfold pickI
  by_cases hc : Int.tmod n m < 0
  · simp (disch := omega) [bin_rem, hc, wrap_i]
  · simp (disch := omega) [bin_rem, hc, wrap_i]
theorem PickF.code {base : CallT} {g lf : Nat} : PickF (withF base g lf Pick_c) g := fun n m st h1 h2 => by rw [withF_same]; exact Pick_run h1 h2
theorem PickF.other {call : CallT} {n g : Nat} {l : List V → St → Option (V × St)} (h : PickF call n) (hne : n ≠ g) : PickF (withL call g l) n := fun a b st h1 h2 => by rw [withL_other hne]; exact h a b st h1 h2
theorem PickF.withF {call : CallT} {n g lf : Nat} {fn : AFunc} (h : PickF call n) (hne : n ≠ g) : PickF (Vabs.withF call g lf fn) n := fun a b st h1 h2 => by rw [withF_other hne]; exact h a b st h1 h2

end Go.Vabs.Ph
