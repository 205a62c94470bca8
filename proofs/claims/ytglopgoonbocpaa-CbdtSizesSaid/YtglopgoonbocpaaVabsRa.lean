/-
  Chapter 27: strikes that are laid.
-/
import Derived.Test.YtglopgoonbocpaaVabsNb
namespace Go.Vabs.Ra
set_option linter.unusedVariables false
set_option linter.unusedSimpArgs false
set_option maxRecDepth 10000
attribute [local simp] wp_skip wp_ret wp_exit wp_reg wp_seq wp_cond wp_block thenQ_normal thenQ_ret thenQ_exit blockQ_normal blockQ_ret blockQ_exit wpCond_true wpCond_false wpOps_nil wpVal_some wpGuard_true wpGuard_false wpOps_guard wpOps_cons
  put_at put_no ev_c ev_slot posEq_h posEq_o posEq_i posEq_ho posEq_hi posEq_oh posEq_ih posEq_oi posEq_io sel_true sel_false
  okv_some step_mv step_call step_pick pickV_bool step_bin bin_add bin_sub bin_mul bin_eql bin_neq bin_lss bin_leq bin_gtr bin_geq bin_eqb bin_neb bin_eqs bin_nes step_un un_not un_neg step_len len_slice len_str len_const step_extract extractV nth step_convInt conv_int step_convStr step_slice step_idxAddr natOf_nat step_load step_index step_field step_fieldAddr step_build step_minmax
  step_alloc step_bslice bsliceV_some newV_some step_store step_append boolIs_b boolIs_t finQ_ret finQ_normal ressE_nil ressE_cons resE_tmp consO_some initE_nil initE_cons pos_0 pos_1 pos_2 pos_3 pos_4 pos_5 pos_6 pos_7 pos_8 plain_bool plain_int plain_str plain_ptr plain_slice plain_map plain_agg plain_func plain_nilFunc V.undef oneOf_one oneOf_two ble_self
open Go.Vabs.Pk Go.Vabs.Ph Go.Vabs.Sa Go.Vabs.Sb Go.Vabs.Sc Go.Vabs.Sd Go.Vabs.Se Go.Vabs.Sg Go.Vabs.Sh Go.Vabs.Sm Go.Vabs.Sn Go.Vabs.Sp Go.Vabs.Sr Go.Vabs.St Go.Vabs.Su Go.Vabs.L2 Go.Vabs.Na Go.Vabs.Nb
attribute [local simp] step_nilchk nilchk_ptr step_box cells_int cells_bool cells_str cells_slice cells_ptr cells_agg fieldAddrV natOf_zero fill repN splice over newV step_appendZ
/- FILES THAT GROW BESIDE EACH OTHER -/
/- A GLYPH'S DATA -/
/- A TABLE OF STRIKES -/
abbrev Stk := Nat × List (List Nat)
def fromK (ds : List (List Nat)) (k : Nat) : Nat := 4 + 4 * (ds.length + 1) + (ds.take k).flatten.length
def offsB (ds : List (List Nat)) (k : Nat) : List Nat := ((List.range k).map fun i => bigB (fromK ds i) 4).flatten
def strH (s : Stk) (k : Nat) : List Nat := bigB s.1 2 ++ [0, 72] ++ offsB s.2 k
def strB (s : Stk) : List Nat := strH s (s.2.length + 1) ++ s.2.flatten
def allB (l : List Stk) : List Nat := (l.map strB).flatten
/- A FONT OF ONE TABLE -/
end Go.Vabs.Ra
