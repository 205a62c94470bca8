/- Lemmas for this claim, text Na. No condition. -/
import Derived.Test.YtcgiiomghmffbaaVabsSu
namespace Go.Vabs.Na
set_option linter.unusedVariables false
set_option linter.unusedSimpArgs false
set_option maxRecDepth 10000
def Font_c (n_RLay : Nat) : AFunc := AFunc.mk 14 (.seq (.reg [AOper.mk (some (.i (.o .h))) (.mv (.c (.slice none 0 0 0 true))) none]) (.seq (.reg [AOper.mk (some (.i (.i (.o .h)))) (.call n_RLay [.t .h, .t (.o .h)]) none, AOper.mk (some (.o (.o (.i .h)))) (.extract (.t (.i (.i (.o .h)))) 0) none, AOper.mk (some (.i (.o (.i .h)))) (.extract (.t (.i (.i (.o .h)))) 1) none, AOper.mk (some (.o (.i .h))) (.mv (.t (.o (.o (.i .h))))) none, AOper.mk (some (.i (.i .h))) (.mv (.t (.i (.o (.i .h))))) none]) (.seq (.reg [AOper.mk (some (.i (.o .h))) (.mv (.t (.o (.i .h)))) none]) .ret))) [.tmp (.i (.o .h))]
attribute [local simp] wp_skip wp_ret wp_exit wp_reg wp_seq wp_cond wp_block thenQ_normal thenQ_ret thenQ_exit blockQ_normal blockQ_ret blockQ_exit wpCond_true wpCond_false wpOps_nil wpVal_some wpGuard_true wpGuard_false wpOps_guard wpOps_cons
  put_at put_no ev_c ev_slot posEq_h posEq_o posEq_i posEq_ho posEq_hi posEq_oh posEq_ih posEq_oi posEq_io sel_true sel_false
  okv_some step_mv step_call step_pick pickV_bool step_bin bin_add bin_sub bin_mul bin_eql bin_neq bin_lss bin_leq bin_gtr bin_geq bin_eqb bin_neb bin_eqs bin_nes step_un un_not un_neg step_len len_slice len_str len_const step_extract extractV nth step_convInt conv_int step_convStr step_slice step_idxAddr natOf_nat step_load step_index step_field step_fieldAddr step_build step_minmax
  step_alloc step_bslice bsliceV_some newV_some step_store step_append boolIs_b boolIs_t finQ_ret finQ_normal ressE_nil ressE_cons resE_tmp consO_some initE_nil initE_cons pos_0 pos_1 pos_2 pos_3 pos_4 pos_5 pos_6 pos_7 pos_8 plain_bool plain_int plain_str plain_ptr plain_slice plain_map plain_agg plain_func plain_nilFunc V.undef oneOf_one oneOf_two ble_self
open Go.Vabs.Pk Go.Vabs.Ph Go.Vabs.Sa Go.Vabs.Sb Go.Vabs.Sc Go.Vabs.Sd Go.Vabs.Se Go.Vabs.Sg Go.Vabs.Sh Go.Vabs.Sm Go.Vabs.Sn Go.Vabs.Sp Go.Vabs.Sr Go.Vabs.St Go.Vabs.Su Go.Vabs.L2
attribute [local simp] step_nilchk nilchk_ptr step_box cells_int cells_bool cells_str cells_slice cells_ptr cells_agg fieldAddrV natOf_zero fill repN splice over newV step_appendZ
def askL (L : List Itm) (t : List Nat) : Option (List Nat) := (L.find? fun x => decide (x.1 = t)).map (·.2)
theorem ask_some {L : List Itm} {t b : List Nat} (h : askL L t = some b) : ∃ j : Nat, L[j]? = some (t, b) := by
  unfold askL at h
  obtain ⟨x, hx, rfl⟩ := Option.map_eq_some_iff.1 h
  have h1 := List.mem_of_find?_eq_some hx
  have h2 := List.find?_some hx
  simp only [decide_eq_true_eq] at h2
  obtain ⟨j, hj, he⟩ := List.mem_iff_getElem.1 h1
  exact ⟨j, by rw [List.getElem?_eq_getElem hj, he, ← h2]⟩
theorem ask_none {L : List Itm} {t : List Nat} (h : askL L t = none) : ¬ t ∈ L.map (·.1) := by
  unfold askL at h
  rw [Option.map_eq_none_iff, List.find?_eq_none] at h
  intro hm
  obtain ⟨x, hx, rfl⟩ := List.mem_map.1 hm
  exact h x hx (by simp)
structure Tame (L : List Itm) : Prop where
  nd : (L.map (·.1)).Nodup
  few : L.length ≤ 64
  tabs : ∀ x ∈ L, x.2.length ≤ 140737488354000 ∧ ∀ b ∈ x.2, b < 256
theorem Tame.ask {L : List Itm} (h : Tame L) {t b : List Nat} (ha : askL L t = some b) : b.length ≤ 140737488354000 ∧ ∀ x ∈ b, x < 256 := by
  obtain ⟨j, hj⟩ := ask_some ha
  exact h.tabs _ (List.mem_of_getElem? hj)
abbrev Met := Int × Int × Bool
def z3 : Met := (0, 0, false)
def nm (b : List Nat) (x : Int) (z : Nat) : Nat := (num b x z).getD 0
end Go.Vabs.Na
