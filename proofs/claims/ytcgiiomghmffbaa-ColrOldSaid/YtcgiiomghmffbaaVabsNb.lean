/- Lemmas for this claim, text Nb. No condition. -/
import Derived.Test.YtcgiiomghmffbaaVabsNa
namespace Go.Vabs.Nb
set_option linter.unusedVariables false
set_option linter.unusedSimpArgs false
set_option maxRecDepth 10000
attribute [local simp] wp_skip wp_ret wp_exit wp_reg wp_seq wp_cond wp_block thenQ_normal thenQ_ret thenQ_exit blockQ_normal blockQ_ret blockQ_exit wpCond_true wpCond_false wpOps_nil wpVal_some wpGuard_true wpGuard_false wpOps_guard wpOps_cons
  put_at put_no ev_c ev_slot posEq_h posEq_o posEq_i posEq_ho posEq_hi posEq_oh posEq_ih posEq_oi posEq_io sel_true sel_false
  okv_some step_mv step_call step_pick pickV_bool step_bin bin_add bin_sub bin_mul bin_eql bin_neq bin_lss bin_leq bin_gtr bin_geq bin_eqb bin_neb bin_eqs bin_nes step_un un_not un_neg step_len len_slice len_str len_const step_extract extractV nth step_convInt conv_int step_convStr step_slice step_idxAddr natOf_nat step_load step_index step_field step_fieldAddr step_build step_minmax
  step_alloc step_bslice bsliceV_some newV_some step_store step_append boolIs_b boolIs_t finQ_ret finQ_normal ressE_nil ressE_cons resE_tmp consO_some initE_nil initE_cons pos_0 pos_1 pos_2 pos_3 pos_4 pos_5 pos_6 pos_7 pos_8 plain_bool plain_int plain_str plain_ptr plain_slice plain_map plain_agg plain_func plain_nilFunc V.undef oneOf_one oneOf_two ble_self
open Go.Vabs.Pk Go.Vabs.Ph Go.Vabs.Sa Go.Vabs.Sb Go.Vabs.Sc Go.Vabs.Sd Go.Vabs.Se Go.Vabs.Sg Go.Vabs.Sh Go.Vabs.Sm Go.Vabs.Sn Go.Vabs.Sp Go.Vabs.Sr Go.Vabs.St Go.Vabs.Su Go.Vabs.L2 Go.Vabs.Na
attribute [local simp] step_nilchk nilchk_ptr step_box cells_int cells_bool cells_str cells_slice cells_ptr cells_agg fieldAddrV natOf_zero fill repN splice over newV step_appendZ
  wp_dreg wpDs_nil wpDs_cons wantedE_none wantedE_some wpDGuard_true wpDGuard_lim wpDGuard_false wpDLim_true wpDVal_free wpDVal_lim back_limited next_limited limF_dir foot_load foot_convStr okAll_nil okAll_cons pastsOf nthP ahead few_next load_limited convStr_limited blt_dec okPair_dd okPair_dc okPair_cd okPair_cc anyIn_nil anyIn_same anyIn_cons meets_nil meets_nil'
def FontF (call : CallT) (g : Nat) : Prop := ∀ os q r f1 f2 tags ts, (tags ≠ [] → ∃ own, (os[q]?).join = some (.cells own (strsV tags))) → RowsB os r ts → (∀ t ∈ tags, ∀ b ∈ t, b < 256) → (∀ t ∈ ts, ∀ b ∈ t, b < 256) → tags.length ≤ 1048576 → ts.length ≤ 4096 → ts.flatten.length ≤ 140737488352800 →
  ∃ u os', call g [slT f1 q tags.length, slT f2 r ts.length] (few os) = some (u, few os') ∧ (∀ i, i < os.length → (os'[i]?).join = (os[i]?).join) ∧ os.length ≤ os'.length ∧
    match layS tags ts with
    | some l => ∃ p, u = .slice (some (p, 0)) 1 l.length l.length false ∧ os.length ≤ p ∧ (os'[p]?).join = some (newBytes l)
    | none => u = .slice none 0 0 0 true
theorem FontF.code {base : CallT} {g lf nL : Nat} (hL : RLayF base nL) : FontF (Vabs.withF base g lf (Font_c nL)) g := fun os q r f1 f2 tags ts h1 h2 h3 h4 h5 h6 h7 => by
  rw [withF_same]
  obtain ⟨u, os', e, k1, k2, k3⟩ := hL os q r f1 f2 tags ts h1 h2 h3 h4 h5 h6 h7
  cases hl : layS tags ts with
  | none =>
    rw [hl] at k3
    dsimp only at k3
    subst k3
    refine ⟨.slice none 0 0 0 true, os', ?_, k1, k2, rfl⟩
    refine enter_eq ?_
    simp [e]
  | some l =>
    rw [hl] at k3
    obtain ⟨p, rfl, hp, hpb⟩ := k3
    refine ⟨.slice (some (p, 0)) 1 l.length l.length false, os', ?_, k1, k2, p, rfl, hp, hpb⟩
    refine enter_eq ?_
    simp [e]
theorem lenOfS {a : Option (Nat × Nat)} {e n c : Nat} {f : Bool} : lenOf (.slice a e n c f) = some n := rfl
end Go.Vabs.Nb
