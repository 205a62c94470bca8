/-
  A font whose tables stand anywhere: the walk.
-/
import Derived.Test.YtglopgoonbocpaaVabsSb
import Derived.Test.YtglopgoonbocpaaVabsLb
namespace Go.Vabs.Se
set_option linter.unusedVariables false
set_option linter.unusedSimpArgs false
set_option maxRecDepth 10000
attribute [local simp] wp_skip wp_ret wp_exit wp_reg wp_seq wp_cond wp_block thenQ_normal thenQ_ret thenQ_exit blockQ_normal blockQ_ret blockQ_exit wpCond_true wpCond_false wpOps_nil wpVal_some wpGuard_true wpGuard_false wpOps_guard wpOps_cons
  put_at put_no ev_c ev_slot posEq_h posEq_o posEq_i posEq_ho posEq_hi posEq_oh posEq_ih posEq_oi posEq_io sel_true sel_false
  okv_some step_mv step_call step_pick pickV_bool step_bin bin_add bin_sub bin_mul bin_eql bin_neq bin_lss bin_leq bin_gtr bin_geq bin_eqb bin_neb bin_eqs bin_nes step_un un_not un_neg step_len len_slice len_str len_const step_extract extractV nth step_convInt conv_int step_convStr step_slice step_idxAddr natOf_nat step_load step_index step_field step_fieldAddr step_build step_minmax
  step_alloc step_bslice bsliceV_some newV_some step_store step_append boolIs_b boolIs_t finQ_ret finQ_normal ressE_nil ressE_cons resE_tmp consO_some initE_nil initE_cons pos_0 pos_1 pos_2 pos_3 pos_4 pos_5 pos_6 pos_7 pos_8 plain_bool plain_int plain_str plain_ptr plain_slice plain_map plain_agg plain_func plain_nilFunc V.undef oneOf_one oneOf_two ble_self
open Go.Vabs.Pk Go.Vabs.Ph Go.Vabs.Sa Go.Vabs.Sb Go.Vabs.Sc Go.Vabs.Sd
attribute [local simp] step_nilchk nilchk_ptr cells_int cells_bool cells_str cells_slice cells_ptr cells_agg fieldAddrV natOf_zero fill splice over newV step_appendZ
  wp_dreg wpDs_nil wpDs_cons wantedE_none wantedE_some wpDGuard_true wpDGuard_lim wpDGuard_false wpDLim_true wpDVal_free wpDVal_lim back_limited next_limited limF_dir foot_load foot_convStr okAll_nil okAll_cons pastsOf nthP ahead few_next load_limited convStr_limited blt_dec okPair_dd okPair_dc okPair_cd okPair_cc anyIn_nil anyIn_same anyIn_cons meets_nil meets_nil'
def TableF (call : CallT) (g : Nat) : Prop := ∀ (os : List (Option AObj)) (F M c p k : Nat) (o1 o2 : Bool) (tv : V) (kvs : List (List Nat × V)) (t b : List Nat), (os[F]?).join = some (.cells o1 [tv, .map (some M)]) → (os[M]?).join = some (.map o2 (entsF 0 kvs) c) →
    kvs[k]? = some (t, .slice (some (p, 0)) 1 b.length b.length false) → (∀ j, j < k → ∀ kv, kvs[j]? = some kv → kv.1 ≠ t) → (os[p]?).join = some (newBytes b) → b.length ≤ 140737488354816 →
    call g [.ptr (some (F, 0)), .str t] (few os) = some (.tuple [(cloneR os b).1, .bool true], (cloneR os b).2)
theorem TableF.code {base : CallT} {g lf nC : Nat} (hC : CloneF base nC) : TableF (Vabs.withF base g lf (Table_c nC)) g := fun os F M c p k o1 o2 tv kvs t b h1 h2 h3 h4 h5 h6 => by rw [withF_same]; exact Table_at hC h1 h2 h3 h4 h5 h6
theorem TableF.withF {call : CallT} {n g lf : Nat} {fn : AFunc} (h : TableF call n) (hne : n ≠ g) : TableF (Vabs.withF call g lf fn) n := fun os F M c p k o1 o2 tv kvs t b h1 h2 h3 h4 h5 h6 => by rw [withF_other hne]; exact h os F M c p k o1 o2 tv kvs t b h1 h2 h3 h4 h5 h6
theorem TableF.other {call : CallT} {n g : Nat} {l : List V → St → Option (V × St)} (h : TableF call n) (hne : n ≠ g) : TableF (withL call g l) n := fun os F M c p k o1 o2 tv kvs t b h1 h2 h3 h4 h5 h6 => by rw [withL_other hne]; exact h os F M c p k o1 o2 tv kvs t b h1 h2 h3 h4 h5 h6
theorem keep_app {os l : List (Option AObj)} {i : Nat} {o : AObj} (ho : (os[i]?).join = some o) : ((os ++ l)[i]?).join = some o := by rw [join_app (join_lt ho)]; exact ho
/- through further functions -/
theorem VersF_code {base : CallT} {g lf lf' nC : Nat} (hlf : 4 ≤ lf') (hC : ContF lf' base nC) : VersF (Vabs.withF base g lf (versioned_c nC)) g := fun os v bs h1 h2 => ⟨_, by rw [withF_same]; exact vers_run hlf hC h1 h2⟩

end Go.Vabs.Se

namespace Go.Vabs.Sg
set_option linter.unusedVariables false
set_option linter.unusedSimpArgs false
set_option maxRecDepth 10000
attribute [local simp] wp_skip wp_ret wp_exit wp_reg wp_seq wp_cond wp_block thenQ_normal thenQ_ret thenQ_exit blockQ_normal blockQ_ret blockQ_exit wpCond_true wpCond_false wpOps_nil wpVal_some wpGuard_true wpGuard_false wpOps_guard wpOps_cons
  put_at put_no ev_c ev_slot posEq_h posEq_o posEq_i posEq_ho posEq_hi posEq_oh posEq_ih posEq_oi posEq_io sel_true sel_false
  okv_some step_mv step_call step_pick pickV_bool step_bin bin_add bin_sub bin_mul bin_eql bin_neq bin_lss bin_leq bin_gtr bin_geq bin_eqb bin_neb bin_eqs bin_nes step_un un_not un_neg step_len len_slice len_str len_const step_extract extractV nth step_convInt conv_int step_convStr step_slice step_idxAddr natOf_nat step_load step_index step_field step_fieldAddr step_build step_minmax
  step_alloc step_bslice bsliceV_some newV_some step_store step_append boolIs_b boolIs_t finQ_ret finQ_normal ressE_nil ressE_cons resE_tmp consO_some initE_nil initE_cons pos_0 pos_1 pos_2 pos_3 pos_4 pos_5 pos_6 pos_7 pos_8 plain_bool plain_int plain_str plain_ptr plain_slice plain_map plain_agg plain_func plain_nilFunc V.undef oneOf_one oneOf_two ble_self
open Go.Vabs.Pk Go.Vabs.Ph Go.Vabs.Sa Go.Vabs.Sb Go.Vabs.Sc
attribute [local simp] step_nilchk nilchk_ptr step_box cells_int cells_bool cells_str cells_slice cells_ptr cells_agg few_alloc lawOut_nil lawOut_one
  wp_dreg wpDs_nil wpDs_cons wantedE_none wantedE_some wpDGuard_true wpDGuard_lim wpDGuard_false wpDLim_true wpDVal_free wpDVal_lim back_limited next_limited limF_dir foot_load foot_store foot_bslice foot_append foot_convStr
  foot_box foot_call foot_alloc okAll_nil okAll_cons pastsOf nthP ahead alloc_dir backv back_back back_few next_back few_next load_limited convStr_limited okPair_dd okPair_dc okPair_cd okPair_cc anyIn_nil anyIn_same anyIn_cons meets_nil meets_nil' meets_cons mem_nil mem_cons nbeq_dec blt_dec ble_dec fieldAddrV natOf_zero
theorem len_bytes {st st' : St} {v : V} {bs : List Nat} (h : bytesAt st v = some bs) : lenV st' .slice v = some (.int .i64 (bs.length : Int)) := by
  by_cases hne : bs = []
  · subst hne
    unfold bytesAt at h
    split at h
    · rfl
    · rename_i i o n c f
      split at h
      · split at h
        · split at h
          · rename_i l hl
            have : n = 0 := by
              cases l with
              | nil =>
                cases n with
                | zero => rfl
                | succ n =>
                  exfalso
                  have key : ∀ (o : Nat) (cs : List V), cut o (n + 1) cs ≠ some [] := by
                    intro o
                    induction o with
                    | zero =>
                      intro cs hc
                      cases cs with
                      | nil => cases hc
                      | cons x cs =>
                        have hc : (match takeN n cs with | some r => some (x :: r) | none => none) = some [] := hc
                        split at hc <;> cases hc
                    | succ o ih =>
                      intro cs hc
                      cases cs with
                      | nil => cases hc
                      | cons x cs => exact ih cs hc
                  exact key _ _ hl
              | cons x l =>
                exfalso
                cases x with
                | int k z =>
                  have h := (bytesL_some h).1
                  cases h
                | _ => exact absurd (bytesL_some h).1 (by intro e; cases e)
            subst this; rfl
          · cases h
        · cases h
      · cases h
    · cases h
  · obtain ⟨i, o, c, f, own, cs, rfl, hnc, hg, hm, hcs⟩ := bytesAt_place h hne
    rfl
/- THE LAW OF THE REFERENCE's OPEN -/
end Go.Vabs.Sg
