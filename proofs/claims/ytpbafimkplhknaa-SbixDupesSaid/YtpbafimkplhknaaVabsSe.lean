/-
  A font whose tables stand anywhere: the walk.
-/
import Derived.Test.YtpbafimkplhknaaVabsSd
namespace Go.Vabs.Se
set_option linter.unusedVariables false
set_option linter.unusedSimpArgs false
set_option maxRecDepth 10000
attribute [local simp] wp_skip wp_ret wp_exit wp_reg wp_seq wp_cond wp_block thenQ_normal thenQ_ret thenQ_exit blockQ_normal blockQ_ret blockQ_exit wpCond_true wpCond_false wpOps_nil wpVal_some wpGuard_true wpGuard_false wpOps_guard wpOps_cons
  put_at put_no ev_c ev_slot posEq_h posEq_o posEq_i posEq_ho posEq_hi posEq_oh posEq_ih posEq_oi posEq_io sel_true sel_false
  okv_some step_mv step_call step_pick pickV_bool step_bin bin_add bin_sub bin_mul bin_eql bin_neq bin_lss bin_leq bin_gtr bin_geq bin_eqb bin_neb bin_eqs bin_nes step_un un_not un_neg step_len len_slice len_str len_const step_extract extractV nth step_convInt conv_int step_convStr step_slice step_idxAddr natOf_nat step_load step_index step_field step_fieldAddr step_build step_minmax
  step_alloc step_bslice bsliceV_some newV_some step_store step_append boolIs_b boolIs_t finQ_ret finQ_normal ressE_nil ressE_cons resE_tmp consO_some initE_nil initE_cons pos_0 pos_1 pos_2 pos_3 pos_4 pos_5 pos_6 pos_7 pos_8 plain_bool plain_int plain_str plain_ptr plain_slice plain_map plain_agg plain_func plain_nilFunc V.undef oneOf_one oneOf_two ble_self
open Go.Vabs.Pk Go.Vabs.Ph Go.Vabs.Sa Go.Vabs.Sb Go.Vabs.Sc Go.Vabs.Sd
attribute [local simp] step_nilchk nilchk_ptr cells_int cells_bool cells_str cells_slice cells_ptr cells_agg fieldAddrV natOf_zero fill splice over newV step_appendZ
  wp_dreg wpDs_nil wpDs_cons wantedE_none wantedE_some wpDGuard_true wpDGuard_lim wpDGuard_false wpDLim_true wpDVal_free wpDVal_lim back_limited next_limited limF_dir foot_load foot_convStr okAll_nil okAll_cons pastsOf nthP ahead few_next load_limited convStr_limited blt_dec okPair_dd okPair_dc okPair_cd okPair_cc anyIn_nil anyIn_same anyIn_cons meets_nil meets_nil'
def TableF (call : CallT) (g : Nat) : Prop := ∀ (os : List (Option AObj)) (F M c p k : Nat) (o1 o2 : Bool) (tv : V) (kvs : List (List Nat × V)) (t b : List Nat), (os[F]?).join = some (.cells o1 [tv, .map (some M)]) → (os[M]?).join = some (.map o2 (entsF 0 kvs) c) →
    kvs[k]? = some (t, .slice (some (p, 0)) 1 b.length b.length false) → (∀ j, j < k → ∀ kv, kvs[j]? = some kv → kv.1 ≠ t) → (os[p]?).join = some (newBytes b) → b.length ≤ 140737488354816 →
    call g [.ptr (some (F, 0)), .str t] (few os) = some (.tuple [(cloneR os b).1, .bool true], (cloneR os b).2)
theorem TableF.code {base : CallT} {g lf nC : Nat} (hC : CloneF base nC) : TableF (Vabs.withF base g lf (Table_c nC)) g := fun os F M c p k o1 o2 tv kvs t b h1 h2 h3 h4 h5 h6 => by rw [withF_same]; exact Table_at hC h1 h2 h3 h4 h5 h6
theorem TableF.withF {call : CallT} {n g lf : Nat} {fn : AFunc} (h : TableF call n) (hne : n ≠ g) : TableF (Vabs.withF call g lf fn) n := fun os F M c p k o1 o2 tv kvs t b h1 h2 h3 h4 h5 h6 => by rw [withF_other hne]; exact h os F M c p k o1 o2 tv kvs t b h1 h2 h3 h4 h5 h6
theorem TableF.other {call : CallT} {n g : Nat} {l : List V → St → Option (V × St)} (h : TableF call n) (hne : n ≠ g) : TableF (withL call g l) n := fun os F M c p k o1 o2 tv kvs t b h1 h2 h3 h4 h5 h6 => by rw [withL_other hne]; exact h os F M c p k o1 o2 tv kvs t b h1 h2 h3 h4 h5 h6
def TagsF (call : CallT) (g : Nat) : Prop := ∀ (os : List (Option AObj)) (F M q : Nat) (o1 : Bool) (ts : List (List Nat)), ts.length ≤ 64 → (os[F]?).join = some (.cells o1 [tagsV q ts.length, .map (some M)]) → (ts ≠ [] → (os[q]?).join = some (.cells true (strsV ts))) →
    ∃ v' l, call g [.ptr (some (F, 0))] (few os) = some (v', few (os ++ l)) ∧ lenOf v' = some ts.length ∧ strsAt (few (os ++ l)) v' ts
theorem TagsF.code {base base' : CallT} {g lf lf' nS : Nat} (hc : ∀ args st, base nS args st = enterF base' lf' args st CloneS_c) : TagsF (Vabs.withF base g lf (Tags_c nS)) g := fun os F M q o1 ts h1 h2 h3 => by
  obtain ⟨v', l, h⟩ := Tags_run (call := base) (lf := lf) h1 h2 h3 hc
  exact ⟨v', l, by rw [withF_same]; exact h⟩
theorem TagsF.withF {call : CallT} {n g lf : Nat} {fn : AFunc} (h : TagsF call n) (hne : n ≠ g) : TagsF (Vabs.withF call g lf fn) n := fun os F M q o1 ts h1 h2 h3 => by
  obtain ⟨v', l, h⟩ := h os F M q o1 ts h1 h2 h3
  exact ⟨v', l, by rw [withF_other hne]; exact h⟩
theorem TagsF.other {call : CallT} {n g : Nat} {l : List V → St → Option (V × St)} (h : TagsF call n) (hne : n ≠ g) : TagsF (withL call g l) n := fun os F M q o1 ts h1 h2 h3 => by
  obtain ⟨v', l, h⟩ := h os F M q o1 ts h1 h2 h3
  exact ⟨v', l, by rw [withL_other hne]; exact h⟩
theorem keep_app {os l : List (Option AObj)} {i : Nat} {o : AObj} (ho : (os[i]?).join = some o) : ((os ++ l)[i]?).join = some o := by rw [join_app (join_lt ho)]; exact ho
theorem goods_bytes {n : Nat} {bs : List Nat} : goods n (bytesV bs) = true := flats_good (List.all_eq_true.2 bytesV_flat)
/- through further functions -/
theorem UF_withF {z : Nat} {call : CallT} {n g lf : Nat} {fn : AFunc} (h : UF z call n) (hne : n ≠ g) : UF z (Vabs.withF call g lf fn) n := fun st v bs x a b => by rw [withF_other hne]; exact h st v bs x a b
theorem PartF_withF {call : CallT} {n g lf : Nat} {fn : AFunc} (h : PartF call n) (hne : n ≠ g) : PartF (Vabs.withF call g lf fn) n := fun st v bs x m a b => by rw [withF_other hne]; exact h st v bs x m a b
theorem OpenF_withF {call : CallT} {n g lf : Nat} {fn : AFunc} (h : OpenF call n) (hne : n ≠ g) : OpenF (Vabs.withF call g lf fn) n := fun os v bs a b c => by rw [withF_other hne]; exact h os v bs a b c
theorem VersF_code {base : CallT} {g lf lf' nC : Nat} (hlf : 4 ≤ lf') (hC : ContF lf' base nC) : VersF (Vabs.withF base g lf (versioned_c nC)) g := fun os v bs h1 h2 => ⟨_, by rw [withF_same]; exact vers_run hlf hC h1 h2⟩

end Go.Vabs.Se
