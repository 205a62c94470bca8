/-
  A font whose tables stand anywhere: the walk.
-/
import Derived.Test.YtbbelipodinkjaaVabsSd
namespace Go.Vabs.Se
set_option linter.unusedVariables false
set_option linter.unusedSimpArgs false
set_option maxRecDepth 10000
def Anywhere_c (n_Big : Nat) (n_Pick : Nat) (n_Open : Nat) (n_known : Nat) (n_Tags : Nat) (n_Table : Nat) : AFunc := AFunc.mk 136 (.seq (.reg [AOper.mk (some (.i (.o .h))) (.mv (.c (.bool false))) none]) (.seq (.reg [AOper.mk (some (.i (.i (.o (.o .h))))) (.len .slice (.t (.o .h))) none, AOper.mk (some (.o (.o (.i (.o .h))))) (.bin .quo (.val .int) (.t (.i (.i (.o (.o .h))))) (.c (.int .i64 (.ofNat 2)))) none, AOper.mk (some (.i (.o (.i (.o .h))))) (.minmax false (.t (.o (.o (.i (.o .h))))) [.c (.int .i64 (.ofNat 8))]) none, AOper.mk (some (.o (.i .h))) (.mv (.t (.i (.o (.i (.o .h)))))) none]) (.seq (.reg [AOper.mk (some (.o (.i (.i (.o .h))))) (.bslice 1 4 [.int .u8 (.ofNat 0)] [(0, (1, .c (.int .u8 (.ofNat 0)))), (1, (1, .c (.int .u8 (.ofNat 1)))), (2, (1, .c (.int .u8 (.ofNat 0)))), (3, (1, .c (.int .u8 (.ofNat 0))))]) none, AOper.mk (some (.o (.o (.o (.i .h))))) (.call n_Big [.t (.o (.i .h)), .c (.int .i64 (.ofNat 2))]) none, AOper.mk (some (.i (.o (.o (.i .h))))) (.append 1 1 (.t (.o (.i (.i (.o .h))))) (.t (.o (.o (.o (.i .h)))))) none, AOper.mk (some (.i (.i .h))) (.mv (.t (.i (.o (.o (.i .h)))))) none]) (.seq (.reg [AOper.mk (some (.i (.i (.o (.i .h))))) (.appendZ 1 1 [.int .u8 (.ofNat 0)] (.t (.i (.i .h))) (.c (.int .i64 (.ofNat 6)))) none, AOper.mk (some (.i (.i .h))) (.mv (.t (.i (.i (.o (.i .h)))))) none]) (.seq (.reg [AOper.mk (some (.i (.o (.i (.i .h))))) (.bin .mul (.val .int) (.c (.int .i64 (.ofNat 16))) (.t (.o (.i .h)))) none, AOper.mk (some (.o (.i (.i (.i .h))))) (.bin .add (.val .int) (.c (.int .i64 (.ofNat 12))) (.t (.i (.o (.i (.i .h)))))) none, AOper.mk (some (.o (.o (.o .h)))) (.mv (.t (.o (.i (.i (.i .h)))))) none]) (.seq (.reg [AOper.mk (some (.i (.o (.o .h)))) (.mv (.c (.slice none 0 0 0 true))) none]) (.seq (.seq (.reg [AOper.mk (some (.o (.i (.o .h)))) (.mv (.c (.int .i64 (.ofNat 0)))) none]) (.block 0 (.loop (.seq (.seq (.reg [AOper.mk (some (.i (.o (.o (.o (.o .h)))))) (.bin .lss (.val .int) (.t (.o (.i (.o .h)))) (.t (.o (.i .h)))) none]) (.cond (.t (.i (.o (.o (.o (.o .h)))))) .skip (.exit 0))) (.seq (.block 1 (.seq (.reg [AOper.mk (some (.o (.i (.i (.o (.o .h)))))) (.bin .mul (.val .int) (.c (.int .i64 (.ofNat 2))) (.t (.o (.i (.o .h))))) none, AOper.mk (some (.i (.i (.i (.o (.o .h)))))) (.idxAddr (.slice 1) (.t (.o .h)) (.t (.o (.i (.i (.o (.o .h))))))) none, AOper.mk (some (.o (.o (.o (.i (.o .h)))))) (.load false 1 (.t (.i (.i (.i (.o (.o .h))))))) none, AOper.mk (some (.o (.i (.o (.i (.o .h)))))) (.len .slice (.t .h)) none, AOper.mk (some (.i (.i (.o (.i (.o .h)))))) (.bin .add (.val .int) (.t (.o (.i (.o (.i (.o .h)))))) (.c (.int .i64 (.ofNat 1)))) none, AOper.mk (some (.o (.o (.i (.i (.o .h)))))) (.call n_Pick [.t (.o (.o (.o (.i (.o .h))))), .t (.i (.i (.o (.i (.o .h)))))]) none, AOper.mk (some (.i (.i (.o .h)))) (.mv (.t (.o (.o (.i (.i (.o .h))))))) none]) (.seq (.reg [AOper.mk (some (.i (.i (.i (.i (.o .h)))))) (.bin .mul (.val .int) (.c (.int .i64 (.ofNat 2))) (.t (.o (.i (.o .h))))) none, AOper.mk (some (.o (.o (.o (.o (.i .h)))))) (.bin .add (.val .int) (.t (.i (.i (.i (.i (.o .h)))))) (.c (.int .i64 (.ofNat 1)))) none, AOper.mk (some (.i (.o (.o (.o (.i .h)))))) (.idxAddr (.slice 1) (.t (.o .h)) (.t (.o (.o (.o (.o (.i .h))))))) none, AOper.mk (some (.o (.i (.o (.o (.i .h)))))) (.load false 1 (.t (.i (.o (.o (.o (.i .h))))))) none, AOper.mk (some (.o (.o (.i (.o (.i .h)))))) (.len .slice (.t .h)) none, AOper.mk (some (.o (.i (.i (.o (.i .h)))))) (.bin .sub (.val .int) (.t (.o (.o (.i (.o (.i .h)))))) (.t (.i (.i (.o .h))))) none, AOper.mk (some (.i (.i (.i (.o (.i .h)))))) (.bin .add (.val .int) (.t (.o (.i (.i (.o (.i .h)))))) (.c (.int .i64 (.ofNat 1)))) none, AOper.mk (some (.o (.o (.o (.i (.i .h)))))) (.call n_Pick [.t (.o (.i (.o (.o (.i .h))))), .t (.i (.i (.i (.o (.i .h)))))]) none, AOper.mk (some (.o (.o (.i .h)))) (.mv (.t (.o (.o (.o (.i (.i .h))))))) none]) (.seq (.reg [AOper.mk (some (.o (.i (.o (.i (.i .h)))))) (.append 1 1 (.t (.i (.i .h))) (.c (.str [84, 65, 66]))) none, AOper.mk (some (.i (.i .h))) (.mv (.t (.o (.i (.o (.i (.i .h))))))) none]) (.seq (.reg [AOper.mk (some (.i (.o (.i (.i (.i .h)))))) (.bin .add (.val .int) (.c (.int .i64 (.ofNat 48))) (.t (.o (.i (.o .h))))) none, AOper.mk (some (.o (.i (.i (.i (.i .h)))))) (.conv (.int .u8) (.t (.i (.o (.i (.i (.i .h))))))) none, AOper.mk (some (.i (.i (.i (.i (.i .h)))))) (.bslice 1 5 [.int .u8 (.ofNat 0)] [(0, (1, .t (.o (.i (.i (.i (.i .h))))))), (1, (1, .c (.int .u8 (.ofNat 1)))), (2, (1, .c (.int .u8 (.ofNat 2)))), (3, (1, .c (.int .u8 (.ofNat 3)))), (4, (1, .c (.int .u8 (.ofNat 4))))]) none, AOper.mk (some (.o (.o (.o (.o (.o (.o .h))))))) (.append 1 1 (.t (.i (.i .h))) (.t (.i (.i (.i (.i (.i .h))))))) none, AOper.mk (some (.i (.i .h))) (.mv (.t (.o (.o (.o (.o (.o (.o .h)))))))) none]) (.seq (.reg [AOper.mk (some (.o (.o (.i (.o (.o (.o .h))))))) (.bin .add (.val .int) (.t (.o (.o (.o .h)))) (.t (.i (.i (.o .h))))) none, AOper.mk (some (.i (.o (.i (.o (.o (.o .h))))))) (.call n_Big [.t (.o (.o (.i (.o (.o (.o .h)))))), .c (.int .i64 (.ofNat 4))]) none, AOper.mk (some (.o (.i (.i (.o (.o (.o .h))))))) (.append 1 1 (.t (.i (.i .h))) (.t (.i (.o (.i (.o (.o (.o .h)))))))) none, AOper.mk (some (.i (.i .h))) (.mv (.t (.o (.i (.i (.o (.o (.o .h)))))))) none]) (.seq (.reg [AOper.mk (some (.i (.o (.o (.i (.o (.o .h))))))) (.call n_Big [.t (.o (.o (.i .h))), .c (.int .i64 (.ofNat 4))]) none, AOper.mk (some (.o (.i (.o (.i (.o (.o .h))))))) (.append 1 1 (.t (.i (.i .h))) (.t (.i (.o (.o (.i (.o (.o .h)))))))) none, AOper.mk (some (.i (.i .h))) (.mv (.t (.o (.i (.o (.i (.o (.o .h)))))))) none]) (.reg [AOper.mk (some (.o (.o (.o (.o (.i (.o .h))))))) (.bin .add (.val .int) (.t (.i (.i (.o .h)))) (.t (.o (.o (.i .h))))) none, AOper.mk (some (.i (.o (.o (.o (.i (.o .h))))))) (.slice (.slice 1) (.t .h) (some (.t (.i (.i (.o .h))))) (some (.t (.o (.o (.o (.o (.i (.o .h)))))))) none) none, AOper.mk (some (.o (.i (.o (.o (.i (.o .h))))))) (.conv .toStr (.t (.i (.o (.o (.o (.i (.o .h)))))))) none, AOper.mk (some (.i (.i (.o (.o (.i (.o .h))))))) (.bslice 1 1 [.str []] [(0, (1, .t (.o (.i (.o (.o (.i (.o .h))))))))]) none, AOper.mk (some (.o (.o (.i (.o (.i (.o .h))))))) (.append 1 16 (.t (.i (.o (.o .h)))) (.t (.i (.i (.o (.o (.i (.o .h)))))))) none, AOper.mk (some (.i (.o (.o .h)))) (.mv (.t (.o (.o (.i (.o (.i (.o .h)))))))) none])))))))) (.reg [AOper.mk (some (.i (.i (.o (.o (.o .h)))))) (.bin .add (.val .int) (.t (.o (.i (.o .h)))) (.c (.int .i64 (.ofNat 1)))) none, AOper.mk (some (.o (.i (.o .h)))) (.mv (.t (.i (.i (.o (.o (.o .h))))))) none])))))) (.seq (.reg [AOper.mk (some (.o (.o (.o (.i (.i (.o .h))))))) (.append 1 1 (.t (.i (.i .h))) (.t .h)) none, AOper.mk (some (.i (.o (.o (.i (.i (.o .h))))))) (.call n_Open [.t (.o (.o (.o (.i (.i (.o .h))))))]) none, AOper.mk (some (.o (.i (.o (.i (.i (.o .h))))))) (.extract (.t (.i (.o (.o (.i (.i (.o .h))))))) 0) none, AOper.mk (some (.i (.i (.o (.i (.i (.o .h))))))) (.extract (.t (.i (.o (.o (.i (.i (.o .h))))))) 1) none, AOper.mk (some (.i (.o (.i .h)))) (.mv (.t (.o (.i (.o (.i (.i (.o .h)))))))) none, AOper.mk (some (.o (.i (.i .h)))) (.mv (.t (.i (.i (.o (.i (.i (.o .h)))))))) none]) (.seq (.seq (.reg [AOper.mk (some (.o (.o (.i (.i (.i (.o .h))))))) (.call n_known []) none, AOper.mk (some (.i (.o (.i (.i (.i (.o .h))))))) (.un .not (.t (.o (.o (.i (.i (.i (.o .h)))))))) none, AOper.mk (some (.o (.i (.i (.i (.i (.o .h))))))) (.mv (.t (.i (.o (.i (.i (.i (.o .h)))))))) none, AOper.mk (some (.o (.o (.o (.o (.o (.i .h))))))) (.bin .neq (.val .int) (.t (.o (.i (.i .h)))) (.c (.int .i64 (.ofNat 0)))) (some (.o (.i (.i (.i (.i (.o .h))))), false)), AOper.mk (some (.i (.o (.o (.o (.o (.i .h))))))) (.pick (.t (.o (.i (.i (.i (.i (.o .h))))))) (.c (.bool true)) (.t (.o (.o (.o (.o (.o (.i .h)))))))) none, AOper.mk (some (.o (.i (.o (.o (.o (.i .h))))))) (.mv (.t (.i (.o (.o (.o (.o (.i .h)))))))) none, AOper.mk (some (.o (.o (.i (.o (.o (.i .h))))))) (.bin .eql (.nils .ptr) (.t (.i (.o (.i .h)))) (.c (.ptr none))) (some (.o (.i (.o (.o (.o (.i .h))))), false)), AOper.mk (some (.i (.o (.i (.o (.o (.i .h))))))) (.pick (.t (.o (.i (.o (.o (.o (.i .h))))))) (.c (.bool true)) (.t (.o (.o (.i (.o (.o (.i .h)))))))) none, AOper.mk (some (.o (.i (.i (.o (.o (.i .h))))))) (.mv (.t (.i (.o (.i (.o (.o (.i .h)))))))) none, AOper.mk (some (.o (.o (.o (.i (.o (.i .h))))))) (.call n_Tags [.t (.i (.o (.i .h)))]) (some (.o (.i (.i (.o (.o (.i .h))))), false)), AOper.mk (some (.i (.o (.o (.i (.o (.i .h))))))) (.len .slice (.t (.o (.o (.o (.i (.o (.i .h)))))))) (some (.o (.i (.i (.o (.o (.i .h))))), false)), AOper.mk (some (.i (.i (.o (.i (.o (.i .h))))))) (.bin .neq (.val .int) (.t (.i (.o (.o (.i (.o (.i .h))))))) (.t (.o (.i .h)))) (some (.o (.i (.i (.o (.o (.i .h))))), false)), AOper.mk (some (.o (.o (.i (.i (.o (.i .h))))))) (.pick (.t (.o (.i (.i (.o (.o (.i .h))))))) (.c (.bool true)) (.t (.i (.i (.o (.i (.o (.i .h)))))))) none]) (.cond (.t (.o (.o (.i (.i (.o (.i .h))))))) (.seq (.reg [AOper.mk (some (.i (.o .h))) (.mv (.c (.bool false))) none]) .ret) .skip)) (.seq (.seq (.reg [AOper.mk (some (.o (.i (.i (.i (.o (.i .h))))))) (.len .slice (.t (.i (.o (.o .h))))) none, AOper.mk (some (.i (.i (.i (.i (.o (.i .h))))))) (.mv (.c (.int .i64 (.ofNat 0)))) none]) (.block 2 (.loop (.seq (.reg [AOper.mk (some (.o (.o (.o (.o (.i (.i .h))))))) (.bin .lss (.val .int) (.t (.i (.i (.i (.i (.o (.i .h))))))) (.t (.o (.i (.i (.i (.o (.i .h)))))))) none]) (.seq (.cond (.t (.o (.o (.o (.o (.i (.i .h))))))) .skip (.exit 2)) (.seq (.block 3 (.seq (.reg [AOper.mk (some (.i (.i (.i .h)))) (.mv (.t (.i (.i (.i (.i (.o (.i .h)))))))) none]) (.seq (.reg [AOper.mk (some (.i (.o (.i (.o (.i (.i .h))))))) (.bin .add (.val .int) (.c (.int .i64 (.ofNat 48))) (.t (.i (.i (.i .h))))) none, AOper.mk (some (.o (.i (.i (.o (.i (.i .h))))))) (.conv (.int .u8) (.t (.i (.o (.i (.o (.i (.i .h)))))))) none, AOper.mk (some (.i (.i (.i (.o (.i (.i .h))))))) (.bslice 1 1 [.int .u8 (.ofNat 0)] [(0, (1, .t (.o (.i (.i (.o (.i (.i .h))))))))]) none, AOper.mk (some (.o (.o (.o (.i (.i (.i .h))))))) (.conv .toStr (.t (.i (.i (.i (.o (.i (.i .h)))))))) none, AOper.mk (some (.i (.o (.o (.i (.i (.i .h))))))) (.bin .add (.val .str) (.c (.str [84, 65, 66])) (.t (.o (.o (.o (.i (.i (.i .h)))))))) none, AOper.mk (some (.o (.i (.o (.i (.i (.i .h))))))) (.call n_Table [.t (.i (.o (.i .h))), .t (.i (.o (.o (.i (.i (.i .h))))))]) none, AOper.mk (some (.i (.i (.o (.i (.i (.i .h))))))) (.extract (.t (.o (.i (.o (.i (.i (.i .h))))))) 0) none, AOper.mk (some (.o (.o (.i (.i (.i (.i .h))))))) (.extract (.t (.o (.i (.o (.i (.i (.i .h))))))) 1) none, AOper.mk (some (.o (.o (.o (.o .h))))) (.mv (.t (.i (.i (.o (.i (.i (.i .h)))))))) none, AOper.mk (some (.i (.o (.o (.o .h))))) (.mv (.t (.o (.o (.i (.i (.i (.i .h)))))))) none]) (.seq (.dreg [(AOper.mk (some (.i (.o (.i (.i (.i (.i .h))))))) (.mv (.t (.i (.o (.o (.o .h)))))) none, []), (AOper.mk (some (.o (.i (.i (.i (.i (.i .h))))))) (.un .not (.t (.i (.o (.i (.i (.i (.i .h)))))))) none, []), (AOper.mk (some (.i (.i (.i (.i (.i (.i .h))))))) (.mv (.t (.o (.i (.i (.i (.i (.i .h)))))))) none, []), (AOper.mk (some (.o (.o (.o (.o (.o (.o (.o .h)))))))) (.mv (.t (.o (.o (.o (.o .h)))))) (some (.i (.i (.i (.i (.i (.i .h))))), false)), []), (AOper.mk (some (.i (.o (.o (.o (.o (.o (.o .h)))))))) (.conv .toStr (.t (.o (.o (.o (.o (.o (.o (.o .h))))))))) (some (.i (.i (.i (.i (.i (.i .h))))), false)), [8]), (AOper.mk (some (.o (.i (.o (.o (.o (.o (.o .h)))))))) (.mv (.t (.i (.o (.o .h))))) (some (.i (.i (.i (.i (.i (.i .h))))), false)), []), (AOper.mk (some (.i (.i (.o (.o (.o (.o (.o .h)))))))) (.mv (.t (.i (.i (.i .h))))) (some (.i (.i (.i (.i (.i (.i .h))))), false)), []), (AOper.mk (some (.o (.o (.i (.o (.o (.o (.o .h)))))))) (.idxAddr (.slice 1) (.t (.o (.i (.o (.o (.o (.o (.o .h)))))))) (.t (.i (.i (.o (.o (.o (.o (.o .h))))))))) (some (.i (.i (.i (.i (.i (.i .h))))), false)), []), (AOper.mk (some (.i (.o (.i (.o (.o (.o (.o .h)))))))) (.load false 1 (.t (.o (.o (.i (.o (.o (.o (.o .h))))))))) (some (.i (.i (.i (.i (.i (.i .h))))), false)), [4]), (AOper.mk (some (.o (.i (.i (.o (.o (.o (.o .h)))))))) (.bin .neq (.val .str) (.t (.i (.o (.o (.o (.o (.o (.o .h)))))))) (.t (.i (.o (.i (.o (.o (.o (.o .h))))))))) (some (.i (.i (.i (.i (.i (.i .h))))), false)), []), (AOper.mk (some (.i (.i (.i (.o (.o (.o (.o .h)))))))) (.pick (.t (.i (.i (.i (.i (.i (.i .h))))))) (.c (.bool true)) (.t (.o (.i (.i (.o (.o (.o (.o .h))))))))) none, [])]) (.cond (.t (.i (.i (.i (.o (.o (.o (.o .h)))))))) (.seq (.reg [AOper.mk (some (.i (.o .h))) (.mv (.c (.bool false))) none]) .ret) .skip))))) (.reg [AOper.mk (some (.o (.o (.o (.i (.o (.o (.o .h)))))))) (.bin .add (.val .int) (.t (.i (.i (.i (.i (.o (.i .h))))))) (.c (.int .i64 (.ofNat 1)))) none, AOper.mk (some (.i (.i (.i (.i (.o (.i .h))))))) (.mv (.t (.o (.o (.o (.i (.o (.o (.o .h))))))))) none]))))))) (.seq (.reg [AOper.mk (some (.i (.o .h))) (.mv (.c (.bool true))) none]) .ret))))))))))) [.tmp (.i (.o .h))]
attribute [local simp] wp_skip wp_ret wp_exit wp_reg wp_seq wp_cond wp_block thenQ_normal thenQ_ret thenQ_exit blockQ_normal blockQ_ret blockQ_exit wpCond_true wpCond_false wpOps_nil wpVal_some wpGuard_true wpGuard_false wpOps_guard wpOps_cons
  put_at put_no ev_c ev_slot posEq_h posEq_o posEq_i posEq_ho posEq_hi posEq_oh posEq_ih posEq_oi posEq_io sel_true sel_false
  okv_some step_mv step_call step_pick pickV_bool step_bin bin_add bin_sub bin_mul bin_eql bin_neq bin_lss bin_leq bin_gtr bin_geq bin_eqb bin_neb bin_eqs bin_nes step_un un_not un_neg step_len len_slice len_str len_const step_extract extractV nth step_convInt conv_int step_convStr step_slice step_idxAddr natOf_nat step_load step_index step_field step_fieldAddr step_build step_minmax
  step_alloc step_bslice bsliceV_some newV_some step_store step_append boolIs_b boolIs_t finQ_ret finQ_normal ressE_nil ressE_cons resE_tmp consO_some initE_nil initE_cons pos_0 pos_1 pos_2 pos_3 pos_4 pos_5 pos_6 pos_7 pos_8 plain_bool plain_int plain_str plain_ptr plain_slice plain_map plain_agg plain_func plain_nilFunc V.undef oneOf_one oneOf_two ble_self
open Go.Vabs.Pk Go.Vabs.Ph Go.Vabs.Sa Go.Vabs.Sb Go.Vabs.Sc Go.Vabs.Sd
attribute [local simp] step_nilchk nilchk_ptr cells_int cells_bool cells_str cells_slice cells_ptr cells_agg fieldAddrV natOf_zero fill splice over newV step_appendZ
  wp_dreg wpDs_nil wpDs_cons wantedE_none wantedE_some wpDGuard_true wpDGuard_lim wpDGuard_false wpDLim_true wpDVal_free wpDVal_lim back_limited next_limited limF_dir foot_load foot_convStr okAll_nil okAll_cons pastsOf nthP ahead few_next load_limited convStr_limited blt_dec okPair_dd okPair_dc okPair_cd okPair_cc anyIn_nil anyIn_same anyIn_cons meets_nil meets_nil'
def TableF (call : CallT) (g : Nat) : Prop := ∀ (os : List (Option AObj)) (F M c p k : Nat) (o1 o2 : Bool) (tv : V) (kvs : List (List Nat × V)) (t b : List Nat), (os[F]?).join = some (.cells o1 [tv, .map (some M)]) → (os[M]?).join = some (.map o2 (entsF 0 kvs) c) →
    kvs[k]? = some (t, .slice (some (p, 0)) 1 b.length b.length false) → (∀ j, j < k → ∀ kv, kvs[j]? = some kv → kv.1 ≠ t) → (os[p]?).join = some (newBytes b) → b.length ≤ 140737488354816 →
    call g [.ptr (some (F, 0)), .str t] (few os) = some (.tuple [(cloneR os b).1, .bool true], (cloneR os b).2)
theorem TableF.code {base : CallT} {g lf nC : Nat} (hC : CloneF base nC) : TableF (Vabs.withF base g lf (Table_c nC)) g := fun os F M c p k o1 o2 tv kvs t b h1 h2 h3 h4 h5 h6 => by rw [withF_same]; exact Table_at hC h1 h2 h3 h4 h5 h6
theorem TableF.withF {call : CallT} {n g lf : Nat} {fn : AFunc} (h : TableF call n) (hne : n ≠ g) : TableF (Vabs.withF call g lf fn) n := fun os F M c p k o1 o2 tv kvs t b h1 h2 h3 h4 h5 h6 => by rw [withF_other hne]; exact h os F M c p k o1 o2 tv kvs t b h1 h2 h3 h4 h5 h6
theorem TableF.other {call : CallT} {n g : Nat} {l : List V → St → Option (V × St)} (h : TableF call n) (hne : n ≠ g) : TableF (withL call g l) n := fun os F M c p k o1 o2 tv kvs t b h1 h2 h3 h4 h5 h6 => by rw [withL_other hne]; exact h os F M c p k o1 o2 tv kvs t b h1 h2 h3 h4 h5 h6
def TagsF (call : CallT) (g : Nat) : Prop := ∀ (os : List (Option AObj)) (F M q : Nat) (o1 : Bool) (ts : List (List Nat)), ts.length ≤ 64 → (os[F]?).join = some (.cells o1 [tagsV q ts.length, .map (some M)]) → (ts ≠ [] → (os[q]?).join = some (.cells true (strsV ts))) →
    ∃ v' l, call g [.ptr (some (F, 0))] (few os) = some (v', few (os ++ l)) ∧ lenOf v' = some ts.length ∧ strsAt (few (os ++ l)) v' ts
theorem TagsF.code {base base' : CallT} {g lf lf' nS : Nat} (hc : ∀ args st, base nS args st = enterF base' lf' args st CloneS_c) : TagsF (Vabs.withF base g lf (Tags_c nS)) g := fun os F M q o1 ts h1 h2 h3 => by
  obtain ⟨v', l, h⟩ := Tags_run (call := base) (lf := lf) h1 h2 h3 hc
  exact ⟨v', l, by rw [withF_same]; exact h⟩
theorem TagsF.withF {call : CallT} {n g lf : Nat} {fn : AFunc} (h : TagsF call n) (hne : n ≠ g) : TagsF (Vabs.withF call g lf fn) n := fun os F M q o1 ts h1 h2 h3 => by
  obtain ⟨v', l, h⟩ := h os F M q o1 ts h1 h2 h3
  exact ⟨v', l, by rw [withF_other hne]; exact h⟩
theorem TagsF.other {call : CallT} {n g : Nat} {l : List V → St → Option (V × St)} (h : TagsF call n) (hne : n ≠ g) : TagsF (withL call g l) n := fun os F M q o1 ts h1 h2 h3 => by
  obtain ⟨v', l, h⟩ := h os F M q o1 ts h1 h2 h3
  exact ⟨v', l, by rw [withL_other hne]; exact h⟩
theorem grown_keep {os os' : List (Option AObj)} {p p' i : Nat} {bs : List Nat} {o : AObj} (h : Grown os os' p p' bs) (ho : (os[i]?).join = some o) (hi : i ≠ p) : (os'[i]?).join = some o := by rw [h.old i (join_lt ho) hi]; exact ho
theorem keep_app {os l : List (Option AObj)} {i : Nat} {o : AObj} (ho : (os[i]?).join = some o) : ((os ++ l)[i]?).join = some o := by rw [join_app (join_lt ho)]; exact ho
/-- Where a table is laid, how long it is. -/
def place (len : Nat) (zs : List Int) (i : Nat) : Nat × Nat :=
  ((pickI (zs.getD (2 * i) 0) ((len : Int) + 1)).toNat, (pickI (zs.getD (2 * i + 1) 0) ((len : Int) - ((pickI (zs.getD (2 * i) 0) ((len : Int) + 1)).toNat : Int) + 1)).toNat)
theorem place_le {len : Nat} {zs : List Int} {i : Nat} : (place len zs i).1 + (place len zs i).2 ≤ len := by
  have h1 := pickI_lt (n := zs.getD (2 * i) 0) (m := (len : Int) + 1) (by omega)
  have h2 := pickI_lt (n := zs.getD (2 * i + 1) 0) (m := (len : Int) - ((pickI (zs.getD (2 * i) 0) ((len : Int) + 1)).toNat : Int) + 1) (by omega)
  unfold place
  dsimp only
  omega
/-- The memory ahead of a round: the parameters stand; the file so far, what is wanted so far. -/
structure Ahead (os : List (Option AObj)) (ob ol : Option AObj) (p q : Nat) (B : List Nat) (W : List (List Nat)) : Prop where
  body : (os[0]?).join = ob
  nums : (os[1]?).join = ol
  two : 2 ≤ os.length
  file : (os[p]?).join = some (newBytes B)
  want : W ≠ [] → (os[q]?).join = some (.cells true (strsV W))
  lo : 2 ≤ p ∧ 2 ≤ q ∧ q ≠ p
theorem first_own' {os : List (Option AObj)} {p c : Nat} {f own : Bool} {bs : List Nat} (hp : (os[p]?).join = some (.cells own (bytesV bs))) : firstN (few os) 1 bs.length (.slice (some (p, 0)) 1 bs.length c f) = some (bytesV bs) := by
  show sel (Nat.beq 1 1 && Nat.ble bs.length bs.length) ((few os).loadN p 0 (bs.length * 1)) none = _
  rw [loadN_few hp (by rw [bytesV_len]; omega), ble_t (Nat.le_refl _), List.drop_zero, Nat.mul_one, ← bytesV_len, List.take_length]
  rfl
theorem cloneR_few {os : List (Option AObj)} {b : List Nat} (hb : ∀ x ∈ b, x < 256) : ∃ cv lc, cloneR os b = (cv, few (os ++ lc)) ∧ convV (few (os ++ lc)) .toStr cv = some (.str b) := by
  have conv : ∀ (X : List (Option AObj)) (k c : Nat) (f : Bool), (X[k]?).join = some (newBytes b) → convV (few X) .toStr (.slice (some (k, 0)) 1 b.length c f) = some (.str b) := by
    intro X k c f h
    have := str_part (c := c) (f := f) (m := b.length) (n := b.length) (o := 0) h (by rw [bytesV_len]; omega) (by rw [List.drop_zero, List.take_of_length_le (by rw [bytesV_len]; exact Nat.le_refl _)]) hb 0 (by omega)
    rw [List.drop_zero, List.take_length] at this
    exact this
  unfold cloneR
  split
  · rename_i e
    subst e
    exact ⟨_, _, rfl, conv _ _ _ _ (by simp)⟩
  · exact ⟨_, _, rfl, conv _ _ _ _ (by simp)⟩
theorem bin_adds {eq : EqKind} {a b : List Nat} (h : a.length + b.length < 9223372036854775808) : binV .add eq (.str a) (.str b) = some (.str (a ++ b)) := by
  show strOp .add a b = _
  unfold strOp
  rw [show Nat.blt (a.length + b.length) w63 = true from blt_t h]
  rfl
theorem goods_bytes {n : Nat} {bs : List Nat} : goods n (bytesV bs) = true := flats_good (List.all_eq_true.2 bytesV_flat)
theorem Anywhere_run {call : CallT} {lf nBig nPick nOpen nKnown nTags nTable : Nat} (hlf : 20 ≤ lf) (hBig : BigF call nBig) (hPick : PickF call nPick) (hOpen : OpenF call nOpen) (hKnown : ∀ st, call nKnown [] st = some (.bool true, st)) (hTags : TagsF call nTags) (hTable : TableF call nTable)
    {nil nil' : Bool} {bd : List Nat} {zs : List Int} (hnil : nil = true → bd = []) (hnil' : nil' = true → zs = []) (hb : ∀ b ∈ bd, b < 256) (hz : ∀ z ∈ zs, -9223372036854775808 ≤ z ∧ z < 9223372036854775808) (hl : bd.length ≤ 1048576) (hl' : zs.length ≤ 1048576) :
    ∃ s1, enterF call lf [slAt nil 0 bd.length, slAt nil' 1 zs.length] (few [objOf nil (bytesV bd), objOf nil' (intsV .i64 zs)]) (Anywhere_c nBig nPick nOpen nKnown nTags nTable) = some (.bool true, s1) := by
  refine enter_ex ?_
  obtain ⟨n, hn⟩ : ∃ n, n = min (zs.length / 2) 8 := ⟨_, rfl⟩
  have hn8 : n ≤ 8 := by omega
  have hquo : binV .quo (.val .int) (.int .i64 (zs.length : Int)) (.int .i64 2) = some (.int .i64 ((zs.length / 2 : Nat) : Int)) := by
    rw [bin_quo (by decide)]
    have : Int.tdiv (zs.length : Int) 2 = ((zs.length / 2 : Nat) : Int) := by
      rw [show (2 : Int) = ((2 : Nat) : Int) from rfl, Int.ofNat_tdiv]
    rw [this, wrap_i (by omega) (by omega)]
  obtain ⟨h, hh⟩ : ∃ h, h = zs.length / 2 := ⟨_, rfl⟩
  rw [← hh] at hquo hn
  have hmin : mmAll false (.int .i64 (h : Int)) [.int .i64 8] = some (.int .i64 (n : Int)) := by
    rcases Nat.lt_or_ge h 8 with h8 | h8
    · rw [hn, Nat.min_eq_left (by omega)]
      simp (disch := omega) [mmAll, mm2, ltI_eq, dlt_f, sel_true, sel_false]
    · rw [hn, Nat.min_eq_right h8]
      simp (disch := omega) [mmAll, mm2, ltI_eq, sel_true, sel_false]
      by_cases e : (8 : Int) < h
      · simp [e, sel_true]
      · have : (h : Int) = 8 := by omega
        simp [this, sel_false]
  obtain ⟨os0, hos0⟩ : ∃ os0, os0 = [objOf nil (bytesV bd), objOf nil' (intsV .i64 zs)] := ⟨_, rfl⟩
  rw [← hos0]
  have ho0 : os0.length = 2 := by rw [hos0]; rfl
  have ob0 : (os0[0]?).join = objOf nil (bytesV bd) := by rw [hos0]; rfl
  have ob1 : (os0[1]?).join = objOf nil' (intsV .i64 zs) := by rw [hos0]; rfl
  obtain ⟨A1, hA1⟩ : ∃ A1, A1 = os0 ++ [some (newBytes [0, 1, 0, 0])] := ⟨_, rfl⟩
  have al1 : (few os0).alloc (.cells true [.int .u8 0, .int .u8 1, .int .u8 0, .int .u8 0]) = some (2, few A1) := by rw [hA1, ← ho0]; exact few_alloc os0 _
  have hA1l : A1.length = 3 := by rw [hA1]; simp [ho0]
  obtain ⟨A2, hA2⟩ : ∃ A2, A2 = A1 ++ [some (newBytes (bigB n 2))] := ⟨_, rfl⟩
  have hA2l : A2.length = 4 := by rw [hA2]; simp [hA1l]
  have big1 : call nBig [.int .i64 (n : Int), .int .i64 2] (few A1) = some (.slice (some (3, 0)) 1 2 2 false, few A2) := by rw [hA2, ← hA1l]; exact hBig A1 n 2 (by omega) (by omega)
  have at2 : (A2[2]?).join = some (newBytes [0, 1, 0, 0]) := by rw [hA2, hA1]; exact keep_app (by rw [← ho0]; simp)
  have at3 : (A2[3]?).join = some (newBytes (bigB n 2)) := by rw [hA2, ← hA1l]; simp
  have fi1 : firstN (few A2) 1 2 (.slice (some (3, 0)) 1 2 2 false) = some (bytesV (bigB n 2)) := first_own (bs := bigB n 2) at3
  obtain ⟨A3, hA3⟩ : ∃ A3, A3 = A2 ++ [some (newBytes ([0, 1, 0, 0] ++ bigB n 2))] := ⟨_, rfl⟩
  have hA3l : A3.length = 5 := by rw [hA3]; simp [hA2l]
  have gr1 : appendV (few A2) 1 1 (.slice (some (2, 0)) 1 4 4 true) (some 2) (some (bytesV (bigB n 2))) = some (.slice (some (4, 0)) 1 6 6 false, few A3) := by
    have := grow_fix (n := 4) (c := 4) (m := 1) (new := bytesV (bigB n 2)) at2 rfl (by rw [bytesV_len, bigB_len]) (by omega)
    rw [hA2l] at this
    rw [hA3]
    exact this.trans (by simp [newBytes, bytesV])
  have at4 : (A3[4]?).join = some (newBytes ([0, 1, 0, 0] ++ bigB n 2)) := by rw [hA3, ← hA2l]; simp
  obtain ⟨p0, A4, gr2, hG4⟩ := growB (nb := [0, 0, 0, 0, 0, 0]) at4 (by simp [bigB_len])
  have gr2 : appendV (few A3) 1 1 (.slice (some (4, 0)) 1 6 6 false) (some 6) (some [.int .u8 0, .int .u8 0, .int .u8 0, .int .u8 0, .int .u8 0, .int .u8 0]) = some (.slice (some (p0, 0)) 1 12 12 false, few A4) := gr2
  have old4 : ∀ i, i < 2 → (A4[i]?).join = (os0[i]?).join := by
    intro i hi
    rw [hG4.old i (by omega) (by omega), hA3, join_app (by omega), hA2, join_app (by omega), hA1, join_app (by omega)]
  have hp0 : 4 ≤ p0 := by rcases hG4.new with h | h <;> omega
  have hnat6 : natOf (V.int .i64 6) = some 6 := rfl
  simp (disch := omega) [slAt, hquo, hmin, hnat6, repN, al1, big1, lenOf, firstNo, fi1, gr1, gr2, wrap_i]
  obtain ⟨f, hf⟩ : ∃ f, f = place bd.length zs := ⟨_, rfl⟩
  refine wp_loop (fun k s st => ∃ i os p q, i + k = n ∧ st = few os ∧ Ahead os (objOf nil (bytesV bd)) (objOf nil' (intsV .i64 zs)) p q (headB n ++ recsB (12 + 16 * n) f i) ((List.range i).map (wantB f bd)) ∧
    s .h = .slice (if nil = true then none else some (0, 0)) 1 bd.length bd.length false ∧ s (.o .h) = .slice (if nil' = true then none else some (1, 0)) 1 zs.length zs.length false ∧ s (.o (.i .h)) = .int .i64 (n : Int) ∧
    s (.i (.i .h)) = .slice (some (p, 0)) 1 (12 + 16 * i) (12 + 16 * i) false ∧ s (.o (.o (.o .h))) = .int .i64 (12 + 16 * (n : Int)) ∧ s (.i (.o (.o .h))) = tagsV q i ∧ s (.o (.i (.o .h))) = .int .i64 (i : Int)) n ?_ (by omega) ?_
  · refine ⟨0, A4, p0, 2, by omega, rfl, ⟨?_, ?_, ?_, ?_, ?_, ?_⟩, ?_, ?_, ?_, ?_, ?_, ?_, ?_⟩
    · rw [old4 0 (by omega)]; exact ob0
    · rw [old4 1 (by omega)]; exact ob1
    · have := hG4.len; omega
    · have := hG4.at'; simpa [headB, recsB] using this
    · intro h; exact absurd rfl h
    · exact ⟨by omega, by omega, by omega⟩
    all_goals simp [tagsV]
  · rintro k s st ⟨i, os, p, q, hk, rfl, hA, s1, s2, s3, s4, s5, s6, s7⟩
    cases k with
    | zero =>
      have hin : i = n := by omega
      subst hin
      obtain ⟨B, hB⟩ : ∃ B, B = headB i ++ recsB (12 + 16 * i) f i := ⟨_, rfl⟩
      have hBl : B.length = 12 + 16 * i := by rw [hB, List.length_append, headB_len, recsB_len]
      have hfile := hA.file
      rw [← hB] at hfile
      obtain ⟨pe, osE, ge, GE⟩ := growB (nb := bd) hfile (by omega)
      rw [hBl] at ge
      have fie : firstN (few os) 1 bd.length (.slice (if nil = true then none else some (0, 0)) 1 bd.length bd.length false) = some (bytesV bd) := by
        cases nil with
        | true => rw [hnil rfl]; rfl
        | false => exact first_own' hA.body
      have hFB : B ++ bd = fileB i f bd := by rw [hB, List.append_assoc]; rfl
      have hat := GE.at'
      rw [hFB] at hat
      have hflen := file_len (n := i) (f := f) (bd := bd)
      have hlt := file_lt (n := i) (f := f) (bd := bd) (by omega) hb
      have hfle : ∀ j, j < i → (f j).1 + (f j).2 ≤ bd.length := fun j _ => by rw [hf]; exact place_le
      have hfont := font_file (n := i) (f := f) (bd := bd) (by omega) (by omega) hfle
      have hpe := join_lt hat
      have hlook : lookB (few osE).look (.slice (some (pe, 0)) 1 (12 + 16 * i + bd.length) (12 + 16 * i + bd.length) false) = some (fileB i f bd) := by
        refine lookB_of (own := true) (cs := bytesV (fileB i f bd)) hpe (by rw [few_get]; exact hat) goods_bytes (Nat.le_refl _) (by rw [bytesV_len, hflen]; omega) ?_ hlt
        rw [List.drop_zero, List.take_of_length_le (by rw [bytesV_len, hflen]; exact Nat.le_refl _)]
      have hop := hOpen osE (.slice (some (pe, 0)) 1 (12 + 16 * i + bd.length) (12 + 16 * i + bd.length) false) (fileB i f bd) (by simp [V.good]; exact hpe) hlook (by rw [hflen]; omega)
      obtain ⟨L, hL⟩ : ∃ L, L = outL f bd i := ⟨_, rfl⟩
      have hLl : L.length = i := by rw [hL, outL_len]
      rw [show openA osE.length (fileB i f bd) = (fontObjs osE.length L, fun k => .tuple [.ptr (some (k, 0)), .int .i64 0]) from by unfold openA; rw [hfont, hL]] at hop
      obtain ⟨N, hN⟩ : ∃ N, N = osE.length := ⟨_, rfl⟩
      obtain ⟨osF, hF⟩ : ∃ osF, osF = osE ++ (fontObjs osE.length L).map some := ⟨_, rfl⟩
      have hop : call nOpen [.slice (some (pe, 0)) 1 (12 + 16 * i + bd.length) (12 + 16 * i + bd.length) false] (few osE) = some (.tuple [.ptr (some (N, 0)), .int .i64 0], few osF) := by rw [hop, hF, hN]
      rw [← hN] at hF
      have atF : ∀ j o, (fontObjs N L)[j]? = some o → (osF[N + j]?).join = some o := by
        intro j o hj
        rw [hF, List.getElem?_append_right (by omega), hN, Nat.add_sub_cancel_left, ← hN, List.getElem?_map, hj]
        rfl
      have f0 : (osF[N]?).join = some (.cells true [tagsV (N + 2 + i) i, .map (some (N + 1))]) := by
        have := atF 0 _ rfl
        rw [hLl] at this
        exact this
      have f1 : (osF[N + 1]?).join = some (.map true (entsF 0 (kvsOf L (idsOf' (N + 2) i))) i) := by
        have := atF 1 _ rfl
        rw [hLl] at this
        exact this
      have ft : ∀ j, j < i → (osF[N + 2 + j]?).join = some (newBytes (wantB f bd j)) := by
        intro j hj
        have := atF (2 + j) (newBytes (wantB f bd j)) (by
          unfold fontObjs
          rw [List.getElem?_append_right (by simp), List.getElem?_append_left (by simp [hLl]; omega)]
          simp [hL, outL, hj])
        rw [show N + 2 + j = N + (2 + j) from by omega]
        exact this
      have fq : L.map (·.1) ≠ [] → (osF[N + 2 + i]?).join = some (.cells true (strsV (L.map (·.1)))) := by
        intro hne
        have hL0 : L ≠ [] := fun e => hne (by rw [e]; rfl)
        have := atF (2 + i) (.cells true (strsV (L.map (·.1)))) (by
          unfold fontObjs
          rw [if_neg hL0, List.getElem?_append_right (by simp), List.getElem?_append_right (by simp [hLl])]
          simp [hLl])
        rw [show N + 2 + i = N + (2 + i) from by omega]
        exact this
      have hLt : (L.map (·.1)).length = i := by rw [List.length_map, hLl]
      obtain ⟨v', l, htg, hlen', hst'⟩ := hTags osF N (N + 1) (N + 2 + i) true (L.map (·.1)) (by omega) (by rw [hLt]; exact f0) fq
      rw [hLt] at hlen'
      have hlv : lenV (few (osF ++ l)) .slice v' = some (.int .i64 (i : Int)) := by
        cases v' with
        | slice a e m c f => cases hlen'; rfl
        | _ => exact hst'.elim
      have hlw : lenV (few (osF ++ l)) .slice (tagsV q i) = some (.int .i64 (i : Int)) := by
        unfold tagsV
        split
        · rename_i h0; rw [h0]; rfl
        · rfl
      simp (disch := omega) [s1, s2, s3, s4, s5, s6, s7, dltn_f, wrap_i, lenOf, firstNo, fie, ge, hop, hKnown, bin_eqptr, htg, hlv, hlw]
      refine wp_loop (fun k s st => ∃ j l', j + k = i ∧ st = few (osF ++ l') ∧ s (.i (.o (.o .h))) = tagsV q i ∧ s (.i (.o (.i .h))) = .ptr (some (N, 0)) ∧ s (.o (.i (.i (.i (.o (.i .h)))))) = .int .i64 (i : Int) ∧ s (.i (.i (.i (.i (.o (.i .h)))))) = .int .i64 (j : Int)) i ?_ (by omega) ?_
      · refine ⟨0, l, by omega, rfl, ?_, ?_, ?_, ?_⟩ <;> simp [s6]
      · rintro k s st ⟨j, l', hk, rfl, r1, r2, r3, r4⟩
        cases k with
        | zero =>
          have : j = i := by omega
          subst this
          simp (disch := omega) [r1, r2, r3, r4, dltn_f]
        | succ k =>
          have hji : j < i := by omega
          have htv : tagsV q i = .slice (some (q, 0)) 1 i i false := by unfold tagsV; rw [if_neg (by omega)]
          rw [htv] at r1
          obtain ⟨c8, hc8⟩ : ∃ c8, c8 = 48 + j := ⟨_, rfl⟩
          have w8 : wrapV .u8 (48 + (j : Int)) = (c8 : Int) := by
            rw [show (48 + (j : Int)) = ((c8 : Nat) : Int) from by omega]
            exact wrap_u8 (by omega)
          obtain ⟨X, hX⟩ : ∃ X, X = osF ++ l' ++ [some (newBytes [c8])] := ⟨_, rfl⟩
          have alx : (few (osF ++ l')).alloc (.cells true [.int .u8 (c8 : Int)]) = some ((osF ++ l').length, few X) := by rw [hX]; exact few_alloc _ _
          obtain ⟨xl, hxl⟩ : ∃ xl, xl = (osF ++ l').length := ⟨_, rfl⟩
          rw [← hxl] at alx
          have cvx : convV (few X) .toStr (.slice (some (xl, 0)) 1 1 1 true) = some (.str [c8]) := by
            have := str_part (c := 1) (f := true) (m := 1) (n := 1) (o := 0) (bs := [c8]) (os := X) (i := xl) (own := true) (cs := bytesV [c8]) (by rw [hX, hxl]; simp [newBytes]) (by simp [bytesV]) rfl (by intro b hb'; simp at hb'; omega) 0 (by omega)
            exact this
          have hadd : binV .add (.val .str) (.str [84, 65, 66]) (.str [c8]) = some (.str (tagI j)) := by rw [bin_adds (by simp), hc8]; rfl
          obtain ⟨w, hw⟩ : ∃ w, w = wantB f bd j := ⟨_, rfl⟩
          have hwb : ∀ x ∈ w, x < 256 := fun x hx => hb x (List.mem_of_mem_drop (List.mem_of_mem_take (by rw [hw] at hx; exact hx)))
          have hwl : w.length ≤ bd.length := by rw [hw]; unfold wantB; rw [List.length_take, List.length_drop]; omega
          have inX : ∀ m o, (osF[m]?).join = some o → (X[m]?).join = some o := fun m o hm => by rw [hX]; exact keep_app (keep_app hm)
          have hks : (kvsOf L (idsOf' (N + 2) i))[j]? = some (tagI j, .slice (some (N + 2 + j, 0)) 1 w.length w.length false) := by
            unfold kvsOf idsOf'
            rw [List.getElem?_zipWith, hL, hw]
            simp [outL, hji]
          have hkn : ∀ m, m < j → ∀ kv, (kvsOf L (idsOf' (N + 2) i))[m]? = some kv → kv.1 ≠ tagI j := by
            intro m hm kv hkv
            have h1 : ((kvsOf L (idsOf' (N + 2) i)).map (·.1))[m]? = some kv.1 := by rw [List.getElem?_map, hkv]; rfl
            rw [kvs_keys (by simp [idsOf', hLl]), hL, outL_tags, List.getElem?_map, List.getElem?_range (by omega)] at h1
            have h1 : tagI m = kv.1 := by simpa using h1
            rw [← h1]
            intro e
            have := congrArg (fun l : List Nat => l[3]?) e
            simp [tagI] at this
            omega
          have htab := hTable X N (N + 1) i (N + 2 + j) j true true (tagsV (N + 2 + i) i) (kvsOf L (idsOf' (N + 2) i)) (tagI j) w (inX _ _ f0) (inX _ _ f1) hks hkn (inX _ _ (by rw [hw]; exact ft j hji)) (by omega)
          obtain ⟨cv, lc, hcl, hcs⟩ := cloneR_few (os := X) hwb
          rw [hcl] at htab
          have hwq : (osF[q]?).join = some (.cells true (strsV ((List.range i).map (wantB f bd)))) := by
            rw [hF]
            exact keep_app (grown_keep GE (hA.want (by intro e; have := congrArg List.length e; simp at this; omega)) hA.lo.2.2)
          have hldw : loadV (few (X ++ lc)) false 1 (.ptr (some (q, j))) = some (.str w) := by
            rw [load_few (keep_app (inX _ _ hwq)), strsV_at, List.getElem?_map, List.getElem?_range hji, hw]
            rfl
          have hfin : ∃ m, m < k + 1 ∧ ∃ j' l'', j' + m = i ∧ few (X ++ lc) = few (osF ++ l'') ∧ j' = j + 1 := ⟨k, by omega, j + 1, l' ++ [some (newBytes [c8])] ++ lc, by omega, by rw [hX]; simp, rfl⟩
          simp (disch := omega) [r1, r2, r3, r4, hji, dltn_t, wrap_i, w8, repN, alx, cvx, hadd, htab, natOf_int, idxAddr_slice, boolIs_b, hcs, hldw, shiftA_some]
          exact ⟨k, by omega, j + 1, by omega, ⟨l' ++ [some (newBytes [c8])] ++ lc, by rw [hX]; simp⟩, htv.symm, by omega⟩
    | succ k =>
      have hin : i < n := by omega
      have hzl : 2 * i + 1 < zs.length := by omega
      have hnf : nil' = false := by
        cases nil' with
        | false => rfl
        | true => rw [hnil' rfl] at hzl; simp at hzl
      subst hnf
      have hpl := place_le (len := bd.length) (zs := zs) (i := i)
      obtain ⟨a, ha⟩ : ∃ a, a = (f i).1 := ⟨_, rfl⟩
      obtain ⟨z, hz'⟩ : ∃ z, z = (f i).2 := ⟨_, rfl⟩
      rw [← hf, ← ha, ← hz'] at hpl
      have t1 : (2 * (i : Int)).toNat = 2 * i := by omega
      have t2 : (2 * (i : Int) + 1).toNat = 2 * i + 1 := by omega
      have ld : ∀ j, j < zs.length → loadV (few os) false 1 (.ptr (some (1, j))) = some (.int .i64 (zs.getD j 0)) := by
        intro j hj
        have : (os[1]?).join = some (.cells false (intsV .i64 zs)) := hA.nums
        rw [load_few this, intsV_at, List.getElem?_eq_getElem hj, List.getD_eq_getElem?_getD, List.getElem?_eq_getElem hj]
        rfl
      have ld1 := ld (2 * i) (by omega)
      have ld2 := ld (2 * i + 1) (by omega)
      have pk1 : call nPick [.int .i64 (zs.getD (2 * i) 0), .int .i64 ((bd.length : Int) + 1)] (few os) = some (.int .i64 (a : Int), few os) := by
        rw [hPick _ _ _ (by omega) (by omega), ha, hf]
        have := pickI_lt (n := zs.getD (2 * i) 0) (m := (bd.length : Int) + 1) (by omega)
        show some (V.int .i64 (pickI (zs.getD (2 * i) 0) ((bd.length : Int) + 1)), few os) = some (V.int .i64 (((pickI (zs.getD (2 * i) 0) ((bd.length : Int) + 1)).toNat : Nat) : Int), few os)
        rw [Int.toNat_of_nonneg this.1]
      have pk2 : call nPick [.int .i64 (zs.getD (2 * i + 1) 0), .int .i64 ((bd.length : Int) - (a : Int) + 1)] (few os) = some (.int .i64 (z : Int), few os) := by
        have ha1 : (a : Int) = (((pickI (zs.getD (2 * i) 0) ((bd.length : Int) + 1)).toNat : Nat) : Int) := by rw [ha, hf]; rfl
        rw [hPick _ _ _ (by omega) (by omega), hz', hf]
        have := pickI_lt (n := zs.getD (2 * i + 1) 0) (m := (bd.length : Int) - (a : Int) + 1) (by omega)
        show some (V.int .i64 (pickI (zs.getD (2 * i + 1) 0) ((bd.length : Int) - (a : Int) + 1)), few os) = some (V.int .i64 (((pickI (zs.getD (2 * i + 1) 0) ((bd.length : Int) - (((pickI (zs.getD (2 * i) 0) ((bd.length : Int) + 1)).toNat : Nat) : Int) + 1)).toNat : Nat) : Int), few os)
        rw [← ha1, Int.toNat_of_nonneg this.1]
      obtain ⟨z0, hz0⟩ : ∃ z0, zs.getD (2 * i) 0 = z0 := ⟨_, rfl⟩
      obtain ⟨z1, hz1⟩ : ∃ z1, zs.getD (2 * i + 1) 0 = z1 := ⟨_, rfl⟩
      rw [hz0] at ld1 pk1
      rw [hz1] at ld2 pk2
      -- the record
      obtain ⟨B, hB⟩ : ∃ B, B = headB n ++ recsB (12 + 16 * n) f i := ⟨_, rfl⟩
      have hBl : B.length = 12 + 16 * i := by rw [hB, List.length_append, headB_len, recsB_len]
      have hfile := hA.file
      rw [← hB] at hfile
      have hp := join_lt hfile
      obtain ⟨p1, os1, g1, G1⟩ := growB (nb := [84, 65, 66]) hfile (by simp; omega)
      have fi1 : firstN (few os) 1 3 (.str [84, 65, 66]) = some (bytesV [84, 65, 66]) := rfl
      rw [hBl] at g1
      have g1 : appendV (few os) 1 1 (.slice (some (p, 0)) 1 (12 + 16 * i) (12 + 16 * i) false) (some 3) (some (bytesV [84, 65, 66])) = some (.slice (some (p1, 0)) 1 (12 + 16 * i + 3) (12 + 16 * i + 3) false, few os1) := g1
      obtain ⟨c8, hc8⟩ : ∃ c8, c8 = 48 + i := ⟨_, rfl⟩
      have w8 : wrapV .u8 (48 + (i : Int)) = (c8 : Int) := by
        rw [show (48 + (i : Int)) = ((c8 : Nat) : Int) from by omega]
        exact wrap_u8 (by omega)
      obtain ⟨os2, ho2⟩ : ∃ os2, os2 = os1 ++ [some (newBytes [c8, 1, 2, 3, 4])] := ⟨_, rfl⟩
      have al2 : (few os1).alloc (.cells true [.int .u8 (c8 : Int), .int .u8 1, .int .u8 2, .int .u8 3, .int .u8 4]) = some (os1.length, few os2) := by rw [ho2]; exact few_alloc os1 _
      have fi2 : firstN (few os2) 1 5 (.slice (some (os1.length, 0)) 1 5 5 true) = some (bytesV [c8, 1, 2, 3, 4]) := first_own (bs := [c8, 1, 2, 3, 4]) (by rw [ho2]; simp)
      have at1 : (os2[p1]?).join = some (newBytes (B ++ [84, 65, 66])) := by rw [ho2]; exact keep_app G1.at'
      obtain ⟨p3, os3, g3, G3⟩ := growB (nb := [c8, 1, 2, 3, 4]) at1 (by simp; omega)
      have e3 : (B ++ ([84, 65, 66] : List Nat)).length = 12 + 16 * i + 3 := by simp [hBl]
      rw [e3] at g3
      have g3 : appendV (few os2) 1 1 (.slice (some (p1, 0)) 1 (12 + 16 * i + 3) (12 + 16 * i + 3) false) (some 5) (some (bytesV [c8, 1, 2, 3, 4])) = some (.slice (some (p3, 0)) 1 (12 + 16 * i + 8) (12 + 16 * i + 8) false, few os3) := g3
      obtain ⟨os4, ho4⟩ : ∃ os4, os4 = os3 ++ [some (newBytes (bigB (12 + 16 * n + a) 4))] := ⟨_, rfl⟩
      have big4 : call nBig [.int .i64 (12 + 16 * (n : Int) + (a : Int)), .int .i64 4] (few os3) = some (.slice (some (os3.length, 0)) 1 4 4 false, few os4) := by
        rw [show (12 + 16 * (n : Int) + (a : Int)) = ((12 + 16 * n + a : Nat) : Int) from by omega, ho4]
        exact hBig os3 _ 4 (by omega) (by omega)
      have fi4 : firstN (few os4) 1 4 (.slice (some (os3.length, 0)) 1 4 4 false) = some (bytesV (bigB (12 + 16 * n + a) 4)) := first_own (bs := bigB (12 + 16 * n + a) 4) (by rw [ho4]; simp)
      have at3 : (os4[p3]?).join = some (newBytes (B ++ [84, 65, 66] ++ [c8, 1, 2, 3, 4])) := by rw [ho4]; exact keep_app G3.at'
      obtain ⟨p5, os5, g5, G5⟩ := growB (nb := bigB (12 + 16 * n + a) 4) at3 (by simp [bigB_len]; omega)
      have e5 : (B ++ ([84, 65, 66] : List Nat) ++ [c8, 1, 2, 3, 4]).length = 12 + 16 * i + 8 := by simp [hBl]
      rw [e5, bigB_len] at g5
      obtain ⟨os6, ho6⟩ : ∃ os6, os6 = os5 ++ [some (newBytes (bigB z 4))] := ⟨_, rfl⟩
      have big6 : call nBig [.int .i64 (z : Int), .int .i64 4] (few os5) = some (.slice (some (os5.length, 0)) 1 4 4 false, few os6) := by
        rw [ho6]; exact hBig os5 _ 4 (by omega) (by omega)
      have fi6 : firstN (few os6) 1 4 (.slice (some (os5.length, 0)) 1 4 4 false) = some (bytesV (bigB z 4)) := first_own (bs := bigB z 4) (by rw [ho6]; simp)
      have at5 : (os6[p5]?).join = some (newBytes (B ++ [84, 65, 66] ++ [c8, 1, 2, 3, 4] ++ bigB (12 + 16 * n + a) 4)) := by rw [ho6]; exact keep_app G5.at'
      obtain ⟨p7, os7, g7, G7⟩ := growB (nb := bigB z 4) at5 (by simp [bigB_len]; omega)
      have e7 : (B ++ ([84, 65, 66] : List Nat) ++ [c8, 1, 2, 3, 4] ++ bigB (12 + 16 * n + a) 4).length = 12 + 16 * i + 8 + 4 := by simp [hBl, bigB_len]
      rw [e7, bigB_len] at g7
      have hrec : B ++ [84, 65, 66] ++ [c8, 1, 2, 3, 4] ++ bigB (12 + 16 * n + a) 4 ++ bigB z 4 = headB n ++ recsB (12 + 16 * n) f (i + 1) := by
        rw [hB]
        show _ = headB n ++ (recsB (12 + 16 * n) f i ++ ([84, 65, 66, 48 + i, 1, 2, 3, 4] ++ (bigB (12 + 16 * n + (f i).1) 4 ++ bigB (f i).2 4)))
        rw [← ha, ← hz', ← hc8]
        simp
      have hat7 := G7.at'
      rw [hrec] at hat7
      -- what stays
      have keepE : ∀ j, j < os.length → j ≠ p → (os7[j]?).join = (os[j]?).join := by
        intro j hjl hjp
        have n1 := G1.new
        have n3 := G3.new
        have n5 := G5.new
        have l1 := G1.len
        have l3 := G3.len
        have l5 := G5.len
        have e2 : os2.length = os1.length + 1 := by rw [ho2]; simp
        have e4 : os4.length = os3.length + 1 := by rw [ho4]; simp
        have e6 : os6.length = os5.length + 1 := by rw [ho6]; simp
        rw [G7.old j (by omega) (by omega), ho6, join_app (by omega), G5.old j (by omega) (by omega), ho4, join_app (by omega), G3.old j (by omega) (by omega), ho2, join_app (by omega), G1.old j hjl hjp]
      have keep : ∀ j o, (os[j]?).join = some o → j ≠ p → (os7[j]?).join = some o := by
        intro j o hj hjp
        rw [keepE j (join_lt hj) hjp]; exact hj
      have l7 : os.length ≤ os7.length := by
        have l1 := G1.len
        have l3 := G3.len
        have l5 := G5.len
        have l7 := G7.len
        have e2 : os2.length = os1.length + 1 := by rw [ho2]; simp
        have e4 : os4.length = os3.length + 1 := by rw [ho4]; simp
        have e6 : os6.length = os5.length + 1 := by rw [ho6]; simp
        omega
      have np7 : p7 = p ∨ os.length ≤ p7 := by
        have n1 := G1.new
        have n3 := G3.new
        have n5 := G5.new
        have n7 := G7.new
        have l1 := G1.len
        have l3 := G3.len
        have l5 := G5.len
        have e2 : os2.length = os1.length + 1 := by rw [ho2]; simp
        have e4 : os4.length = os3.length + 1 := by rw [ho4]; simp
        have e6 : os6.length = os5.length + 1 := by rw [ho6]; simp
        omega
      -- what is wanted
      obtain ⟨w, hw⟩ : ∃ w, w = wantB f bd i := ⟨_, rfl⟩
      have hw' : w = (bd.drop a).take z := by rw [hw, ha, hz']; rfl
      obtain ⟨SV, hsl, hcv⟩ : ∃ SV, sliceOp (.slice 1) (.slice (if nil = true then none else some (0, 0)) 1 bd.length bd.length false) (some (.int .i64 (a : Int))) (some (.int .i64 ((a : Int) + (z : Int)))) none = some SV ∧ convV (few os7) .toStr SV = some (.str w) := by
        refine ⟨_, slice_lohiI (by omega) (by omega) (by omega), ?_⟩
        rw [Int.toNat_natCast, show ((a : Int) + (z : Int)).toNat - a = z from by omega, Nat.mul_one]
        cases nil with
        | true =>
          have : bd = [] := hnil rfl
          subst this
          rw [hw', List.drop_nil, List.take_nil]
          rfl
        | false =>
          have hb0 : (os7[0]?).join = some (.cells false (bytesV bd)) := keep 0 _ hA.body (by have := hA.lo.1; omega)
          have := str_part (c := bd.length - a) (f := false) (m := z) hb0 (o := 0) (n := bd.length) (by rw [bytesV_len]; omega) (by rw [List.drop_zero, List.take_of_length_le (by rw [bytesV_len]; exact Nat.le_refl _)]) hb a (by omega)
          rw [hw']
          exact this
      obtain ⟨os8, ho8⟩ : ∃ os8, os8 = os7 ++ [some (AObj.cells true [V.str w])] := ⟨_, rfl⟩
      have e8 : os8.length = os7.length + 1 := by rw [ho8]; simp
      have al8 : (few os7).alloc (.cells true [.str w]) = some (os7.length, few os8) := by rw [ho8]; exact few_alloc os7 _
      have fi8 : firstN (few os8) 1 1 (.slice (some (os7.length, 0)) 1 1 1 true) = some [V.str w] := by
        show sel (Nat.beq 1 1 && Nat.ble 1 1) ((few os8).loadN os7.length 0 (1 * 1)) none = _
        rw [loadN_few (own := true) (cs := [V.str w]) (by rw [ho8]; simp) (by simp)]
        rfl
      have hWl : ((List.range i).map (wantB f bd)).length = i := by simp
      have hq8 : i ≠ 0 → (os8[q]?).join = some (.cells true (strsV ((List.range i).map (wantB f bd)))) := by
        intro h0
        rw [ho8]
        exact keep_app (keep q _ (hA.want (by intro e; rw [e] at hWl; simp at hWl; omega)) hA.lo.2.2)
      have g8 := growTags (os := os8) (q := q) (n := i) (ts := (List.range i).map (wantB f bd)) (tag := w) hWl.symm (by omega) hq8
      obtain ⟨os9, ho9⟩ : ∃ os9, os9 = (if i = 0 then os8 else os8.set q none) ++ [some (AObj.cells true (strsV ((List.range i).map (wantB f bd) ++ [w])))] := ⟨_, rfl⟩
      rw [← ho9] at g8
      have hm8 : (if i = 0 then os8 else os8.set q none).length = os8.length := by split <;> simp
      have keep9 : ∀ j, j < os8.length → (i ≠ 0 → j ≠ q) → (os9[j]?).join = (os8[j]?).join := by
        intro j hj hjq
        rw [ho9, join_app (by rw [hm8]; exact hj)]
        split
        · rfl
        · rename_i h0
          rw [join_set (fun e => hjq h0 e.symm)]
      have hql : i ≠ 0 → q < os.length := fun h0 => join_lt (hA.want (by intro e; rw [e] at hWl; simp at hWl; omega))
      have hAn : Ahead os9 (objOf nil (bytesV bd)) (objOf false (intsV .i64 zs)) p7 os8.length (headB n ++ recsB (12 + 16 * n) f (i + 1)) ((List.range (i + 1)).map (wantB f bd)) := by
        have two := hA.two
        have lo := hA.lo
        have l9 : os9.length = os8.length + 1 := by rw [ho9]; simp [hm8]
        have first : ∀ j, j < 2 → (os9[j]?).join = (os[j]?).join := by
          intro j hj
          rw [keep9 j (by omega) (fun _ => by omega), ho8, join_app (by omega), keepE j (by omega) (by omega)]
        have hlt7 := join_lt hat7
        refine ⟨by rw [first 0 (by omega)]; exact hA.body, by rw [first 1 (by omega)]; exact hA.nums, by omega, ?_, ?_, ?_⟩
        · rw [keep9 p7 (by omega) (fun h0 => by have := hql h0; omega), ho8, join_app hlt7]; exact hat7
        · intro _
          rw [ho9, List.getElem?_append_right (by omega), hm8, Nat.sub_self, hw, List.range_succ, List.map_append]
          rfl
        · omega
      have hfin : ∃ m, m < k + 1 ∧ ∃ i' os' p' q', i' + m = n ∧ few os9 = few os' ∧ Ahead os' (objOf nil (bytesV bd)) (objOf false (intsV .i64 zs)) p' q' (headB n ++ recsB (12 + 16 * n) f i') ((List.range i').map (wantB f bd)) ∧ i' = i + 1 ∧ p' = p7 ∧ q' = os8.length :=
        ⟨k, by omega, i + 1, os9, p7, os8.length, by omega, rfl, hAn, rfl, rfl, rfl⟩
      simp (disch := omega) [s1, s2, s3, s4, s5, s6, s7, hin, dlt_t, dltn_t, wrap_i, natOf_int, t1, t2, idxAddr_slice, ld1, ld2, pk1, pk2, lenOf, firstNo, fi1, g1, w8, repN, al2, fi2, g3, big4, fi4, g5, big6, fi6, g7, hsl, hcv, al8, fi8, g8]
      exact ⟨k, by omega, i + 1, by omega, os9, rfl, p7, os8.length, hAn, ⟨rfl, by omega⟩, rfl, by omega⟩

/- through further functions -/
theorem UF_withF {z : Nat} {call : CallT} {n g lf : Nat} {fn : AFunc} (h : UF z call n) (hne : n ≠ g) : UF z (Vabs.withF call g lf fn) n := fun st v bs x a b => by rw [withF_other hne]; exact h st v bs x a b
theorem PartF_withF {call : CallT} {n g lf : Nat} {fn : AFunc} (h : PartF call n) (hne : n ≠ g) : PartF (Vabs.withF call g lf fn) n := fun st v bs x m a b => by rw [withF_other hne]; exact h st v bs x m a b
theorem OpenF_withF {call : CallT} {n g lf : Nat} {fn : AFunc} (h : OpenF call n) (hne : n ≠ g) : OpenF (Vabs.withF call g lf fn) n := fun os v bs a b c => by rw [withF_other hne]; exact h os v bs a b c
theorem VersF_code {base : CallT} {g lf lf' nC : Nat} (hlf : 4 ≤ lf') (hC : ContF lf' base nC) : VersF (Vabs.withF base g lf (versioned_c nC)) g := fun os v bs h1 h2 => ⟨_, by rw [withF_same]; exact vers_run hlf hC h1 h2⟩

end Go.Vabs.Se
