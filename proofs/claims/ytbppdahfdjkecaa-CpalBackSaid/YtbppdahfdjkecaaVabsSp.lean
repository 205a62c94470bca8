/-
  A font that is laid is read again: the walk of SfntBack.
-/
import Derived.Test.YtbppdahfdjkecaaVabsSh
import Derived.Test.YtbppdahfdjkecaaVabsZj
namespace Go.Vabs.Sp
set_option linter.unusedVariables false
set_option linter.unusedSimpArgs false
set_option maxRecDepth 10000
def SfntBack_c (n_Pick : Nat) (n_Few : Nat) (n_Lay : Nat) (n_Open : Nat) (n_known : Nat) (n_Tags : Nat) (n_Table : Nat) : AFunc := AFunc.mk 138 (.seq (.reg [AOper.mk (some (.i (.o .h))) (.mv (.c (.bool false))) none]) (.seq (.reg [AOper.mk (some (.o (.i .h))) (.mv (.c (.slice none 0 0 0 true))) none]) (.seq (.reg [AOper.mk (some (.i (.i .h))) (.mv (.c (.slice none 0 0 0 true))) none]) (.seq (.seq (.reg [AOper.mk (some (.o (.o (.o .h)))) (.mv (.c (.int .i64 (.ofNat 0)))) none]) (.block 0 (.loop (.seq (.seq (.reg [AOper.mk (some (.o (.i (.i (.o .h))))) (.len .slice (.t .h)) none, AOper.mk (some (.i (.i (.i (.o .h))))) (.bin .lss (.val .int) (.t (.o (.o (.o .h)))) (.t (.o (.i (.i (.o .h)))))) none, AOper.mk (some (.o (.o (.o (.i .h))))) (.mv (.t (.i (.i (.i (.o .h)))))) none, AOper.mk (some (.o (.i (.o (.i .h))))) (.bin .lss (.val .int) (.t (.o (.o (.o .h)))) (.c (.int .i64 (.ofNat 20)))) (some (.o (.o (.o (.i .h))), true)), AOper.mk (some (.i (.i (.o (.i .h))))) (.pick (.t (.o (.o (.o (.i .h))))) (.t (.o (.i (.o (.i .h))))) (.c (.bool false))) none]) (.cond (.t (.i (.i (.o (.i .h))))) .skip (.exit 0))) (.seq (.block 1 (.seq (.reg [AOper.mk (some (.o (.o (.o (.o (.o .h)))))) (.bin .add (.val .int) (.t (.o (.o (.o .h)))) (.c (.int .i64 (.ofNat 32)))) none, AOper.mk (some (.i (.o (.o (.o (.o .h)))))) (.conv (.int .u8) (.t (.o (.o (.o (.o (.o .h))))))) none, AOper.mk (some (.i (.i (.o (.o (.o .h)))))) (.len .slice (.t (.o .h))) none, AOper.mk (some (.o (.o (.i (.o (.o .h)))))) (.call n_Pick [.t (.i (.i (.o (.o (.o .h))))), .c (.int .i64 (.ofNat 250))]) none, AOper.mk (some (.i (.o (.i (.o (.o .h)))))) (.conv (.int .u8) (.t (.o (.o (.i (.o (.o .h))))))) none, AOper.mk (some (.o (.i (.i (.o (.o .h)))))) (.bslice 1 3 [.int .u8 (.ofNat 0)] [(0, (1, .t (.i (.o (.o (.o (.o .h))))))), (1, (1, .t (.i (.o (.i (.o (.o .h))))))), (2, (1, .c (.int .u8 (.ofNat 7))))]) none, AOper.mk (some (.i (.i (.i (.o (.o .h)))))) (.conv .toStr (.t (.o (.i (.i (.o (.o .h))))))) none, AOper.mk (some (.o (.o (.o (.i (.o .h)))))) (.bin .add (.val .str) (.c (.str [84])) (.t (.i (.i (.i (.o (.o .h))))))) none, AOper.mk (some (.i (.o (.o (.i (.o .h)))))) (.bslice 1 1 [.str []] [(0, (1, .t (.o (.o (.o (.i (.o .h)))))))]) none, AOper.mk (some (.o (.i (.o (.i (.o .h)))))) (.append 1 16 (.t (.o (.i .h))) (.t (.i (.o (.o (.i (.o .h))))))) none, AOper.mk (some (.o (.i .h))) (.mv (.t (.o (.i (.o (.i (.o .h))))))) none]) (.reg [AOper.mk (some (.o (.i (.i (.i (.o .h)))))) (.idxAddr (.slice 1) (.t .h) (.t (.o (.o (.o .h))))) none, AOper.mk (some (.i (.i (.i (.i (.o .h)))))) (.load false 1 (.t (.o (.i (.i (.i (.o .h))))))) none, AOper.mk (some (.o (.o (.o (.o (.i .h)))))) (.call n_Few [.t (.i (.i (.i (.i (.o .h))))), .c (.int .i64 (.ofNat 80))]) none, AOper.mk (some (.i (.o (.o (.o (.i .h)))))) (.bslice 1 1 [.slice none 0 0 0 true] [(0, (1, .t (.o (.o (.o (.o (.i .h)))))))]) none, AOper.mk (some (.o (.i (.o (.o (.i .h)))))) (.append 1 24 (.t (.i (.i .h))) (.t (.i (.o (.o (.o (.i .h))))))) none, AOper.mk (some (.i (.i .h))) (.mv (.t (.o (.i (.o (.o (.i .h))))))) none]))) (.reg [AOper.mk (some (.i (.o (.i (.i .h))))) (.bin .add (.val .int) (.t (.o (.o (.o .h)))) (.c (.int .i64 (.ofNat 1)))) none, AOper.mk (some (.o (.o (.o .h)))) (.mv (.t (.i (.o (.i (.i .h)))))) none])))))) (.seq (.reg [AOper.mk (some (.o (.i (.i (.o (.i .h)))))) (.call n_Lay [.t (.o (.i .h)), .t (.i (.i .h))]) none, AOper.mk (some (.i (.i (.i (.o (.i .h)))))) (.extract (.t (.o (.i (.i (.o (.i .h)))))) 0) none, AOper.mk (some (.o (.o (.o (.i (.i .h)))))) (.extract (.t (.o (.i (.i (.o (.i .h)))))) 1) none, AOper.mk (some (.i (.o (.o .h)))) (.mv (.t (.i (.i (.i (.o (.i .h))))))) none, AOper.mk (some (.o (.i (.o .h)))) (.mv (.t (.o (.o (.o (.i (.i .h))))))) none]) (.seq (.reg [AOper.mk (some (.i (.i (.o (.i (.i .h)))))) (.call n_Open [.t (.i (.o (.o .h)))]) none, AOper.mk (some (.o (.o (.i (.i (.i .h)))))) (.extract (.t (.i (.i (.o (.i (.i .h)))))) 0) none, AOper.mk (some (.i (.o (.i (.i (.i .h)))))) (.extract (.t (.i (.i (.o (.i (.i .h)))))) 1) none, AOper.mk (some (.i (.i (.o .h)))) (.mv (.t (.o (.o (.i (.i (.i .h))))))) none, AOper.mk (some (.o (.o (.i .h)))) (.mv (.t (.i (.o (.i (.i (.i .h))))))) none]) (.seq (.seq (.reg [AOper.mk (some (.o (.i (.i (.i (.i .h)))))) (.call n_known []) none, AOper.mk (some (.i (.i (.i (.i (.i .h)))))) (.un .not (.t (.o (.i (.i (.i (.i .h))))))) none, AOper.mk (some (.o (.o (.o (.o (.o (.o .h))))))) (.mv (.t (.i (.i (.i (.i (.i .h))))))) none, AOper.mk (some (.o (.i (.o (.o (.o (.o .h))))))) (.bin .neq (.val .int) (.t (.o (.i (.o .h)))) (.c (.int .i64 (.ofNat 0)))) (some (.o (.o (.o (.o (.o (.o .h))))), false)), AOper.mk (some (.i (.i (.o (.o (.o (.o .h))))))) (.pick (.t (.o (.o (.o (.o (.o (.o .h))))))) (.c (.bool true)) (.t (.o (.i (.o (.o (.o (.o .h)))))))) none, AOper.mk (some (.o (.o (.i (.o (.o (.o .h))))))) (.mv (.t (.i (.i (.o (.o (.o (.o .h)))))))) none, AOper.mk (some (.o (.i (.i (.o (.o (.o .h))))))) (.bin .neq (.val .int) (.t (.o (.o (.i .h)))) (.c (.int .i64 (.ofNat 0)))) (some (.o (.o (.i (.o (.o (.o .h))))), false)), AOper.mk (some (.i (.i (.i (.o (.o (.o .h))))))) (.pick (.t (.o (.o (.i (.o (.o (.o .h))))))) (.c (.bool true)) (.t (.o (.i (.i (.o (.o (.o .h)))))))) none, AOper.mk (some (.o (.o (.o (.i (.o (.o .h))))))) (.mv (.t (.i (.i (.i (.o (.o (.o .h)))))))) none, AOper.mk (some (.o (.i (.o (.i (.o (.o .h))))))) (.bin .eql (.nils .ptr) (.t (.i (.i (.o .h)))) (.c (.ptr none))) (some (.o (.o (.o (.i (.o (.o .h))))), false)), AOper.mk (some (.i (.i (.o (.i (.o (.o .h))))))) (.pick (.t (.o (.o (.o (.i (.o (.o .h))))))) (.c (.bool true)) (.t (.o (.i (.o (.i (.o (.o .h)))))))) none, AOper.mk (some (.o (.o (.i (.i (.o (.o .h))))))) (.mv (.t (.i (.i (.o (.i (.o (.o .h)))))))) none, AOper.mk (some (.o (.i (.i (.i (.o (.o .h))))))) (.call n_Tags [.t (.i (.i (.o .h)))]) (some (.o (.o (.i (.i (.o (.o .h))))), false)), AOper.mk (some (.i (.i (.i (.i (.o (.o .h))))))) (.len .slice (.t (.o (.i (.i (.i (.o (.o .h)))))))) (some (.o (.o (.i (.i (.o (.o .h))))), false)), AOper.mk (some (.i (.o (.o (.o (.i (.o .h))))))) (.len .slice (.t (.o (.i .h)))) (some (.o (.o (.i (.i (.o (.o .h))))), false)), AOper.mk (some (.o (.i (.o (.o (.i (.o .h))))))) (.bin .neq (.val .int) (.t (.i (.i (.i (.i (.o (.o .h))))))) (.t (.i (.o (.o (.o (.i (.o .h)))))))) (some (.o (.o (.i (.i (.o (.o .h))))), false)), AOper.mk (some (.i (.i (.o (.o (.i (.o .h))))))) (.pick (.t (.o (.o (.i (.i (.o (.o .h))))))) (.c (.bool true)) (.t (.o (.i (.o (.o (.i (.o .h)))))))) none]) (.cond (.t (.i (.i (.o (.o (.i (.o .h))))))) (.seq (.reg [AOper.mk (some (.i (.o .h))) (.mv (.c (.bool false))) none]) .ret) .skip)) (.seq (.seq (.reg [AOper.mk (some (.i (.o (.i (.o (.i (.o .h))))))) (.len .slice (.t (.o (.i .h)))) none, AOper.mk (some (.o (.i (.i (.o (.i (.o .h))))))) (.mv (.c (.int .i64 (.ofNat 0)))) none]) (.block 2 (.loop (.seq (.reg [AOper.mk (some (.i (.i (.i (.o (.i (.o .h))))))) (.bin .lss (.val .int) (.t (.o (.i (.i (.o (.i (.o .h))))))) (.t (.i (.o (.i (.o (.i (.o .h)))))))) none]) (.seq (.cond (.t (.i (.i (.i (.o (.i (.o .h))))))) .skip (.exit 2)) (.seq (.block 3 (.seq (.reg [AOper.mk (some (.i (.o (.i .h)))) (.mv (.t (.o (.i (.i (.o (.i (.o .h)))))))) none]) (.seq (.reg [AOper.mk (some (.i (.o (.i (.i (.i (.o .h))))))) (.idxAddr (.slice 1) (.t (.o (.i .h))) (.t (.i (.o (.i .h))))) none, AOper.mk (some (.o (.i (.i (.i (.i (.o .h))))))) (.load false 1 (.t (.i (.o (.i (.i (.i (.o .h)))))))) none, AOper.mk (some (.i (.i (.i (.i (.i (.o .h))))))) (.call n_Table [.t (.i (.i (.o .h))), .t (.o (.i (.i (.i (.i (.o .h))))))]) none, AOper.mk (some (.o (.o (.o (.o (.o (.i .h))))))) (.extract (.t (.i (.i (.i (.i (.i (.o .h))))))) 0) none, AOper.mk (some (.i (.o (.o (.o (.o (.i .h))))))) (.extract (.t (.i (.i (.i (.i (.i (.o .h))))))) 1) none, AOper.mk (some (.o (.i (.i .h)))) (.mv (.t (.o (.o (.o (.o (.o (.i .h)))))))) none, AOper.mk (some (.i (.i (.i .h)))) (.mv (.t (.i (.o (.o (.o (.o (.i .h)))))))) none]) (.seq (.dreg [(AOper.mk (some (.o (.i (.o (.o (.o (.i .h))))))) (.mv (.t (.i (.i (.o .h))))) none, []), (AOper.mk (some (.i (.i (.o (.o (.o (.i .h))))))) (.call n_Tags [.t (.o (.i (.o (.o (.o (.i .h))))))]) none, [8]), (AOper.mk (some (.o (.o (.i (.o (.o (.i .h))))))) (.mv (.t (.i (.o (.i .h))))) none, []), (AOper.mk (some (.i (.o (.i (.o (.o (.i .h))))))) (.idxAddr (.slice 1) (.t (.i (.i (.o (.o (.o (.i .h))))))) (.t (.o (.o (.i (.o (.o (.i .h)))))))) none, []), (AOper.mk (some (.o (.i (.i (.o (.o (.i .h))))))) (.load false 1 (.t (.i (.o (.i (.o (.o (.i .h)))))))) none, [8]), (AOper.mk (some (.i (.i (.i (.o (.o (.i .h))))))) (.mv (.t (.o (.i .h)))) none, []), (AOper.mk (some (.o (.o (.o (.i (.o (.i .h))))))) (.mv (.t (.i (.o (.i .h))))) none, []), (AOper.mk (some (.i (.o (.o (.i (.o (.i .h))))))) (.idxAddr (.slice 1) (.t (.i (.i (.i (.o (.o (.i .h))))))) (.t (.o (.o (.o (.i (.o (.i .h)))))))) none, []), (AOper.mk (some (.o (.i (.o (.i (.o (.i .h))))))) (.load false 1 (.t (.i (.o (.o (.i (.o (.i .h)))))))) none, [1, 4]), (AOper.mk (some (.i (.i (.o (.i (.o (.i .h))))))) (.bin .neq (.val .str) (.t (.o (.i (.i (.o (.o (.i .h))))))) (.t (.o (.i (.o (.i (.o (.i .h)))))))) none, []), (AOper.mk (some (.o (.o (.i (.i (.o (.i .h))))))) (.mv (.t (.i (.i (.o (.i (.o (.i .h)))))))) none, []), (AOper.mk (some (.i (.o (.i (.i (.o (.i .h))))))) (.mv (.t (.i (.i (.i .h))))) (some (.o (.o (.i (.i (.o (.i .h))))), false)), []), (AOper.mk (some (.o (.i (.i (.i (.o (.i .h))))))) (.un .not (.t (.i (.o (.i (.i (.o (.i .h)))))))) (some (.o (.o (.i (.i (.o (.i .h))))), false)), []), (AOper.mk (some (.i (.i (.i (.i (.o (.i .h))))))) (.pick (.t (.o (.o (.i (.i (.o (.i .h))))))) (.c (.bool true)) (.t (.o (.i (.i (.i (.o (.i .h)))))))) none, []), (AOper.mk (some (.o (.o (.o (.o (.i (.i .h))))))) (.mv (.t (.i (.i (.i (.i (.o (.i .h)))))))) none, []), (AOper.mk (some (.i (.o (.o (.o (.i (.i .h))))))) (.mv (.t (.o (.i (.i .h))))) (some (.o (.o (.o (.o (.i (.i .h))))), false)), []), (AOper.mk (some (.o (.i (.o (.o (.i (.i .h))))))) (.conv .toStr (.t (.i (.o (.o (.o (.i (.i .h)))))))) (some (.o (.o (.o (.o (.i (.i .h))))), false)), [20, 21]), (AOper.mk (some (.i (.i (.o (.o (.i (.i .h))))))) (.mv (.t (.i (.i .h)))) (some (.o (.o (.o (.o (.i (.i .h))))), false)), []), (AOper.mk (some (.o (.o (.i (.o (.i (.i .h))))))) (.mv (.t (.i (.o (.i .h))))) (some (.o (.o (.o (.o (.i (.i .h))))), false)), []), (AOper.mk (some (.i (.o (.i (.o (.i (.i .h))))))) (.idxAddr (.slice 1) (.t (.i (.i (.o (.o (.i (.i .h))))))) (.t (.o (.o (.i (.o (.i (.i .h)))))))) (some (.o (.o (.o (.o (.i (.i .h))))), false)), []), (AOper.mk (some (.o (.i (.i (.o (.i (.i .h))))))) (.load false 1 (.t (.i (.o (.i (.o (.i (.i .h)))))))) (some (.o (.o (.o (.o (.i (.i .h))))), false)), [16]), (AOper.mk (some (.i (.i (.i (.o (.i (.i .h))))))) (.conv .toStr (.t (.o (.i (.i (.o (.i (.i .h)))))))) (some (.o (.o (.o (.o (.i (.i .h))))), false)), [16]), (AOper.mk (some (.o (.o (.o (.i (.i (.i .h))))))) (.bin .neq (.val .str) (.t (.o (.i (.o (.o (.i (.i .h))))))) (.t (.i (.i (.i (.o (.i (.i .h)))))))) (some (.o (.o (.o (.o (.i (.i .h))))), false)), []), (AOper.mk (some (.i (.o (.o (.i (.i (.i .h))))))) (.pick (.t (.o (.o (.o (.o (.i (.i .h))))))) (.c (.bool true)) (.t (.o (.o (.o (.i (.i (.i .h)))))))) none, [])]) (.cond (.t (.i (.o (.o (.i (.i (.i .h))))))) (.seq (.reg [AOper.mk (some (.i (.o .h))) (.mv (.c (.bool false))) none]) .ret) .skip))))) (.reg [AOper.mk (some (.o (.i (.o (.i (.i (.i .h))))))) (.bin .add (.val .int) (.t (.o (.i (.i (.o (.i (.o .h))))))) (.c (.int .i64 (.ofNat 1)))) none, AOper.mk (some (.o (.i (.i (.o (.i (.o .h))))))) (.mv (.t (.o (.i (.o (.i (.i (.i .h)))))))) none]))))))) (.seq (.reg [AOper.mk (some (.i (.o (.i (.i (.i (.i .h))))))) (.call n_Table [.t (.i (.i (.o .h))), .c (.str [67, 79, 76, 82])]) none, AOper.mk (some (.o (.i (.i (.i (.i (.i .h))))))) (.extract (.t (.i (.o (.i (.i (.i (.i .h))))))) 0) none, AOper.mk (some (.i (.i (.i (.i (.i (.i .h))))))) (.extract (.t (.i (.o (.i (.i (.i (.i .h))))))) 1) none, AOper.mk (some (.o (.o (.o (.o .h))))) (.mv (.t (.o (.i (.i (.i (.i (.i .h)))))))) none, AOper.mk (some (.i (.o (.o (.o .h))))) (.mv (.t (.i (.i (.i (.i (.i (.i .h)))))))) none]) (.seq (.reg [AOper.mk (some (.o (.i (.o (.o (.o (.o (.o .h)))))))) (.call n_Table [.t (.i (.i (.o .h))), .c (.str [84])]) none, AOper.mk (some (.i (.i (.o (.o (.o (.o (.o .h)))))))) (.extract (.t (.o (.i (.o (.o (.o (.o (.o .h)))))))) 0) none, AOper.mk (some (.o (.o (.i (.o (.o (.o (.o .h)))))))) (.extract (.t (.o (.i (.o (.o (.o (.o (.o .h)))))))) 1) none, AOper.mk (some (.o (.i (.o (.o .h))))) (.mv (.t (.i (.i (.o (.o (.o (.o (.o .h))))))))) none, AOper.mk (some (.i (.i (.o (.o .h))))) (.mv (.t (.o (.o (.i (.o (.o (.o (.o .h))))))))) none]) (.seq (.reg [AOper.mk (some (.o (.i (.i (.o (.o (.o (.o .h)))))))) (.un .not (.t (.i (.o (.o (.o .h)))))) none, AOper.mk (some (.i (.i (.i (.o (.o (.o (.o .h)))))))) (.mv (.t (.o (.i (.i (.o (.o (.o (.o .h))))))))) none, AOper.mk (some (.i (.o (.o (.i (.o (.o (.o .h)))))))) (.un .not (.t (.i (.i (.o (.o .h)))))) (some (.i (.i (.i (.o (.o (.o (.o .h)))))), true)), AOper.mk (some (.o (.i (.o (.i (.o (.o (.o .h)))))))) (.pick (.t (.i (.i (.i (.o (.o (.o (.o .h)))))))) (.t (.i (.o (.o (.i (.o (.o (.o .h)))))))) (.c (.bool false))) none, AOper.mk (some (.i (.o .h))) (.mv (.t (.o (.i (.o (.i (.o (.o (.o .h))))))))) none]) .ret))))))))))) [.tmp (.i (.o .h))]
attribute [local simp] wp_skip wp_ret wp_exit wp_reg wp_seq wp_cond wp_block thenQ_normal thenQ_ret thenQ_exit blockQ_normal blockQ_ret blockQ_exit wpCond_true wpCond_false wpOps_nil wpVal_some wpGuard_true wpGuard_false wpOps_guard wpOps_cons
  put_at put_no ev_c ev_slot posEq_h posEq_o posEq_i posEq_ho posEq_hi posEq_oh posEq_ih posEq_oi posEq_io sel_true sel_false
  okv_some step_mv step_call step_pick pickV_bool step_bin bin_add bin_sub bin_mul bin_eql bin_neq bin_lss bin_leq bin_gtr bin_geq bin_eqb bin_neb bin_eqs bin_nes step_un un_not un_neg step_len len_slice len_str len_const step_extract extractV nth step_convInt conv_int step_convStr step_slice step_idxAddr natOf_nat step_load step_index step_field step_fieldAddr step_build step_minmax
  step_alloc step_bslice bsliceV_some newV_some step_store step_append boolIs_b boolIs_t finQ_ret finQ_normal ressE_nil ressE_cons resE_tmp consO_some initE_nil initE_cons pos_0 pos_1 pos_2 pos_3 pos_4 pos_5 pos_6 pos_7 pos_8 plain_bool plain_int plain_str plain_ptr plain_slice plain_map plain_agg plain_func plain_nilFunc V.undef oneOf_one oneOf_two ble_self
open Go.Vabs.Pk Go.Vabs.Ph Go.Vabs.Sa Go.Vabs.Sb Go.Vabs.Sc Go.Vabs.Sd Go.Vabs.Se Go.Vabs.Sg Go.Vabs.Sh Go.Vabs.Sm Go.Vabs.Sn Go.Vabs.L2
attribute [local simp] step_nilchk nilchk_ptr cells_int cells_bool cells_str cells_slice cells_ptr cells_agg fieldAddrV natOf_zero fill repN splice over newV
  wp_dreg wpDs_nil wpDs_cons wantedE_none wantedE_some wpDGuard_true wpDGuard_lim wpDGuard_false wpDLim_true wpDVal_free wpDVal_lim back_limited next_limited limF_dir foot_load foot_convStr okAll_nil okAll_cons pastsOf nthP ahead few_next load_limited convStr_limited blt_dec okPair_dd okPair_dc okPair_cd okPair_cc anyIn_nil anyIn_same anyIn_cons meets_nil meets_nil'
/- THE LAW OF TAGS -/
noncomputable def strL : List V → Option (List (List Nat))
  | [] => some []
  | .str s :: l => (strL l).map (s :: ·)
  | _ :: _ => none
theorem strL_strs : ∀ {ts : List (List Nat)}, strL (strsV ts) = some ts
  | [] => rfl
  | t :: ts => by
    show (strL (strsV ts)).map (t :: ·) = _
    rw [strL_strs]; rfl
noncomputable def lookS (l : Sight) : V → Option (List (List Nat))
  | .slice none _ 0 0 true => some []
  | .slice (some (i, o)) 1 (n + 1) c _ => if n + 1 ≤ c then match l i with | some (.cells _ cs) => (match cut o (n + 1) cs with | some x => strL x | none => none) | _ => none else none
  | _ => none
theorem lookS_mono {l l' : Sight} (h : ∀ i o, l i = some o → l' i = some o) {v : V} {ts : List (List Nat)} (hb : lookS l v = some ts) : lookS l' v = some ts := by
  unfold lookS at hb ⊢
  split at hb
  · exact hb
  · split at hb
    · rename_i hnc
      rw [if_pos hnc]
      split at hb
      · rename_i own cs hl
        rw [h _ _ hl]
        exact hb
      · cases hb
    · cases hb
  · cases hb
noncomputable def tagsA (ts : List (List Nat)) : Ans := if ts = [] then ([], fun _ => .slice none 0 0 0 true) else ([.cells true (strsV ts)], fun k => .slice (some (k, 0)) 1 ts.length ts.length false)
noncomputable def tagsSpec : Nat → Sight → List V → Option Ans := fun _ l args =>
  match args with
  | [.ptr (some (F, 0))] => (match l F with | some (.cells _ (v :: _)) => (match lookS l v with | some ts => if ts.length ≤ 4096 then some (tagsA ts) else none | none => none) | _ => none)
  | _ => none
/-- A font's tags, told in memory as it is or in one that is limited. -/
structure FontTags (os : List (Option AObj)) (F : Nat) (ts : List (List Nat)) : Prop where
  ex : ∃ own v cs, (os[F]?).join = some (.cells own (v :: cs)) ∧ goods os.length (v :: cs) = true ∧ lookS (few os).look v = some ts
  le : ts.length ≤ 4096
theorem FontTags.keep {os os' : List (Option AObj)} {F : Nat} {ts : List (List Nat)} (h : FontTags os F ts) (he : ∀ i, i < os.length → (os'[i]?).join = (os[i]?).join) (hl : os.length ≤ os'.length) : FontTags os' F ts := by
  obtain ⟨own, v, cs, h1, h2, h3⟩ := h.ex
  exact ⟨⟨own, v, cs, by rw [he F (join_lt h1)]; exact h1, goods_le hl h2, lookS_mono (sight_keep he hl) h3⟩, h.le⟩
theorem FontTags.spec {os : List (Option AObj)} {F : Nat} {ts : List (List Nat)} (h : FontTags os F ts) : tagsSpec os.length (few os).look [.ptr (some (F, 0))] = some (tagsA ts) := by
  obtain ⟨own, v, cs, h1, h2, h3⟩ := h.ex
  show (match (few os).look F with | some (.cells _ (v :: _)) => (match lookS (few os).look v with | some ts => if ts.length ≤ 4096 then some (tagsA ts) else none | none => none) | _ => none) = _
  rw [look_of (o := .cells own (v :: cs)) (by rw [few_next]; exact join_lt h1) (by rw [few_get]; exact h1) (by rw [few_next]; exact h2)]
  show (match lookS (few os).look v with | some ts => if ts.length ≤ 4096 then some (tagsA ts) else none | none => none) = _
  rw [h3]
  exact if_pos h.le
def TagsSF (call : CallT) (g : Nat) : Prop := ∀ os F ts, FontTags os F ts → call g [.ptr (some (F, 0))] (few os) = some ((tagsA ts).2 os.length, few (os ++ (tagsA ts).1.map some)) ∧
  (ts ≠ [] → ∀ fr, call g [.ptr (some (F, 0))] (limF fr .call [] (few os)) = some (.slice (some (os.length, 0)) 1 ts.length ts.length false, back (limF fr .call [] (few os)) (few (os ++ [some (.cells true (strsV ts))]))))
/- WHAT IS OPENED -/
theorem row_cells {α : Type} {c : Codec α} (hw : c.w = 1) {os : List (Option AObj)} {cs : List V} {l : List α} {g : α → V} (hl : cs.length = l.length * c.w) (h : ∀ (j : Nat) (a : α), l[j]? = some a → c.shows os ((cs.drop (j * c.w)).take c.w) a) (hg : ∀ us a, c.shows os us a → us = [g a]) : cs = l.map g := by
  refine List.ext_getElem? fun j => ?_
  by_cases hj : j < l.length
  · have h1 := hg _ _ (h j l[j] (List.getElem?_eq_getElem hj))
    rw [hw, Nat.mul_one] at h1
    have h2 := congrArg (fun x : List V => x[0]?) h1
    simp only [List.getElem?_take, List.getElem?_drop] at h2
    simpa [hj] using h2
  · rw [List.getElem?_eq_none (by rw [hl, hw]; omega), List.getElem?_eq_none (by rw [List.length_map]; omega)]
/-- A parameter of bytes by bytes. -/
structure Par (os : List (Option AObj)) (v : V) (bss : List (List Nat)) : Prop where
  ex : ∃ a r, v = .slice a 1 bss.length bss.length false ∧ (bss ≠ [] → a = some (r, 0)) ∧ RowsB os r bss
  lt : ∀ b ∈ bss, ∀ x ∈ b, x < 256
  len : ∀ b ∈ bss, b.length ≤ 140737488354000
/- THE RUN -/
theorem growVs {os : List (Option AObj)} {q n : Nat} {vs : List V} {v : V} (hn : n = vs.length) (hs : n ≤ 64) (h : n ≠ 0 → (os[q]?).join = some (.cells true vs)) :
    appendV (few os) 1 24 (tagsV q n) (some 1) (some [v]) = some (.slice (some (os.length, 0)) 1 (n + 1) (n + 1) false, few ((if n = 0 then os else os.set q none) ++ [some (AObj.cells true (vs ++ [v]))])) := by
  unfold tagsV
  split
  · rename_i h0
    subst h0
    have : vs = [] := by cases vs with | nil => rfl | cons _ _ => simp at hn
    subst this
    rw [grow_none, if_pos (by simp)]
    rfl
  · rename_i h0
    have hg := h h0
    have ho : ownAt os q = some vs := by rw [ownAt_eq, hg]
    rw [grow_some, ho, growC_some, if_pos (by simp; omega)]
theorem tagsV_succ {q n : Nat} : tagsV q (n + 1) = .slice (some (q, 0)) 1 (n + 1) (n + 1) false := if_neg (by omega)
/-- A table of bytes that was put by. -/
def heldV (p : Nat) (b : List Nat) : V := .slice (some (p, 0)) 1 b.length b.length (decide (b = []))
theorem clone_held {os : List (Option AObj)} {b : List Nat} : ∃ p l, cloneR os b = (heldV p b, few (os ++ l)) ∧ os.length ≤ p ∧ ((os ++ l)[p]?).join = some (newBytes b) := by
  unfold cloneR
  split
  · rename_i e
    subst e
    exact ⟨os.length, _, rfl, Nat.le_refl _, by simp⟩
  · rename_i e
    refine ⟨os.length + 1, [some (newBytes []), some (newBytes b)], ?_, by omega, ?_⟩
    · unfold heldV; rw [decide_eq_false e]
    · simp
def setK (k : Nat) (os : List (Option AObj)) (q : Nat) : List (Option AObj) := if k = 0 then os else os.set q none
theorem setK_len {k : Nat} {os : List (Option AObj)} {q : Nat} : (setK k os q).length = os.length := by unfold setK; split <;> simp
theorem setK_at {k : Nat} {os : List (Option AObj)} {q i : Nat} (h : k ≠ 0 → i ≠ q) : ((setK k os q)[i]?).join = (os[i]?).join := by
  unfold setK
  split
  · rfl
  · rename_i h0; rw [join_set (fun e => h h0 e.symm)]
/-- Tags and tables, held. -/
structure Held (N : Nat) (os0 os : List (Option AObj)) (q r : Nat) (tags ts : List (List Nat)) : Prop where
  old : ∀ i, i < N → (os[i]?).join = (os0[i]?).join
  le : N ≤ os.length
  tg : tags ≠ [] → N ≤ q ∧ (os[q]?).join = some (.cells true (strsV tags))
  tb : ts ≠ [] → N ≤ r ∧ ∃ vs, (os[r]?).join = some (.cells true vs) ∧ vs.length = ts.length ∧ ∀ (j : Nat) (v : V) (b : List Nat), vs[j]? = some v → ts[j]? = some b → ∃ p, v = heldV p b ∧ N ≤ p ∧ (tags ≠ [] → p ≠ q) ∧ p ≠ r ∧ (os[p]?).join = some (newBytes b)
  ne : tags ≠ [] → ts ≠ [] → q ≠ r
theorem Held.rows {N : Nat} {os0 os : List (Option AObj)} {q r : Nat} {tags ts : List (List Nat)} (h : Held N os0 os q r tags ts) (hb : ∀ t ∈ ts, ∀ b ∈ t, b < 256) : RowsB os r ts := by
  refine ⟨fun hne => ?_⟩
  obtain ⟨_, vs, h1, h2, h3⟩ := h.tb hne
  refine ⟨true, vs, h1, h2, fun j v b hv hb' => ?_⟩
  obtain ⟨p, rfl, _, _, _, h4⟩ := h3 j v b hv hb'
  exact lookB_own h4 (hb b (List.mem_of_getElem? hb'))
/-- One round: X2 holds new things beside the elder ones; the tags grow, a table is put by, the tables grow. -/
theorem Held.next {N k : Nat} {os0 os : List (Option AObj)} {q r : Nat} {tags ts : List (List Nat)} (h : Held N os0 os q r tags ts) (hk : tags.length = k) (hk2 : ts.length = k) {l1 l2 l3 : List (Option AObj)} {tag b : List Nat} {vs : List V} {p : Nat}
    (hvs : ts ≠ [] → (os[r]?).join = some (.cells true vs)) (hvl : vs.length = k) {X2 X3 X4 X5 X6 : List (Option AObj)} (e2 : X2 = os ++ l1) (e3 : X3 = setK k X2 q ++ [some (.cells true (strsV (tags ++ [tag])))]) (e4 : X4 = X3 ++ l2) (hp : X3.length ≤ p) (hpb : (X4[p]?).join = some (newBytes b)) (e5 : X5 = X4 ++ l3) (e6 : X6 = setK k X5 r ++ [some (.cells true (vs ++ [heldV p b]))]) :
    Held N os0 X6 X2.length X5.length (tags ++ [tag]) (ts ++ [b]) := by
  have n2 : X2.length = os.length + l1.length := by rw [e2, List.length_append]
  have n3 : X3.length = X2.length + 1 := by rw [e3]; simp [setK_len]
  have n4 : X4.length = X3.length + l2.length := by rw [e4, List.length_append]
  have n5 : X5.length = X4.length + l3.length := by rw [e5, List.length_append]
  have n6 : X6.length = X5.length + 1 := by rw [e6]; simp [setK_len]
  have hle := h.le
  have hpX := join_lt hpb
  have tne : k ≠ 0 → tags ≠ [] := fun h0 e => h0 (by rw [← hk, e]; rfl)
  have sne : k ≠ 0 → ts ≠ [] := fun h0 e => h0 (by rw [← hk2, e]; rfl)
  have hrl : k ≠ 0 → r < os.length := fun h0 => join_lt (hvs (sne h0))
  have hql : k ≠ 0 → q < os.length := fun h0 => join_lt (h.tg (tne h0)).2
  have keep3 : ∀ i, i < os.length → (k ≠ 0 → i ≠ q) → (X3[i]?).join = (os[i]?).join := fun i hi hq => by
    rw [e3, join_app (by rw [setK_len]; omega), setK_at hq, e2, join_app hi]
  have keep6 : ∀ i, i < X5.length → (k ≠ 0 → i ≠ r) → (X6[i]?).join = (X5[i]?).join := fun i hi hr => by
    rw [e6, join_app (by rw [setK_len]; omega), setK_at hr]
  have k53 : ∀ i, i < X3.length → (X5[i]?).join = (X3[i]?).join := fun i hi => by rw [e5, join_app (by omega), e4, join_app hi]
  have keep : ∀ i, i < os.length → (k ≠ 0 → i ≠ q) → (k ≠ 0 → i ≠ r) → (X6[i]?).join = (os[i]?).join := fun i hi hq hr => by
    rw [keep6 i (by omega) hr, k53 i (by omega), keep3 i hi hq]
  have p6 : (X6[p]?).join = some (newBytes b) := by
    rw [keep6 p (by omega) (fun h0 => by have := hrl h0; omega), e5, join_app hpX, hpb]
  refine ⟨fun i hi => ?_, by omega, fun _ => ⟨by omega, ?_⟩, fun _ => ⟨by omega, vs ++ [heldV p b], ?_, by simp [hvl, hk2], fun j v c hv hc => ?_⟩, fun _ _ => by omega⟩
  · rw [keep i (by omega) (fun h0 => by have := (h.tg (tne h0)).1; omega) (fun h0 => by have := (h.tb (sne h0)).1; omega), h.old i hi]
  · rw [keep6 _ (by omega) (fun h0 => by have := hrl h0; omega), k53 _ (by omega), e3, List.getElem?_append_right (by rw [setK_len]; exact Nat.le_refl _), setK_len, Nat.sub_self]
    rfl
  · rw [e6, List.getElem?_append_right (by rw [setK_len]; exact Nat.le_refl _), setK_len, Nat.sub_self]
    rfl
  · by_cases hj : j < k
    · rw [List.getElem?_append_left (by omega)] at hv hc
      have h0 : k ≠ 0 := by omega
      obtain ⟨_, vs', g1, g2, g3⟩ := h.tb (sne h0)
      have : vs' = vs := by
        rw [hvs (sne h0)] at g1
        injection g1 with g1
        injection g1 with _ g1
        exact g1.symm
      subst this
      obtain ⟨p', g4, g5, g6, g7, g8⟩ := g3 j v c hv hc
      have hpl := join_lt g8
      exact ⟨p', g4, g5, fun _ => by omega, by omega, by rw [keep p' hpl (fun _ => g6 (tne h0)) (fun _ => g7)]; exact g8⟩
    · have hjk : j = k := by
        have := (List.getElem?_eq_some_iff.1 hc).1
        simp at this
        omega
      subst hjk
      rw [List.getElem?_append_right (by omega), hvl, Nat.sub_self] at hv
      rw [List.getElem?_append_right (by omega), hk2, Nat.sub_self] at hc
      cases hv
      cases hc
      exact ⟨p, rfl, by omega, fun _ => by omega, by omega, p6⟩
/- A FONT IN MEMORY -/
structure FontMem (os : List (Option AObj)) (F : Nat) (L : List Itm) : Prop where
  f0 : (os[F]?).join = some (.cells true [tagsV (F + 2 + L.length) L.length, .map (some (F + 1))])
  f1 : (os[F + 1]?).join = some (.map true (entsF 0 (kvsOf L (idsOf' (F + 2) L.length))) L.length)
  ft : ∀ j x, L[j]? = some x → (os[F + 2 + j]?).join = some (newBytes x.2)
  fq : L ≠ [] → (os[F + 2 + L.length]?).join = some (.cells true (strsV (L.map (·.1))))
theorem FontMem.keep {os os' : List (Option AObj)} {F : Nat} {L : List Itm} (h : FontMem os F L) (he : ∀ i, i < os.length → (os'[i]?).join = (os[i]?).join) : FontMem os' F L :=
  ⟨by rw [he _ (join_lt h.f0)]; exact h.f0, by rw [he _ (join_lt h.f1)]; exact h.f1, fun j x hx => by rw [he _ (join_lt (h.ft j x hx))]; exact h.ft j x hx, fun hne => by rw [he _ (join_lt (h.fq hne))]; exact h.fq hne⟩
theorem font_mem {os : List (Option AObj)} {L : List Itm} : FontMem (os ++ (fontObjs os.length L).map some) os.length L := by
  have atF : ∀ j o, (fontObjs os.length L)[j]? = some o → ((os ++ (fontObjs os.length L).map some)[os.length + j]?).join = some o := by
    intro j o hj
    rw [List.getElem?_append_right (by omega), Nat.add_sub_cancel_left, List.getElem?_map, hj]
    rfl
  refine ⟨atF 0 _ rfl, atF 1 _ rfl, fun j x hx => ?_, fun hne => ?_⟩
  · have hj := (List.getElem?_eq_some_iff.1 hx).1
    have := atF (2 + j) (newBytes x.2) (by
      unfold fontObjs
      rw [List.getElem?_append_right (by simp), List.getElem?_append_left (by simp; omega)]
      simp [hx])
    rw [show os.length + 2 + j = os.length + (2 + j) from by omega]
    exact this
  · have := atF (2 + L.length) (.cells true (strsV (L.map (·.1)))) (by
      unfold fontObjs
      rw [if_neg hne, List.getElem?_append_right (by simp), List.getElem?_append_right (by simp)]
      simp)
    rw [show os.length + 2 + L.length = os.length + (2 + L.length) from by omega]
    exact this
theorem open_mem {call : CallT} {nO : Nat} (hO : OpenF call nO) {os : List (Option AObj)} {v : V} {bs : List Nat} {L : List Itm} (hg : v.good os.length = true) (hl : lookB (few os).look v = some bs) (hb : bs.length ≤ 140737488354000) (hf : fontS bs = .inr L) :
    ∃ l, call nO [v] (few os) = some (.tuple [.ptr (some (os.length, 0)), .int .i64 0], few (os ++ l)) ∧ FontMem (os ++ l) os.length L := by
  have h := hO os v bs hg hl hb
  rw [show openA os.length bs = (fontObjs os.length L, fun k => .tuple [.ptr (some (k, 0)), .int .i64 0]) from by unfold openA; rw [hf]] at h
  exact ⟨_, h, font_mem⟩
theorem FontMem.tags {os : List (Option AObj)} {F : Nat} {L : List Itm} (h : FontMem os F L) (hl : L.length ≤ 4096) : FontTags os F (L.map (·.1)) := by
  refine ⟨⟨true, _, _, h.f0, ?_, ?_⟩, by rw [List.length_map]; exact hl⟩
  · have h1 := join_lt h.f1
    unfold tagsV
    split
    · simp [goods, V.good]; exact h1
    · rename_i h0
      have h2 := join_lt (h.fq (fun e => h0 (by rw [e]; rfl)))
      simp [goods, V.good]
      exact ⟨h2, h1⟩
  · unfold tagsV
    split
    · rename_i h0
      have : L = [] := List.length_eq_zero_iff.1 h0
      rw [this]
      rfl
    · rename_i h0
      have h2 := h.fq (fun e => h0 (by rw [e]; rfl))
      obtain ⟨n, hn⟩ : ∃ n, L.length = n + 1 := ⟨L.length - 1, by omega⟩
      rw [hn] at h2 ⊢
      show (if n + 1 ≤ n + 1 then match (few os).look _ with | some (.cells _ cs) => (match cut 0 (n + 1) cs with | some x => strL x | none => none) | _ => none else none) = _
      rw [if_pos (Nat.le_refl _), look_of (o := .cells true (strsV (L.map (·.1)))) (by rw [few_next]; exact join_lt h2) (by rw [few_get]; exact h2) (flats_good (List.all_eq_true.2 strsV_flat))]
      show (match cut 0 (n + 1) (strsV (L.map (·.1))) with | some x => strL x | none => none) = _
      have hsl : (strsV (L.map (·.1))).length = n + 1 := by rw [strsV_len, List.length_map, hn]
      rw [cut_of (by omega), List.drop_zero, List.take_of_length_le (by omega)]
      exact strL_strs
theorem FontMem.table {call : CallT} {g : Nat} (hT : TableF call g) {os : List (Option AObj)} {F : Nat} {L : List Itm} (h : FontMem os F L) (hnd : (L.map (·.1)).Nodup) {k : Nat} {x : Itm} (hx : L[k]? = some x) (hs : x.2.length ≤ 140737488354816) :
    call g [.ptr (some (F, 0)), .str x.1] (few os) = some (.tuple [(cloneR os x.2).1, .bool true], (cloneR os x.2).2) := by
  have hk := (List.getElem?_eq_some_iff.1 hx).1
  refine hT os F (F + 1) L.length (F + 2 + k) k true true _ _ x.1 x.2 h.f0 h.f1 ?_ ?_ (h.ft k x hx) hs
  · unfold kvsOf idsOf'
    rw [List.getElem?_zipWith, hx]
    simp [hk]
  · intro m hm kv hkv e
    have h1 : ((kvsOf L (idsOf' (F + 2) L.length)).map (·.1))[m]? = some kv.1 := by rw [List.getElem?_map, hkv]; rfl
    rw [kvs_keys (by simp [idsOf']), e] at h1
    have h2 : (L.map (·.1))[k]? = some x.1 := by rw [List.getElem?_map, hx]; rfl
    have := nodup_at' hnd h1 h2
    omega
def TableNF (call : CallT) (g : Nat) : Prop := ∀ (os : List (Option AObj)) (F M c : Nat) (o1 o2 : Bool) (tv : V) (kvs : List (List Nat × V)) (t : List Nat), (os[F]?).join = some (.cells o1 [tv, .map (some M)]) → (os[M]?).join = some (.map o2 (entsF 0 kvs) c) → (∀ kv ∈ kvs, kv.1 ≠ t) →
  call g [.ptr (some (F, 0)), .str t] (few os) = some (.tuple [.slice none 0 0 0 true, .bool false], few os)
theorem FontMem.no {call : CallT} {g : Nat} (hT : TableNF call g) {os : List (Option AObj)} {F : Nat} {L : List Itm} (h : FontMem os F L) {t : List Nat} (ht : ¬ t ∈ L.map (·.1)) :
    call g [.ptr (some (F, 0)), .str t] (few os) = some (.tuple [.slice none 0 0 0 true, .bool false], few os) :=
  hT os F (F + 1) L.length true true _ _ t h.f0 h.f1 fun kv hkv e => ht (by
    have : kv.1 ∈ (kvsOf L (idsOf' (F + 2) L.length)).map (·.1) := List.mem_map.2 ⟨kv, hkv, rfl⟩
    rw [kvs_keys (by simp [idsOf']), e] at this
    exact this)
/- THE RUN OF SFNTBACK -/
def tagT (c i : Nat) : List Nat := [84, i + 32, c, 7]
def tagsT (c k : Nat) : List (List Nat) := (List.range k).map (tagT c)
def cutsT (bss : List (List Nat)) (k : Nat) : List (List Nat) := (bss.take k).map fun b => b.take 80
theorem tagsT_succ {c k : Nat} : tagsT c (k + 1) = tagsT c k ++ [tagT c k] := by unfold tagsT; rw [List.range_succ, List.map_append]; rfl
theorem tagsT_len {c k : Nat} : (tagsT c k).length = k := by simp [tagsT]
theorem cutsT_succ {bss : List (List Nat)} {k : Nat} {b : List Nat} (h : bss[k]? = some b) : cutsT bss (k + 1) = cutsT bss k ++ [b.take 80] := by unfold cutsT; rw [List.take_add_one, h, List.map_append]; rfl
theorem cutsT_len {bss : List (List Nat)} {k : Nat} (h : k ≤ bss.length) : (cutsT bss k).length = k := by simp [cutsT]; omega
theorem flatten_le {l : List (List Nat)} {m : Nat} (h : ∀ t ∈ l, t.length ≤ m) : l.flatten.length ≤ m * l.length := by
  induction l with
  | nil => simp
  | cons t l ih =>
    have h1 := h t (List.mem_cons_self ..)
    have h2 := ih fun x hx => h x (List.mem_cons_of_mem _ hx)
    rw [List.flatten_cons, List.length_append, List.length_cons, Nat.mul_succ]
    omega
theorem tagsT_nodup {c k : Nat} : (tagsT c k).Nodup := by
  unfold tagsT
  rw [List.nodup_iff_pairwise_ne, List.pairwise_map]
  refine List.Pairwise.imp ?_ (List.nodup_iff_pairwise_ne.1 List.nodup_range)
  intro a b hab e
  have := congrArg (fun l : List Nat => l[1]?) e
  simp [tagT] at this
  omega
theorem held_str {os : List (Option AObj)} {p : Nat} {b : List Nat} (h : (os[p]?).join = some (newBytes b)) (hb : ∀ x ∈ b, x < 256) {c : Nat} {f : Bool} : convV (few os) .toStr (.slice (some (p, 0)) 1 b.length c f) = some (.str b) := by
  have := str_part (c := c) (f := f) (m := b.length) (n := b.length) (o := 0) h (by rw [bytesV_len]; omega) (by rw [List.drop_zero, List.take_of_length_le (by rw [bytesV_len]; exact Nat.le_refl _)]) hb 0 (by omega)
  rw [List.drop_zero, List.take_length] at this
  exact this
set_option maxHeartbeats 4000000 in
theorem Back_run {call : CallT} {lf nP nF nL nO nK nT nB : Nat} (hlf : 40 ≤ lf) (hP : PickF call nP) (hF : FewF call nF) (hL : LayF call nL) (hO : OpenF call nO) (hK : ∀ st, call nK [] st = some (.bool true, st)) (hT : TagsSF call nT) (hB : TableF call nB) (hN : TableNF call nB)
    {os : List (Option AObj)} {v : V} {a' : Option (Nat × Nat)} {bss : List (List Nat)} {m : Nat} (hv : Par os v bss) (hm : m ≤ 140737488354000) (hbl : bss.length ≤ 140737488354000) :
    ∃ s1, enterF call lf [v, .slice a' 1 m m false] (few os) (SfntBack_c nP nF nL nO nK nT nB) = some (.bool true, s1) := by
  refine enter_ex ?_
  obtain ⟨a, r0, rfl, har, hrow⟩ := hv.ex
  obtain ⟨n, hn⟩ : ∃ n, n = min bss.length 20 := ⟨_, rfl⟩
  obtain ⟨M, hM⟩ : ∃ M, M = bss.length := ⟨_, rfl⟩
  rw [← hM] at hn
  obtain ⟨c, hc⟩ : ∃ c, c = (pickI (m : Int) 250).toNat := ⟨_, rfl⟩
  have hpk := pickI_lt (n := (m : Int)) (m := 250) (by omega)
  have hc2 : c < 250 := by omega
  have pk : ∀ st, call nP [.int .i64 (m : Int), .int .i64 250] st = some (.int .i64 (c : Int), st) := fun st => by
    rw [hP _ _ _ (by omega) (by omega)]
    show some (V.int .i64 (pickI (m : Int) 250), st) = some (V.int .i64 (c : Int), st)
    rw [show pickI (m : Int) 250 = (c : Int) from by omega]
  have w8c : wrapV .u8 (c : Int) = (c : Int) := wrap_u8 (by omega)
  obtain ⟨N, hNe⟩ : ∃ N, N = os.length := ⟨_, rfl⟩
  rw [← hM]
  simp
  refine wp_loop (fun k s st => ∃ i X q r, i + k = n ∧ st = few X ∧ Held N os X q r (tagsT c i) (cutsT bss i) ∧
    s .h = .slice a 1 M M false ∧ s (.o .h) = .slice a' 1 m m false ∧ s (.o (.i .h)) = tagsV q i ∧ s (.i (.i .h)) = tagsV r i ∧ s (.o (.o (.o .h))) = .int .i64 (i : Int)) n ?_ (by omega) ?_
  · refine ⟨0, os, 0, 0, by omega, rfl, ⟨fun i hi => rfl, by omega, fun h => absurd rfl h, fun h => absurd (by simp [cutsT]) h, fun h => absurd rfl h⟩, ?_, ?_, ?_, ?_, ?_⟩ <;> simp [tagsV]
  · rintro k s st ⟨i, X0, q, r, hk, rfl, hH, s1, s2, s3, s4, s5⟩
    obtain ⟨x0, hx0⟩ : ∃ x0, X0.length = x0 := ⟨_, rfl⟩
    have hle := hH.le
    cases k with
    | succ k =>
      have hin : i < n := by omega
      have hiM : i < M := by omega
      have hi20 : i < 20 := by omega
      obtain ⟨b, hb⟩ : ∃ b, bss[i]? = some b := ⟨_, List.getElem?_eq_getElem (by omega)⟩
      have hbne : bss ≠ [] := fun e => by rw [e] at hb; simp at hb
      have har := har hbne
      subst har
      have hbb := hv.lt b (List.mem_of_getElem? hb)
      have hbl2 := hv.len b (List.mem_of_getElem? hb)
      obtain ⟨a8, ha8⟩ : ∃ a8, a8 = i + 32 := ⟨_, rfl⟩
      have w8a : wrapV .u8 ((i : Int) + 32) = (a8 : Int) := by
        rw [show ((i : Int) + 32) = ((a8 : Nat) : Int) from by omega]
        exact wrap_u8 (by omega)
      -- the tag
      obtain ⟨X1, hX1⟩ : ∃ X1, X1 = X0 ++ [some (newBytes [a8, c, 7])] := ⟨_, rfl⟩
      have e1 : X1.length = x0 + 1 := by rw [hX1]; simp [hx0]
      have al1 : (few X0).alloc (.cells true [.int .u8 (a8 : Int), .int .u8 (c : Int), .int .u8 7]) = some (x0, few X1) := by rw [hX1, ← hx0]; exact few_alloc X0 _
      have cv1 : convV (few X1) .toStr (.slice (some (x0, 0)) 1 3 3 true) = some (.str [a8, c, 7]) := held_str (b := [a8, c, 7]) (by rw [hX1, ← hx0]; simp) (by intro x hx; simp at hx; omega)
      have ad1 : binV .add (.val .str) (.str [84]) (.str [a8, c, 7]) = some (.str (tagT c i)) := by rw [bin_adds (by simp), ha8]; rfl
      obtain ⟨t, ht⟩ : ∃ t, t = tagT c i := ⟨_, rfl⟩
      rw [← ht] at ad1
      obtain ⟨X2, hX2⟩ : ∃ X2, X2 = X1 ++ [some (AObj.cells true [V.str t])] := ⟨_, rfl⟩
      have e2 : X2.length = x0 + 2 := by rw [hX2]; simp [e1]
      have al2 : (few X1).alloc (.cells true [.str t]) = some (x0 + 1, few X2) := by rw [hX2, ← e1]; exact few_alloc X1 _
      have fi2 : firstN (few X2) 1 1 (.slice (some (x0 + 1, 0)) 1 1 1 true) = some [V.str t] := by
        show sel (Nat.beq 1 1 && Nat.ble 1 1) ((few X2).loadN (x0 + 1) 0 (1 * 1)) none = _
        rw [loadN_few (own := true) (cs := [V.str t]) (by rw [hX2, ← e1]; simp) (by simp)]
        rfl
      have hX2' : X2 = X0 ++ [some (newBytes [a8, c, 7]), some (AObj.cells true [V.str t])] := by rw [hX2, hX1]; simp
      have tne : i ≠ 0 → tagsT c i ≠ [] := fun h0 e => h0 (by have := congrArg List.length e; rw [tagsT_len] at this; exact this)
      have cl := cutsT_len (bss := bss) (k := i) (by omega)
      have sne : i ≠ 0 → cutsT bss i ≠ [] := fun h0 e => h0 (by have := congrArg List.length e; rw [cl] at this; exact this)
      have hql : i ≠ 0 → q < X0.length := fun h0 => join_lt (hH.tg (tne h0)).2
      have g2 := growTags (os := X2) (q := q) (n := i) (ts := tagsT c i) (tag := t) tagsT_len.symm (by omega) (fun h0 => by rw [hX2', join_app (hql h0)]; exact (hH.tg (tne h0)).2)
      obtain ⟨X3, hX3⟩ : ∃ X3, X3 = setK i X2 q ++ [some (AObj.cells true (strsV (tagsT c i ++ [t])))] := ⟨_, rfl⟩
      have e3 : X3.length = x0 + 3 := by rw [hX3]; simp [setK_len, e2]
      have g2 : appendV (few X2) 1 16 (tagsV q i) (some 1) (some [V.str t]) = some (.slice (some (x0 + 2, 0)) 1 (i + 1) (i + 1) false, few X3) := by rw [hX3, ← e2]; exact g2
      -- the table
      have hkeep3 : ∀ j, j < os.length → (X3[j]?).join = (os[j]?).join := fun j hj => by
        rw [hX3, join_app (by rw [setK_len]; omega), setK_at (fun h0 => by have := (hH.tg (tne h0)).1; omega), hX2', join_app (by omega), hH.old j (by omega)]
      obtain ⟨w, ldw, hwg, hwl, _⟩ := (hrow.keep hkeep3 (by omega)).at_ hb
      obtain ⟨p, l4, hcl, hpl, hpb⟩ := clone_held (os := X3) (b := b.take 80)
      have fw := hF X3 w b 80 (lookB_at hwl) (by omega) (by omega)
      rw [hcl] at fw
      obtain ⟨X4, hX4⟩ : ∃ X4, X4 = X3 ++ l4 := ⟨_, rfl⟩
      rw [← hX4] at fw hpb
      obtain ⟨bl, hbl'⟩ : ∃ bl, bl = (b.take 80).length := ⟨_, rfl⟩
      obtain ⟨fb, hfb⟩ : ∃ fb, fb = decide (b.take 80 = []) := ⟨_, rfl⟩
      have hheld : heldV p (b.take 80) = .slice (some (p, 0)) 1 bl bl fb := by unfold heldV; rw [← hbl', ← hfb]
      rw [hheld] at fw
      have fw : call nF [w, .int .i64 80] (few X3) = some (.slice (some (p, 0)) 1 bl bl fb, few X4) := fw
      obtain ⟨x4, hx4⟩ : ∃ x4, X4.length = x4 := ⟨_, rfl⟩
      obtain ⟨X5, hX5⟩ : ∃ X5, X5 = X4 ++ [some (AObj.cells true [V.slice (some (p, 0)) 1 bl bl fb])] := ⟨_, rfl⟩
      have e5 : X5.length = x4 + 1 := by rw [hX5]; simp [hx4]
      have al5 : (few X4).alloc (.cells true [.slice (some (p, 0)) 1 bl bl fb]) = some (x4, few X5) := by rw [hX5, ← hx4]; exact few_alloc X4 _
      have fi5 : firstN (few X5) 1 1 (.slice (some (x4, 0)) 1 1 1 true) = some [V.slice (some (p, 0)) 1 bl bl fb] := by
        show sel (Nat.beq 1 1 && Nat.ble 1 1) ((few X5).loadN x4 0 (1 * 1)) none = _
        rw [loadN_few (own := true) (cs := [V.slice (some (p, 0)) 1 bl bl fb]) (by rw [hX5, ← hx4]; simp) (by simp)]
        rfl
      obtain ⟨vs, hvs, hvl⟩ : ∃ vs, (cutsT bss i ≠ [] → (X0[r]?).join = some (.cells true vs)) ∧ vs.length = i := by
        by_cases h0 : i = 0
        · exact ⟨[], fun h => absurd (by rw [h0]; simp [cutsT]) h, by rw [h0]; rfl⟩
        · obtain ⟨_, vs, h1, h2, _⟩ := hH.tb (sne h0)
          exact ⟨vs, fun _ => h1, by rw [h2, cl]⟩
      have l4e : X4.length = X3.length + l4.length := by rw [hX4, List.length_append]
      have hrl : i ≠ 0 → r < X0.length := fun h0 => join_lt (hvs (sne h0))
      have hrq : i ≠ 0 → r ≠ q := fun h0 => (hH.ne (tne h0) (sne h0)).symm
      have g5 := growVs (os := X5) (q := r) (n := i) (vs := vs) (v := V.slice (some (p, 0)) 1 bl bl fb) hvl.symm (by omega) (fun h0 => by
        have := hrl h0
        rw [hX5, join_app (by omega), hX4, join_app (by omega), hX3, join_app (by rw [setK_len]; omega), setK_at hrq, hX2', join_app this]; exact hvs (sne h0))
      obtain ⟨X6, hX6⟩ : ∃ X6, X6 = setK i X5 r ++ [some (AObj.cells true (vs ++ [heldV p (b.take 80)]))] := ⟨_, rfl⟩
      have g5 : appendV (few X5) 1 24 (tagsV r i) (some 1) (some [V.slice (some (p, 0)) 1 bl bl fb]) = some (.slice (some (x4 + 1, 0)) 1 (i + 1) (i + 1) false, few X6) := by rw [hX6, hheld, ← e5]; exact g5
      have hH6 := hH.next tagsT_len cl hvs hvl hX2' hX3 hX4 hpl hpb hX5 hX6
      rw [ht, ← tagsT_succ, ← cutsT_succ hb, e2, e5] at hH6
      simp (disch := omega) [s1, s2, s3, s4, s5, dlt_t, dlt_f, dle_t, dle_f, dltn_t, dltn_f, dlen_t, dlen_f, deq_t, deq_f, deqn_t, deqn_f, wrap_i, pk, w8a, w8c, al1, cv1, ad1, al2, fi2, lenOf, firstNo, g2, natOf_int, idxAddr_slice, ldw, fw, al5, fi5, g5]
      exact ⟨k, by omega, i + 1, by omega, X6, rfl, x0 + 2, x4 + 1, hH6, tagsV_succ.symm, tagsV_succ.symm, by omega⟩
    | zero =>
      have hin : i = n := by omega
      subst hin
      obtain ⟨tags, htg⟩ : ∃ tags, tags = tagsT c i := ⟨_, rfl⟩
      obtain ⟨ts, hts⟩ : ∃ ts, ts = cutsT bss i := ⟨_, rfl⟩
      rw [← htg, ← hts] at hH
      have tl : tags.length = i := by rw [htg]; exact tagsT_len
      have sl : ts.length = i := by rw [hts]; exact cutsT_len (by omega)
      have hc4 : ∀ t ∈ tags, t.length = 4 ∧ (∀ b ∈ t, b < 256) ∧ t[0]? = some 84 := by
        intro t ht
        rw [htg] at ht
        obtain ⟨j, hj, rfl⟩ := List.mem_map.1 ht
        have := List.mem_range.1 hj
        refine ⟨rfl, fun b hb => ?_, rfl⟩
        simp [tagT] at hb
        omega
      have hcut : ∀ t ∈ ts, t.length ≤ 80 ∧ ∀ b ∈ t, b < 256 := by
        intro t ht
        rw [hts] at ht
        obtain ⟨b, hb, rfl⟩ := List.mem_map.1 ht
        exact ⟨by rw [List.length_take]; omega, fun x hx => hv.lt b (List.mem_of_mem_take hb) x (List.mem_of_mem_take hx)⟩
      have hnd : tags.Nodup := by rw [htg]; exact tagsT_nodup
      have hfl := flatten_le (l := ts) (m := 80) fun t ht => (hcut t ht).1
      rw [sl] at hfl
      -- laid
      obtain ⟨u, Y, hlay, hpost⟩ := hL X0 q r false false tags ts (fun hne => ⟨true, (hH.tg hne).2⟩) (hH.rows fun t ht => (hcut t ht).2) (fun t ht => (hc4 t ht).2.1) (fun t ht => (hcut t ht).2) (by omega) (by omega) (by omega)
      obtain ⟨hY1, hY2, hY3⟩ := hpost
      have hls : layS tags ts = some (layL (tags.zip ts)) := if_pos ⟨by omega, by omega, fun t ht => (hc4 t ht).1, hnd⟩
      rw [hls] at hY3
      obtain ⟨p, rfl, hp, hpb⟩ := hY3
      rw [tl, sl, ← tagsV_slT, ← tagsV_slT] at hlay
      obtain ⟨L, hLe⟩ : ∃ L, L = tags.zip ts := ⟨_, rfl⟩
      rw [← hLe] at hlay hpb
      have hLn : L.length = i := by rw [hLe, List.length_zip]; omega
      have hL1 : L.map (·.1) = tags := by rw [hLe]; exact zip_map1 (by omega)
      have hL2 : L.map (·.2) = ts := by rw [hLe]; exact zip_map2 (by omega)
      have htagged : Tagged L := fun x hx => (hc4 x.1 (by rw [← hL1]; exact List.mem_map.2 ⟨x, hx, rfl⟩)).1
      have hflat : (flatT L).length ≤ 80 * i := by unfold flatT; rw [hL2]; exact hfl
      have hfont : fontS (layL L) = .inr L := font_lay htagged (by rw [hL1]; exact hnd) (by omega) (by omega)
      have hbytes : ∀ b ∈ layL L, b < 256 := lay_lt (by omega) (fun x hx => (hc4 x.1 (by rw [← hL1]; exact List.mem_map.2 ⟨x, hx, rfl⟩)).2.1) (fun x hx => (hcut x.2 (by rw [← hL2]; exact List.mem_map.2 ⟨x, hx, rfl⟩)).2)
      obtain ⟨B, hBe⟩ : ∃ B, B = (layL L).length := ⟨_, rfl⟩
      have hBl : B ≤ 140737488354000 := by rw [hBe, layL_len htagged]; omega
      obtain ⟨og, ol⟩ := lookB_own (f := false) hpb hbytes
      rw [← hBe] at og ol hlay
      -- opened
      obtain ⟨lZ, hop, hfm⟩ := open_mem hO og ol (by omega) hfont
      obtain ⟨F, hFe⟩ : ∃ F, F = Y.length := ⟨_, rfl⟩
      rw [← hFe] at hop hfm
      obtain ⟨Z, hZe⟩ : ∃ Z, Z = Y ++ lZ := ⟨_, rfl⟩
      rw [← hZe] at hop hfm
      have hZk : ∀ j, j < Y.length → (Z[j]?).join = (Y[j]?).join := fun j hj => by rw [hZe]; exact join_app hj
      have hZl : Y.length ≤ Z.length := by rw [hZe, List.length_append]; omega
      have hft := hfm.tags (by omega)
      rw [hL1] at hft
      obtain ⟨ht1, ht2⟩ := hT Z F tags hft
      obtain ⟨tv, hlt, ⟨lT, hTe⟩, htv⟩ : ∃ tv, lenV (few (Z ++ (tagsA tags).1.map some)) .slice tv = some (.int .i64 (i : Int)) ∧ (∃ lT, Z ++ (tagsA tags).1.map some = Z ++ lT) ∧ (tagsA tags).2 Z.length = tv := by
        refine ⟨_, ?_, ⟨_, rfl⟩, rfl⟩
        unfold tagsA
        split
        · rename_i e
          have : i = 0 := by rw [← tl, e]; rfl
          rw [this]; rfl
        · rw [← tl]; rfl
      rw [htv, hTe] at ht1
      rw [hTe] at hlt
      have hlw : lenV (few (Z ++ lT)) .slice (tagsV q i) = some (.int .i64 (i : Int)) := by
        unfold tagsV
        split
        · rename_i h0; rw [h0]; rfl
        · rfl
      obtain ⟨W, hWe⟩ : ∃ W, W = Z ++ lT := ⟨_, rfl⟩
      rw [← hWe] at ht1 hlt hlw
      have hWk : ∀ j, j < Z.length → (W[j]?).join = (Z[j]?).join := fun j hj => by rw [hWe]; exact join_app hj
      have hWl : Z.length ≤ W.length := by rw [hWe, List.length_append]; omega
      have hXW : ∀ j, j < X0.length → (W[j]?).join = (X0[j]?).join := fun j hj => by rw [hWk j (by omega), hZk j (by omega), hY1 j hj]
      have hfmW := hfm.keep hWk
      by_cases hiM : i < M
      · have h20 : i = 20 := by omega
        simp (disch := omega) [s1, s2, s3, s4, s5, dlt_t, dlt_f, dle_t, dle_f, dltn_t, dltn_f, dlen_t, dlen_f, deq_t, deq_f, deqn_t, deqn_f, hlay, hop, hK, bin_eqptr, ht1, hlt, hlw]
        refine wp_loop (fun k s st => ∃ j l', j + k = i ∧ st = few (W ++ l') ∧ s (.o (.i .h)) = tagsV q i ∧ s (.i (.i .h)) = tagsV r i ∧ s (.i (.i (.o .h))) = .ptr (some (F, 0)) ∧ s (.i (.o (.i (.o (.i (.o .h)))))) = .int .i64 (i : Int) ∧ s (.o (.i (.i (.o (.i (.o .h)))))) = .int .i64 (j : Int)) i ?_ (by omega) ?_
        · refine ⟨0, [], by omega, by rw [List.append_nil], ?_, ?_, ?_, ?_, ?_⟩ <;> simp [s3, s4]
        · rintro k s st ⟨j, l', hk, rfl, z1, z2, z3, z4, z5⟩
          obtain ⟨U, hUe⟩ : ∃ U, U = W ++ l' := ⟨_, rfl⟩
          rw [← hUe]
          have hUk : ∀ j, j < W.length → (U[j]?).join = (W[j]?).join := fun j hj => by rw [hUe]; exact join_app hj
          have hUl : W.length ≤ U.length := by rw [hUe, List.length_append]; omega
          have hXU : ∀ j, j < X0.length → (U[j]?).join = (X0[j]?).join := fun j hj => by rw [hUk j (by omega), hXW j hj]
          have hfmU := hfmW.keep hUk
          cases k with
          | zero =>
            have hji : j = i := by omega
            subst hji
            have no1 := hfmU.no hN (t := [67, 79, 76, 82]) (by rw [hL1]; intro hm; have := (hc4 _ hm).2.2; simp at this)
            have no2 := hfmU.no hN (t := [84]) (by rw [hL1]; intro hm; have := (hc4 _ hm).1; simp at this)
            simp (disch := omega) [z1, z2, z3, z4, z5, dlt_t, dlt_f, dle_t, dle_f, dltn_t, dltn_f, dlen_t, dlen_f, deq_t, deq_f, deqn_t, deqn_f, no1, no2]
          | succ k =>
            have hji : j < i := by omega
            obtain ⟨t, ht⟩ : ∃ t, tags[j]? = some t := ⟨_, List.getElem?_eq_getElem (by omega)⟩
            obtain ⟨b, hb⟩ : ∃ b, ts[j]? = some b := ⟨_, List.getElem?_eq_getElem (by omega)⟩
            have hLj : L[j]? = some (t, b) := by rw [hLe, List.getElem?_zip_eq_some]; exact ⟨ht, hb⟩
            have tne : tags ≠ [] := fun e => by rw [e] at ht; simp at ht
            have sne : ts ≠ [] := fun e => by rw [e] at hb; simp at hb
            have hq1 : tagsV q i = .slice (some (q, 0)) 1 i i false := if_neg (by omega)
            have hr1 : tagsV r i = .slice (some (r, 0)) 1 i i false := if_neg (by omega)
            have hqX := (hH.tg tne).2
            have hql := join_lt hqX
            obtain ⟨_, vs, hrX, hvl, hheld⟩ := hH.tb sne
            have hrl := join_lt hrX
            obtain ⟨hbl80, hbb⟩ := hcut b (List.mem_of_getElem? hb)
            obtain ⟨v0, hv0⟩ : ∃ v, vs[j]? = some v := ⟨_, List.getElem?_eq_getElem (by omega)⟩
            obtain ⟨p2, rfl, _, _, _, hp2⟩ := hheld j v0 b hv0 hb
            have hp2l := join_lt hp2
            have ldt : loadV (few U) false 1 (.ptr (some (q, j))) = some (.str t) := by
              rw [load_few (show (U[q]?).join = some (.cells true (strsV tags)) by rw [hXU q hql]; exact hqX), strsV_at, ht]; rfl
            have htab := hfmU.table hB (by rw [hL1]; exact hnd) hLj (show b.length ≤ _ by omega)
            have htab : call nB [.ptr (some (F, 0)), .str t] (few U) = some (.tuple [(cloneR U b).1, .bool true], (cloneR U b).2) := htab
            obtain ⟨p1, l1, hcl, hpl1, hpb1⟩ := clone_held (os := U) (b := b)
            rw [hcl] at htab
            obtain ⟨U1, hU1⟩ : ∃ U1, U1 = U ++ l1 := ⟨_, rfl⟩
            rw [← hU1] at htab hpb1
            have hU1l : U.length ≤ U1.length := by rw [hU1, List.length_append]; omega
            have hU1k : ∀ j, j < U.length → (U1[j]?).join = (U[j]?).join := fun j hj => by rw [hU1]; exact join_app hj
            have hp1l := join_lt hpb1
            obtain ⟨bl, hbl'⟩ : ∃ bl, bl = b.length := ⟨_, rfl⟩
            obtain ⟨fb, hfb⟩ : ∃ fb, fb = decide (b = []) := ⟨_, rfl⟩
            have hh : ∀ p, heldV p b = .slice (some (p, 0)) 1 bl bl fb := fun p => by unfold heldV; rw [← hbl', ← hfb]
            have htab : call nB [.ptr (some (F, 0)), .str t] (few U) = some (.tuple [.slice (some (p1, 0)) 1 bl bl fb, .bool true], few U1) := by rw [htab]; dsimp only; rw [hh]
            have hft1 := (hfmU.keep hU1k).tags (by omega)
            rw [hL1] at hft1
            obtain ⟨_, tg2⟩ := hT U1 F tags hft1
            obtain ⟨u1, hu1⟩ : ∃ u1, U1.length = u1 := ⟨_, rfl⟩
            obtain ⟨U2, hU2⟩ : ∃ U2, U2 = U1 ++ [some (AObj.cells true (strsV tags))] := ⟨_, rfl⟩
            have e2 : U2.length = u1 + 1 := by rw [hU2]; simp [hu1]
            have tg2 : ∀ fr, call nT [.ptr (some (F, 0))] (limF fr .call [] (few U1)) = some (.slice (some (u1, 0)) 1 i i false, back (limF fr .call [] (few U1)) (few U2)) := fun fr => by
              have := tg2 tne fr
              rw [tl, hu1, ← hU2] at this
              exact this
            have hU2k : ∀ j, j < U1.length → (U2[j]?).join = (U1[j]?).join := fun j hj => by rw [hU2]; exact join_app hj
            have ld1 : loadV (few U2) false 1 (.ptr (some (u1, j))) = some (.str t) := by
              rw [load_few (show (U2[u1]?).join = some (.cells true (strsV tags)) by rw [hU2, ← hu1]; simp), strsV_at, ht]; rfl
            have ld2 : loadV (few U2) false 1 (.ptr (some (q, j))) = some (.str t) := by
              rw [load_few (show (U2[q]?).join = some (.cells true (strsV tags)) by rw [hU2k q (by omega), hU1k q (by omega), hXU q hql]; exact hqX), strsV_at, ht]; rfl
            have ld3 : loadV (few U2) false 1 (.ptr (some (r, j))) = some (.slice (some (p2, 0)) 1 bl bl fb) := by
              rw [load_few (show (U2[r]?).join = some (.cells true vs) by rw [hU2k r (by omega), hU1k r (by omega), hXU r hrl]; exact hrX), hv0, hh]
            have cs1 : convV (few U2) .toStr (.slice (some (p1, 0)) 1 bl bl fb) = some (.str b) := by
              rw [hbl']; exact held_str (by rw [hU2k p1 hp1l]; exact hpb1) hbb
            have cs2 : convV (few U2) .toStr (.slice (some (p2, 0)) 1 bl bl fb) = some (.str b) := by
              rw [hbl']; exact held_str (by rw [hU2k p2 (by omega), hU1k p2 (by omega), hXU p2 hp2l]; exact hp2) hbb
            have hq3 : q < u1 := by omega
            have hr3 : r < u1 := by omega
            simp (disch := omega) [z1, z2, z3, z4, z5, hq1, hr1, hji, dlt_t, dlt_f, dle_t, dle_f, dltn_t, dltn_f, dlen_t, dlen_f, deq_t, deq_f, deqn_t, deqn_f, natOf_int, idxAddr_slice, ldt, htab, foot_call, tg2, idOf, load_d, ld1, ld2, ld3, convStr_d, cs1, cs2, hu1, e2, next_back, back_back, back_few, back_limF, next_limF, ble_dec, nbeq_dec, meets_cons, mem_cons, mem_nil, wrap_i]
            exact ⟨k, by omega, j + 1, by omega, ⟨_, by rw [hU2, hU1, hUe, List.append_assoc, List.append_assoc]⟩, by omega⟩
      · simp (disch := omega) [s1, s2, s3, s4, s5, dlt_t, dlt_f, dle_t, dle_f, dltn_t, dltn_f, dlen_t, dlen_f, deq_t, deq_f, deqn_t, deqn_f, hlay, hop, hK, bin_eqptr, ht1, hlt, hlw]
        refine wp_loop (fun k s st => ∃ j l', j + k = i ∧ st = few (W ++ l') ∧ s (.o (.i .h)) = tagsV q i ∧ s (.i (.i .h)) = tagsV r i ∧ s (.i (.i (.o .h))) = .ptr (some (F, 0)) ∧ s (.i (.o (.i (.o (.i (.o .h)))))) = .int .i64 (i : Int) ∧ s (.o (.i (.i (.o (.i (.o .h)))))) = .int .i64 (j : Int)) i ?_ (by omega) ?_
        · refine ⟨0, [], by omega, by rw [List.append_nil], ?_, ?_, ?_, ?_, ?_⟩ <;> simp [s3, s4]
        · rintro k s st ⟨j, l', hk, rfl, z1, z2, z3, z4, z5⟩
          obtain ⟨U, hUe⟩ : ∃ U, U = W ++ l' := ⟨_, rfl⟩
          rw [← hUe]
          have hUk : ∀ j, j < W.length → (U[j]?).join = (W[j]?).join := fun j hj => by rw [hUe]; exact join_app hj
          have hUl : W.length ≤ U.length := by rw [hUe, List.length_append]; omega
          have hXU : ∀ j, j < X0.length → (U[j]?).join = (X0[j]?).join := fun j hj => by rw [hUk j (by omega), hXW j hj]
          have hfmU := hfmW.keep hUk
          cases k with
          | zero =>
            have hji : j = i := by omega
            subst hji
            have no1 := hfmU.no hN (t := [67, 79, 76, 82]) (by rw [hL1]; intro hm; have := (hc4 _ hm).2.2; simp at this)
            have no2 := hfmU.no hN (t := [84]) (by rw [hL1]; intro hm; have := (hc4 _ hm).1; simp at this)
            simp (disch := omega) [z1, z2, z3, z4, z5, dlt_t, dlt_f, dle_t, dle_f, dltn_t, dltn_f, dlen_t, dlen_f, deq_t, deq_f, deqn_t, deqn_f, no1, no2]
          | succ k =>
            have hji : j < i := by omega
            obtain ⟨t, ht⟩ : ∃ t, tags[j]? = some t := ⟨_, List.getElem?_eq_getElem (by omega)⟩
            obtain ⟨b, hb⟩ : ∃ b, ts[j]? = some b := ⟨_, List.getElem?_eq_getElem (by omega)⟩
            have hLj : L[j]? = some (t, b) := by rw [hLe, List.getElem?_zip_eq_some]; exact ⟨ht, hb⟩
            have tne : tags ≠ [] := fun e => by rw [e] at ht; simp at ht
            have sne : ts ≠ [] := fun e => by rw [e] at hb; simp at hb
            have hq1 : tagsV q i = .slice (some (q, 0)) 1 i i false := if_neg (by omega)
            have hr1 : tagsV r i = .slice (some (r, 0)) 1 i i false := if_neg (by omega)
            have hqX := (hH.tg tne).2
            have hql := join_lt hqX
            obtain ⟨_, vs, hrX, hvl, hheld⟩ := hH.tb sne
            have hrl := join_lt hrX
            obtain ⟨hbl80, hbb⟩ := hcut b (List.mem_of_getElem? hb)
            obtain ⟨v0, hv0⟩ : ∃ v, vs[j]? = some v := ⟨_, List.getElem?_eq_getElem (by omega)⟩
            obtain ⟨p2, rfl, _, _, _, hp2⟩ := hheld j v0 b hv0 hb
            have hp2l := join_lt hp2
            have ldt : loadV (few U) false 1 (.ptr (some (q, j))) = some (.str t) := by
              rw [load_few (show (U[q]?).join = some (.cells true (strsV tags)) by rw [hXU q hql]; exact hqX), strsV_at, ht]; rfl
            have htab := hfmU.table hB (by rw [hL1]; exact hnd) hLj (show b.length ≤ _ by omega)
            have htab : call nB [.ptr (some (F, 0)), .str t] (few U) = some (.tuple [(cloneR U b).1, .bool true], (cloneR U b).2) := htab
            obtain ⟨p1, l1, hcl, hpl1, hpb1⟩ := clone_held (os := U) (b := b)
            rw [hcl] at htab
            obtain ⟨U1, hU1⟩ : ∃ U1, U1 = U ++ l1 := ⟨_, rfl⟩
            rw [← hU1] at htab hpb1
            have hU1l : U.length ≤ U1.length := by rw [hU1, List.length_append]; omega
            have hU1k : ∀ j, j < U.length → (U1[j]?).join = (U[j]?).join := fun j hj => by rw [hU1]; exact join_app hj
            have hp1l := join_lt hpb1
            obtain ⟨bl, hbl'⟩ : ∃ bl, bl = b.length := ⟨_, rfl⟩
            obtain ⟨fb, hfb⟩ : ∃ fb, fb = decide (b = []) := ⟨_, rfl⟩
            have hh : ∀ p, heldV p b = .slice (some (p, 0)) 1 bl bl fb := fun p => by unfold heldV; rw [← hbl', ← hfb]
            have htab : call nB [.ptr (some (F, 0)), .str t] (few U) = some (.tuple [.slice (some (p1, 0)) 1 bl bl fb, .bool true], few U1) := by rw [htab]; dsimp only; rw [hh]
            have hft1 := (hfmU.keep hU1k).tags (by omega)
            rw [hL1] at hft1
            obtain ⟨_, tg2⟩ := hT U1 F tags hft1
            obtain ⟨u1, hu1⟩ : ∃ u1, U1.length = u1 := ⟨_, rfl⟩
            obtain ⟨U2, hU2⟩ : ∃ U2, U2 = U1 ++ [some (AObj.cells true (strsV tags))] := ⟨_, rfl⟩
            have e2 : U2.length = u1 + 1 := by rw [hU2]; simp [hu1]
            have tg2 : ∀ fr, call nT [.ptr (some (F, 0))] (limF fr .call [] (few U1)) = some (.slice (some (u1, 0)) 1 i i false, back (limF fr .call [] (few U1)) (few U2)) := fun fr => by
              have := tg2 tne fr
              rw [tl, hu1, ← hU2] at this
              exact this
            have hU2k : ∀ j, j < U1.length → (U2[j]?).join = (U1[j]?).join := fun j hj => by rw [hU2]; exact join_app hj
            have ld1 : loadV (few U2) false 1 (.ptr (some (u1, j))) = some (.str t) := by
              rw [load_few (show (U2[u1]?).join = some (.cells true (strsV tags)) by rw [hU2, ← hu1]; simp), strsV_at, ht]; rfl
            have ld2 : loadV (few U2) false 1 (.ptr (some (q, j))) = some (.str t) := by
              rw [load_few (show (U2[q]?).join = some (.cells true (strsV tags)) by rw [hU2k q (by omega), hU1k q (by omega), hXU q hql]; exact hqX), strsV_at, ht]; rfl
            have ld3 : loadV (few U2) false 1 (.ptr (some (r, j))) = some (.slice (some (p2, 0)) 1 bl bl fb) := by
              rw [load_few (show (U2[r]?).join = some (.cells true vs) by rw [hU2k r (by omega), hU1k r (by omega), hXU r hrl]; exact hrX), hv0, hh]
            have cs1 : convV (few U2) .toStr (.slice (some (p1, 0)) 1 bl bl fb) = some (.str b) := by
              rw [hbl']; exact held_str (by rw [hU2k p1 hp1l]; exact hpb1) hbb
            have cs2 : convV (few U2) .toStr (.slice (some (p2, 0)) 1 bl bl fb) = some (.str b) := by
              rw [hbl']; exact held_str (by rw [hU2k p2 (by omega), hU1k p2 (by omega), hXU p2 hp2l]; exact hp2) hbb
            have hq3 : q < u1 := by omega
            have hr3 : r < u1 := by omega
            simp (disch := omega) [z1, z2, z3, z4, z5, hq1, hr1, hji, dlt_t, dlt_f, dle_t, dle_f, dltn_t, dltn_f, dlen_t, dlen_f, deq_t, deq_f, deqn_t, deqn_f, natOf_int, idxAddr_slice, ldt, htab, foot_call, tg2, idOf, load_d, ld1, ld2, ld3, convStr_d, cs1, cs2, hu1, e2, next_back, back_back, back_few, back_limF, next_limF, ble_dec, nbeq_dec, meets_cons, mem_cons, mem_nil, wrap_i]
            exact ⟨k, by omega, j + 1, by omega, ⟨_, by rw [hU2, hU1, hUe, List.append_assoc, List.append_assoc]⟩, by omega⟩

end Go.Vabs.Sp
