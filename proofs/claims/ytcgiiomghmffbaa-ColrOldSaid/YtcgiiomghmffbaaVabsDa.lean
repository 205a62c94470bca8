/- Lemmas for this claim, text Da. No condition. -/
import Derived.Test.YtcgiiomghmffbaaVabsCa
import Derived.Test.YtcgiiomghmffbaaVabsSr
import Derived.Test.YtcgiiomghmffbaaVabsSh
namespace Go.Vabs.Da
set_option linter.unusedVariables false
set_option linter.unusedSimpArgs false
set_option maxRecDepth 10000
attribute [local simp] wp_skip wp_ret wp_exit wp_reg wp_seq wp_cond wp_block thenQ_normal thenQ_ret thenQ_exit blockQ_normal blockQ_ret blockQ_exit wpCond_true wpCond_false wpOps_nil wpVal_some wpGuard_true wpGuard_false wpOps_guard wpOps_cons
  put_at put_no ev_c ev_slot posEq_h posEq_o posEq_i posEq_ho posEq_hi posEq_oh posEq_ih posEq_oi posEq_io sel_true sel_false
  okv_some step_mv step_call step_pick pickV_bool step_bin bin_add bin_sub bin_mul bin_eql bin_neq bin_lss bin_leq bin_gtr bin_geq bin_eqb bin_neb bin_eqs bin_nes step_un un_not un_neg step_len len_slice len_str len_const step_extract extractV nth step_convInt conv_int step_convStr step_slice step_idxAddr natOf_nat step_load step_index step_field step_fieldAddr step_build step_minmax
  step_alloc step_bslice bsliceV_some newV_some step_store step_append boolIs_b boolIs_t finQ_ret finQ_normal ressE_nil ressE_cons resE_tmp consO_some initE_nil initE_cons pos_0 pos_1 pos_2 pos_3 pos_4 pos_5 pos_6 pos_7 pos_8 plain_bool plain_int plain_str plain_ptr plain_slice plain_map plain_agg plain_func plain_nilFunc V.undef oneOf_one oneOf_two ble_self
open Go.Vabs.Pk Go.Vabs.Ph Go.Vabs.Sa Go.Vabs.Sb Go.Vabs.Sc Go.Vabs.Sd Go.Vabs.Se Go.Vabs.Sg Go.Vabs.Sh Go.Vabs.Sm Go.Vabs.Sn Go.Vabs.Sp Go.Vabs.Sr Go.Vabs.St Go.Vabs.Su Go.Vabs.L2 Go.Vabs.Na Go.Vabs.Nb Go.Vabs.Ra Go.Vabs.Rb Go.Vabs.Rc Go.Vabs.Rd Go.Vabs.Re Go.Vabs.Ca Go.Vabs.Cb Go.Vabs.Vc
attribute [local simp] step_nilchk nilchk_ptr step_box cells_int cells_bool cells_str cells_slice cells_ptr cells_agg fieldAddrV natOf_zero fill repN splice over newV step_appendZ
  wp_dreg wpDs_nil wpDs_cons wantedE_none wantedE_some wpDGuard_true wpDGuard_lim wpDGuard_false wpDLim_true wpDVal_free wpDVal_lim back_limited next_limited limF_dir limF_false foot_load foot_store foot_convStr okAll_nil okAll_cons pastsOf nthP ahead few_next load_limited convStr_limited blt_dec okPair_dd okPair_dc okPair_cd okPair_cc anyIn_nil anyIn_same anyIn_cons meets_nil meets_nil'
  tn_alloc tn_load tn_load0 tn_store tn_store0 storeT_some loadC_some cellsAt_zero cellsAt_succ ownAt_zero ownAt_succ tn_first tn_first0 firstC_some tn_grow_none tn_grow tn_grow0 growN_some tn_fix tn_fix0 fixN_some bn_load bn_first bn_grow bn_store tn_next tn_alloc_dir tl_store_d tl_back tl_back_few few_back_tl backv_some back_back cut takeN nbeq_dec ble_dec meets_cons mem_nil mem_cons idOf load_d convStr_d lenOfS firstNo natOf_int if_leN bn_fix foot_bslice foot_alloc foot_box foot_append foot_call
theorem growEl_tn {α : Type} {f : α → List V} {e w : Nat} (hf : ∀ a, (f a).length = e) (hw : w ≤ 64) {X : List (Option AObj)} {N q n : Nat} [hN : LenIs X N] {L : List α} (a : α) (hn : L.length = n) (hs : n ≤ 1000000) (h : n ≠ 0 → (X[q]?).join = some (.cells true (elV f L))) (l : List (Option AObj)) :
    appendV (tl X l) e w (elS e q n) (some 1) (some (f a)) = some (.slice (some (N + l.length, 0)) e (n + 1) (n + 1) false, tl (Sp.setK n X q) (l ++ [some (.cells true (elV f (L ++ [a])))])) := by
  have := growEl hf hw (os := X ++ l) (q := q) a hn hs fun h0 => by rw [join_app (join_lt (h h0))]; exact h h0
  rw [tl_eq, this, List.length_append, hN.eq, tl_eq]
  congr 2
  unfold Sp.setK
  split
  · rw [List.append_assoc]
  · rename_i h0
    rw [List.set_append_left _ _ (join_lt (h h0)), List.append_assoc]
def oneS (v : V) : List V := [v]
theorem elV_oneS {vs : List V} : elV oneS vs = vs := by
  induction vs with
  | nil => rfl
  | cons v vs ih => show oneS v ++ elV oneS vs = _; rw [ih]; rfl
end Go.Vabs.Da

namespace Go.Vabs.Db
set_option linter.unusedVariables false
set_option linter.unusedSimpArgs false
set_option maxRecDepth 10000
attribute [local simp] wp_skip wp_ret wp_exit wp_reg wp_seq wp_cond wp_block thenQ_normal thenQ_ret thenQ_exit blockQ_normal blockQ_ret blockQ_exit wpCond_true wpCond_false wpOps_nil wpVal_some wpGuard_true wpGuard_false wpOps_guard wpOps_cons
  put_at put_no ev_c ev_slot posEq_h posEq_o posEq_i posEq_ho posEq_hi posEq_oh posEq_ih posEq_oi posEq_io sel_true sel_false
  okv_some step_mv step_call step_pick pickV_bool step_bin bin_add bin_sub bin_mul bin_eql bin_neq bin_lss bin_leq bin_gtr bin_geq bin_eqb bin_neb bin_eqs bin_nes step_un un_not un_neg step_len len_slice len_str len_const step_extract extractV nth step_convInt conv_int step_convStr step_slice step_idxAddr natOf_nat step_load step_index step_field step_fieldAddr step_build step_minmax
  step_alloc step_bslice bsliceV_some newV_some step_store step_append boolIs_b boolIs_t finQ_ret finQ_normal ressE_nil ressE_cons resE_tmp consO_some initE_nil initE_cons pos_0 pos_1 pos_2 pos_3 pos_4 pos_5 pos_6 pos_7 pos_8 plain_bool plain_int plain_str plain_ptr plain_slice plain_map plain_agg plain_func plain_nilFunc V.undef oneOf_one oneOf_two ble_self
open Go.Vabs.Pk Go.Vabs.Ph Go.Vabs.Sa Go.Vabs.Sb Go.Vabs.Sc Go.Vabs.Sd Go.Vabs.Se Go.Vabs.Sg Go.Vabs.Sh Go.Vabs.Sm Go.Vabs.Sn Go.Vabs.Sp Go.Vabs.Sr Go.Vabs.St Go.Vabs.Su Go.Vabs.L2 Go.Vabs.Na Go.Vabs.Nb Go.Vabs.Ra Go.Vabs.Rb Go.Vabs.Rc Go.Vabs.Rd Go.Vabs.Re Go.Vabs.Ca Go.Vabs.Cb Go.Vabs.Vc Go.Vabs.Da Go.Vabs.Sh
attribute [local simp] step_nilchk nilchk_ptr step_box cells_int cells_bool cells_str cells_slice cells_ptr cells_agg fieldAddrV natOf_zero fill repN splice over newV step_appendZ
  wp_dreg wpDs_nil wpDs_cons wantedE_none wantedE_some wpDGuard_true wpDGuard_lim wpDGuard_false wpDLim_true wpDVal_free wpDVal_lim back_limited next_limited limF_dir limF_false foot_load foot_store foot_convStr okAll_nil okAll_cons pastsOf nthP ahead few_next load_limited convStr_limited blt_dec okPair_dd okPair_dc okPair_cd okPair_cc anyIn_nil anyIn_same anyIn_cons meets_nil meets_nil'
  tn_alloc tn_load tn_load0 tn_store tn_store0 storeT_some loadC_some cellsAt_zero cellsAt_succ ownAt_zero ownAt_succ tn_first tn_first0 firstC_some tn_grow_none tn_grow tn_grow0 growN_some tn_fix tn_fix0 fixN_some bn_load bn_first bn_grow bn_store tn_next tn_alloc_dir tl_store_d tl_back tl_back_few few_back_tl backv_some back_back cut takeN nbeq_dec ble_dec meets_cons mem_nil mem_cons idOf load_d convStr_d lenOfS firstNo natOf_int if_leN bn_fix foot_bslice foot_alloc foot_box foot_append foot_call
theorem mm_min {k : IntKind} {x y : Int} {l : List V} : mmAll false (.int k x) (.int k y :: l) = mmAll false (.int k (min x y)) l := by
  show (match (if k = k then some (V.int k (sel false (sel (ltI x y) y x) (sel (ltI y x) y x))) else none) with | some z => mmAll false z l | none => none) = _
  rw [if_pos rfl, ltI_eq, ltI_eq]
  dsimp only [sel_false]
  congr 2
  by_cases h : y < x
  · rw [decide_eq_true h, Int.min_eq_right (by omega)]; rfl
  · rw [decide_eq_false h, Int.min_eq_left (by omega)]; rfl
theorem mm_nil {b : Bool} {x : V} : mmAll b x [] = some x := rfl
theorem elV_flat {α : Type} {f : α → List V} (hf : ∀ a, (f a).all V.flat = true) {L : List α} : (elV f L).all V.flat = true := by
  unfold elV
  rw [List.all_eq_true]
  intro v hv
  obtain ⟨l, h1, h2⟩ := List.mem_flatten.1 hv
  obtain ⟨a, _, rfl⟩ := List.mem_map.1 h1
  exact List.all_eq_true.1 (hf a) v h2
theorem growB_tn {X : List (Option AObj)} {N q n m : Nat} [hN : LenIs X N] {B nb : List Nat} (hn : B.length = n) (hm : nb.length = m + 1) (hs : n + m ≤ 1000000) (h : n ≠ 0 → (X[q]?).join = some (.cells true (bytesV B))) (l : List (Option AObj)) :
    appendV (tl X l) 1 1 (elS 1 q n) (some (m + 1)) (some (bytesV nb)) = some (.slice (some (N + l.length, 0)) 1 (n + (m + 1)) (n + (m + 1)) false, tl (Sp.setK n X q) (l ++ [some (.cells true (bytesV (B ++ nb)))])) := by
  have hb : bytesV (B ++ nb) = bytesV B ++ bytesV nb := by simp [bytesV]
  by_cases h0 : n = 0
  · subst h0
    have : B = [] := List.length_eq_zero_iff.1 hn
    subst this
    show appendV (tl X l) 1 1 (.slice none 0 0 0 true) (some (m + 1)) (some (bytesV nb)) = _
    rw [tn_grow_none, if_pos ⟨by omega, by rw [bytesV_len]; omega⟩, Nat.zero_add]
    rfl
  · haveI : At X q (.cells true (bytesV B)) := ⟨h h0⟩
    have hel : elS 1 q n = .slice (some (q, 0)) 1 n n false := if_neg h0
    rw [hel, bn_grow, if_pos ⟨by omega, by rw [bytesV_len]; omega, by rw [bytesV_len]; omega⟩, hb]
    unfold Sp.setK
    rw [if_neg h0]
end Go.Vabs.Db

namespace Go.Vabs.Dd
set_option linter.unusedVariables false
set_option linter.unusedSimpArgs false
set_option maxRecDepth 10000
attribute [local simp] wp_skip wp_ret wp_exit wp_reg wp_seq wp_cond wp_block thenQ_normal thenQ_ret thenQ_exit blockQ_normal blockQ_ret blockQ_exit wpCond_true wpCond_false wpOps_nil wpVal_some wpGuard_true wpGuard_false wpOps_guard wpOps_cons
  put_at put_no ev_c ev_slot posEq_h posEq_o posEq_i posEq_ho posEq_hi posEq_oh posEq_ih posEq_oi posEq_io sel_true sel_false
  okv_some step_mv step_call step_pick pickV_bool step_bin bin_add bin_sub bin_mul bin_eql bin_neq bin_lss bin_leq bin_gtr bin_geq bin_eqb bin_neb bin_eqs bin_nes step_un un_not un_neg step_len len_slice len_str len_const step_extract extractV nth step_convInt conv_int step_convStr step_slice step_idxAddr natOf_nat step_load step_index step_field step_fieldAddr step_build step_minmax
  step_alloc step_bslice bsliceV_some newV_some step_store step_append boolIs_b boolIs_t finQ_ret finQ_normal ressE_nil ressE_cons resE_tmp consO_some initE_nil initE_cons pos_0 pos_1 pos_2 pos_3 pos_4 pos_5 pos_6 pos_7 pos_8 plain_bool plain_int plain_str plain_ptr plain_slice plain_map plain_agg plain_func plain_nilFunc V.undef oneOf_one oneOf_two ble_self
open Go.Vabs.Pk Go.Vabs.Ph Go.Vabs.Sa Go.Vabs.Sb Go.Vabs.Sc Go.Vabs.Sd Go.Vabs.Se Go.Vabs.Sg Go.Vabs.Sh Go.Vabs.Sm Go.Vabs.Sn Go.Vabs.Sp Go.Vabs.Sr Go.Vabs.St Go.Vabs.Su Go.Vabs.L2 Go.Vabs.Na Go.Vabs.Nb Go.Vabs.Ra Go.Vabs.Rb Go.Vabs.Rc Go.Vabs.Rd Go.Vabs.Re Go.Vabs.Ca Go.Vabs.Cb Go.Vabs.Vc Go.Vabs.Da Go.Vabs.Db
attribute [local simp] step_nilchk nilchk_ptr step_box cells_int cells_bool cells_str cells_slice cells_ptr cells_agg fieldAddrV natOf_zero fill repN splice over newV step_appendZ
  wp_dreg wpDs_nil wpDs_cons wantedE_none wantedE_some wpDGuard_true wpDGuard_lim wpDGuard_false wpDLim_true wpDVal_free wpDVal_lim back_limited next_limited limF_dir limF_false foot_load foot_store foot_convStr okAll_nil okAll_cons pastsOf nthP ahead few_next load_limited convStr_limited blt_dec okPair_dd okPair_dc okPair_cd okPair_cc anyIn_nil anyIn_same anyIn_cons meets_nil meets_nil'
  tn_alloc tn_load tn_load0 tn_store tn_store0 storeT_some loadC_some cellsAt_zero cellsAt_succ ownAt_zero ownAt_succ tn_first tn_first0 firstC_some tn_grow_none tn_grow tn_grow0 growN_some tn_fix tn_fix0 fixN_some bn_load bn_first bn_grow bn_store tn_next tn_alloc_dir tl_store_d tl_back tl_back_few few_back_tl backv_some back_back cut takeN nbeq_dec ble_dec meets_cons mem_nil mem_cons idOf load_d convStr_d lenOfS firstNo natOf_int if_leN bn_fix foot_bslice foot_alloc foot_box foot_append foot_call
def fromR (bs : List Nat) (k : Nat) : Nat := nm bs ((12 + 2 * k : Nat) : Int) 2
def allIn (bs : List Nat) (n : Nat) : Prop := ∀ k, k < n → fromR bs k + nm bs 2 2 ≤ nm bs 6 2
instance {bs : List Nat} {n : Nat} : Decidable (allIn bs n) := Nat.decidableBallLT _ _
end Go.Vabs.Dd
