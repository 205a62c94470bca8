/-
  The document's curves.
-/
import Derived.Test.YtpjinhofjaapaaaVabsKf
namespace Go.Vabs.Kj
set_option linter.unusedVariables false
set_option linter.unusedSimpArgs false
set_option maxRecDepth 10000
def SameSegs_c : AFunc := AFunc.mk 26 (.seq (.reg [AOper.mk (some (.i (.o .h))) (.mv (.c (.bool false))) none]) (.seq (.seq (.reg [AOper.mk (some (.o (.o (.o .h)))) (.len .slice (.t .h)) none, AOper.mk (some (.o (.i (.o .h)))) (.len .slice (.t (.o .h))) none, AOper.mk (some (.i (.i (.o .h)))) (.bin .neq (.val .int) (.t (.o (.o (.o .h)))) (.t (.o (.i (.o .h))))) none]) (.cond (.t (.i (.i (.o .h)))) (.seq (.reg [AOper.mk (some (.i (.o .h))) (.mv (.c (.bool false))) none]) .ret) .skip)) (.seq (.seq (.reg [AOper.mk (some (.o (.i .h))) (.mv (.c (.int .i64 (.ofNat 0)))) none]) (.block 0 (.loop (.seq (.seq (.reg [AOper.mk (some (.o (.i (.i .h)))) (.len .slice (.t .h)) none, AOper.mk (some (.i (.i (.i .h)))) (.bin .lss (.val .int) (.t (.o (.i .h))) (.t (.o (.i (.i .h))))) none]) (.cond (.t (.i (.i (.i .h)))) .skip (.exit 0))) (.seq (.block 1 (.seq (.dreg [(AOper.mk (some (.o (.i (.o (.o .h))))) (.mv (.t .h)) none, []), (AOper.mk (some (.i (.i (.o (.o .h))))) (.mv (.t (.o (.i .h)))) none, []), (AOper.mk (some (.o (.o (.i (.o .h))))) (.idxAddr (.slice 4) (.t (.o (.i (.o (.o .h))))) (.t (.i (.i (.o (.o .h)))))) none, []), (AOper.mk (some (.i (.o (.i (.o .h))))) (.load true 4 (.t (.o (.o (.i (.o .h)))))) none, [7]), (AOper.mk (some (.o (.i (.i (.o .h))))) (.mv (.t (.o .h))) none, []), (AOper.mk (some (.i (.i (.i (.o .h))))) (.mv (.t (.o (.i .h)))) none, []), (AOper.mk (some (.o (.o (.o (.i .h))))) (.idxAddr (.slice 4) (.t (.o (.i (.i (.o .h))))) (.t (.i (.i (.i (.o .h)))))) none, []), (AOper.mk (some (.i (.o (.o (.i .h))))) (.load true 4 (.t (.o (.o (.o (.i .h)))))) none, [3]), (AOper.mk (some (.o (.i (.o (.i .h))))) (.bin .neq (.val (.parts [(0, (1, (false, .int))), (1, (1, (false, .int))), (2, (1, (false, .int))), (3, (1, (false, .int)))])) (.t (.i (.o (.i (.o .h))))) (.t (.i (.o (.o (.i .h)))))) none, [])]) (.cond (.t (.o (.i (.o (.i .h))))) (.seq (.reg [AOper.mk (some (.i (.o .h))) (.mv (.c (.bool false))) none]) .ret) .skip))) (.reg [AOper.mk (some (.i (.o (.o (.o .h))))) (.bin .add (.val .int) (.t (.o (.i .h))) (.c (.int .i64 (.ofNat 1)))) none, AOper.mk (some (.o (.i .h))) (.mv (.t (.i (.o (.o (.o .h)))))) none])))))) (.seq (.reg [AOper.mk (some (.i (.o .h))) (.mv (.c (.bool true))) none]) .ret)))) [.tmp (.i (.o .h))]
def RCurve_c (n_RClip : Nat) (n_rbent : Nat) : AFunc := AFunc.mk 50 (.seq (.reg [AOper.mk (some (.o (.o .h))) (.box (.t .h)) none, AOper.mk (some (.i (.o .h))) (.box (.t (.o .h))) none, AOper.mk (some (.o (.i .h))) (.box (.t (.i .h))) none, AOper.mk (some (.i (.i .h))) (.mv (.c (.slice none 0 0 0 true))) none]) (.seq (.reg [AOper.mk (some (.o (.o (.o .h)))) (.mv (.c (.slice none 0 0 0 true))) none]) (.seq (.reg [AOper.mk (some (.o (.i (.i .h)))) (.idxAddr (.arr 2 false 1) (.t (.o (.o .h))) (.c (.int .i64 (.ofNat 0)))) none, AOper.mk (some (.i (.i (.i .h)))) (.load false 1 (.t (.o (.i (.i .h))))) none, AOper.mk (some (.o (.o (.o (.o .h))))) (.call n_RClip [.t (.i (.i (.i .h)))]) none, AOper.mk (some (.i (.o (.o .h)))) (.mv (.t (.o (.o (.o (.o .h)))))) none]) (.seq (.reg [AOper.mk (some (.i (.o (.o (.o .h))))) (.idxAddr (.arr 2 false 1) (.t (.o (.o .h))) (.c (.int .i64 (.ofNat 1)))) none, AOper.mk (some (.o (.i (.o (.o .h))))) (.load false 1 (.t (.i (.o (.o (.o .h)))))) none, AOper.mk (some (.i (.i (.o (.o .h))))) (.call n_RClip [.t (.o (.i (.o (.o .h))))]) none, AOper.mk (some (.o (.i (.o .h)))) (.mv (.t (.i (.i (.o (.o .h)))))) none]) (.seq (.seq (.reg [AOper.mk (some (.i (.i (.o .h)))) (.mv (.c (.int .i64 (.ofNat 1)))) none]) (.block 0 (.loop (.seq (.seq (.reg [AOper.mk (some (.i (.o (.i (.o .h))))) (.bin .leq (.val .int) (.t (.i (.i (.o .h)))) (.c (.int .i64 (.ofNat 8)))) none]) (.cond (.t (.i (.o (.i (.o .h))))) .skip (.exit 0))) (.seq (.block 1 (.seq (.reg [AOper.mk (some (.o (.o (.o (.i .h))))) (.idxAddr (.arr 2 false 1) (.t (.o (.o .h))) (.c (.int .i64 (.ofNat 0)))) none, AOper.mk (some (.i (.o (.o (.i .h))))) (.load false 1 (.t (.o (.o (.o (.i .h)))))) none, AOper.mk (some (.o (.i (.o (.i .h))))) (.idxAddr (.arr 2 false 1) (.t (.i (.o .h))) (.c (.int .i64 (.ofNat 0)))) none, AOper.mk (some (.i (.i (.o (.i .h))))) (.load false 1 (.t (.o (.i (.o (.i .h)))))) none, AOper.mk (some (.o (.o (.i (.i .h))))) (.idxAddr (.arr 2 false 1) (.t (.o (.i .h))) (.c (.int .i64 (.ofNat 0)))) none, AOper.mk (some (.i (.o (.i (.i .h))))) (.load false 1 (.t (.o (.o (.i (.i .h)))))) none, AOper.mk (some (.i (.i (.i (.i .h))))) (.call n_rbent [.t (.i (.o (.o (.i .h)))), .t (.i (.i (.o (.i .h)))), .t (.i (.o (.i (.i .h)))), .t (.i (.i (.o .h)))]) none, AOper.mk (some (.o (.o (.i .h)))) (.mv (.t (.i (.i (.i (.i .h)))))) none]) (.seq (.reg [AOper.mk (some (.o (.o (.o (.o (.o .h)))))) (.idxAddr (.arr 2 false 1) (.t (.o (.o .h))) (.c (.int .i64 (.ofNat 1)))) none, AOper.mk (some (.i (.o (.o (.o (.o .h)))))) (.load false 1 (.t (.o (.o (.o (.o (.o .h))))))) none, AOper.mk (some (.o (.i (.o (.o (.o .h)))))) (.idxAddr (.arr 2 false 1) (.t (.i (.o .h))) (.c (.int .i64 (.ofNat 1)))) none, AOper.mk (some (.i (.i (.o (.o (.o .h)))))) (.load false 1 (.t (.o (.i (.o (.o (.o .h))))))) none, AOper.mk (some (.o (.o (.i (.o (.o .h)))))) (.idxAddr (.arr 2 false 1) (.t (.o (.i .h))) (.c (.int .i64 (.ofNat 1)))) none, AOper.mk (some (.i (.o (.i (.o (.o .h)))))) (.load false 1 (.t (.o (.o (.i (.o (.o .h))))))) none, AOper.mk (some (.i (.i (.i (.o (.o .h)))))) (.call n_rbent [.t (.i (.o (.o (.o (.o .h))))), .t (.i (.i (.o (.o (.o .h))))), .t (.i (.o (.i (.o (.o .h))))), .t (.i (.i (.o .h)))]) none, AOper.mk (some (.i (.o (.i .h)))) (.mv (.t (.i (.i (.i (.o (.o .h))))))) none]) (.seq (.reg [AOper.mk (some (.i (.o (.i (.i (.o .h)))))) (.build [.int .i64 (.ofNat 0), .int .i64 (.ofNat 0), .int .i64 (.ofNat 0), .int .i64 (.ofNat 0)] [(0, (1, .t (.i (.o (.o .h))))), (1, (1, .t (.o (.i (.o .h))))), (2, (1, .t (.o (.o (.i .h))))), (3, (1, .t (.i (.o (.i .h)))))]) none, AOper.mk (some (.o (.i (.i (.i (.o .h)))))) (.bslice 4 1 [.int .i64 (.ofNat 0), .int .i64 (.ofNat 0), .int .i64 (.ofNat 0), .int .i64 (.ofNat 0)] [(0, (4, .t (.i (.o (.i (.i (.o .h)))))))]) none, AOper.mk (some (.i (.i (.i (.i (.o .h)))))) (.append 4 32 (.t (.o (.o (.o .h)))) (.t (.o (.i (.i (.i (.o .h))))))) none, AOper.mk (some (.o (.o (.o .h)))) (.mv (.t (.i (.i (.i (.i (.o .h))))))) none]) (.seq (.reg [AOper.mk (some (.i (.o (.o .h)))) (.mv (.t (.o (.o (.i .h))))) none]) (.reg [AOper.mk (some (.o (.i (.o .h)))) (.mv (.t (.i (.o (.i .h))))) none])))))) (.reg [AOper.mk (some (.i (.i (.i (.o .h))))) (.bin .add (.val .int) (.t (.i (.i (.o .h)))) (.c (.int .i64 (.ofNat 1)))) none, AOper.mk (some (.i (.i (.o .h)))) (.mv (.t (.i (.i (.i (.o .h)))))) none])))))) (.seq (.reg [AOper.mk (some (.i (.i .h))) (.mv (.t (.o (.o (.o .h))))) none]) .ret)))))) [.tmp (.i (.i .h))]
def One_c : AFunc := AFunc.mk 2 (.seq (.reg [AOper.mk (some .h) (.alloc [.int .i64 (.ofNat 0), .int .i64 (.ofNat 0), .int .i64 (.ofNat 0), .int .i64 (.ofNat 0), .int .i64 (.ofNat 0), .int .i64 (.ofNat 0)]) none]) (.seq (.reg [AOper.mk (some (.o .h)) (.build [.int .i64 (.ofNat 0), .int .i64 (.ofNat 0), .int .i64 (.ofNat 0), .int .i64 (.ofNat 0), .int .i64 (.ofNat 0), .int .i64 (.ofNat 0)] [(0, (1, .c (.int .i64 (.ofNat 65536)))), (3, (1, .c (.int .i64 (.ofNat 65536))))]) none, AOper.mk none (.store 6 (.t .h) (.t (.o .h))) none]) .ret)) [.cell .h true 6]
def one_c (n_One : Nat) : AFunc := AFunc.mk 2 (.seq (.reg [AOper.mk (some .h) (.alloc [.int .i64 (.ofNat 0), .int .i64 (.ofNat 0), .int .i64 (.ofNat 0), .int .i64 (.ofNat 0), .int .i64 (.ofNat 0), .int .i64 (.ofNat 0)]) none]) (.seq (.reg [AOper.mk (some (.o .h)) (.call n_One []) none, AOper.mk none (.store 6 (.t .h) (.t (.o .h))) none]) .ret)) [.cell .h true 6]
def rbent_c (n_RClip : Nat) (n_Floor : Nat) : AFunc := AFunc.mk 36 (.seq (.reg [AOper.mk (some (.i (.o (.o .h)))) (.mv (.c (.int .i64 (.ofNat 0)))) none]) (.seq (.reg [AOper.mk (some (.o (.o (.i .h)))) (.call n_RClip [.t .h]) none, AOper.mk (some (.o (.i (.i .h)))) (.bin .sub (.val .int) (.c (.int .i64 (.ofNat 8))) (.t (.o (.o .h)))) none, AOper.mk (some (.i (.i (.i .h)))) (.bin .mul (.val .int) (.t (.o (.o (.i .h)))) (.t (.o (.i (.i .h))))) none, AOper.mk (some (.i (.o (.o (.o .h))))) (.bin .sub (.val .int) (.c (.int .i64 (.ofNat 8))) (.t (.o (.o .h)))) none, AOper.mk (some (.o (.i (.o (.o .h))))) (.bin .mul (.val .int) (.t (.i (.i (.i .h)))) (.t (.i (.o (.o (.o .h)))))) none, AOper.mk (some (.o (.o (.i (.o .h))))) (.call n_RClip [.t (.o .h)]) none, AOper.mk (some (.i (.o (.i (.o .h))))) (.bin .mul (.val .int) (.c (.int .i64 (.ofNat 2))) (.t (.o (.o (.i (.o .h)))))) none, AOper.mk (some (.i (.i (.i (.o .h))))) (.bin .mul (.val .int) (.t (.i (.o (.i (.o .h))))) (.t (.o (.o .h)))) none, AOper.mk (some (.i (.o (.o (.i .h))))) (.bin .sub (.val .int) (.c (.int .i64 (.ofNat 8))) (.t (.o (.o .h)))) none, AOper.mk (some (.o (.i (.o (.i .h))))) (.bin .mul (.val .int) (.t (.i (.i (.i (.o .h))))) (.t (.i (.o (.o (.i .h)))))) none, AOper.mk (some (.i (.i (.o (.i .h))))) (.bin .add (.val .int) (.t (.o (.i (.o (.o .h))))) (.t (.o (.i (.o (.i .h)))))) none, AOper.mk (some (.i (.o (.i (.i .h))))) (.call n_RClip [.t (.i .h)]) none, AOper.mk (some (.i (.i (.i (.i .h))))) (.bin .mul (.val .int) (.t (.i (.o (.i (.i .h))))) (.t (.o (.o .h)))) none, AOper.mk (some (.i (.o (.o (.o (.o .h)))))) (.bin .mul (.val .int) (.t (.i (.i (.i (.i .h))))) (.t (.o (.o .h)))) none, AOper.mk (some (.o (.i (.o (.o (.o .h)))))) (.bin .add (.val .int) (.t (.i (.i (.o (.i .h))))) (.t (.i (.o (.o (.o (.o .h))))))) none, AOper.mk (some (.o (.i (.o .h)))) (.mv (.t (.o (.i (.o (.o (.o .h))))))) none]) (.seq (.reg [AOper.mk (some (.o (.o (.i (.o (.o .h)))))) (.call n_Floor [.t (.o (.i (.o .h))), .c (.int .i64 (.ofNat 64))]) none, AOper.mk (some (.i (.o (.o .h)))) (.mv (.t (.o (.o (.i (.o (.o .h))))))) none]) .ret))) [.tmp (.i (.o (.o .h)))]
def middle_c (n_Floor : Nat) : AFunc := AFunc.mk 18 (.seq (.reg [AOper.mk (some (.i .h)) (.box (.t .h)) none, AOper.mk (some (.o (.o .h))) (.box (.t (.o .h))) none, AOper.mk (some (.i (.o .h))) (.alloc [.int .i64 (.ofNat 0), .int .i64 (.ofNat 0)]) none]) (.seq (.dreg [(AOper.mk (some (.o (.i .h))) (.idxAddr (.arr 2 false 1) (.t (.i .h)) (.c (.int .i64 (.ofNat 0)))) none, []), (AOper.mk (some (.i (.i .h))) (.load false 1 (.t (.o (.i .h)))) none, [3, 7, 9]), (AOper.mk (some (.o (.o (.o .h)))) (.idxAddr (.arr 2 false 1) (.t (.o (.o .h))) (.c (.int .i64 (.ofNat 0)))) none, []), (AOper.mk (some (.i (.o (.o .h)))) (.load false 1 (.t (.o (.o (.o .h))))) none, [1, 7, 9]), (AOper.mk (some (.o (.i (.o .h)))) (.bin .add (.val .int) (.t (.i (.i .h))) (.t (.i (.o (.o .h))))) none, []), (AOper.mk (some (.i (.i (.o .h)))) (.call n_Floor [.t (.o (.i (.o .h))), .c (.int .i64 (.ofNat 2))]) none, [7, 9]), (AOper.mk (some (.o (.o (.i .h)))) (.idxAddr (.arr 2 false 1) (.t (.i .h)) (.c (.int .i64 (.ofNat 1)))) none, []), (AOper.mk (some (.i (.o (.i .h)))) (.load false 1 (.t (.o (.o (.i .h))))) none, [1, 3, 5, 9]), (AOper.mk (some (.o (.i (.i .h)))) (.idxAddr (.arr 2 false 1) (.t (.o (.o .h))) (.c (.int .i64 (.ofNat 1)))) none, []), (AOper.mk (some (.i (.i (.i .h)))) (.load false 1 (.t (.o (.i (.i .h))))) none, [1, 3, 5, 7]), (AOper.mk (some (.o (.o (.o (.o .h))))) (.bin .add (.val .int) (.t (.i (.o (.i .h)))) (.t (.i (.i (.i .h))))) none, []), (AOper.mk (some (.i (.o (.o (.o .h))))) (.call n_Floor [.t (.o (.o (.o (.o .h)))), .c (.int .i64 (.ofNat 2))]) none, []), (AOper.mk (some (.o (.i (.o (.o .h))))) (.build [.int .i64 (.ofNat 0), .int .i64 (.ofNat 0)] [(0, (1, .t (.i (.i (.o .h))))), (1, (1, .t (.i (.o (.o (.o .h))))))]) none, []), (AOper.mk none (.store 2 (.t (.i (.o .h))) (.t (.o (.i (.o (.o .h)))))) none, [])]) .ret)) [.cell (.i (.o .h)) true 2]
attribute [local simp] wp_skip wp_ret wp_exit wp_reg wp_seq wp_cond wp_block thenQ_normal thenQ_ret thenQ_exit blockQ_normal blockQ_ret blockQ_exit wpCond_true wpCond_false wpOps_nil wpVal_some wpGuard_true wpGuard_false wpOps_guard wpOps_cons
  put_at put_no ev_c ev_slot posEq_h posEq_o posEq_i posEq_ho posEq_hi posEq_oh posEq_ih posEq_oi posEq_io sel_true sel_false
  okv_some step_mv step_call step_pick pickV_bool step_bin bin_add bin_sub bin_mul bin_eql bin_neq bin_lss bin_leq bin_gtr bin_geq bin_eqb bin_neb bin_eqs bin_nes step_un un_not un_neg step_len len_slice len_str len_const step_extract extractV nth step_convInt conv_int step_convStr step_slice step_idxAddr natOf_nat step_load step_index step_field step_fieldAddr step_build step_minmax
  step_alloc step_bslice bsliceV_some newV_some step_store step_append boolIs_b boolIs_t finQ_ret finQ_normal ressE_nil ressE_cons resE_tmp consO_some initE_nil initE_cons pos_0 pos_1 pos_2 pos_3 pos_4 pos_5 pos_6 pos_7 pos_8 plain_bool plain_int plain_str plain_ptr plain_slice plain_map plain_agg plain_func plain_nilFunc V.undef oneOf_one oneOf_two ble_self
open Go.Vabs.Ph Go.Vabs.Fl Go.Vabs.Ka Go.Vabs.Kb Go.Vabs.Kc Go.Vabs.Kf
attribute [local simp] wp_dreg wpDs_nil wpDs_cons wantedE_none wantedE_some wpDGuard_true wpDGuard_lim wpDGuard_false wpDLim_true wpDVal_free wpDVal_lim back_limited next_limited limF_dir limF_false ahead blt_dec foot_convStr foot_load foot_store foot_alloc foot_box foot_bslice foot_append foot_call okAll_nil okAll_cons pastsOf nthP
  wp_rounds wpRounds_succ roundQ_normal roundQ_ret roundQ_exit cells_int cells_bool cells_str cells_agg cells_slice few_alloc lawOut_nil lawOut_one step_box newV alloc_dir backv back_back back_few next_back few_next resE_cell load_fewC store_fewC first_fewC grow_none grow_some cellsAt_zero cellsAt_succ ownAt_zero ownAt_succ loadC_some storeC_some firstC_some growC_some load_d convStr_d convStr_d0 store_d append_d2 append_d1 first_d2 first_d1 cut takeN nth splice over idOf okPair_dd okPair_dc okPair_cd okPair_cc anyIn_nil anyIn_cons meets_nil meets_nil' meets_cons mem_nil mem_cons nbeq_dec blt_dec ble_dec fill repN firstNo lenOf idxAddrV fieldAddrV fieldV part natOf_zero natOf_one
/- THE DOCUMENT'S NUMBERS -/
def FloorLF (b : Int) (call : CallT) (g : Nat) : Prop := ∀ a st, -4611686014132420609 ≤ a → a ≤ 4611686014132453377 → call g [.int .i64 a, .int .i64 b] st = some (.int .i64 (a / b), st)
theorem Floor2.code {base : CallT} {g lf : Nat} : FloorLF 2 (withF base g lf Floor_c) g := fun a st h1 h2 => by
  rw [withF_same]
  refine enter_eq ?_
  have hd : Int.tdiv a 2 = if 0 ≤ a then a / 2 else -((-a) / 2) := tdiv_lit
  have hm : Int.tmod a 2 = a - 2 * Int.tdiv a 2 := by have := Int.mul_tdiv_add_tmod a 2; omega
  obtain ⟨q, hq⟩ : ∃ q, q = Int.tdiv a 2 := ⟨_, rfl⟩
  obtain ⟨r, hr⟩ : ∃ r, r = Int.tmod a 2 := ⟨_, rfl⟩
  rw [← hq] at hd
  rw [← hq, ← hr] at hm
  by_cases hlt : r < 0
  · have e : a / 2 = q - 1 := by split at hd <;> omega
    simp (disch := omega) [bin_rem, bin_quo, ← hq, ← hr, wrap_i, dlt_t, hlt, e]
  · have e : a / 2 = q := by split at hd <;> omega
    simp (disch := omega) [bin_rem, bin_quo, ← hq, ← hr, wrap_i, dlt_f, hlt, e]
theorem Floor64.code {base : CallT} {g lf : Nat} : FloorLF 64 (withF base g lf Floor_c) g := fun a st h1 h2 => by
  rw [withF_same]
  refine enter_eq ?_
  have hd : Int.tdiv a 64 = if 0 ≤ a then a / 64 else -((-a) / 64) := tdiv_lit
  have hm : Int.tmod a 64 = a - 64 * Int.tdiv a 64 := by have := Int.mul_tdiv_add_tmod a 64; omega
  obtain ⟨q, hq⟩ : ∃ q, q = Int.tdiv a 64 := ⟨_, rfl⟩
  obtain ⟨r, hr⟩ : ∃ r, r = Int.tmod a 64 := ⟨_, rfl⟩
  rw [← hq] at hd
  rw [← hq, ← hr] at hm
  by_cases hlt : r < 0
  · have e : a / 64 = q - 1 := by split at hd <;> omega
    simp (disch := omega) [bin_rem, bin_quo, ← hq, ← hr, wrap_i, dlt_t, hlt, e]
  · have e : a / 64 = q := by split at hd <;> omega
    simp (disch := omega) [bin_rem, bin_quo, ← hq, ← hr, wrap_i, dlt_f, hlt, e]
theorem FloorLF.withF {b : Int} {call : CallT} {n g lf : Nat} {fn : AFunc} (h : FloorLF b call n) (hne : n ≠ g) : FloorLF b (Vabs.withF call g lf fn) n := fun a st h1 h2 => by rw [withF_other hne]; exact h a st h1 h2
theorem FloorLF.other {b : Int} {call : CallT} {n g : Nat} {l : List V → St → Option (V × St)} (h : FloorLF b call n) (hne : n ≠ g) : FloorLF b (withL call g l) n := fun a st h1 h2 => by rw [withL_other hne]; exact h a st h1 h2
def RBentF (call : CallT) (g : Nat) : Prop := ∀ a b c k st, (1 ≤ k ∧ k ≤ 8) → call g [.int .i64 a, .int .i64 b, .int .i64 c, .int .i64 k] st = some (.int .i64 (bentI (clip a) (clip b) (clip c) k), st)
theorem RBentF.code {base : CallT} {g m nf lf : Nat} (h : ClipF base m) (hf : FloorLF 64 base nf) : RBentF (withF base g lf (rbent_c m nf)) g := fun a b c k st hk => by
  rw [withF_same]
  refine enter_eq ?_
  have ha := clip_le a
  have hb := clip_le b
  have hc := clip_le c
  obtain ⟨a', hae⟩ : ∃ a', a' = clip a := ⟨_, rfl⟩
  obtain ⟨b', hbe⟩ : ∃ b', b' = clip b := ⟨_, rfl⟩
  obtain ⟨c', hce⟩ : ∃ c', c' = clip c := ⟨_, rfl⟩
  rw [← hae] at ha
  rw [← hbe] at hb
  rw [← hce] at hc
  unfold bentI
  have : k = 1 ∨ k = 2 ∨ k = 3 ∨ k = 4 ∨ k = 5 ∨ k = 6 ∨ k = 7 ∨ k = 8 := by omega
  have hf' := fun a h1 h2 => hf a st h1 h2
  rcases this with rfl | rfl | rfl | rfl | rfl | rfl | rfl | rfl <;> simp (disch := omega) [h _ _, ← hae, ← hbe, ← hce, wrap_i, hf']
theorem RBentF.other {call : CallT} {n g : Nat} {l : List V → St → Option (V × St)} (h : RBentF call n) (hne : n ≠ g) : RBentF (withL call g l) n := fun a b c k st hk => by rw [withL_other hne]; exact h a b c k st hk
theorem RBentF.withF {call : CallT} {n g lf : Nat} {fn : AFunc} (h : RBentF call n) (hne : n ≠ g) : RBentF (Vabs.withF call g lf fn) n := fun a b c k st hk => by rw [withF_other hne]; exact h a b c k st hk
noncomputable def middleS : List V → Option Ans
  | [.agg [.int .i64 a, .int .i64 b], .agg [.int .i64 c, .int .i64 d]] => if inB a ∧ inB b ∧ inB c ∧ inB d then some ([], fun _ => pairV ((a + c) / 2) ((b + d) / 2)) else none
  | _ => none
def MiddleF (call : CallT) (g : Nat) : Prop := ∀ a b c d st, inB a → inB b → inB c → inB d → call g [pairV a b, pairV c d] st = some (pairV ((a + c) / 2) ((b + d) / 2), st)
theorem middle_sound {P : Program} {call : CallT} (hmix : P.follows .mixedOrders = true) (h : Sound P call) {g nf : Nat} (hf : FloorLF 2 call nf) (hc : compF P g = some (middle_c nf)) : Sound P (withL call g (lawOf (flatRd middleS))) :=
  h.flat hmix 1 hc fun args os f hx => by
    unfold middleS at hx
    split at hx
    · rename_i a b c d
      split at hx
      · rename_i hin
        cases hx
        obtain ⟨⟨i1, i2⟩, ⟨i3, i4⟩, ⟨i5, i6⟩, ⟨i7, i8⟩⟩ := hin
        have f1 := fun st => hf (a + c) st (by omega) (by omega)
        have f2 := fun st => hf (b + d) st (by omega) (by omega)
        have e : ∃ s1, enterF call 1 [.agg [.int .i64 a, .int .i64 b], .agg [.int .i64 c, .int .i64 d]] (few []) (middle_c nf) = some (pairV ((a + c) / 2) ((b + d) / 2), s1) := by
          refine enter_ex ?_
          simp (disch := omega) [pairV, wrap_i, f1, f2]
        obtain ⟨s1, e⟩ := e
        exact ⟨_, s1, [], e, fun n => Left.flatA rfl⟩
      · cases hx
    · cases hx
theorem middle_fact {call : CallT} {g : Nat} : MiddleF (withL call g (lawOf (flatRd middleS))) g := fun a b c d st h1 h2 h3 h4 => (flat_call rfl).trans (by
  show lawOut (if inB a ∧ inB b ∧ inB c ∧ inB d then some ([], fun _ => pairV ((a + c) / 2) ((b + d) / 2)) else none) st = _
  rw [if_pos ⟨h1, h2, h3, h4⟩]
  rfl)
theorem MiddleF.other {call : CallT} {n g : Nat} {l : List V → St → Option (V × St)} (h : MiddleF call n) (hne : n ≠ g) : MiddleF (withL call g l) n := fun a b c d st h1 h2 h3 h4 => by rw [withL_other hne]; exact h a b c d st h1 h2 h3 h4
theorem MiddleF.withF {call : CallT} {n g lf : Nat} {fn : AFunc} (h : MiddleF call n) (hne : n ≠ g) : MiddleF (Vabs.withF call g lf fn) n := fun a b c d st h1 h2 h3 h4 => by rw [withF_other hne]; exact h a b c d st h1 h2 h3 h4
set_option maxHeartbeats 4000000 in
theorem rcurve_sound {P : Program} {call : CallT} (hmix : P.follows .mixedOrders = true) (h : Sound P call) {g ncl nb : Nat} (hcl : ClipF call ncl) (hb : RBentF call nb) (hc : compF P g = some (RCurve_c ncl nb)) : Sound P (withL call g (lawOf (flatRd curve2S))) :=
  h.flat hmix 10 hc fun args os f hx => by
    unfold curve2S at hx
    split at hx
    · rename_i ax ay bx by_ cx cy
      cases hx
      have b1 := fun k st hk => hb ax bx cx k st hk
      have b2 := fun k st hk => hb ay by_ cy k st hk
      have e : ∃ s1, enterF call 10 [.agg [.int .i64 ax, .int .i64 ay], .agg [.int .i64 bx, .int .i64 by_], .agg [.int .i64 cx, .int .i64 cy]] (few []) (RCurve_c ncl nb) = some (.slice (some (18, 0)) 4 8 8 false, s1) ∧ s1.heap.get 18 = some (.cells true (chordsL (clip ax) (clip ay) (clip bx) (clip by_) (clip cx) (clip cy))) := by
        refine enter_wp2 ?_
        simp (disch := omega) [b1, b2, hcl _ _, wrap_i]
        rw [few_heap]
        simp [chordsL, chordL, bent_0]
      obtain ⟨s1, e, e2⟩ := e
      refine ⟨_, s1, [18], e, fun n => Left.cells chords_flat (Nat.le_refl _) (Nat.zero_le _) e2⟩
    · cases hx
def oneA : Aff := ⟨65536, 0, 0, 65536, 0, 0⟩
noncomputable def oneS : List V → Option Ans
  | [] => some ([], fun _ => oneA.V)
  | _ => none
def OneF (call : CallT) (g : Nat) : Prop := ∀ st, call g [] st = some (oneA.V, st)
theorem One_sound {P : Program} {call : CallT} (hmix : P.follows .mixedOrders = true) (h : Sound P call) {g : Nat} (hc : compF P g = some One_c) : Sound P (withL call g (lawOf (flatRd oneS))) :=
  h.flat hmix 1 hc fun args os f hx => by
    unfold oneS at hx
    split at hx
    · cases hx
      have e : ∃ s1, enterF call 1 [] (few []) One_c = some (oneA.V, s1) := by
        refine enter_ex ?_
        simp [oneA, Aff.V, Aff.cells]
      obtain ⟨s1, e⟩ := e
      exact ⟨_, s1, [], e, fun n => Left.flatA rfl⟩
    · cases hx
theorem One_fact {call : CallT} {g : Nat} : OneF (withL call g (lawOf (flatRd oneS))) g := fun st => (flat_call rfl).trans rfl
theorem one_sound {P : Program} {call : CallT} (hmix : P.follows .mixedOrders = true) (h : Sound P call) {g n : Nat} (hn : OneF call n) (hc : compF P g = some (one_c n)) : Sound P (withL call g (lawOf (flatRd oneS))) :=
  h.flat hmix 1 hc fun args os f hx => by
    unfold oneS at hx
    split at hx
    · cases hx
      have e : ∃ s1, enterF call 1 [] (few []) (one_c n) = some (oneA.V, s1) := by
        refine enter_ex ?_
        have hn' : ∀ st, call n [] st = some (.agg [.int .i64 65536, .int .i64 0, .int .i64 0, .int .i64 65536, .int .i64 0, .int .i64 0], st) := hn
        simp [oneA, Aff.V, Aff.cells, hn']
      obtain ⟨s1, e⟩ := e
      exact ⟨_, s1, [], e, fun n => Left.flatA rfl⟩
    · cases hx
theorem OneF.other {call : CallT} {n g : Nat} {l : List V → St → Option (V × St)} (h : OneF call n) (hne : n ≠ g) : OneF (withL call g l) n := fun st => by rw [withL_other hne]; exact h st
theorem OneF.withF {call : CallT} {n g lf : Nat} {fn : AFunc} (h : OneF call n) (hne : n ≠ g) : OneF (Vabs.withF call g lf fn) n := fun st => by rw [withF_other hne]; exact h st
/- SEGMENTS ALIKE -/
def SameF (call : CallT) (g : Nat) : Prop := ∀ os N M u v (l : List Sg), OutG Sg.cells 4 os N u l → OutG Sg.cells 4 os M v l → l.length ≤ 100000 → call g [u, v] (few os) = some (.bool true, few os)

end Go.Vabs.Kj
