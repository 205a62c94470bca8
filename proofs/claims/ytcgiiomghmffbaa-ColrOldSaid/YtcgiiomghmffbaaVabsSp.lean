/- Lemmas for this claim, text Sp. No condition. -/
import Derived.Test.YtcgiiomghmffbaaVabsSh
import Derived.Test.YtcgiiomghmffbaaVabsZj
namespace Go.Vabs.Sp
set_option linter.unusedVariables false
set_option linter.unusedSimpArgs false
set_option maxRecDepth 10000
attribute [local simp] wp_skip wp_ret wp_exit wp_reg wp_seq wp_cond wp_block thenQ_normal thenQ_ret thenQ_exit blockQ_normal blockQ_ret blockQ_exit wpCond_true wpCond_false wpOps_nil wpVal_some wpGuard_true wpGuard_false wpOps_guard wpOps_cons
  put_at put_no ev_c ev_slot posEq_h posEq_o posEq_i posEq_ho posEq_hi posEq_oh posEq_ih posEq_oi posEq_io sel_true sel_false
  okv_some step_mv step_call step_pick pickV_bool step_bin bin_add bin_sub bin_mul bin_eql bin_neq bin_lss bin_leq bin_gtr bin_geq bin_eqb bin_neb bin_eqs bin_nes step_un un_not un_neg step_len len_slice len_str len_const step_extract extractV nth step_convInt conv_int step_convStr step_slice step_idxAddr natOf_nat step_load step_index step_field step_fieldAddr step_build step_minmax
  step_alloc step_bslice bsliceV_some newV_some step_store step_append boolIs_b boolIs_t finQ_ret finQ_normal ressE_nil ressE_cons resE_tmp consO_some initE_nil initE_cons pos_0 pos_1 pos_2 pos_3 pos_4 pos_5 pos_6 pos_7 pos_8 plain_bool plain_int plain_str plain_ptr plain_slice plain_map plain_agg plain_func plain_nilFunc V.undef oneOf_one oneOf_two ble_self
open Go.Vabs.Pk Go.Vabs.Ph Go.Vabs.Sa Go.Vabs.Sb Go.Vabs.Sc Go.Vabs.Sd Go.Vabs.Se Go.Vabs.Sg Go.Vabs.Sh Go.Vabs.Sm Go.Vabs.Sn Go.Vabs.L2
attribute [local simp] step_nilchk nilchk_ptr cells_int cells_bool cells_str cells_slice cells_ptr cells_agg fieldAddrV natOf_zero fill repN splice over newV
  wp_dreg wpDs_nil wpDs_cons wantedE_none wantedE_some wpDGuard_true wpDGuard_lim wpDGuard_false wpDLim_true wpDVal_free wpDVal_lim back_limited next_limited limF_dir foot_load foot_convStr okAll_nil okAll_cons pastsOf nthP ahead few_next load_limited convStr_limited blt_dec okPair_dd okPair_dc okPair_cd okPair_cc anyIn_nil anyIn_same anyIn_cons meets_nil meets_nil'
theorem row_cells {α : Type} {c : Codec α} (hw : c.w = 1) {os : List (Option AObj)} {cs : List V} {l : List α} {g : α → V} (hl : cs.length = l.length * c.w) (h : ∀ (j : Nat) (a : α), l[j]? = some a → c.shows os ((cs.drop (j * c.w)).take c.w) a) (hg : ∀ us a, c.shows os us a → us = [g a]) : cs = l.map g := by
  refine List.ext_getElem? fun j => ?_
  by_cases hj : j < l.length
  · have h1 := hg _ _ (h j l[j] (List.getElem?_eq_getElem hj))
    rw [hw, Nat.mul_one] at h1
    have h2 := congrArg (fun x : List V => x[0]?) h1
    simp only [List.getElem?_take, List.getElem?_drop] at h2
    simpa [hj] using h2
  · rw [List.getElem?_eq_none (by rw [hl, hw]; omega), List.getElem?_eq_none (by rw [List.length_map]; omega)]
def heldV (p : Nat) (b : List Nat) : V := .slice (some (p, 0)) 1 b.length b.length (decide (b = []))
theorem clone_held {os : List (Option AObj)} {b : List Nat} : ∃ p l, cloneR os b = (heldV p b, few (os ++ l)) ∧ os.length ≤ p ∧ ((os ++ l)[p]?).join = some (newBytes b) := by
  unfold cloneR
  split
  · rename_i e
    subst e
    exact ⟨os.length, _, rfl, Nat.le_refl _, by simp⟩
  · rename_i e
    refine ⟨os.length + 1, [some (newBytes []), some (newBytes b)], ?_, by omega, ?_⟩
    · unfold heldV; rw [decide_eq_false e]
    · simp
def setK (k : Nat) (os : List (Option AObj)) (q : Nat) : List (Option AObj) := if k = 0 then os else os.set q none
theorem setK_len {k : Nat} {os : List (Option AObj)} {q : Nat} : (setK k os q).length = os.length := by unfold setK; split <;> simp
theorem setK_at {k : Nat} {os : List (Option AObj)} {q i : Nat} (h : k ≠ 0 → i ≠ q) : ((setK k os q)[i]?).join = (os[i]?).join := by
  unfold setK
  split
  · rfl
  · rename_i h0; rw [join_set (fun e => h h0 e.symm)]
structure FontMem (os : List (Option AObj)) (F : Nat) (L : List Itm) : Prop where
  f0 : (os[F]?).join = some (.cells true [tagsV (F + 2 + L.length) L.length, .map (some (F + 1))])
  f1 : (os[F + 1]?).join = some (.map true (entsF 0 (kvsOf L (idsOf' (F + 2) L.length))) L.length)
  ft : ∀ j x, L[j]? = some x → (os[F + 2 + j]?).join = some (newBytes x.2)
  fq : L ≠ [] → (os[F + 2 + L.length]?).join = some (.cells true (strsV (L.map (·.1))))
theorem FontMem.keep {os os' : List (Option AObj)} {F : Nat} {L : List Itm} (h : FontMem os F L) (he : ∀ i, i < os.length → (os'[i]?).join = (os[i]?).join) : FontMem os' F L :=
  ⟨by rw [he _ (join_lt h.f0)]; exact h.f0, by rw [he _ (join_lt h.f1)]; exact h.f1, fun j x hx => by rw [he _ (join_lt (h.ft j x hx))]; exact h.ft j x hx, fun hne => by rw [he _ (join_lt (h.fq hne))]; exact h.fq hne⟩
theorem font_mem {os : List (Option AObj)} {L : List Itm} : FontMem (os ++ (fontObjs os.length L).map some) os.length L := by
  have atF : ∀ j o, (fontObjs os.length L)[j]? = some o → ((os ++ (fontObjs os.length L).map some)[os.length + j]?).join = some o := by
    intro j o hj
    rw [List.getElem?_append_right (by omega), Nat.add_sub_cancel_left, List.getElem?_map, hj]
    rfl
  refine ⟨atF 0 _ rfl, atF 1 _ rfl, fun j x hx => ?_, fun hne => ?_⟩
  · have hj := (List.getElem?_eq_some_iff.1 hx).1
    have := atF (2 + j) (newBytes x.2) (by
      unfold fontObjs
      rw [List.getElem?_append_right (by simp), List.getElem?_append_left (by simp; omega)]
      simp [hx])
    rw [show os.length + 2 + j = os.length + (2 + j) from by omega]
    exact this
  · have := atF (2 + L.length) (.cells true (strsV (L.map (·.1)))) (by
      unfold fontObjs
      rw [if_neg hne, List.getElem?_append_right (by simp), List.getElem?_append_right (by simp)]
      simp)
    rw [show os.length + 2 + L.length = os.length + (2 + L.length) from by omega]
    exact this
theorem open_mem {call : CallT} {nO : Nat} (hO : OpenF call nO) {os : List (Option AObj)} {v : V} {bs : List Nat} {L : List Itm} (hg : v.good os.length = true) (hl : lookB (few os).look v = some bs) (hb : bs.length ≤ 140737488354000) (hf : fontS bs = .inr L) :
    ∃ l, call nO [v] (few os) = some (.tuple [.ptr (some (os.length, 0)), .int .i64 0], few (os ++ l)) ∧ FontMem (os ++ l) os.length L := by
  have h := hO os v bs hg hl hb
  rw [show openA os.length bs = (fontObjs os.length L, fun k => .tuple [.ptr (some (k, 0)), .int .i64 0]) from by unfold openA; rw [hf]] at h
  exact ⟨_, h, font_mem⟩
end Go.Vabs.Sp
