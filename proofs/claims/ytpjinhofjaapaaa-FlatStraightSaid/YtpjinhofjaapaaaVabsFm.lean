/-
  A curve whose middle lies between its ends.
-/
import Derived.Test.YtpjinhofjaapaaaVabsFl
import Derived.Test.YtpjinhofjaapaaaVabsZd
namespace Go.Vabs.Fl
set_option linter.unusedVariables false
set_option linter.unusedSimpArgs false
set_option maxRecDepth 10000
attribute [local simp] wp_skip wp_ret wp_exit wp_reg wp_seq wp_cond wp_block thenQ_normal thenQ_ret thenQ_exit blockQ_normal blockQ_ret blockQ_exit wpCond_true wpCond_false wpOps_nil wpVal_some wpGuard_true wpGuard_false wpOps_guard wpOps_cons
  put_at put_no ev_c ev_slot posEq_h posEq_o posEq_i posEq_ho posEq_hi posEq_oh posEq_ih posEq_oi posEq_io sel_true sel_false
  okv_some step_mv step_call step_pick pickV_bool step_bin bin_add bin_sub bin_mul bin_eql bin_neq bin_lss bin_leq bin_gtr bin_geq bin_eqb bin_neb bin_eqs bin_nes step_un un_not un_neg step_len len_slice len_str len_const step_extract extractV nth step_convInt conv_int step_convStr step_slice step_idxAddr natOf_nat step_load step_index step_field step_fieldAddr step_build step_minmax
  step_alloc step_bslice bsliceV_some newV_some step_store step_append boolIs_b boolIs_t finQ_ret finQ_normal ressE_nil ressE_cons resE_tmp consO_some initE_nil initE_cons pos_0 pos_1 pos_2 pos_3 pos_4 pos_5 pos_6 pos_7 pos_8 plain_bool plain_int plain_str plain_ptr plain_slice plain_map plain_agg plain_func plain_nilFunc V.undef oneOf_one oneOf_two ble_self bin_agg eqV_parts eqV_int eqV_bool eqV_str eqParts_nil eqParts_cons eqC_true eqC_false eqO_some eqR_eql eqR_neq
open Go.Vabs.Ph
attribute [local simp] wp_dreg wpDs_nil wpDs_cons wantedE_none wantedE_some wpDGuard_true wpDGuard_lim wpDGuard_false wpDLim_true wpDVal_free wpDVal_lim back_limited next_limited foot_convStr foot_load foot_store foot_alloc foot_box foot_bslice foot_append foot_call okAll_nil okAll_cons pastsOf nthP
  wpRounds_succ roundQ_normal roundQ_ret roundQ_exit cells_int cells_bool cells_str cells_agg cells_slice few_alloc lawOut_nil lawOut_one step_box newV alloc_dir backv back_back back_few next_back few_next resE_cell load_fewC store_fewC first_fewC grow_none grow_some cellsAt_zero cellsAt_succ ownAt_zero ownAt_succ loadC_some storeC_some firstC_some growC_some load_d convStr_d convStr_d0 store_d append_d2 append_d1 first_d2 first_d1 cut takeN nth splice over idOf okPair_dd okPair_dc okPair_cd okPair_cc anyIn_nil anyIn_cons meets_nil meets_nil' meets_cons mem_nil mem_cons nbeq_dec blt_dec ble_dec fill repN firstNo lenOf idxAddrV fieldAddrV fieldV part natOf_zero natOf_one
theorem tmod_in (n : Int) : -536870912 < Int.tmod n 536870912 ∧ Int.tmod n 536870912 < 536870912 := ⟨Int.lt_tmod_of_pos n (by omega), Int.tmod_lt_of_pos n (by omega)⟩
def Near (v e : Int) : Prop := (-2 ≤ v - Int.tdiv e 8 ∧ v - Int.tdiv e 8 ≤ 2) ∧ (-8589934592 ≤ Int.tdiv e 8 ∧ Int.tdiv e 8 ≤ 8589934592)
theorem near_1 {a b c : Int} (ha : -536870912 < a ∧ a < 536870912) (hc : -536870912 < c ∧ c < 536870912) (hb : b = if 0 ≤ a + c then (a + c) / 2 else -((-(a + c)) / 2)) : Near (bentI a b c 1) (a * 7 + c) := by
  unfold Near bentI
  rw [tdiv_lit]
  split <;> split at hb <;> omega
theorem near_2 {a b c : Int} (ha : -536870912 < a ∧ a < 536870912) (hc : -536870912 < c ∧ c < 536870912) (hb : b = if 0 ≤ a + c then (a + c) / 2 else -((-(a + c)) / 2)) : Near (bentI a b c 2) (a * 6 + c * 2) := by
  unfold Near bentI
  rw [tdiv_lit]
  split <;> split at hb <;> omega
theorem near_3 {a b c : Int} (ha : -536870912 < a ∧ a < 536870912) (hc : -536870912 < c ∧ c < 536870912) (hb : b = if 0 ≤ a + c then (a + c) / 2 else -((-(a + c)) / 2)) : Near (bentI a b c 3) (a * 5 + c * 3) := by
  unfold Near bentI
  rw [tdiv_lit]
  split <;> split at hb <;> omega
theorem near_4 {a b c : Int} (ha : -536870912 < a ∧ a < 536870912) (hc : -536870912 < c ∧ c < 536870912) (hb : b = if 0 ≤ a + c then (a + c) / 2 else -((-(a + c)) / 2)) : Near (bentI a b c 4) (a * 4 + c * 4) := by
  unfold Near bentI
  rw [tdiv_lit]
  split <;> split at hb <;> omega
theorem near_5 {a b c : Int} (ha : -536870912 < a ∧ a < 536870912) (hc : -536870912 < c ∧ c < 536870912) (hb : b = if 0 ≤ a + c then (a + c) / 2 else -((-(a + c)) / 2)) : Near (bentI a b c 5) (a * 3 + c * 5) := by
  unfold Near bentI
  rw [tdiv_lit]
  split <;> split at hb <;> omega
theorem near_6 {a b c : Int} (ha : -536870912 < a ∧ a < 536870912) (hc : -536870912 < c ∧ c < 536870912) (hb : b = if 0 ≤ a + c then (a + c) / 2 else -((-(a + c)) / 2)) : Near (bentI a b c 6) (a * 2 + c * 6) := by
  unfold Near bentI
  rw [tdiv_lit]
  split <;> split at hb <;> omega
theorem near_7 {a b c : Int} (ha : -536870912 < a ∧ a < 536870912) (hc : -536870912 < c ∧ c < 536870912) (hb : b = if 0 ≤ a + c then (a + c) / 2 else -((-(a + c)) / 2)) : Near (bentI a b c 7) (a + c * 7) := by
  unfold Near bentI
  rw [tdiv_lit]
  split <;> split at hb <;> omega
theorem near_8 {a b c : Int} (ha : -536870912 < a ∧ a < 536870912) (hc : -536870912 < c ∧ c < 536870912) (hb : b = if 0 ≤ a + c then (a + c) / 2 else -((-(a + c)) / 2)) : Near (bentI a b c 8) (c * 8) := by
  unfold Near bentI
  rw [tdiv_lit]
  split <;> split at hb <;> omega
set_option maxHeartbeats 4000000 in
theorem Straight_run {call : CallT} {nNum nC nK : Nat} (hnum : NumHF call nNum) (hcv : Curve2F call nC) (hK : ∀ st, call nK [] st = some (.bool true, st)) {x0 y0 x1 y1 : Int}
    (r1 : -9223372036854775808 ≤ x0 ∧ x0 < 9223372036854775808) (r2 : -9223372036854775808 ≤ y0 ∧ y0 < 9223372036854775808) (r3 : -9223372036854775808 ≤ x1 ∧ x1 < 9223372036854775808) (r4 : -9223372036854775808 ≤ y1 ∧ y1 < 9223372036854775808) :
    ∃ s1, enterF call 10 [.int .i64 x0, .int .i64 y0, .int .i64 x1, .int .i64 y1] (few []) (Straight_c nNum nC nK) = some (.bool true, s1) := by
  have n1 := fun st => hnum x0 st r1
  have n2 := fun st => hnum y0 st r2
  have n3 := fun st => hnum x1 st r3
  have n4 := fun st => hnum y1 st r4
  have t1 := tmod_in (numI x0)
  have t2 := tmod_in (numI y0)
  have t3 := tmod_in (numI x1)
  have t4 := tmod_in (numI y1)
  generalize hax : Int.tmod (numI x0) 536870912 = ax at t1
  generalize hay : Int.tmod (numI y0) 536870912 = ay at t2
  generalize hcx : Int.tmod (numI x1) 536870912 = cx at t3
  generalize hcy : Int.tmod (numI y1) 536870912 = cy at t4
  have d1 : Int.tdiv (ax + cx) 2 = if 0 ≤ ax + cx then (ax + cx) / 2 else -((-(ax + cx)) / 2) := tdiv_lit
  have d2 : Int.tdiv (ay + cy) 2 = if 0 ≤ ay + cy then (ay + cy) / 2 else -((-(ay + cy)) / 2) := tdiv_lit
  generalize hbx : Int.tdiv (ax + cx) 2 = bx at d1
  generalize hby : Int.tdiv (ay + cy) 2 = by_ at d2
  have ib : inB bx ∧ inB by_ := by
    unfold inB
    split at d1 <;> split at d2 <;> omega
  have c1 : clip ax = ax := clip_id (by omega) (by omega)
  have c2 : clip ay = ay := clip_id (by omega) (by omega)
  have c3 : clip cx = cx := clip_id (by omega) (by omega)
  have c4 : clip cy = cy := clip_id (by omega) (by omega)
  have c5 : clip bx = bx := clip_id ib.1.1 ib.1.2
  have c6 : clip by_ = by_ := clip_id ib.2.1 ib.2.2
  have ib1 := ib.1
  have ib2 := ib.2
  unfold inB at ib1 ib2
  have e1 : ∀ os, call nC [pairV ax ay, pairV bx by_, pairV cx cy] (few os) = some (.slice (some (os.length, 0)) 4 8 8 false, few (os ++ [some (.cells true (chordsL ax ay bx by_ cx cy))])) := fun os => (hcv ax ay bx by_ cx cy (few os)).trans (by rw [c1, c2, c3, c4, c5, c6]; exact lawOut_one)
  have e2 : ∀ os, call nC [pairV ax ay, pairV ax ay, pairV ax ay] (few os) = some (.slice (some (os.length, 0)) 4 8 8 false, few (os ++ [some (.cells true (chordsL ax ay ax ay ax ay))])) := fun os => (hcv ax ay ax ay ax ay (few os)).trans (by rw [c1, c2]; exact lawOut_one)
  simp only [pairV] at e1 e2
  have k8 : ∀ a b c, bentI a b c 8 = c := fun a b c => by unfold bentI; omega
  have s1 : ∀ a, bentI a a a 1 = a ∧ bentI a a a 2 = a ∧ bentI a a a 3 = a ∧ bentI a a a 4 = a ∧ bentI a a a 5 = a ∧ bentI a a a 6 = a ∧ bentI a a a 7 = a := fun a => by unfold bentI; omega
  refine enter_ex ?_
  simp (disch := omega) [n1, n2, n3, n4, bin_rem, bin_quo, hax, hay, hcx, hcy, hbx, hby, wrap_i, natOf_int, e1, e2, hK, chordsL, chordL, bent_0, k8, s1, dlt_t, dlt_f, dle_t, dle_f]
  refine wp_loop (fun k s st => st = few [some (.cells true [.int .i64 ax, .int .i64 ay]), some (.cells true [.int .i64 cx, .int .i64 cy]), some (.cells true [.int .i64 bx, .int .i64 by_]), some (.cells true (chordsL ax ay bx by_ cx cy)), some (.cells true (chordsL ax ay ax ay ax ay))] ∧
    ∃ i : Nat, i + k = 8 ∧ s (.i (.i (.i (.o (.o (.i .h)))))) = .int .i64 (i : Int) ∧ s (.o (.i (.i (.o (.o (.i .h)))))) = .int .i64 8 ∧ s (.i (.o (.i .h))) = .slice (some (3, 0)) 4 8 8 false ∧ s (.o (.i (.i .h))) = .slice (some (4, 0)) 4 8 8 false ∧
      s (.o (.i (.o .h))) = .ptr (some (0, 0)) ∧ s (.i (.i (.o .h))) = .ptr (some (1, 0))) 8 ?_ (by omega) ?_
  · refine ⟨?_, 0, by omega, ?_, ?_, ?_, ?_, ?_, ?_⟩ <;> simp [chordsL, chordL, bent_0, k8, s1]
  · rintro k s st ⟨rfl, i, hi, g1, g2, g3, g4, g5, g6⟩
    have hi' : i = 0 ∨ i = 1 ∨ i = 2 ∨ i = 3 ∨ i = 4 ∨ i = 5 ∨ i = 6 ∨ i = 7 ∨ i = 8 := by omega
    rcases hi' with rfl | rfl | rfl | rfl | rfl | rfl | rfl | rfl | rfl
    · obtain rfl : k = 8 := by omega
      have u := near_1 t1 t3 d1
      have v := near_1 t2 t4 d2
      unfold Near at u v
      simp (disch := omega) [g1, g2, g3, g4, g5, g6, bin_quo, wrap_i, natOf_int, chordsL, chordL, bent_0, k8, s1, wp_rounds, dlt_t, dlt_f, dle_t, dle_f, indexV]
      all_goals (try exact ⟨7, by omega, 1, by omega, rfl⟩)
    · obtain rfl : k = 7 := by omega
      have u := near_2 t1 t3 d1
      have v := near_2 t2 t4 d2
      unfold Near at u v
      simp (disch := omega) [g1, g2, g3, g4, g5, g6, bin_quo, wrap_i, natOf_int, chordsL, chordL, bent_0, k8, s1, wp_rounds, dlt_t, dlt_f, dle_t, dle_f, indexV]
      all_goals (try exact ⟨6, by omega, 2, by omega, rfl⟩)
    · obtain rfl : k = 6 := by omega
      have u := near_3 t1 t3 d1
      have v := near_3 t2 t4 d2
      unfold Near at u v
      simp (disch := omega) [g1, g2, g3, g4, g5, g6, bin_quo, wrap_i, natOf_int, chordsL, chordL, bent_0, k8, s1, wp_rounds, dlt_t, dlt_f, dle_t, dle_f, indexV]
      all_goals (try exact ⟨5, by omega, 3, by omega, rfl⟩)
    · obtain rfl : k = 5 := by omega
      have u := near_4 t1 t3 d1
      have v := near_4 t2 t4 d2
      unfold Near at u v
      simp (disch := omega) [g1, g2, g3, g4, g5, g6, bin_quo, wrap_i, natOf_int, chordsL, chordL, bent_0, k8, s1, wp_rounds, dlt_t, dlt_f, dle_t, dle_f, indexV]
      all_goals (try exact ⟨4, by omega, 4, by omega, rfl⟩)
    · obtain rfl : k = 4 := by omega
      have u := near_5 t1 t3 d1
      have v := near_5 t2 t4 d2
      unfold Near at u v
      simp (disch := omega) [g1, g2, g3, g4, g5, g6, bin_quo, wrap_i, natOf_int, chordsL, chordL, bent_0, k8, s1, wp_rounds, dlt_t, dlt_f, dle_t, dle_f, indexV]
      all_goals (try exact ⟨3, by omega, 5, by omega, rfl⟩)
    · obtain rfl : k = 3 := by omega
      have u := near_6 t1 t3 d1
      have v := near_6 t2 t4 d2
      unfold Near at u v
      simp (disch := omega) [g1, g2, g3, g4, g5, g6, bin_quo, wrap_i, natOf_int, chordsL, chordL, bent_0, k8, s1, wp_rounds, dlt_t, dlt_f, dle_t, dle_f, indexV]
      all_goals (try exact ⟨2, by omega, 6, by omega, rfl⟩)
    · obtain rfl : k = 2 := by omega
      have u := near_7 t1 t3 d1
      have v := near_7 t2 t4 d2
      unfold Near at u v
      simp (disch := omega) [g1, g2, g3, g4, g5, g6, bin_quo, wrap_i, natOf_int, chordsL, chordL, bent_0, k8, s1, wp_rounds, dlt_t, dlt_f, dle_t, dle_f, indexV]
      all_goals (try exact ⟨1, by omega, 7, by omega, rfl⟩)
    · obtain rfl : k = 1 := by omega
      have u := near_8 t1 t3 d1
      have v := near_8 t2 t4 d2
      unfold Near at u v
      rw [k8] at u v
      simp (disch := omega) [g1, g2, g3, g4, g5, g6, bin_quo, wrap_i, natOf_int, chordsL, chordL, bent_0, k8, s1, wp_rounds, dlt_t, dlt_f, dle_t, dle_f, indexV]
      all_goals (try exact ⟨0, by omega, 8, by omega, rfl⟩)
    · obtain rfl : k = 0 := by omega
      simp (disch := omega) [g1, g2, g3, g4, g5, g6, bin_quo, wrap_i, natOf_int, chordsL, chordL, bent_0, k8, s1, wp_rounds, dlt_t, dlt_f, dle_t, dle_f, indexV]

end Go.Vabs.Fl
