/-
  The parts: their run, the other places.
-/
import Derived.Test.YtcifapjhgjfjgaaVabsLc
namespace Go.Vabs.L2
set_option linter.unusedVariables false
set_option linter.unusedSimpArgs false
set_option maxRecDepth 10000
attribute [local simp] wp_skip wp_ret wp_exit wp_reg wp_seq wp_cond wp_block thenQ_normal thenQ_ret thenQ_exit blockQ_normal blockQ_ret blockQ_exit wpCond_true wpCond_false wpOps_nil wpVal_some wpGuard_true wpGuard_false wpOps_guard wpOps_cons
  put_at put_no ev_c ev_slot posEq_h posEq_o posEq_i posEq_ho posEq_hi posEq_oh posEq_ih posEq_oi posEq_io sel_true sel_false
  okv_some step_mv step_call step_pick pickV_bool step_bin bin_add bin_sub bin_mul bin_eql bin_neq bin_lss bin_leq bin_gtr bin_geq bin_eqb bin_neb bin_eqs bin_nes step_un un_not un_neg step_len len_slice len_str len_const step_extract extractV nth step_convInt conv_int step_convStr step_slice step_idxAddr natOf_nat step_load step_index step_field step_fieldAddr step_build step_minmax
  step_alloc step_bslice bsliceV_some newV_some step_store step_append boolIs_b boolIs_t finQ_ret finQ_normal ressE_nil ressE_cons resE_tmp consO_some initE_nil initE_cons pos_0 pos_1 pos_2 pos_3 pos_4 pos_5 pos_6 pos_7 pos_8 plain_bool plain_int plain_str plain_ptr plain_slice plain_map plain_agg plain_func plain_nilFunc V.undef oneOf_one oneOf_two ble_self
open Go.Vabs.Pk Go.Vabs.Ph
attribute [local simp] wp_dreg wpDs_nil wpDs_cons wantedE_none wantedE_some wpDGuard_true wpDGuard_lim wpDGuard_false wpDLim_true wpDVal_free wpDVal_lim back_limited next_limited convStr_limited load_limited foot_convStr foot_load okAll_nil okAll_cons okPair_read okPair_call pastsOf nthP
  wp_rounds wpRounds_succ roundQ_normal roundQ_ret roundQ_exit cells_int cells_bool cells_str few_alloc lawOut_nil lawOut_one
theorem thereB_out {len : Nat} {x n : Int} (h : x < 0 ∨ (len : Int) < x) : thereB len x n = false := by
  cases e : thereB len x n with
  | false => rfl
  | true => have := thereB_true.1 e; omega
set_option maxHeartbeats 2000000 in
theorem Parts_out {call : CallT} {nPick nU8 nU16 nU32 nI16 nK nP nF : Nat} (hpick : PickF call nPick) (h8 : UF 1 call nU8) (h16 : UF 2 call nU16) (h32 : UF 4 call nU32) (i16 : IF 2 call nI16) (hK : ∀ st, call nK [] st = some (.bool true, st))
    (hp : PartF call nP) (hf : FromF call nF) {nil : Bool} {bs : List Nat} (hnil : nil = true → bs = []) (hb : ∀ b ∈ bs, b < 256) (hl : bs.length ≤ 140737488351232) {x n : Int} (hn : 0 ≤ n ∧ n ≤ 8) {a1 a2 : Int} (e1 : pickI a1 (bs.length + 3) - 1 = x) (e2 : pickI a2 9 = n) (hx : x = -1 ∨ x = bs.length + 1) :
    ∃ s1, enterF call 6 [slOf nil bs, .int .i64 a1, .int .i64 a2] (memOf nil bs) (Parts_c nPick nU8 nU16 nU32 nI16 nK nP nF) = some (.bool true, s1) := by
  have hB : ∀ l, bytesAt (few (osOf nil bs ++ l)) (slOf nil bs) = some bs := fun l => by
    cases nil with
    | true => rw [hnil rfl]; rfl
    | false => exact bytesAt_few (os := some (.cells false (bytesV bs)) :: l) rfl (Nat.le_refl _) (by simp [bytesV_len]) (by rw [List.drop_zero, bytesV_take, List.take_length]) hb
  have hl' : bs.length < 9223372036854775808 := by omega
  have q1 := fun st => hpick a1 ((bs.length : Int) + 3) st (by omega) (by omega)
  have q2 := fun st => hpick a2 9 st (by omega) (by omega)
  have e1' : pickI a1 ((bs.length : Int) + 3) = x + 1 := by omega
  rw [e1'] at q1
  rw [e2] at q2
  have u8 := fun l x => h8 _ _ bs x (hB l) hl'
  have u16 := fun l x => h16 _ _ bs x (hB l) hl'
  have u32 := fun l x => h32 _ _ bs x (hB l) hl'
  have s16 := fun l x => i16 _ _ bs x (hB l) hl'
  have p := fun l => hp _ _ bs x n (hB l) hl
  have f := fun l => hf _ _ bs x (hB l) hl
  have t1 : thereB bs.length x n = false := thereB_out (by omega)
  have t2 : thereB bs.length x 0 = false := thereB_out (by omega)
  simp only [t1, t2, partA, if_true, if_false, Bool.false_eq_true, lawOut_nil] at p f
  rw [memOf_os]
  refine enter_ex ?_
  rcases hx with rfl | rfl
  · have n0 : num bs (-1) 1 = none := num_neg (by omega)
    have k2 : num bs (-1) 2 = none := num_neg (by omega)
    have k4 : num bs (-1) 4 = none := num_neg (by omega)
    have n1 := num_one (bs := bs) (m := 0) (i := 0)
    have n2 := num_one (bs := bs) (m := 0) (i := 1)
    have n3 := num_one (bs := bs) (m := 0) (i := 2)
    simp at n1 n2 n3
    have look : ∀ i, (bs[i]? = none ∧ bs.length ≤ i) ∨ ∃ b, bs[i]? = some b ∧ i < bs.length := fun i => by
      by_cases h : i < bs.length
      · exact .inr ⟨_, List.getElem?_eq_getElem h, h⟩
      · exact .inl ⟨List.getElem?_eq_none (by omega), by omega⟩
    rcases look 0 with ⟨z1, y1⟩ | ⟨b0, z1, y1⟩ <;> rcases look 1 with ⟨z2, y2⟩ | ⟨b1, z2, y2⟩ <;> rcases look 2 with ⟨z3, y3⟩ | ⟨b2, z3, y3⟩ <;> rw [z1] at n1 <;> rw [z2] at n2 <;> rw [z3] at n3 <;>
      simp (disch := omega) [len_slOf, wrap_i, q1, q2, u8, u16, u32, s16, hK, numV, sgnV, sgn, n0, n1, n2, n3, k2, k4, p, f, natOf_nat, natOf_int, idxAddrV, blt_dec, dlt_t, dlt_f, dle_t, dle_f, dltn_t, dltn_f, dlen_t, dlen_f, deq_t, deq_f, deqn_t, deqn_f] <;> omega
  · have n0 : num bs (bs.length + 1) 1 = none := num_far (by omega)
    have k2 : num bs (bs.length + 1) 2 = none := num_far (by omega)
    have k4 : num bs (bs.length + 1) 4 = none := num_far (by omega)
    have n1 : num bs (bs.length + 1 + 1) 1 = none := num_far (by omega)
    have n2 : num bs (bs.length + 1 + 2) 1 = none := num_far (by omega)
    have n3 : num bs (bs.length + 1 + 3) 1 = none := num_far (by omega)
    simp (disch := omega) [len_slOf, wrap_i, q1, q2, u8, u16, u32, s16, hK, numV, sgnV, sgn, n0, n1, n2, n3, k2, k4, p, f, natOf_nat, natOf_int, idxAddrV, blt_dec, dlt_t, dlt_f, dle_t, dle_f, dltn_t, dltn_f, dlen_t, dlen_f, deq_t, deq_f, deqn_t, deqn_f]

set_option maxHeartbeats 2000000 in
theorem Parts_nil {call : CallT} {nPick nU8 nU16 nU32 nI16 nK nP nF : Nat} (hpick : PickF call nPick) (h8 : UF 1 call nU8) (h16 : UF 2 call nU16) (h32 : UF 4 call nU32) (i16 : IF 2 call nI16) (hK : ∀ st, call nK [] st = some (.bool true, st))
    (hp : PartF call nP) (hf : FromF call nF) {n : Int} (hn : 0 ≤ n ∧ n ≤ 8) {a1 a2 : Int} (e1 : pickI a1 3 - 1 = 0) (e2 : pickI a2 9 = n) :
    ∃ s1, enterF call 6 [slOf true [], .int .i64 a1, .int .i64 a2] (memOf true []) (Parts_c nPick nU8 nU16 nU32 nI16 nK nP nF) = some (.bool true, s1) := by
  have hB : ∀ st, bytesAt st (slOf true []) = some [] := fun st => rfl
  have hN : isNil (slOf true []) = true := rfl
  have q1 := fun st => hpick a1 3 st (by omega) (by omega)
  have q2 := fun st => hpick a2 9 st (by omega) (by omega)
  have e1' : pickI a1 3 = 1 := by omega
  rw [e1'] at q1
  rw [e2] at q2
  have u8 := fun st x => h8 st _ [] x (hB st) (by simp)
  have u16 := fun st x => h16 st _ [] x (hB st) (by simp)
  have u32 := fun st x => h32 st _ [] x (hB st) (by simp)
  have s16 := fun st x => i16 st _ [] x (hB st) (by simp)
  have p := fun st => hp st _ [] 0 n (hB st) (by simp)
  have f := fun st => hf st _ [] 0 (hB st) (by simp)
  have t2 : thereB ([] : List Nat).length 0 0 = true := rfl
  have z : ∀ (x : Int) (k : Nat), 0 < k → num [] x k = none := fun x k hk => by
    unfold num
    rw [if_neg (fun e => by have := thereB_true.1 e; simp at this; omega)]
  have ll : ∀ st, lenV st .slice (slOf true []) = some (.int .i64 0) := fun st => rfl
  simp only [hN, t2, partA, if_true, lawOut_nil] at p f
  rw [show memOf true [] = few [] from rfl]
  refine enter_ex ?_
  by_cases hz : n = 0
  · subst hz
    have t1 : thereB ([] : List Nat).length 0 0 = true := rfl
    simp only [t1, if_true, lawOut_nil] at p
    have hs : ∀ k, sliceOp (.slice 1) (.slice none 0 0 0 true) none (some (.int k 0)) none = some (.slice none 1 0 0 true) := fun k => rfl
    have hcv : ∀ st e, convV st .toStr (.slice none e 0 0 true) = some (.str []) := fun st e => rfl
    simp (disch := omega) [ll, wrap_i, q1, q2, u8, u16, u32, s16, hK, numV, sgnV, sgn, z, p, f, hs, hcv, natOf_nat, natOf_int, idxAddrV, blt_dec, dlt_t, dlt_f, dle_t, dle_f, dltn_t, dltn_f, dlen_t, dlen_f, deq_t, deq_f, deqn_t, deqn_f]
  · have t1 : thereB ([] : List Nat).length 0 n = false := by
      cases e : thereB ([] : List Nat).length 0 n with
      | false => rfl
      | true => have := thereB_true.1 e; simp at this; omega
    simp only [t1, if_false, Bool.false_eq_true, lawOut_nil] at p
    simp (disch := omega) [ll, wrap_i, q1, q2, u8, u16, u32, s16, hK, numV, sgnV, sgn, z, p, f, natOf_nat, natOf_int, idxAddrV, blt_dec, dlt_t, dlt_f, dle_t, dle_f, dltn_t, dltn_f, dlen_t, dlen_f, deq_t, deq_f, deqn_t, deqn_f]
theorem Parts_all {call : CallT} {nPick nU8 nU16 nU32 nI16 nK nP nF : Nat} (hpick : PickF call nPick) (h8 : UF 1 call nU8) (h16 : UF 2 call nU16) (h32 : UF 4 call nU32) (i16 : IF 2 call nI16) (hK : ∀ st, call nK [] st = some (.bool true, st))
    (hp : PartF call nP) (hf : FromF call nF) {nil : Bool} {bs : List Nat} (hnil : nil = true → bs = []) (hb : ∀ b ∈ bs, b < 256) (hl : bs.length ≤ 140737488351232) {a1 a2 : Int} :
    ∃ s1, enterF call 6 [slOf nil bs, .int .i64 a1, .int .i64 a2] (memOf nil bs) (Parts_c nPick nU8 nU16 nU32 nI16 nK nP nF) = some (.bool true, s1) := by
  have p1 := pickI_lt (n := a1) (m := (bs.length : Int) + 3) (by omega)
  have p2 := pickI_lt (n := a2) (m := 9) (by omega)
  by_cases hx : pickI a1 (bs.length + 3) - 1 = -1 ∨ pickI a1 (bs.length + 3) - 1 = bs.length + 1
  · exact Parts_out hpick h8 h16 h32 i16 hK hp hf hnil hb hl (n := pickI a2 9) (by omega) rfl rfl hx
  · obtain ⟨m, hm⟩ := Int.eq_ofNat_of_zero_le (show 0 ≤ pickI a1 (bs.length + 3) - 1 by omega)
    cases nil with
    | false => exact Parts_run hpick h8 h16 h32 i16 hK hp hf hb hl (m := m) (n := pickI a2 9) (by omega) hm rfl (by omega)
    | true =>
      have e := hnil rfl
      subst e
      simp at hx hm p1
      exact Parts_nil hpick h8 h16 h32 i16 hK hp hf (n := pickI a2 9) (by omega) (by omega) rfl

end Go.Vabs.L2
