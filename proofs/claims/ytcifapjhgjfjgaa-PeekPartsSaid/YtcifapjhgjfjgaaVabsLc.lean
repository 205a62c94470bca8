/-
  The parts: their run.
-/
import Derived.Test.YtcifapjhgjfjgaaVabsLb
import Derived.Test.YtcifapjhgjfjgaaVabsZe
namespace Go.Vabs.L2
set_option linter.unusedVariables false
set_option linter.unusedSimpArgs false
set_option maxRecDepth 10000
attribute [local simp] wp_skip wp_ret wp_exit wp_reg wp_seq wp_cond wp_block thenQ_normal thenQ_ret thenQ_exit blockQ_normal blockQ_ret blockQ_exit wpCond_true wpCond_false wpOps_nil wpVal_some wpGuard_true wpGuard_false wpOps_guard wpOps_cons
  put_at put_no ev_c ev_slot posEq_h posEq_o posEq_i posEq_ho posEq_hi posEq_oh posEq_ih posEq_oi posEq_io sel_true sel_false
  okv_some step_mv step_call step_pick pickV_bool step_bin bin_add bin_sub bin_mul bin_eql bin_neq bin_lss bin_leq bin_gtr bin_geq bin_eqb bin_neb bin_eqs bin_nes step_un un_not un_neg step_len len_slice len_str len_const step_extract extractV nth step_convInt conv_int step_convStr step_slice step_idxAddr natOf_nat step_load step_index step_field step_fieldAddr step_build step_minmax
  step_alloc step_bslice bsliceV_some newV_some step_store step_append boolIs_b boolIs_t finQ_ret finQ_normal ressE_nil ressE_cons resE_tmp consO_some initE_nil initE_cons pos_0 pos_1 pos_2 pos_3 pos_4 pos_5 pos_6 pos_7 pos_8 plain_bool plain_int plain_str plain_ptr plain_slice plain_map plain_agg plain_func plain_nilFunc V.undef oneOf_one oneOf_two ble_self
open Go.Vabs.Pk Go.Vabs.Ph
attribute [local simp] wp_dreg wpDs_nil wpDs_cons wantedE_none wantedE_some wpDGuard_true wpDGuard_lim wpDGuard_false wpDLim_true wpDVal_free wpDVal_lim back_limited next_limited convStr_limited load_limited foot_convStr foot_load okAll_nil okAll_cons okPair_read okPair_call pastsOf nthP
  wp_rounds wpRounds_succ roundQ_normal roundQ_ret roundQ_exit cells_int cells_bool cells_str few_alloc lawOut_nil lawOut_one

theorem num_at {bs : List Nat} {m z : Nat} : num bs (m : Int) z = if m ≤ bs.length ∧ z ≤ (bs.drop m).length then some (be ((bs.drop m).take z)) else none := by
  unfold num
  by_cases h : m ≤ bs.length ∧ z ≤ (bs.drop m).length
  · rw [if_pos h, if_pos (thereB_true.2 (by have := h.2; rw [List.length_drop] at this; omega)), Int.toNat_natCast]
  · rw [if_neg h, if_neg (fun e => h (by have := thereB_true.1 e; rw [List.length_drop]; omega))]
theorem num_one {bs : List Nat} {m i : Nat} : num bs ((m : Int) + (i : Int)) 1 = (bs.drop m)[i]? := by
  rw [show ((m : Int) + (i : Int)) = ((m + i : Nat) : Int) from by omega, num_at, List.getElem?_drop]
  by_cases h : m + i < bs.length
  · rw [if_pos (by rw [List.length_drop]; omega), List.getElem?_eq_getElem h, List.drop_eq_getElem_cons h]
    rw [List.take_succ_cons, List.take_zero]
    simp [be]
  · rw [if_neg (by rw [List.length_drop]; omega), List.getElem?_eq_none (by omega)]
theorem num_neg {bs : List Nat} {x : Int} {z : Nat} (h : x < 0) : num bs x z = none := by
  unfold num
  rw [if_neg (fun e => by have := thereB_true.1 e; omega)]
theorem num_far {bs : List Nat} {x : Int} {z : Nat} (h : (bs.length : Int) < x) : num bs x z = none := by
  unfold num
  rw [if_neg (fun e => by have := thereB_true.1 e; omega)]

theorem conv_take {os : List (Option AObj)} {k c h : Nat} {f : Bool} {l : List Nat} (hk : (os[k]?).join = some (newBytes l)) (hb : ∀ b ∈ l, b < 256) (hh : h ≤ l.length) : convV (few os) .toStr (.slice (some (k, 0)) 1 h c f) = some (.str (l.take h)) := by
  show sel (Nat.beq 1 1) (match (few os).loadN k 0 h with | some cs => (bytesOf cs).map V.str | none => none) none = _
  rw [loadN_few hk (by rw [bytesV_len]; omega), List.drop_zero, bytesV_take, Nat.beq_refl, sel_true]
  show (bytesOf (bytesV (l.take h))).map V.str = _
  rw [bytesOf_of (fun b hb' => hb b (List.mem_of_mem_take hb'))]
  rfl
theorem blt_dec {a b : Nat} : Nat.blt a b = decide (a < b) := by
  by_cases h : a < b
  · rw [blt_t h, decide_eq_true h]
  · rw [decide_eq_false h]
    cases e : Nat.blt a b with
    | false => rfl
    | true => exact absurd (Nat.le_of_ble_eq_true e) h
set_option maxHeartbeats 2000000 in
theorem Parts_run {call : CallT} {nPick nU8 nU16 nU32 nI16 nK nP nF : Nat} (hpick : PickF call nPick) (h8 : UF 1 call nU8) (h16 : UF 2 call nU16) (h32 : UF 4 call nU32) (i16 : IF 2 call nI16) (hK : ∀ st, call nK [] st = some (.bool true, st))
    (hp : PartF call nP) (hf : FromF call nF) {bs : List Nat} (hb : ∀ b ∈ bs, b < 256) (hl : bs.length ≤ 140737488351232) {m : Nat} {n : Int} (hn : 0 ≤ n ∧ n ≤ 8) {a1 a2 : Int} (e1 : pickI a1 (bs.length + 3) - 1 = (m : Int)) (e2 : pickI a2 9 = n) (hm : m ≤ bs.length) :
    ∃ s1, enterF call 6 [slOf false bs, .int .i64 a1, .int .i64 a2] (memOf false bs) (Parts_c nPick nU8 nU16 nU32 nI16 nK nP nF) = some (.bool true, s1) := by
  have hB : ∀ l, bytesAt (few (some (.cells false (bytesV bs)) :: l)) (slOf false bs) = some bs := fun l =>
      bytesAt_few (os := some (.cells false (bytesV bs)) :: l) rfl (Nat.le_refl _) (by simp [bytesV_len]) (by rw [List.drop_zero, bytesV_take, List.take_length]) hb
  have hN : isNil (slOf false bs) = false := rfl
  have hl' : bs.length < 9223372036854775808 := by omega
  have q1 := fun st => hpick a1 ((bs.length : Int) + 3) st (by omega) (by omega)
  have q2 := fun st => hpick a2 9 st (by omega) (by omega)
  have e1' : pickI a1 ((bs.length : Int) + 3) = m + 1 := by omega
  rw [e1'] at q1
  rw [e2] at q2
  have u8 := fun l x => h8 _ _ bs x (hB l) hl'
  have u16 := fun l x => h16 _ _ bs x (hB l) hl'
  have u32 := fun l x => h32 _ _ bs x (hB l) hl'
  have s16 := fun l x => i16 _ _ bs x (hB l) hl'
  have p := fun l => hp _ _ bs m n (hB l) hl
  have f := fun l => hf _ _ bs m (hB l) hl
  simp only [hN] at p f
  have hld : ∀ l (x y z w : Int), loadV (few (some (.cells false (bytesV bs)) :: some (.cells true [.int .i64 x, .int .i64 y, .int .i64 z, .int .i64 w]) :: l)) false 1 (.ptr (some (1, 0))) = some (.int .i64 x) ∧
      loadV (few (some (.cells false (bytesV bs)) :: some (.cells true [.int .i64 x, .int .i64 y, .int .i64 z, .int .i64 w]) :: l)) false 1 (.ptr (some (1, 1))) = some (.int .i64 y) ∧
      loadV (few (some (.cells false (bytesV bs)) :: some (.cells true [.int .i64 x, .int .i64 y, .int .i64 z, .int .i64 w]) :: l)) false 1 (.ptr (some (1, 2))) = some (.int .i64 z) ∧
      loadV (few (some (.cells false (bytesV bs)) :: some (.cells true [.int .i64 x, .int .i64 y, .int .i64 z, .int .i64 w]) :: l)) false 1 (.ptr (some (1, 3))) = some (.int .i64 w) := fun l x y z w => by refine ⟨?_, ?_, ?_, ?_⟩ <;> exact (load_few (i := 1) (own := true) (cs := [.int .i64 x, .int .i64 y, .int .i64 z, .int .i64 w]) rfl).trans rfl
  have hst : ∀ l (x y z w v : Int) (i : Nat), i < 4 → storeV (few (some (.cells false (bytesV bs)) :: some (.cells true [.int .i64 x, .int .i64 y, .int .i64 z, .int .i64 w]) :: l)) 1 (.ptr (some (1, i))) (some [.int .i64 v]) =
      some (V.undef, few (some (.cells false (bytesV bs)) :: some (.cells true ([V.int .i64 x, V.int .i64 y, V.int .i64 z, V.int .i64 w].set i (.int .i64 v))) :: l)) := fun l x y z w v i hi => store_few (os := some (.cells false (bytesV bs)) :: some (.cells true [.int .i64 x, .int .i64 y, .int .i64 z, .int .i64 w]) :: l) (i := 1) rfl hi
  have n0 := num_one (bs := bs) (m := m) (i := 0)
  have n1 := num_one (bs := bs) (m := m) (i := 1)
  have n2 := num_one (bs := bs) (m := m) (i := 2)
  have n3 := num_one (bs := bs) (m := m) (i := 3)
  have k2 := num_at (bs := bs) (m := m) (z := 2)
  have k4 := num_at (bs := bs) (m := m) (z := 4)
  have hlen : (bs.drop m).length = bs.length - m := List.length_drop
  have hmem : ∀ b ∈ bs.drop m, b < 256 := fun b h => hb b (List.mem_of_mem_drop h)
  have hth0 : thereB bs.length m 0 = true := thereB_true.2 (by omega)
  have hthL : thereB bs.length m (bs.length - m) = true := thereB_true.2 (by omega)
  have hc2 := Pk.cut_len hthL
  have b2 := cutB_lt hb (x := (m : Int)) (n := bs.length - m)
  have b1' := cutB_lt hb (x := (m : Int)) (n := n)
  have hsame : (cutB bs m (bs.length - m)).take n.toNat = cutB bs m n ∨ ¬ n ≤ bs.length - m := by
    by_cases h : n ≤ bs.length - m
    · left
      unfold cutB
      rw [List.take_take, Nat.min_eq_left (by omega)]
    · exact .inr h
  simp only [hth0, partA, if_true, if_false, Bool.false_eq_true, lawOut_one, List.cons_append] at f
  have cv : ∀ os k l h c f, (os[k]?).join = some (newBytes l) → (∀ b ∈ l, b < 256) → h ≤ l.length → convV (few os) .toStr (.slice (some (k, 0)) 1 h c f) = some (.str (l.take h)) := fun os k l h c f a b d => conv_take a b d
  have fin : ∀ (pv : V) (st : St), True := fun _ _ => trivial
  refine enter_ex ?_
  cases hth : thereB bs.length m n with
  | false =>
    have hth' : ¬ n ≤ bs.length - m := fun e => by rw [thereB_true.2 ⟨by omega, by omega, hn.1, e⟩] at hth; cases hth
    simp only [hth, partA, if_true, if_false, Bool.false_eq_true, lawOut_nil] at p
    rcases ht : bs.drop m with _ | ⟨b0, _ | ⟨b1, _ | ⟨b2, _ | ⟨b3, r⟩⟩⟩⟩ <;> rw [ht] at n0 n1 n2 n3 k2 k4 hlen hmem <;> simp [hm] at n0 n1 n2 n3 k2 k4 hlen hmem
    all_goals (try simp only [be, List.foldl] at k2 k4)
    · simp (disch := omega) [memOf, len_slOf, wrap_i, q1, q2, u8, u16, u32, s16, hK, numV, sgnV, sgn, n0, n1, n2, n3, k2, k4, p, f, hc2, hld, hst, natOf_nat, natOf_int, idxAddrV, blt_dec, dlt_t, dlt_f, dle_t, dle_f, dltn_t, dltn_f, dlen_t, dlen_f, deq_t, deq_f, deqn_t, deqn_f]
    · simp (disch := omega) [memOf, len_slOf, wrap_i, q1, q2, u8, u16, u32, s16, hK, numV, sgnV, sgn, n0, n1, n2, n3, k2, k4, p, f, hc2, hld, hst, natOf_nat, natOf_int, idxAddrV, blt_dec, dlt_t, dlt_f, dle_t, dle_f, dltn_t, dltn_f, dlen_t, dlen_f, deq_t, deq_f, deqn_t, deqn_f]
    all_goals
      have hm0 := hmem.1
      have hm1 : b1 < 256 := by first | exact hmem.2.1 | exact hmem.2
      by_cases h128 : 128 ≤ b0
      · simp (disch := omega) [memOf, len_slOf, wrap_i, q1, q2, u8, u16, u32, s16, hK, numV, sgnV, sgn, n0, n1, n2, n3, k2, k4, p, f, hc2, hld, hst, natOf_nat, natOf_int, idxAddrV, blt_dec, dlt_t, dlt_f, dle_t, dle_f, dltn_t, dltn_f, dlen_t, dlen_f, deq_t, deq_f, deqn_t, deqn_f, if_pos]
      · simp (disch := omega) [memOf, len_slOf, wrap_i, q1, q2, u8, u16, u32, s16, hK, numV, sgnV, sgn, n0, n1, n2, n3, k2, k4, p, f, hc2, hld, hst, natOf_nat, natOf_int, idxAddrV, blt_dec, dlt_t, dlt_f, dle_t, dle_f, dltn_t, dltn_f, dlen_t, dlen_f, deq_t, deq_f, deqn_t, deqn_f, if_neg]
  | true =>
    have hh := thereB_true.1 hth
    simp only [hth, partA, if_true, if_false, Bool.false_eq_true, lawOut_one, List.cons_append] at p
    have hc1 := Pk.cut_len hth
    have hsame' : (cutB bs m (bs.length - m)).take n.toNat = cutB bs m n := by
      rcases hsame with h | h
      · exact h
      · exact absurd hh.2.2.2 h
    have hcv1 : ∀ L c f, convV (few [some (.cells false (bytesV bs)), L, some (newBytes (cutB bs m n)), some (newBytes (cutB bs m (bs.length - m)))]) .toStr (.slice (some (2, 0)) 1 n.toNat c f) = some (.str (cutB bs m n)) := fun L c f => by
      rw [← hc1, conv_take (l := cutB bs m n) rfl b1' (Nat.le_refl _), List.take_length]
    have hcv2 : ∀ L c f, convV (few [some (.cells false (bytesV bs)), L, some (newBytes (cutB bs m n)), some (newBytes (cutB bs m (bs.length - m)))]) .toStr (.slice (some (3, 0)) 1 n.toNat c f) = some (.str (cutB bs m n)) := fun L c f => by
      rw [conv_take (l := cutB bs m (bs.length - m)) rfl b2 (by omega), hsame']
    rcases ht : bs.drop m with _ | ⟨b0, _ | ⟨b1, _ | ⟨b2, _ | ⟨b3, r⟩⟩⟩⟩ <;> rw [ht] at n0 n1 n2 n3 k2 k4 hlen hmem <;> simp [hm] at n0 n1 n2 n3 k2 k4 hlen hmem
    all_goals (try simp only [be, List.foldl] at k2 k4)
    · simp (disch := omega) [memOf, len_slOf, wrap_i, q1, q2, u8, u16, u32, s16, hK, numV, sgnV, sgn, n0, n1, n2, n3, k2, k4, p, f, hc1, hc2, hcv1, hcv2, slice_hiI, shiftA_some, hld, hst, natOf_nat, natOf_int, idxAddrV, blt_dec, dlt_t, dlt_f, dle_t, dle_f, dltn_t, dltn_f, dlen_t, dlen_f, deq_t, deq_f, deqn_t, deqn_f]
    · simp (disch := omega) [memOf, len_slOf, wrap_i, q1, q2, u8, u16, u32, s16, hK, numV, sgnV, sgn, n0, n1, n2, n3, k2, k4, p, f, hc1, hc2, hcv1, hcv2, slice_hiI, shiftA_some, hld, hst, natOf_nat, natOf_int, idxAddrV, blt_dec, dlt_t, dlt_f, dle_t, dle_f, dltn_t, dltn_f, dlen_t, dlen_f, deq_t, deq_f, deqn_t, deqn_f]
    all_goals
      have hm0 := hmem.1
      have hm1 : b1 < 256 := by first | exact hmem.2.1 | exact hmem.2
      by_cases h128 : 128 ≤ b0
      · simp (disch := omega) [memOf, len_slOf, wrap_i, q1, q2, u8, u16, u32, s16, hK, numV, sgnV, sgn, n0, n1, n2, n3, k2, k4, p, f, hc1, hc2, hcv1, hcv2, slice_hiI, shiftA_some, hld, hst, natOf_nat, natOf_int, idxAddrV, blt_dec, dlt_t, dlt_f, dle_t, dle_f, dltn_t, dltn_f, dlen_t, dlen_f, deq_t, deq_f, deqn_t, deqn_f, if_pos]
      · simp (disch := omega) [memOf, len_slOf, wrap_i, q1, q2, u8, u16, u32, s16, hK, numV, sgnV, sgn, n0, n1, n2, n3, k2, k4, p, f, hc1, hc2, hcv1, hcv2, slice_hiI, shiftA_some, hld, hst, natOf_nat, natOf_int, idxAddrV, blt_dec, dlt_t, dlt_f, dle_t, dle_f, dltn_t, dltn_f, dlen_t, dlen_f, deq_t, deq_f, deqn_t, deqn_f, if_neg]

end Go.Vabs.L2
