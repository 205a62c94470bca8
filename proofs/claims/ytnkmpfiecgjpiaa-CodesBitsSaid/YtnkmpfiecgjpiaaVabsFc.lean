/-
  Bits come as they stand.
-/
import Derived.Test.YtnkmpfiecgjpiaaVabsFb
namespace Go.Vabs.Fb
set_option linter.unusedVariables false
set_option linter.unusedSimpArgs false
set_option maxRecDepth 10000
attribute [local simp] wp_skip wp_ret wp_exit wp_reg wp_seq wp_cond wp_block thenQ_normal thenQ_ret thenQ_exit blockQ_normal blockQ_ret blockQ_exit wpCond_true wpCond_false wpOps_nil wpVal_some wpGuard_true wpGuard_false wpOps_guard wpOps_cons
  put_at put_no ev_c ev_slot posEq_h posEq_o posEq_i posEq_ho posEq_hi posEq_oh posEq_ih posEq_oi posEq_io sel_true sel_false
  okv_some step_mv step_call step_pick pickV_bool step_bin bin_add bin_sub bin_mul bin_eql bin_neq bin_lss bin_leq bin_gtr bin_geq bin_eqb bin_neb bin_eqs bin_nes step_un un_not un_neg step_len len_slice len_str len_const step_extract extractV nth step_convInt conv_int step_convStr step_slice step_idxAddr natOf_nat step_load step_index step_field step_fieldAddr step_build step_minmax
  step_alloc step_bslice bsliceV_some newV_some step_store step_append boolIs_b boolIs_t finQ_ret finQ_normal ressE_nil ressE_cons resE_tmp consO_some initE_nil initE_cons pos_0 pos_1 pos_2 pos_3 pos_4 pos_5 pos_6 pos_7 pos_8 plain_bool plain_int plain_str plain_ptr plain_slice plain_map plain_agg plain_func plain_nilFunc V.undef oneOf_one oneOf_two ble_self bin_agg eqV_parts eqV_int eqV_bool eqV_str eqParts_nil eqParts_cons eqC_true eqC_false eqO_some eqR_eql eqR_neq
attribute [local simp] wp_dreg wpDs_nil wpDs_cons wantedE_none wantedE_some wpDGuard_true wpDGuard_lim wpDGuard_false wpDLim_true wpDVal_free wpDVal_lim back_limited next_limited foot_convStr foot_load foot_store foot_alloc foot_box foot_bslice foot_append foot_call okAll_nil okAll_cons pastsOf nthP
  wpRounds_succ roundQ_normal roundQ_ret roundQ_exit cells_int cells_bool cells_str cells_agg cells_slice few_alloc lawOut_nil lawOut_one step_box newV alloc_dir backv back_back back_few next_back few_next resE_cell load_fewC store_fewC first_fewC grow_none grow_some cellsAt_zero cellsAt_succ ownAt_zero ownAt_succ loadC_some storeC_some firstC_some growC_some load_d convStr_d convStr_d0 store_d append_d2 append_d1 first_d2 first_d1 cut takeN nth splice over idOf okPair_dd okPair_dc okPair_cd okPair_cc anyIn_nil anyIn_cons meets_nil meets_nil' meets_cons mem_nil mem_cons nbeq_dec blt_dec ble_dec fill repN firstNo lenOf fieldAddrV fieldV part natOf_zero natOf_one
open Go.Vabs.Ph Go.Vabs.Pk
/-- A reader in its memory. -/
theorem mkRd {pre : List (Option AObj)} {sv : V} {c : Nat} {bs : List Nat} (hl : ∀ st, lenV st .slice sv = some (.int .i64 (bs.length : Int))) (hi : ∀ q, q < bs.length → idxAddrV (.slice 1) sv (some q) = some (.ptr (some (c, q))))
    (hb : ∀ q, q < bs.length → ∃ own cs, (pre[c]?).join = some (.cells own cs) ∧ cs[q]? = some (.int .u8 (byteN bs q : Int))) (hs : ∀ b ∈ bs, b < 256) : Rd (fun p => few (pre ++ [some (.cells true [sv, .int .i64 p])])) pre.length c sv bs := by
  have hat : ∀ p, ((pre ++ [some (AObj.cells true [sv, .int .i64 p])])[pre.length]?).join = some (.cells true [sv, .int .i64 p]) := fun p => join_new
  refine ⟨fun p => (load_few (hat p)).trans rfl, fun p => (load_few (hat p)).trans rfl, fun p q => ?_, hl, hi, fun p q hq => ?_, fun q => ?_⟩
  · rw [store_few (hat p) (by simp)]
    simp
  · obtain ⟨own, cs, h1, h2⟩ := hb q hq
    have hc : c < pre.length := by
      cases hx : pre[c]? with
      | none => rw [hx] at h1; cases h1
      | some y => exact (List.getElem?_eq_some_iff.1 hx).1
    exact (load_few (own := own) (cs := cs) (by rw [List.getElem?_append_left hc]; exact h1)).trans h2
  · unfold byteN
    rw [List.getD_eq_getElem?_getD]
    cases hx : bs[q]? with
    | none => show 0 < 256; omega
    | some b => exact hs b (List.mem_of_getElem? hx)
theorem byte_at {bs : List Nat} {q : Nat} (h : q < bs.length) : (bytesV bs)[q]? = some (.int .u8 (byteN bs q : Int)) := by
  rw [bytesV_at, List.getElem?_eq_getElem h]
  unfold byteN
  rw [List.getD_eq_getElem?_getD, List.getElem?_eq_getElem h]
  rfl
theorem slAt_false {i n : Nat} : slAt false i n = .slice (some (i, 0)) 1 n n false := rfl
theorem slAt_true {i n : Nat} : slAt true i n = .slice none 1 n n false := rfl
/-- NewBits. -/
theorem New_run {call : CallT} {lf nc : Nat} (hcl : CloneF call nc) {nil : Bool} {bs : List Nat} {ol : Option AObj} (hnil : nil = true → bs = []) (hb : ∀ b ∈ bs, b < 256) (hl : bs.length ≤ 140737488351232) :
    ∃ (pre : List (Option AObj)) (c : Nat) (sv : V), enterF call lf [slAt nil 0 bs.length] (few [objOf nil (bytesV bs), ol]) (NewBits_c nc) = some (.ptr (some (pre.length, 0)), few (pre ++ [some (.cells true [sv, .int .i64 0])])) ∧
      Rd (fun p => few (pre ++ [some (.cells true [sv, .int .i64 p])])) pre.length c sv bs ∧ ∃ l, pre = objOf nil (bytesV bs) :: ol :: l := by
  cases nil with
  | true =>
    have := hnil rfl
    subst this
    refine ⟨[none, ol], 0, .slice none 0 0 0 true, ?_, mkRd (fun st => rfl) (fun q h => by simp at h) (fun q h => by simp at h) hb, [], rfl⟩
    refine enter_eq ?_
    rw [slAt_true]
    simp [hcl.2, objOf]
  | false =>
    have e := hcl.1 [some (.cells false (bytesV bs)), ol] 0 0 bs.length bs.length false false (bytesV bs) bs rfl (by rw [bytesV_len]; omega) (by rw [List.drop_zero, bytesV_take, List.take_length]) rfl (by omega)
    by_cases h0 : bs = []
    · subst h0
      refine ⟨[some (.cells false (bytesV [])), ol, some (newBytes [])], 0, .slice (some (2, 0)) 1 0 0 true, ?_, mkRd (fun st => rfl) (fun q h => by simp at h) (fun q h => by simp at h) hb, _, rfl⟩
      simp only [cloneR, if_true] at e
      have e : call nc [.slice (some (0, 0)) 1 0 0 false] (few [some (.cells false (bytesV [])), ol]) = some (.slice (some (2, 0)) 1 0 0 true, few [some (.cells false (bytesV [])), ol, some (newBytes [])]) := e
      refine enter_eq ?_
      rw [slAt_false]
      simp [e, objOf]
    · have hcl2 : cloneR [some (.cells false (bytesV bs)), ol] bs = (.slice (some (3, 0)) 1 bs.length bs.length false, few [some (.cells false (bytesV bs)), ol, some (newBytes []), some (newBytes bs)]) := by
        unfold cloneR
        rw [if_neg h0]
        rfl
      rw [hcl2] at e
      refine ⟨[some (.cells false (bytesV bs)), ol, some (newBytes []), some (newBytes bs)], 3, .slice (some (3, 0)) 1 bs.length bs.length false, ?_, mkRd (fun st => rfl) (fun q h => ?_) (fun q h => ⟨true, bytesV bs, rfl, byte_at h⟩) hb, _, rfl⟩
      · refine enter_eq ?_
        rw [slAt_false]
        simp [e, objOf]
      · rw [idxAddr_slice h]; simp
theorem tdiv9 {n k : Int} : Int.tdiv n k = if 0 ≤ n then n / k else -((-n) / k) := by
  split
  · exact Int.tdiv_eq_ediv_of_nonneg ‹_›
  · rw [← Int.tdiv_eq_ediv_of_nonneg (show 0 ≤ -n by omega), Int.neg_tdiv, Int.neg_neg]
set_option maxHeartbeats 4000000 in
theorem BitsLaw_run {call : CallT} {nNew nK nPick nAlign nTake nUsed nc : Nat} (hnew : ∀ (nil : Bool) (bs : List Nat) (ol : Option AObj), (nil = true → bs = []) → (∀ b ∈ bs, b < 256) → bs.length ≤ 140737488351232 →
      ∃ (pre : List (Option AObj)) (c : Nat) (sv : V), call nNew [slAt nil 0 bs.length] (few [objOf nil (bytesV bs), ol]) = some (.ptr (some (pre.length, 0)), few (pre ++ [some (.cells true [sv, .int .i64 0])])) ∧
      Rd (fun p => few (pre ++ [some (.cells true [sv, .int .i64 p])])) pre.length c sv bs ∧ ∃ l, pre = objOf nil (bytesV bs) :: ol :: l)
    (hK : ∀ st, call nK [] st = some (.bool true, st)) (hpick : PickF call nPick) (hal : AlignF call nAlign) (htk : TakeF call nTake) (hus : UsedF call nUsed)
    {nil nil' : Bool} {bs : List Nat} {ns : List Int} (hnil : nil = true → bs = []) (hnil' : nil' = true → ns = []) (hb : ∀ b ∈ bs, b < 256) (hl : bs.length ≤ 140737488351232) (hns : ∀ n ∈ ns, -9223372036854775808 ≤ n ∧ n < 9223372036854775808) (hl' : ns.length ≤ 140737488351232) :
    ∃ s1, enterF call 62 [slAt nil 0 bs.length, slAt nil' 1 ns.length] (few [objOf nil (bytesV bs), objOf nil' (intsV .i64 ns)]) (BitsLaw_c nNew nK nPick nAlign nTake nUsed) = some (.bool true, s1) := by
  obtain ⟨pre, c, sv, e1, hrd, l, hpre⟩ := hnew nil bs (objOf nil' (intsV .i64 ns)) hnil hb hl
  obtain ⟨M, hM⟩ : ∃ M : Int → St, M = fun p => few (pre ++ [some (.cells true [sv, .int .i64 p])]) := ⟨_, rfl⟩
  obtain ⟨R, hR⟩ : ∃ R, R = pre.length := ⟨_, rfl⟩
  rw [← hM, ← hR] at hrd
  have e1' : call nNew [slAt nil 0 bs.length] (few [objOf nil (bytesV bs), objOf nil' (intsV .i64 ns)]) = some (.ptr (some (R, 0)), M 0) := by rw [e1, hM, hR]
  have hidB : ∀ q, q < bs.length → idxAddrV (.slice 1) (slAt nil 0 bs.length) (some q) = some (.ptr (some (0, q))) := fun q hq => by
    cases nil with
    | true => rw [hnil rfl] at hq; simp at hq
    | false => rw [slAt_false, idxAddr_slice hq]; simp
  have hldB : ∀ p q, q < bs.length → loadV (M p) false 1 (.ptr (some (0, q))) = some (.int .u8 (byteN bs q : Int)) := fun p q hq => by
    cases nil with
    | true => rw [hnil rfl] at hq; simp at hq
    | false =>
      rw [hM, hpre]
      exact (load_few (i := 0) (own := false) (cs := bytesV bs) rfl).trans (byte_at hq)
  have hidL : ∀ q, q < ns.length → idxAddrV (.slice 1) (slAt nil' 1 ns.length) (some q) = some (.ptr (some (1, q))) := fun q hq => by
    cases nil' with
    | true => rw [hnil' rfl] at hq; simp at hq
    | false => rw [slAt_false, idxAddr_slice hq]; simp
  have hldL : ∀ p q n, ns[q]? = some n → loadV (M p) false 1 (.ptr (some (1, q))) = some (.int .i64 n) := fun p q n hq => by
    cases nil' with
    | true => rw [hnil' rfl] at hq; simp at hq
    | false =>
      rw [hM, hpre]
      exact (load_few (i := 1) (own := false) (cs := intsV .i64 ns) rfl).trans (by rw [intsV_at, hq]; rfl)
  have hlenB : ∀ st, lenV st .slice (slAt nil 0 bs.length) = some (.int .i64 (bs.length : Int)) := fun st => rfl
  have hlenL : ∀ st, lenV st .slice (slAt nil' 1 ns.length) = some (.int .i64 (ns.length : Int)) := fun st => rfl
  generalize slAt nil 0 bs.length = vb at e1' hidB hlenB ⊢
  generalize slAt nil' 1 ns.length = vl at hidL hlenL ⊢
  clear e1 hM hR hnew hpre
  refine enter_ex ?_
  simp (disch := omega) [e1', hK, bin_eqptr]
  refine wp_loop (fun k s st => ∃ i p : Nat, i + k = min ns.length 60 ∧ p ≤ 8 * bs.length ∧ st = M p ∧ s .h = vb ∧ s (.o .h) = vl ∧ s (.o (.i .h)) = .ptr (some (R, 0)) ∧ s (.i (.i .h)) = .int .i64 (p : Int) ∧ s (.o (.o (.o .h))) = .int .i64 (i : Int)) (min ns.length 60) ?_ (by omega) ?_
  · refine ⟨0, 0, by omega, by omega, rfl, ?_, ?_, ?_, ?_, ?_⟩ <;> simp
  · rintro k s st ⟨i, p, hik, hp, rfl, s1, s2, s3, s4, s5⟩
    cases k with
    | zero =>
      by_cases hi : (i : Int) < ns.length
      · simp (disch := omega) [s1, s2, s3, s4, s5, hlenL, dlt_t, dlt_f, dltn_t, dltn_f]
      · simp (disch := omega) [s1, s2, s3, s4, s5, hlenL, dlt_t, dlt_f, dltn_t, dltn_f]
    | succ k =>
      have hi : i < ns.length := by omega
      obtain ⟨n, hn⟩ : ∃ n, ns[i]? = some n := ⟨_, List.getElem?_eq_getElem hi⟩
      have hnr := hns n (List.mem_of_getElem? hn)
      have q1 := fun st => hpick n 9 st (by omega) (by omega)
      have b1 := pickI_lt (n := n) (m := 9) (by omega)
      have hus1 := hus M R c sv bs p hrd hp hl
      have quo7 : ∀ x : Nat, x ≤ 8 * bs.length → binV .quo (.val .int) (.int .i64 ((x : Int) + 7)) (.int .i64 8) = some (.int .i64 (((x + 7) / 8 : Nat) : Int)) := fun x hx => by
        rw [bin_quo (by decide), show (x : Int) + 7 = ((x + 7 : Nat) : Int) from by omega, natDiv8, wrap_i (by omega) (by omega)]
      by_cases h8 : pickI n 9 = 8
      · have ha := hal M R c sv bs p hrd hp hl
        obtain ⟨d, hd⟩ : ∃ d, d = (p + 7) / 8 := ⟨_, rfl⟩
        obtain ⟨p2, hp2⟩ : ∃ p2, p2 = d * 8 := ⟨_, rfl⟩
        have e4 := quo7 p hp
        rw [← hd] at e4 ha
        rw [← hp2] at ha
        have e5 : binV .mul (.val .int) (.int .i64 (d : Int)) (.int .i64 8) = some (.int .i64 (p2 : Int)) := by
          rw [bin_mul, wrap_i (by omega) (by omega)]
          congr 2
          omega
        have hu2 := hus M R c sv bs p2 hrd (by omega) hl
        have e6 := quo7 p2 (by omega)
        obtain ⟨u2, hu⟩ : ∃ u2, u2 = (p2 + 7) / 8 := ⟨_, rfl⟩
        rw [← hu] at hu2 e6
        simp (disch := omega) [s1, s2, s3, s4, s5, hlenL, dlt_t, dlt_f, dltn_t, dltn_f, natOf_nat, hidL i hi, hldL _ i n hn, q1, h8, ha, wrap_i, e4, e5, hu2, e6]
        exact ⟨k, by omega, i + 1, by omega, p2, by omega, by simp⟩
      · have hnd : -9223372036854775808 ≤ Int.tdiv n 9 ∧ Int.tdiv n 9 < 9223372036854775808 := by
          rw [show Int.tdiv n 9 = if 0 ≤ n then n / 9 else -((-n) / 9) from tdiv9]
          split <;> omega
        have q2 := fun st => hpick (Int.tdiv n 9) 27 st (by omega) (by omega)
        have b2 := pickI_lt (n := Int.tdiv n 9) (m := 27) (by omega)
        obtain ⟨v, hv⟩ : ∃ v, v = pickI (Int.tdiv n 9) 27 - 1 := ⟨_, rfl⟩
        have hpk : pickI (Int.tdiv n 9) 27 = v + 1 := by omega
        rw [hpk] at q2
        obtain ⟨m, hm⟩ := Int.eq_ofNat_of_zero_le (show 0 ≤ mmI v by unfold mmI; omega)
        have hm24 : m ≤ 24 := by unfold mmI at hm; omega
        have m1 : mmAll false (.int .i64 24) [.int .i64 v] = some (.int .i64 (min 24 v)) := mm_min
        have m2 : mmAll true (.int .i64 0) [.int .i64 (min 24 v)] = some (.int .i64 (m : Int)) := by
          rw [mm_max]
          congr 2
          unfold mmI at hm
          omega
        have tk := htk M R c sv bs p v hrd hp hl
        by_cases hen : p + m ≤ 8 * bs.length
        · have tk2 := tk.2 m hm hm24 hen
          obtain ⟨t, ht⟩ : ∃ t, t = takeB bs p m := ⟨_, rfl⟩
          have htl : t < 2 ^ m := by rw [ht]; exact takeB_lt bs p m
          have hts : t < 16777216 := by rw [ht]; exact takeB_small bs p m hm24
          have htb : ∀ j, j < m → t / 2 ^ j % 2 = bitN bs (p + j) := fun j hj => by rw [ht]; exact takeB_bit bs p m j hj
          rw [← ht] at tk2
          obtain ⟨p2, hp2⟩ : ∃ p2, p2 = p + m := ⟨_, rfl⟩
          rw [← hp2] at tk2
          have hu2 := hus M R c sv bs p2 hrd (by omega) hl
          have e6 := quo7 p2 (by omega)
          obtain ⟨u2, hu⟩ : ∃ u2, u2 = (p2 + 7) / 8 := ⟨_, rfl⟩
          rw [← hu] at hu2 e6
          have e7 : binV .shr (.val .int) (.int .i64 (t : Int)) (.int .u64 (m : Int)) = some (.int .i64 0) := by
            rw [shrI (Int.natCast_nonneg _) (by show (m : Int) ≤ 64; omega), Int.toNat_natCast]
            have : ((t : Int) / ((2 ^ m : Nat) : Int)) = ((t / 2 ^ m : Nat) : Int) := rfl
            rw [this, Nat.div_eq_of_lt htl]
            rfl
          have cu : ∀ st (x : Nat), x < 64 → convV st (.int .u64) (.int .i64 (x : Int)) = some (.int .u64 (x : Int)) := fun st x hx => by
            rw [conv_int, wrap_u64 (by omega)]
          have cuM := fun st => cu st m (by omega)
          simp (disch := omega) [s1, s2, s3, s4, s5, hlenL, hlenB, dlt_t, dlt_f, dltn_t, dltn_f, dle_t, dle_f, dlen_t, natOf_nat, hidL i hi, hldL _ i n hn, q1, h8, wrap_i, bin_quo, q2, m1, m2, tk2]
          refine wp_loop (fun k' s st => st = M p2 ∧ ∃ j : Nat, j + k' = m ∧ s .h = vb ∧ s (.o .h) = vl ∧ s (.o (.i .h)) = .ptr (some (R, 0)) ∧ s (.i (.i .h)) = .int .i64 (p : Int) ∧ s (.o (.o (.o .h))) = .int .i64 (i : Int) ∧
            s (.i (.o (.i .h))) = .int .i64 (j : Int) ∧ s (.o (.i (.o .h))) = .int .i64 (m : Int) ∧ s (.i (.i (.o .h))) = .int .i64 (t : Int)) m ?_ (by omega) ?_
          · refine ⟨rfl, 0, by omega, ?_, ?_, ?_, ?_, ?_, ?_, ?_, ?_⟩ <;> simp [s1, s2, s3, s4, s5]
          · rintro k' s st ⟨rfl, j, hjk, g1, g2, g3, g4, g5, g6, g7, g8⟩
            cases k' with
            | zero =>
              obtain rfl : j = m := by omega
              have hw : wrapV .i64 ((p : Int) + (j : Int)) = (p2 : Int) := by rw [wrap_i (by omega) (by omega)]; omega
              simp (disch := omega) [g1, g2, g3, g4, g5, g6, g7, g8, cuM, e7, hw, hu2, e6, wrap_i]
              exact ⟨k, by omega, i + 1, by omega, p2, by omega, by simp⟩
            | succ k' =>
              have hj : j < m := by omega
              have cj := fun st => cu st j (by omega)
              obtain ⟨w, hw⟩ : ∃ w, w = t / 2 ^ j := ⟨_, rfl⟩
              have hwl : w ≤ t := by rw [hw]; exact Nat.div_le_self _ _
              have a1 : binV .shr (.val .int) (.int .i64 (t : Int)) (.int .u64 (j : Int)) = some (.int .i64 (w : Int)) := by
                rw [shrI (Int.natCast_nonneg _) (by show (j : Int) ≤ 64; omega), Int.toNat_natCast, hw]
                rfl
              have a2 : binV .and (.val .int) (.int .i64 (w : Int)) (.int .i64 1) = some (.int .i64 (bitN bs (p + j) : Int)) := by
                rw [and_1 (Int.natCast_nonneg _) (by omega), ← htb j hj, ← hw]
                rfl
              obtain ⟨q, hq⟩ : ∃ q, q = (p + j) / 8 := ⟨_, rfl⟩
              obtain ⟨r, hr⟩ : ∃ r, r = (p + j) % 8 := ⟨_, rfl⟩
              have hql : q < bs.length := by omega
              have a3 : binV .quo (.val .int) (.int .i64 ((p : Int) + (j : Int))) (.int .i64 8) = some (.int .i64 (q : Int)) := by
                rw [bin_quo (by decide), show (p : Int) + (j : Int) = ((p + j : Nat) : Int) from by omega, natDiv8, wrap_i (by omega) (by omega), hq]
              have a4 : binV .rem (.val .int) (.int .i64 ((p : Int) + (j : Int))) (.int .i64 8) = some (.int .i64 (r : Int)) := by
                rw [bin_rem (by decide), show (p : Int) + (j : Int) = ((p + j : Nat) : Int) from by omega, natMod8, hr]
              have cr := fun st => cu st r (by omega)
              have a5 := hidB q hql
              have a6 := hldB p2 q hql
              have hsm := hrd.small q
              obtain ⟨y, hy⟩ : ∃ y, y = byteN bs q := ⟨_, rfl⟩
              rw [← hy] at a6 hsm
              have a7 : ∀ st, convV st (.int .i64) (.int .u8 (y : Int)) = some (.int .i64 (y : Int)) := fun st => by
                rw [conv_int, wrap_i (by omega) (by omega)]
              obtain ⟨w2, hw2⟩ : ∃ w2, w2 = y / 2 ^ r := ⟨_, rfl⟩
              have hw2l : w2 ≤ y := by rw [hw2]; exact Nat.div_le_self _ _
              have a8 : binV .shr (.val .int) (.int .i64 (y : Int)) (.int .u64 (r : Int)) = some (.int .i64 (w2 : Int)) := by
                rw [shrI (Int.natCast_nonneg _) (by show (r : Int) ≤ 64; omega), Int.toNat_natCast, hw2]
                rfl
              have a9 : binV .and (.val .int) (.int .i64 (w2 : Int)) (.int .i64 1) = some (.int .i64 (bitN bs (p + j) : Int)) := by
                rw [and_1 (Int.natCast_nonneg _) (by omega), hw2, hy, hr, hq]
                rfl
              simp (disch := omega) [g1, g2, g3, g4, g5, g6, g7, g8, hj, dlt_t, dltn_t, cj, a1, a2, a3, a4, cr, a5, a6, a7, a8, a9, wrap_i, natOf_nat]
              exact ⟨k', by omega, j + 1, by omega, by simp⟩
        · have tk1 := tk.1 (by omega)
          have e6 := quo7 p hp
          obtain ⟨u2, hu⟩ : ∃ u2, u2 = (p + 7) / 8 := ⟨_, rfl⟩
          rw [← hu] at hus1 e6
          simp (disch := omega) [s1, s2, s3, s4, s5, hlenL, hlenB, dlt_t, dlt_f, dltn_t, dltn_f, dle_f, natOf_nat, hidL i hi, hldL _ i n hn, q1, h8, wrap_i, bin_quo, q2, m1, m2, tk1, hus1, e6]
          exact ⟨k, by omega, i + 1, by omega, p, by omega, by simp⟩

end Go.Vabs.Fb
