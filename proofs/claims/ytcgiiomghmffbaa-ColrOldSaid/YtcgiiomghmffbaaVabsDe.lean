/- Lemmas for this claim, text De. No condition. -/
import Derived.Test.YtcgiiomghmffbaaVabsDa
namespace Go.Vabs.De
set_option linter.unusedVariables false
set_option linter.unusedSimpArgs false
set_option maxRecDepth 10000
attribute [local simp] wp_skip wp_ret wp_exit wp_reg wp_seq wp_cond wp_block thenQ_normal thenQ_ret thenQ_exit blockQ_normal blockQ_ret blockQ_exit wpCond_true wpCond_false wpOps_nil wpVal_some wpGuard_true wpGuard_false wpOps_guard wpOps_cons
  put_at put_no ev_c ev_slot posEq_h posEq_o posEq_i posEq_ho posEq_hi posEq_oh posEq_ih posEq_oi posEq_io sel_true sel_false
  okv_some step_mv step_call step_pick pickV_bool step_bin bin_add bin_sub bin_mul bin_eql bin_neq bin_lss bin_leq bin_gtr bin_geq bin_eqb bin_neb bin_eqs bin_nes step_un un_not un_neg step_len len_slice len_str len_const step_extract extractV nth step_convInt conv_int step_convStr step_slice step_idxAddr natOf_nat step_load step_index step_field step_fieldAddr step_build step_minmax
  step_alloc step_bslice bsliceV_some newV_some step_store step_append boolIs_b boolIs_t finQ_ret finQ_normal ressE_nil ressE_cons resE_tmp consO_some initE_nil initE_cons pos_0 pos_1 pos_2 pos_3 pos_4 pos_5 pos_6 pos_7 pos_8 plain_bool plain_int plain_str plain_ptr plain_slice plain_map plain_agg plain_func plain_nilFunc V.undef oneOf_one oneOf_two ble_self
open Go.Vabs.Pk Go.Vabs.Ph Go.Vabs.Sa Go.Vabs.Sb Go.Vabs.Sc Go.Vabs.Sd Go.Vabs.Se Go.Vabs.Sg Go.Vabs.Sh Go.Vabs.Sm Go.Vabs.Sn Go.Vabs.Sp Go.Vabs.Sr Go.Vabs.St Go.Vabs.Su Go.Vabs.L2 Go.Vabs.Na Go.Vabs.Nb Go.Vabs.Ra Go.Vabs.Rb Go.Vabs.Rc Go.Vabs.Rd Go.Vabs.Re Go.Vabs.Ca Go.Vabs.Cb Go.Vabs.Vc Go.Vabs.Da Go.Vabs.Db Go.Vabs.Dd
attribute [local simp] step_nilchk nilchk_ptr step_box cells_int cells_bool cells_str cells_slice cells_ptr cells_agg fieldAddrV natOf_zero fill repN splice over newV step_appendZ
  wp_dreg wpDs_nil wpDs_cons wantedE_none wantedE_some wpDGuard_true wpDGuard_lim wpDGuard_false wpDLim_true wpDVal_free wpDVal_lim back_limited next_limited limF_dir limF_false foot_load foot_store foot_convStr okAll_nil okAll_cons pastsOf nthP ahead few_next load_limited convStr_limited blt_dec okPair_dd okPair_dc okPair_cd okPair_cc anyIn_nil anyIn_same anyIn_cons meets_nil meets_nil'
  tn_alloc tn_load tn_load0 tn_store tn_store0 storeT_some loadC_some cellsAt_zero cellsAt_succ ownAt_zero ownAt_succ tn_first tn_first0 firstC_some tn_grow_none tn_grow tn_grow0 growN_some tn_fix tn_fix0 fixN_some bn_load bn_first bn_grow bn_store tn_next tn_alloc_dir tl_store_d tl_back tl_back_few few_back_tl backv_some back_back cut takeN nbeq_dec ble_dec meets_cons mem_nil mem_cons idOf load_d convStr_d lenOfS firstNo natOf_int if_leN bn_fix foot_bslice foot_alloc foot_box foot_append foot_call
theorem tab_tl {f : CallT} {n : Nat} (h : TabLF f n) {X : List (Option AObj)} {F : Nat} {L : List Itm} {t b : List Nat} (hF : FontSee X F L) (hL : Tame L) (ha : askL L t = some b) (l : List (Option AObj)) :
    f n [.ptr (some (F, 0)), .str t] (tl X l) = some (.tuple [heldV (X.length + l.length) b, .bool true], tl X (l ++ [some (newBytes b)])) := by
  have := h (X ++ l) F L t hF.grow hL
  rw [ha] at this
  dsimp only at this
  rw [List.length_append, List.append_assoc] at this
  exact this
theorem part_yes {call : CallT} {nP : Nat} (hP : PartF call nP) {X l : List (Option AObj)} {v : V} {bs : List Nat} {x n : Int} (hv : bytesAt (tl X l) v = some bs) (hnil : isNil v = false) (hl : bs.length ≤ 140737488354000) (ht : thereB bs.length x n = true) :
    call nP [v, .int .i64 x, .int .i64 n] (tl X l) = some (.tuple [.slice (some (X.length + l.length, 0)) 1 n.toNat n.toNat false, .bool true], tl X (l ++ [some (newBytes (cutB bs x n))])) := by
  have := part_few hP (os := X ++ l) hv hnil hl ht
  rw [List.length_append, List.append_assoc] at this
  exact this
end Go.Vabs.De

namespace Go.Vabs.Ea
set_option linter.unusedVariables false
set_option linter.unusedSimpArgs false
set_option maxRecDepth 10000
def u16s_c (n_U16 : Nat) : AFunc := AFunc.mk 26 (.seq (.reg [AOper.mk (some (.i .h)) (.mv (.c (.slice none 0 0 0 true))) none]) (.seq (.reg [AOper.mk (some (.o (.o .h))) (.mv (.c (.slice none 0 0 0 true))) none]) (.seq (.seq (.reg [AOper.mk (some (.i (.o (.o .h)))) (.len .slice (.t .h)) none, AOper.mk (some (.o (.i (.o .h)))) (.bin .quo (.val .int) (.t (.i (.o (.o .h)))) (.c (.int .i64 (.ofNat 2)))) none, AOper.mk (some (.i (.i (.o .h)))) (.mv (.c (.int .i64 (.ofNat 0)))) none]) (.block 0 (.loop (.seq (.reg [AOper.mk (some (.o (.o (.i .h)))) (.bin .lss (.val .int) (.t (.i (.i (.o .h)))) (.t (.o (.i (.o .h))))) none]) (.seq (.cond (.t (.o (.o (.i .h)))) .skip (.exit 0)) (.seq (.block 1 (.seq (.reg [AOper.mk (some (.i (.o .h))) (.mv (.t (.i (.i (.o .h))))) none]) (.seq (.reg [AOper.mk (some (.i (.o (.o (.o .h))))) (.bin .mul (.val .int) (.c (.int .i64 (.ofNat 2))) (.t (.i (.o .h)))) none, AOper.mk (some (.o (.i (.o (.o .h))))) (.call n_U16 [.t .h, .t (.i (.o (.o (.o .h))))]) none, AOper.mk (some (.i (.i (.o (.o .h))))) (.extract (.t (.o (.i (.o (.o .h))))) 0) none, AOper.mk (some (.o (.o (.i (.o .h))))) (.extract (.t (.o (.i (.o (.o .h))))) 1) none, AOper.mk (some (.o (.i .h))) (.mv (.t (.i (.i (.o (.o .h)))))) none, AOper.mk (some (.i (.i .h))) (.mv (.t (.o (.o (.i (.o .h)))))) none]) (.reg [AOper.mk (some (.i (.i (.i (.o .h))))) (.bslice 1 1 [.int .i64 (.ofNat 0)] [(0, (1, .t (.o (.i .h))))]) none, AOper.mk (some (.o (.o (.o (.i .h))))) (.append 1 8 (.t (.o (.o .h))) (.t (.i (.i (.i (.o .h)))))) none, AOper.mk (some (.o (.o .h))) (.mv (.t (.o (.o (.o (.i .h)))))) none])))) (.reg [AOper.mk (some (.i (.o (.o (.i .h))))) (.bin .add (.val .int) (.t (.i (.i (.o .h)))) (.c (.int .i64 (.ofNat 1)))) none, AOper.mk (some (.i (.i (.o .h)))) (.mv (.t (.i (.o (.o (.i .h)))))) none]))))))) (.seq (.reg [AOper.mk (some (.i .h)) (.mv (.t (.o (.o .h)))) none]) .ret)))) [.tmp (.i .h)]
def CloneL_c : AFunc := AFunc.mk 8 (.seq (.reg [AOper.mk (some (.i .h)) (.mv (.c (.slice none 0 0 0 true))) none]) (.seq (.seq (.reg [AOper.mk (some (.i (.o .h))) (.bin .eql (.nils .slice) (.t .h) (.c (.slice none 0 0 0 true))) none]) (.cond (.t (.i (.o .h))) (.seq (.reg [AOper.mk (some (.i .h)) (.mv (.c (.slice none 0 0 0 true))) none]) .ret) .skip)) (.seq (.reg [AOper.mk (some (.o (.i .h))) (.bslice 2 0 [.int .i64 (.ofNat 0), .int .i64 (.ofNat 0)] []) none, AOper.mk (some (.o (.o (.o .h)))) (.append 2 16 (.t (.o (.i .h))) (.t .h)) none, AOper.mk (some (.i .h)) (.mv (.t (.o (.o (.o .h))))) none]) .ret))) [.tmp (.i .h)]
attribute [local simp] wp_skip wp_ret wp_exit wp_reg wp_seq wp_cond wp_block thenQ_normal thenQ_ret thenQ_exit blockQ_normal blockQ_ret blockQ_exit wpCond_true wpCond_false wpOps_nil wpVal_some wpGuard_true wpGuard_false wpOps_guard wpOps_cons
  put_at put_no ev_c ev_slot posEq_h posEq_o posEq_i posEq_ho posEq_hi posEq_oh posEq_ih posEq_oi posEq_io sel_true sel_false
  okv_some step_mv step_call step_pick pickV_bool step_bin bin_add bin_sub bin_mul bin_eql bin_neq bin_lss bin_leq bin_gtr bin_geq bin_eqb bin_neb bin_eqs bin_nes step_un un_not un_neg step_len len_slice len_str len_const step_extract extractV nth step_convInt conv_int step_convStr step_slice step_idxAddr natOf_nat step_load step_index step_field step_fieldAddr step_build step_minmax
  step_alloc step_bslice bsliceV_some newV_some step_store step_append boolIs_b boolIs_t finQ_ret finQ_normal ressE_nil ressE_cons resE_tmp consO_some initE_nil initE_cons pos_0 pos_1 pos_2 pos_3 pos_4 pos_5 pos_6 pos_7 pos_8 plain_bool plain_int plain_str plain_ptr plain_slice plain_map plain_agg plain_func plain_nilFunc V.undef oneOf_one oneOf_two ble_self
open Go.Vabs.Pk Go.Vabs.Ph Go.Vabs.Sa Go.Vabs.Sb Go.Vabs.Sc Go.Vabs.Sd Go.Vabs.Se Go.Vabs.Sg Go.Vabs.Sh Go.Vabs.Sm Go.Vabs.Sn Go.Vabs.Sp Go.Vabs.Sr Go.Vabs.St Go.Vabs.Su Go.Vabs.L2 Go.Vabs.Na Go.Vabs.Nb Go.Vabs.Ra Go.Vabs.Rb Go.Vabs.Rc Go.Vabs.Rd Go.Vabs.Re Go.Vabs.Ca Go.Vabs.Cb Go.Vabs.Vc Go.Vabs.Da Go.Vabs.Db Go.Vabs.Dd Go.Vabs.De
attribute [local simp] step_nilchk nilchk_ptr step_box cells_int cells_bool cells_str cells_slice cells_ptr cells_agg fieldAddrV natOf_zero fill repN splice over newV step_appendZ
  wp_dreg wpDs_nil wpDs_cons wantedE_none wantedE_some wpDGuard_true wpDGuard_lim wpDGuard_false wpDLim_true wpDVal_free wpDVal_lim back_limited next_limited limF_dir limF_false foot_load foot_store foot_convStr okAll_nil okAll_cons pastsOf nthP ahead few_next load_limited convStr_limited blt_dec okPair_dd okPair_dc okPair_cd okPair_cc anyIn_nil anyIn_same anyIn_cons meets_nil meets_nil'
  tn_alloc tn_load tn_load0 tn_store tn_store0 storeT_some loadC_some cellsAt_zero cellsAt_succ ownAt_zero ownAt_succ tn_first tn_first0 firstC_some tn_grow_none tn_grow tn_grow0 growN_some tn_fix tn_fix0 fixN_some bn_load bn_first bn_grow bn_store tn_next tn_alloc_dir tl_store_d tl_back tl_back_few few_back_tl backv_some back_back cut takeN nbeq_dec ble_dec meets_cons mem_nil mem_cons idOf load_d convStr_d lenOfS firstNo natOf_int if_leN bn_fix foot_bslice foot_alloc foot_box foot_append foot_call
def intV (n : Nat) : List V := [.int .i64 (n : Int)]
def wordsR (bs : List Nat) (m : Nat) : List Nat := (List.range m).map fun k => nm bs ((2 * k : Nat) : Int) 2
theorem wordsR_len {bs : List Nat} {m : Nat} : (wordsR bs m).length = m := by simp [wordsR]
theorem wordsR_succ {bs : List Nat} {m : Nat} : wordsR bs (m + 1) = wordsR bs m ++ [nm bs ((2 * m : Nat) : Int) 2] := by unfold wordsR; rw [List.range_succ, List.map_append]; rfl
def U16sL (f : FnT) : Prop := ∀ os v bs m, See os v bs → bs.length = 2 * m → 0 < m → m ≤ 1000 → f [v] (few os) = some (.slice (some (os.length, 0)) 1 m m false, few (os ++ [some (.cells true (elV intV (wordsR bs m)))]))
set_option maxHeartbeats 4000000 in
theorem U16s_run {base : CallT} {lf n2 : Nat} (hlf : 1010 ≤ lf) (h2 : UF 2 base n2) {os : List (Option AObj)} {v : V} {bs : List Nat} {m : Nat} (hv : See os v bs) (hl : bs.length = 2 * m) (hm : m ≤ 1000) :
    ∃ q os', enterF base lf [v] (few os) (u16s_c n2) = some (elS 1 q m, few os') ∧ (m ≠ 0 → os.length ≤ q ∧ (os'[q]?).join = some (.cells true (elV intV (wordsR bs m)))) := by
  have main := enter_wp (call := base) (lf := lf) (n := 26) (args := [v]) (st := few os) (K := fun u st => ∃ q os', st = few os' ∧ u = elS 1 q m ∧ (m ≠ 0 → os.length ≤ q ∧ (os'[q]?).join = some (.cells true (elV intV (wordsR bs m))))) (c := (u16s_c n2).code) (rs := (u16s_c n2).results) ?_
  · obtain ⟨u, st', h1, q, os', rfl, rfl, h2⟩ := main
    exact ⟨q, os', h1, h2⟩
  · unfold u16s_c
    dsimp only
    have hln := fun st => len_bytes (st' := st) hv.at
    rw [hl] at hln
    have hpl := hv.plain
    have hq2 : ∀ eq, binV .quo eq (.int .i64 (2 * (m : Int))) (.int .i64 2) = some (.int .i64 (m : Int)) := fun eq => by rw [bin_quo (by omega), Int.mul_tdiv_cancel_left _ (by omega)]; simp (disch := omega) [wrap_i]
    simp (disch := omega) [hln, hpl, dlt_t, dlt_f, dle_t, dle_f, dltn_t, dltn_f, dlen_t, dlen_f, deq_t, deq_f, deqn_t, deqn_f, hq2, wrap_i]
    refine wp_loop (fun k s st => ∃ j W q, j + k = m ∧ st = few W ∧ (∀ t, t < os.length → (W[t]?).join = (os[t]?).join) ∧ os.length ≤ W.length ∧ (j ≠ 0 → os.length ≤ q ∧ (W[q]?).join = some (.cells true (elV intV (wordsR bs j)))) ∧ s .h = v ∧ s (.o (.o .h)) = elS 1 q j ∧ s (.o (.i (.o .h))) = .int .i64 (m : Int) ∧ s (.i (.i (.o .h))) = .int .i64 (j : Int)) m ?_ (by omega) ?_
    · refine ⟨0, os, 0, by omega, rfl, fun _ _ => rfl, Nat.le_refl _, fun h => absurd rfl h, ?_, ?_, ?_, ?_⟩ <;> simp [elS]
    · rintro k s st ⟨j, W, q, hk, rfl, hW, hWl, hq, s1, s2, s3, s4⟩
      cases k with
      | zero =>
        have hj : j = m := by omega
        subst hj
        have hpl2 := elS_plain (e := 1) (q := q) (n := j)
        simp (disch := omega) [s1, s2, s3, s4, dlt_t, dlt_f, dle_t, dle_f, dltn_t, dltn_f, dlen_t, dlen_f, deq_t, deq_f, deqn_t, deqn_f, hpl2]
        exact ⟨q, W, rfl, rfl, hq⟩
      | succ k =>
        have hvW := hv.keep hW hWl
        have u : ∀ l, base n2 [v, .int .i64 ((2 * j : Nat) : Int)] (tl W l) = some (.tuple [.int .i64 (nm bs ((2 * j : Nat) : Int) 2 : Int), .bool (num bs ((2 * j : Nat) : Int) 2).isSome], tl W l) := fun l => by rw [tl_eq, h2 _ _ _ _ (hvW.grow (l := l)).at (by omega)]; rfl
        obtain ⟨x, hx⟩ : ∃ x, x = nm bs ((2 * j : Nat) : Int) 2 := ⟨_, rfl⟩
        rw [← hx] at u
        have g1 : ∀ L, appendV (tl W L) 1 8 (elS 1 q j) (some 1) (some [.int .i64 (x : Int)]) = some (.slice (some (W.length + L.length, 0)) 1 (j + 1) (j + 1) false, tl (Sp.setK j W q) (L ++ [some (.cells true (elV intV (wordsR bs j ++ [x])))])) := fun L =>
          growEl_tn (X := W) (f := intV) (e := 1) (w := 8) (q := q) (n := j) (L := wordsR bs j) (fun _ => rfl) (by omega) x wordsR_len (by omega) (fun h => (hq h).2) L
        have u : ∀ l, base n2 [v, .int .i64 (2 * (j : Int))] (tl W l) = some (.tuple [.int .i64 (x : Int), .bool (num bs ((2 * j : Nat) : Int) 2).isSome], tl W l) := fun l => by rw [show 2 * (j : Int) = ((2 * j : Nat) : Int) from by omega]; exact u l
        rw [tl_of (X := W)]
        simp (disch := omega) [s1, s2, s3, s4, dlt_t, dlt_f, dle_t, dle_f, dltn_t, dltn_f, dlen_t, dlen_f, deq_t, deq_f, deqn_t, deqn_f, hpl, u, g1, wrap_i]
        exact ⟨k, by omega, j + 1, by omega, _, rfl, fun t ht => by rw [join_app (by rw [setK_len]; omega), setK_at (fun h => by have := (hq h).1; omega), hW t ht], by simp [setK_len]; omega, W.length + 1, fun _ => ⟨by omega, by rw [tn_at (k := 1), wordsR_succ, hx]; rfl⟩, (if_neg (by omega)).symm, by omega⟩
theorem U16sL.auto {base : CallT} {g lf n2 : Nat} (hlf : 1010 ≤ lf) (h2 : UF 2 base n2) : U16sL (withL base g (lawOf (autoRd base lf (u16s_c n2))) g) := fun os v bs m hv hl hm0 hm => by
  refine auto_one (cs := elV intV (wordsR bs m)) (F := fun p => .slice (some (p, 0)) 1 m m false) (by simp [goods, hv.good]) (elV_flat fun a => rfl) (fun p => ⟨rfl, ?_, fun n hn => ?_⟩) fun Y hY => ?_
  · simp [ok2, ok1, V.leads, V.flat]
  · simp [rn2, rn1, rn0, rn, Nat.not_lt.2 hn]
  · obtain ⟨q, os', e, k⟩ := U16s_run (base := base) (lf := lf) hlf h2 (hv.cov hY) hl hm
    obtain ⟨k1, k2⟩ := k (by omega)
    exact ⟨q, os', by rw [e]; rw [show elS 1 q m = .slice (some (q, 0)) 1 m m false from if_neg (by omega)], by rw [cov_len hY] at k1; exact k1, k2⟩
end Go.Vabs.Ea

namespace Go.Vabs.Eb
set_option linter.unusedVariables false
set_option linter.unusedSimpArgs false
set_option maxRecDepth 10000
def PlainLays (n_it : Nat) (n_Chunk : Nat) (n_u16s : Nat) : ACode := (.seq (.seq (.reg [AOper.mk (some (.i (.i (.i (.i (.o (.i .h))))))) (.call n_Chunk [.t (.o (.i (.i .h))), .c (.int .i64 (.ofNat 4))]) none]) (.block 2 (.range (.t (.i (.i (.i (.i (.o (.i .h))))))) [.o (.o (.o (.o (.i (.i .h)))))] (.reg [AOper.mk (some (.i (.o (.o (.o .h))))) (.mv (.t (.o (.o (.o (.o (.i (.i .h)))))))) none]) (.block 3 (.seq (.reg [AOper.mk (some (.i (.o (.o (.o (.i (.i .h))))))) (.mv (.t (.i (.o (.o (.o .h)))))) none, AOper.mk (some (.o (.i (.o (.o (.i (.i .h))))))) (.call n_u16s [.t (.i (.o (.o (.o (.i (.i .h))))))]) none, AOper.mk (some (.o (.i (.o (.o .h))))) (.mv (.t (.o (.i (.o (.o (.i (.i .h)))))))) none]) (.dreg [(AOper.mk (some (.i (.i (.o (.o (.i (.i .h))))))) (.load false 1 (.t (.o .h))) none, [1, 4, 7, 10, 12, 13]), (AOper.mk (some (.o (.o (.i (.o (.i (.i .h))))))) (.load false 1 (.t (.o .h))) none, [0, 7, 10, 12]), (AOper.mk (some (.i (.o (.i (.o (.i (.i .h))))))) (.nilchk (.t (.o (.o (.i (.o (.i (.i .h)))))))) none, []), (AOper.mk (some (.o (.i (.i (.o (.i (.i .h))))))) (.fieldAddr 2 (.t (.i (.o (.i (.o (.i (.i .h)))))))) none, []), (AOper.mk (some (.i (.i (.i (.o (.i (.i .h))))))) (.load false 1 (.t (.o (.i (.i (.o (.i (.i .h)))))))) none, [0, 7, 10, 12]), (AOper.mk (some (.o (.o (.o (.i (.i (.i .h))))))) (.mv (.t (.o (.i (.o (.o .h)))))) none, []), (AOper.mk (some (.i (.o (.o (.i (.i (.i .h))))))) (.idxAddr (.slice 1) (.t (.o (.o (.o (.i (.i (.i .h))))))) (.c (.int .i64 (.ofNat 0)))) none, []), (AOper.mk (some (.o (.i (.o (.i (.i (.i .h))))))) (.load false 1 (.t (.i (.o (.o (.i (.i (.i .h)))))))) none, [0, 1, 4, 10]), (AOper.mk (some (.i (.i (.o (.i (.i (.i .h))))))) (.mv (.t (.o (.i (.o (.o .h)))))) none, []), (AOper.mk (some (.o (.o (.i (.i (.i (.i .h))))))) (.idxAddr (.slice 1) (.t (.i (.i (.o (.i (.i (.i .h))))))) (.c (.int .i64 (.ofNat 1)))) none, []), (AOper.mk (some (.i (.o (.i (.i (.i (.i .h))))))) (.load false 1 (.t (.o (.o (.i (.i (.i (.i .h)))))))) none, [0, 1, 4, 7]), (AOper.mk (some (.o (.i (.i (.i (.i (.i .h))))))) (.build [.int .i64 (.ofNat 0), .int .i64 (.ofNat 0)] [(0, (1, .t (.o (.i (.o (.i (.i (.i .h)))))))), (1, (1, .t (.i (.o (.i (.i (.i (.i .h))))))))]) none, []), (AOper.mk (some (.i (.i (.i (.i (.i (.i .h))))))) (.bslice 2 1 [.int .i64 (.ofNat 0), .int .i64 (.ofNat 0)] [(0, (2, .t (.o (.i (.i (.i (.i (.i .h))))))))]) none, [0, 1, 4]), (AOper.mk (some (.o (.o (.o (.o (.o (.o (.o .h)))))))) (.append 2 16 (.t (.i (.i (.i (.o (.i (.i .h))))))) (.t (.i (.i (.i (.i (.i (.i .h)))))))) none, [0]), (AOper.mk (some (.i (.o (.o (.o (.o (.o (.o .h)))))))) (.nilchk (.t (.i (.i (.o (.o (.i (.i .h)))))))) none, []), (AOper.mk (some (.o (.i (.o (.o (.o (.o (.o .h)))))))) (.fieldAddr 2 (.t (.i (.o (.o (.o (.o (.o (.o .h))))))))) none, []), (AOper.mk none (.store 1 (.t (.o (.i (.o (.o (.o (.o (.o .h)))))))) (.t (.o (.o (.o (.o (.o (.o (.o .h))))))))) none, [])]))) n_it Ca.chunkIt))) (.seq (.reg [AOper.mk none (.store 1 (.t (.i .h)) (.c (.int .i64 (.ofNat 0)))) none]) .ret))
def PlainBases (n_it : Nat) (n_Chunk : Nat) (n_u16s : Nat) : ACode := (.seq (.seq (.reg [AOper.mk (some (.o (.i (.i (.i (.o (.o .h))))))) (.call n_Chunk [.t (.o (.o (.i .h))), .c (.int .i64 (.ofNat 6))]) none]) (.block 0 (.range (.t (.o (.i (.i (.i (.o (.o .h))))))) [.i (.i (.i (.i (.o (.o .h)))))] (.reg [AOper.mk (some (.i (.i (.i .h)))) (.mv (.t (.i (.i (.i (.i (.o (.o .h)))))))) none]) (.block 1 (.seq (.reg [AOper.mk (some (.o (.o (.o (.o (.i (.o .h))))))) (.mv (.t (.i (.i (.i .h))))) none, AOper.mk (some (.i (.o (.o (.o (.i (.o .h))))))) (.call n_u16s [.t (.o (.o (.o (.o (.i (.o .h))))))]) none, AOper.mk (some (.o (.o (.o (.o .h))))) (.mv (.t (.i (.o (.o (.o (.i (.o .h)))))))) none]) (.seq (.seq (.dreg [(AOper.mk (some (.o (.i (.o (.o (.i (.o .h))))))) (.mv (.t (.o (.o (.o (.o .h)))))) none, []), (AOper.mk (some (.i (.i (.o (.o (.i (.o .h))))))) (.idxAddr (.slice 1) (.t (.o (.i (.o (.o (.i (.o .h))))))) (.c (.int .i64 (.ofNat 1)))) none, []), (AOper.mk (some (.o (.o (.i (.o (.i (.o .h))))))) (.load false 1 (.t (.i (.i (.o (.o (.i (.o .h)))))))) none, [5, 7]), (AOper.mk (some (.i (.o (.i (.o (.i (.o .h))))))) (.mv (.t (.o (.o (.o (.o .h)))))) none, []), (AOper.mk (some (.o (.i (.i (.o (.i (.o .h))))))) (.idxAddr (.slice 1) (.t (.i (.o (.i (.o (.i (.o .h))))))) (.c (.int .i64 (.ofNat 2)))) none, []), (AOper.mk (some (.i (.i (.i (.o (.i (.o .h))))))) (.load false 1 (.t (.o (.i (.i (.o (.i (.o .h)))))))) none, [2, 7]), (AOper.mk (some (.o (.o (.o (.i (.i (.o .h))))))) (.bin .add (.val .int) (.t (.o (.o (.i (.o (.i (.o .h))))))) (.t (.i (.i (.i (.o (.i (.o .h)))))))) none, []), (AOper.mk (some (.i (.o (.o (.i (.i (.o .h))))))) (.load false 1 (.t (.o (.i (.o .h))))) none, [2, 5]), (AOper.mk (some (.o (.i (.o (.i (.i (.o .h))))))) (.bin .gtr (.val .int) (.t (.o (.o (.o (.i (.i (.o .h))))))) (.t (.i (.o (.o (.i (.i (.o .h)))))))) none, [])]) (.cond (.t (.o (.i (.o (.i (.i (.o .h))))))) (.seq (.reg [AOper.mk none (.store 1 (.t (.i .h)) (.c (.int .i64 (.ofNat 2)))) none]) .ret) .skip)) (.dreg [(AOper.mk (some (.i (.i (.o (.i (.i (.o .h))))))) (.load false 1 (.t (.o .h))) none, [1, 4, 7, 10, 13, 15, 16]), (AOper.mk (some (.o (.o (.i (.i (.i (.o .h))))))) (.load false 1 (.t (.o .h))) none, [0, 7, 10, 13, 15]), (AOper.mk (some (.i (.o (.i (.i (.i (.o .h))))))) (.nilchk (.t (.o (.o (.i (.i (.i (.o .h)))))))) none, []), (AOper.mk (some (.o (.i (.i (.i (.i (.o .h))))))) (.fieldAddr 1 (.t (.i (.o (.i (.i (.i (.o .h)))))))) none, []), (AOper.mk (some (.i (.i (.i (.i (.i (.o .h))))))) (.load false 1 (.t (.o (.i (.i (.i (.i (.o .h)))))))) none, [0, 7, 10, 13, 15]), (AOper.mk (some (.o (.o (.o (.o (.o (.i .h))))))) (.mv (.t (.o (.o (.o (.o .h)))))) none, []), (AOper.mk (some (.i (.o (.o (.o (.o (.i .h))))))) (.idxAddr (.slice 1) (.t (.o (.o (.o (.o (.o (.i .h))))))) (.c (.int .i64 (.ofNat 0)))) none, []), (AOper.mk (some (.o (.i (.o (.o (.o (.i .h))))))) (.load false 1 (.t (.i (.o (.o (.o (.o (.i .h)))))))) none, [0, 1, 4, 10, 13]), (AOper.mk (some (.i (.i (.o (.o (.o (.i .h))))))) (.mv (.t (.o (.o (.o (.o .h)))))) none, []), (AOper.mk (some (.o (.o (.i (.o (.o (.i .h))))))) (.idxAddr (.slice 1) (.t (.i (.i (.o (.o (.o (.i .h))))))) (.c (.int .i64 (.ofNat 1)))) none, []), (AOper.mk (some (.i (.o (.i (.o (.o (.i .h))))))) (.load false 1 (.t (.o (.o (.i (.o (.o (.i .h)))))))) none, [0, 1, 4, 7, 13]), (AOper.mk (some (.o (.i (.i (.o (.o (.i .h))))))) (.mv (.t (.o (.o (.o (.o .h)))))) none, []), (AOper.mk (some (.i (.i (.i (.o (.o (.i .h))))))) (.idxAddr (.slice 1) (.t (.o (.i (.i (.o (.o (.i .h))))))) (.c (.int .i64 (.ofNat 2)))) none, []), (AOper.mk (some (.o (.o (.o (.i (.o (.i .h))))))) (.load false 1 (.t (.i (.i (.i (.o (.o (.i .h)))))))) none, [0, 1, 4, 7, 10]), (AOper.mk (some (.i (.o (.o (.i (.o (.i .h))))))) (.build [.int .i64 (.ofNat 0), .int .i64 (.ofNat 0), .int .i64 (.ofNat 0)] [(0, (1, .t (.o (.i (.o (.o (.o (.i .h)))))))), (1, (1, .t (.i (.o (.i (.o (.o (.i .h)))))))), (2, (1, .t (.o (.o (.o (.i (.o (.i .h))))))))]) none, []), (AOper.mk (some (.o (.i (.o (.i (.o (.i .h))))))) (.bslice 3 1 [.int .i64 (.ofNat 0), .int .i64 (.ofNat 0), .int .i64 (.ofNat 0)] [(0, (3, .t (.i (.o (.o (.i (.o (.i .h))))))))]) none, [0, 1, 4]), (AOper.mk (some (.i (.i (.o (.i (.o (.i .h))))))) (.append 3 24 (.t (.i (.i (.i (.i (.i (.o .h))))))) (.t (.o (.i (.o (.i (.o (.i .h)))))))) none, [0]), (AOper.mk (some (.o (.o (.i (.i (.o (.i .h))))))) (.nilchk (.t (.i (.i (.o (.i (.i (.o .h)))))))) none, []), (AOper.mk (some (.i (.o (.i (.i (.o (.i .h))))))) (.fieldAddr 1 (.t (.o (.o (.i (.i (.o (.i .h)))))))) none, []), (AOper.mk none (.store 1 (.t (.i (.o (.i (.i (.o (.i .h))))))) (.t (.i (.i (.o (.i (.o (.i .h)))))))) none, [])])))) n_it Ca.chunkIt))) (PlainLays n_it n_Chunk n_u16s))
def plain_c (n_it : Nat) (n_U16 : Nat) (n_U32 : Nat) (n_Part : Nat) (n_Chunk : Nat) (n_u16s : Nat) : AFunc := AFunc.mk 130 (.seq (.reg [AOper.mk (some (.o .h)) (.box (.t .h)) none, AOper.mk (some (.i .h)) (.alloc [.int .i64 (.ofNat 0)]) none]) (.seq (.reg [AOper.mk (some (.o (.o (.i (.o .h))))) (.load false 1 (.t (.o .h))) none, AOper.mk (some (.i (.o (.i (.o .h))))) (.nilchk (.t (.o (.o (.i (.o .h)))))) none, AOper.mk (some (.o (.i (.i (.o .h))))) (.fieldAddr 0 (.t (.i (.o (.i (.o .h)))))) none, AOper.mk (some (.i (.i (.i (.o .h))))) (.load false 1 (.t (.o (.i (.i (.o .h)))))) none, AOper.mk (some (.o (.o (.o (.i .h))))) (.call n_U16 [.t (.i (.i (.i (.o .h)))), .c (.int .i64 (.ofNat 2))]) none, AOper.mk (some (.i (.o (.o (.i .h))))) (.extract (.t (.o (.o (.o (.i .h))))) 0) none, AOper.mk (some (.o (.i (.o (.i .h))))) (.extract (.t (.o (.o (.o (.i .h))))) 1) none, AOper.mk (some (.o (.o .h))) (.mv (.t (.i (.o (.o (.i .h)))))) none, AOper.mk (some (.i (.o .h))) (.mv (.t (.o (.i (.o (.i .h)))))) none]) (.seq (.reg [AOper.mk (some (.o (.o (.i (.i .h))))) (.load false 1 (.t (.o .h))) none, AOper.mk (some (.i (.o (.i (.i .h))))) (.nilchk (.t (.o (.o (.i (.i .h)))))) none, AOper.mk (some (.o (.i (.i (.i .h))))) (.fieldAddr 0 (.t (.i (.o (.i (.i .h)))))) none, AOper.mk (some (.i (.i (.i (.i .h))))) (.load false 1 (.t (.o (.i (.i (.i .h)))))) none, AOper.mk (some (.o (.o (.o (.o (.o .h)))))) (.call n_U32 [.t (.i (.i (.i (.i .h)))), .c (.int .i64 (.ofNat 4))]) none, AOper.mk (some (.i (.o (.o (.o (.o .h)))))) (.extract (.t (.o (.o (.o (.o (.o .h)))))) 0) none, AOper.mk (some (.o (.i (.o (.o (.o .h)))))) (.extract (.t (.o (.o (.o (.o (.o .h)))))) 1) none, AOper.mk (some (.o (.i .h))) (.mv (.t (.i (.o (.o (.o (.o .h))))))) none, AOper.mk (some (.i (.i .h))) (.mv (.t (.o (.i (.o (.o (.o .h))))))) none]) (.seq (.reg [AOper.mk (some (.o (.o (.i (.o (.o .h)))))) (.load false 1 (.t (.o .h))) none, AOper.mk (some (.i (.o (.i (.o (.o .h)))))) (.nilchk (.t (.o (.o (.i (.o (.o .h))))))) none, AOper.mk (some (.o (.i (.i (.o (.o .h)))))) (.fieldAddr 0 (.t (.i (.o (.i (.o (.o .h))))))) none, AOper.mk (some (.i (.i (.i (.o (.o .h)))))) (.load false 1 (.t (.o (.i (.i (.o (.o .h))))))) none, AOper.mk (some (.o (.o (.o (.i (.o .h)))))) (.call n_U32 [.t (.i (.i (.i (.o (.o .h))))), .c (.int .i64 (.ofNat 8))]) none, AOper.mk (some (.i (.o (.o (.i (.o .h)))))) (.extract (.t (.o (.o (.o (.i (.o .h)))))) 0) none, AOper.mk (some (.o (.i (.o (.i (.o .h)))))) (.extract (.t (.o (.o (.o (.i (.o .h)))))) 1) none, AOper.mk (some (.o (.o (.o .h)))) (.mv (.t (.i (.o (.o (.i (.o .h))))))) none, AOper.mk (some (.i (.o (.o .h)))) (.mv (.t (.o (.i (.o (.i (.o .h))))))) none]) (.seq (.reg [AOper.mk (some (.o (.o (.i (.i (.o .h)))))) (.load false 1 (.t (.o .h))) none, AOper.mk (some (.i (.o (.i (.i (.o .h)))))) (.nilchk (.t (.o (.o (.i (.i (.o .h))))))) none, AOper.mk (some (.o (.i (.i (.i (.o .h)))))) (.fieldAddr 0 (.t (.i (.o (.i (.i (.o .h))))))) none, AOper.mk (some (.i (.i (.i (.i (.o .h)))))) (.load false 1 (.t (.o (.i (.i (.i (.o .h))))))) none, AOper.mk (some (.o (.o (.o (.o (.i .h)))))) (.call n_U16 [.t (.i (.i (.i (.i (.o .h))))), .c (.int .i64 (.ofNat 12))]) none, AOper.mk (some (.i (.o (.o (.o (.i .h)))))) (.extract (.t (.o (.o (.o (.o (.i .h)))))) 0) none, AOper.mk (some (.o (.i (.o (.o (.i .h)))))) (.extract (.t (.o (.o (.o (.o (.i .h)))))) 1) none, AOper.mk (some (.o (.i (.o .h)))) (.alloc [.int .i64 (.ofNat 0)]) none, AOper.mk none (.store 1 (.t (.o (.i (.o .h)))) (.t (.i (.o (.o (.o (.i .h))))))) none, AOper.mk (some (.i (.i (.o .h)))) (.mv (.t (.o (.i (.o (.o (.i .h))))))) none]) (.seq (.reg [AOper.mk (some (.o (.o (.i (.o (.i .h)))))) (.load false 1 (.t (.o .h))) none, AOper.mk (some (.i (.o (.i (.o (.i .h)))))) (.nilchk (.t (.o (.o (.i (.o (.i .h))))))) none, AOper.mk (some (.o (.i (.i (.o (.i .h)))))) (.fieldAddr 0 (.t (.i (.o (.i (.o (.i .h))))))) none, AOper.mk (some (.i (.i (.i (.o (.i .h)))))) (.load false 1 (.t (.o (.i (.i (.o (.i .h))))))) none, AOper.mk (some (.o (.i (.o (.i (.i .h)))))) (.bin .mul (.val .int) (.c (.int .i64 (.ofNat 6))) (.t (.o (.o .h)))) none, AOper.mk (some (.i (.i (.o (.i (.i .h)))))) (.call n_Part [.t (.i (.i (.i (.o (.i .h))))), .t (.o (.i .h)), .t (.o (.i (.o (.i (.i .h)))))]) none, AOper.mk (some (.o (.o (.i (.i (.i .h)))))) (.extract (.t (.i (.i (.o (.i (.i .h)))))) 0) none, AOper.mk (some (.i (.o (.i (.i (.i .h)))))) (.extract (.t (.i (.i (.o (.i (.i .h)))))) 1) none, AOper.mk (some (.o (.o (.i .h)))) (.mv (.t (.o (.o (.i (.i (.i .h))))))) none, AOper.mk (some (.i (.o (.i .h)))) (.mv (.t (.i (.o (.i (.i (.i .h))))))) none]) (.seq (.seq (.reg [AOper.mk (some (.i (.i (.i (.i (.i .h)))))) (.un .not (.t (.i (.o (.i .h))))) none]) (.cond (.t (.i (.i (.i (.i (.i .h)))))) (.seq (.reg [AOper.mk none (.store 1 (.t (.i .h)) (.c (.int .i64 (.ofNat 3)))) none]) .ret) .skip)) (.seq (.dreg [(AOper.mk (some (.i (.o (.o (.o (.o (.o .h))))))) (.load false 1 (.t (.o .h))) none, [5]), (AOper.mk (some (.o (.i (.o (.o (.o (.o .h))))))) (.nilchk (.t (.i (.o (.o (.o (.o (.o .h)))))))) none, []), (AOper.mk (some (.i (.i (.o (.o (.o (.o .h))))))) (.fieldAddr 0 (.t (.o (.i (.o (.o (.o (.o .h)))))))) none, []), (AOper.mk (some (.o (.o (.i (.o (.o (.o .h))))))) (.load false 1 (.t (.i (.i (.o (.o (.o (.o .h)))))))) none, [5]), (AOper.mk (some (.i (.o (.i (.o (.o (.o .h))))))) (.mv (.t (.o (.o (.o .h))))) none, []), (AOper.mk (some (.o (.i (.i (.o (.o (.o .h))))))) (.load false 1 (.t (.o (.i (.o .h))))) none, [0, 3]), (AOper.mk (some (.i (.i (.i (.o (.o (.o .h))))))) (.bin .mul (.val .int) (.c (.int .i64 (.ofNat 4))) (.t (.o (.i (.i (.o (.o (.o .h)))))))) none, []), (AOper.mk (some (.o (.o (.o (.i (.o (.o .h))))))) (.call n_Part [.t (.o (.o (.i (.o (.o (.o .h)))))), .t (.i (.o (.i (.o (.o (.o .h)))))), .t (.i (.i (.i (.o (.o (.o .h))))))]) none, []), (AOper.mk (some (.o (.o (.o (.o (.o (.o .h))))))) (.mv (.t (.o (.o (.o (.i (.o (.o .h)))))))) none, []), (AOper.mk (some (.i (.o (.o (.i (.o (.o .h))))))) (.extract (.t (.o (.o (.o (.o (.o (.o .h))))))) 0) none, []), (AOper.mk (some (.o (.i (.o (.i (.o (.o .h))))))) (.extract (.t (.o (.o (.o (.o (.o (.o .h))))))) 1) none, []), (AOper.mk (some (.o (.i (.i .h)))) (.mv (.t (.i (.o (.o (.i (.o (.o .h)))))))) none, []), (AOper.mk (some (.i (.o (.i .h)))) (.mv (.t (.o (.i (.o (.i (.o (.o .h)))))))) none, [])]) (.seq (.seq (.reg [AOper.mk (some (.o (.o (.i (.i (.o (.o .h))))))) (.un .not (.t (.i (.o (.i .h))))) none]) (.cond (.t (.o (.o (.i (.i (.o (.o .h))))))) (.seq (.reg [AOper.mk none (.store 1 (.t (.i .h)) (.c (.int .i64 (.ofNat 3)))) none]) .ret) .skip)) (PlainBases n_it n_Chunk n_u16s)))))))))) [.cell (.i .h) false 1]
attribute [local simp] wp_skip wp_ret wp_exit wp_reg wp_seq wp_cond wp_block thenQ_normal thenQ_ret thenQ_exit blockQ_normal blockQ_ret blockQ_exit wpCond_true wpCond_false wpOps_nil wpVal_some wpGuard_true wpGuard_false wpOps_guard wpOps_cons
  put_at put_no ev_c ev_slot posEq_h posEq_o posEq_i posEq_ho posEq_hi posEq_oh posEq_ih posEq_oi posEq_io sel_true sel_false
  okv_some step_mv step_call step_pick pickV_bool step_bin bin_add bin_sub bin_mul bin_eql bin_neq bin_lss bin_leq bin_gtr bin_geq bin_eqb bin_neb bin_eqs bin_nes step_un un_not un_neg step_len len_slice len_str len_const step_extract extractV nth step_convInt conv_int step_convStr step_slice step_idxAddr natOf_nat step_load step_index step_field step_fieldAddr step_build step_minmax
  step_alloc step_bslice bsliceV_some newV_some step_store step_append boolIs_b boolIs_t finQ_ret finQ_normal ressE_nil ressE_cons resE_tmp consO_some initE_nil initE_cons pos_0 pos_1 pos_2 pos_3 pos_4 pos_5 pos_6 pos_7 pos_8 plain_bool plain_int plain_str plain_ptr plain_slice plain_map plain_agg plain_func plain_nilFunc V.undef oneOf_one oneOf_two ble_self
open Go.Vabs.Pk Go.Vabs.Ph Go.Vabs.Sa Go.Vabs.Sb Go.Vabs.Sc Go.Vabs.Sd Go.Vabs.Se Go.Vabs.Sg Go.Vabs.Sh Go.Vabs.Sm Go.Vabs.Sn Go.Vabs.Sp Go.Vabs.Sr Go.Vabs.St Go.Vabs.Su Go.Vabs.L2 Go.Vabs.Na Go.Vabs.Nb Go.Vabs.Ra Go.Vabs.Rb Go.Vabs.Rc Go.Vabs.Rd Go.Vabs.Re Go.Vabs.Ca Go.Vabs.Cb Go.Vabs.Vc Go.Vabs.Da Go.Vabs.Db Go.Vabs.Dd Go.Vabs.De Go.Vabs.Ea
attribute [local simp] step_nilchk nilchk_ptr step_box cells_int cells_bool cells_str cells_slice cells_ptr cells_agg fieldAddrV natOf_zero fill repN splice over newV step_appendZ
  wp_dreg wpDs_nil wpDs_cons wantedE_none wantedE_some wpDGuard_true wpDGuard_lim wpDGuard_false wpDLim_true wpDVal_free wpDVal_lim back_limited next_limited limF_dir limF_false foot_load foot_store foot_convStr okAll_nil okAll_cons pastsOf nthP ahead few_next load_limited convStr_limited blt_dec okPair_dd okPair_dc okPair_cd okPair_cc anyIn_nil anyIn_same anyIn_cons meets_nil meets_nil'
  tn_alloc tn_load tn_load0 tn_store tn_store0 storeT_some loadC_some cellsAt_zero cellsAt_succ ownAt_zero ownAt_succ tn_first tn_first0 firstC_some tn_grow_none tn_grow tn_grow0 growN_some tn_fix tn_fix0 fixN_some bn_load bn_first bn_grow bn_store tn_next tn_alloc_dir tl_store_d tl_back tl_back_few few_back_tl backv_some back_back cut takeN nbeq_dec ble_dec meets_cons mem_nil mem_cons idOf load_d convStr_d lenOfS firstNo natOf_int if_leN bn_fix foot_bslice foot_alloc foot_box foot_append foot_call
structure BaseR where
  g : Nat
  f : Nat
  c : Nat
def baseV (b : BaseR) : List V := [.int .i64 (b.g : Int), .int .i64 (b.f : Int), .int .i64 (b.c : Int)]
structure LayK where
  g : Nat
  i : Nat
def layV (b : LayK) : List V := [.int .i64 (b.g : Int), .int .i64 (b.i : Int)]
def baseAt (rec : List Nat) (j : Nat) : BaseR := ⟨nm ((rec.drop (j * 6)).take 6) 0 2, nm ((rec.drop (j * 6)).take 6) 2 2, nm ((rec.drop (j * 6)).take 6) 4 2⟩
def layAt (rec : List Nat) (j : Nat) : LayK := ⟨nm ((rec.drop (j * 4)).take 4) 0 2, nm ((rec.drop (j * 4)).take 4) 2 2⟩
def basesR (rec : List Nat) (n : Nat) : List BaseR := (List.range n).map (baseAt rec)
def laysR (rec : List Nat) (n : Nat) : List LayK := (List.range n).map (layAt rec)
theorem basesR_succ {rec : List Nat} {n : Nat} : basesR rec (n + 1) = basesR rec n ++ [baseAt rec n] := by unfold basesR; rw [List.range_succ, List.map_append]; rfl
theorem laysR_succ {rec : List Nat} {n : Nat} : laysR rec (n + 1) = laysR rec n ++ [layAt rec n] := by unfold laysR; rw [List.range_succ, List.map_append]; rfl
theorem basesR_len {rec : List Nat} {n : Nat} : (basesR rec n).length = n := by simp [basesR]
theorem laysR_len {rec : List Nat} {n : Nat} : (laysR rec n).length = n := by simp [laysR]
structure PlainPost (os os' : List (Option AObj)) (P : Nat) (bv : V) (rec lay : List Nat) (cnt n : Nat) : Prop where
  old : ∀ i, i < os.length → i ≠ P → (os'[i]?).join = (os[i]?).join
  le : os.length ≤ os'.length
  ex : ∃ q r, (os'[P]?).join = some (.cells true [bv, elS 3 q cnt, elS 2 r n, .slice none 0 0 0 true, .slice none 0 0 0 true, .slice none 0 0 0 true]) ∧ (cnt ≠ 0 → os.length ≤ q ∧ (os'[q]?).join = some (.cells true (elV baseV (basesR rec cnt)))) ∧ (n ≠ 0 → os.length ≤ r ∧ (os'[r]?).join = some (.cells true (elV layV (laysR lay n))))
def PlainOk (call : CallT) (g : Nat) : Prop := ∀ os P bv bs rec lay (cnt n : Nat), See os bv bs → isNil bv = false → (os[P]?).join = some (.cells true [bv, .slice none 0 0 0 true, .slice none 0 0 0 true, .slice none 0 0 0 true, .slice none 0 0 0 true, .slice none 0 0 0 true]) → bs.length ≤ 140737488354000 → cnt = nm bs 2 2 → n = nm bs 12 2 → cnt ≤ 64 → n ≤ 64 →
  nm bs 4 4 + 6 * cnt ≤ bs.length → nm bs 8 4 + 4 * n ≤ bs.length → rec = (bs.drop (nm bs 4 4)).take (6 * cnt) → lay = (bs.drop (nm bs 8 4)).take (4 * n) → (∀ j, j < cnt → (baseAt rec j).f + (baseAt rec j).c ≤ n) →
  ∃ os', call g [.ptr (some (P, 0))] (few os) = some (.int .i64 0, few os') ∧ PlainPost os os' P bv rec lay cnt n
section
variable {X l : List (Option AObj)} {i j o : Nat} {ws : List Nat} {ps : List Past}
theorem tl_append_d2 {e bytes m e1 n1 c1 : Nat} {f1 : Bool} {new : List V} : appendV (limited (.dir [i, j] [i]) ps (tl X l)) e bytes (.slice (some (i, o)) e1 n1 c1 f1) (some m) (some new) = backv (limited (.dir [i, j] [i]) ps (tl X l)) (appendV (tl X l) e bytes (.slice (some (i, o)) e1 n1 c1 f1) (some m) (some new)) := append_d2
theorem tl_append_d1 {e bytes m e1 n1 c1 : Nat} {f1 : Bool} {new : List V} : appendV (limited (.dir [j] []) ps (tl X l)) e bytes (.slice none e1 n1 c1 f1) (some m) (some new) = backv (limited (.dir [j] []) ps (tl X l)) (appendV (tl X l) e bytes (.slice none e1 n1 c1 f1) (some m) (some new)) := append_d1
theorem tl_first_d2 {e m e1 n1 c1 : Nat} {f1 : Bool} : firstN (limited (.dir [i, j] ws) ps (tl X l)) e m (.slice (some (j, o)) e1 n1 c1 f1) = firstN (tl X l) e m (.slice (some (j, o)) e1 n1 c1 f1) := first_d2
theorem tl_first_d1 {e m e1 n1 c1 : Nat} {f1 : Bool} : firstN (limited (.dir [j] ws) ps (tl X l)) e m (.slice (some (j, o)) e1 n1 c1 f1) = firstN (tl X l) e m (.slice (some (j, o)) e1 n1 c1 f1) := first_d1
end
theorem words3 {bs : List Nat} : elV intV (wordsR bs 3) = [.int .i64 (nm bs 0 2 : Int), .int .i64 (nm bs 2 2 : Int), .int .i64 (nm bs 4 2 : Int)] := rfl
theorem words2 {bs : List Nat} : elV intV (wordsR bs 2) = [.int .i64 (nm bs 0 2 : Int), .int .i64 (nm bs 2 2 : Int)] := rfl
set_option maxHeartbeats 8000000 in
theorem PlainLays_run {base : CallT} {lf nC nU it : Nat} (hlf : 100 ≤ lf) (hC : ChunkF it base nC) (hU : U16sL (base nU)) {W0 os : List (Option AObj)} {P H I B q cnt n : Nat} {bv : V} {rec lay : List Nat} (hPl : P < os.length) (hNW : os.length ≤ W0.length) (old : ∀ i, i < os.length → i ≠ P → (W0[i]?).join = (os[i]?).join) (hH : (W0[H]?).join = some (.cells true [.ptr (some (P, 0))])) (hHN : os.length ≤ H) (hI : (W0[I]?).join = some (.cells true [.int .i64 0])) (hIN : os.length ≤ I) (hB : (W0[B]?).join = some (newBytes lay)) (hBN : os.length ≤ B) (hll : lay.length = 4 * n) (h256 : ∀ b ∈ lay, b < 256) (hn : n ≤ 64)
    (hP0 : (W0[P]?).join = some (.cells true [bv, elS 3 q cnt, .slice none 0 0 0 true, .slice none 0 0 0 true, .slice none 0 0 0 true, .slice none 0 0 0 true])) (hq : cnt ≠ 0 → os.length ≤ q ∧ q ≠ I ∧ (W0[q]?).join = some (.cells true (elV baseV (basesR rec cnt)))) {s : Env} (s1 : s (.o .h) = .ptr (some (H, 0))) (s2 : s (.i .h) = .ptr (some (I, 0))) (s3 : s (.o (.i (.i .h))) = .slice (some (B, 0)) 1 (4 * n) (4 * n) false) :
    wp base lf (PlainLays it nC nU) s (few W0) (finQ [ARes.cell (.i .h) false 1] fun u st => ∃ os', st = few os' ∧ u = .int .i64 0 ∧ PlainPost os os' P bv rec lay cnt n) := by
  unfold PlainLays
  have lH := join_lt hH
  have lI := join_lt hI
  have lB := join_lt hB
  have ec : ∀ l, base nC [.slice (some (B, 0)) 1 (4 * n) (4 * n) false, .int .i64 4] (tl W0 l) = some (.func it [] [.ptr (some (W0.length + l.length, 0)), .ptr (some (W0.length + (l.length + 1), 0))], tl W0 (l ++ [some (.cells true [.slice (some (B, 0)) 1 (4 * n) (4 * n) false]), some (.cells true [.int .i64 4])])) := fun l => by
    have := hC (W0 ++ l) (.slice (some (B, 0)) 1 (4 * n) (4 * n) false) 4 rfl rfl (by omega) (by omega)
    rw [List.length_append, List.append_assoc, Nat.add_assoc] at this
    exact this
  obtain ⟨K, hK⟩ : ∃ K, K = W0.length := ⟨_, rfl⟩
  rw [tl_of (X := W0)]
  simp (disch := omega) [s1, s2, s3, ec]
  rw [tl_eq]
  obtain ⟨W1, hW1⟩ : ∃ W1 : List (Option AObj), W1 = W0 ++ [some (.cells true [.slice (some (B, 0)) 1 (4 * n) (4 * n) false]), some (.cells true [.int .i64 4])] := ⟨_, rfl⟩
  have hW1l : W1.length = K + 2 := by rw [hW1, hK]; simp
  have hW1o : ∀ i, i < K → (W1[i]?).join = (W0[i]?).join := fun i hi => by rw [hW1, join_app (by omega)]
  have hb1 : (W1[K]?).join = some (.cells true [.slice (some (B, 0)) 1 (4 * n) (4 * n) false]) := by rw [hW1, hK]; simp
  have hb2 : (W1[K + 1]?).join = some (.cells true [.int .i64 4]) := by rw [hW1, hK]; simp
  rw [← hW1, ← hK]
  refine wp_chunk (fun j W => j ≤ n ∧ (∀ i, i < K + 3 → i ≠ P → (W[i]?).join = ((W1 ++ [none])[i]?).join) ∧ K + 3 ≤ W.length ∧ ∃ r, (W[P]?).join = some (.cells true [bv, elS 3 q cnt, elS 2 r j, .slice none 0 0 0 true, .slice none 0 0 0 true, .slice none 0 0 0 true]) ∧ (j ≠ 0 → K + 3 ≤ r ∧ (W[r]?).join = some (.cells true (elV layV (laysR lay j))))) (b1 := K) (b2 := K + 1) (q := B) (o := 0) (len := 4 * n) (cap := 4 * n) (n := 4) (m := n) (f := false) ?_ (by omega) (by omega) (by omega) (by omega) (by omega) ?_ ?_ ?_ ?_
  · simp
  · rintro j W ⟨_, hW, _⟩
    exact ⟨by rw [hW K (by omega) (by omega), join_app (by omega)]; exact hb1, by rw [hW (K + 1) (by omega) (by omega), join_app (by omega)]; exact hb2⟩
  · refine ⟨by omega, fun i _ _ => rfl, by simp; omega, 0, ?_, fun h => absurd rfl h⟩
    rw [join_app (by omega), hW1o P (by omega)]
    exact hP0
  · rintro j W hj ⟨_, hW, hWl, r, hWP, hr⟩
    have hjn : j < n := by omega
    have low : ∀ i, i < K → i ≠ P → (W[i]?).join = (W0[i]?).join := fun i h1 h2 => by rw [hW i (by omega) h2, join_app (by omega), hW1o i h1]
    have hBW : (W[B]?).join = some (.cells true (bytesV lay)) := by rw [low B (by omega) (by omega)]; exact hB
    haveI : At W H (.cells true [.ptr (some (P, 0))]) := ⟨by rw [low H (by omega) (by omega)]; exact hH⟩
    haveI : At W P (.cells true [bv, elS 3 q cnt, elS 2 r j, .slice none 0 0 0 true, .slice none 0 0 0 true, .slice none 0 0 0 true]) := ⟨hWP⟩
    haveI : Df j r P := ⟨fun h => by have := (hr h).1; omega⟩
    haveI : Df j r H := ⟨fun h => by have := (hr h).1; omega⟩
    have hch := See.sub (w := 4) (c := 4) (o := j * 4) (f := true) hBW h256 (by omega) (Nat.le_refl _)
    obtain ⟨x, hx⟩ : ∃ x, x = layAt lay j := ⟨_, rfl⟩
    have cU : ∀ l, base nU [.slice (some (B, j * 4)) 1 4 4 true] (tl W l) = some (.slice (some (W.length + l.length, 0)) 1 2 2 false, tl W (l ++ [some (.cells true [.int .i64 (x.g : Int), .int .i64 (x.i : Int)])])) := fun l => by
      have := hU (W ++ l) _ _ 2 (hch.grow (l := l)) (by rw [List.length_take, List.length_drop]; omega) (by omega) (by omega)
      rw [List.length_append, List.append_assoc, words2] at this
      rw [hx]
      exact this
    have g1 : ∀ L, appendV (tl W L) 2 16 (elS 2 r j) (some 1) (some [.int .i64 (x.g : Int), .int .i64 (x.i : Int)]) = some (.slice (some (W.length + L.length, 0)) 2 (j + 1) (j + 1) false, tl (Sp.setK j W r) (L ++ [some (.cells true (elV layV (laysR lay j ++ [x])))])) := fun L =>
      growEl_tn (X := W) (f := layV) (e := 2) (w := 16) (q := r) (n := j) (L := laysR lay j) (fun _ => rfl) (by omega) x laysR_len (by omega) (fun h => (hr h).2) L
    have hpl1 := elS_plain (e := 2) (q := r) (n := j)
    rw [show min 4 (4 * n - j * 4) = 4 from by omega]
    by_cases hj0 : j = 0
    · have e0 : elS 2 r j = .slice none 0 0 0 true := by rw [hj0]; rfl
      rw [e0] at g1
      haveI : At W P (.cells true [bv, elS 3 q cnt, .slice none 0 0 0 true, .slice none 0 0 0 true, .slice none 0 0 0 true, .slice none 0 0 0 true]) := ⟨by rw [e0] at hWP; exact hWP⟩
      rw [tl_of (X := W)]
      simp (disch := omega) [s1, s2, s3, dlt_t, dlt_f, dle_t, dle_f, dltn_t, dltn_f, dlen_t, dlen_f, deq_t, deq_f, deqn_t, deqn_f, cU, g1, idxAddr_slice, wrap_i, limF_dir, next_back, tl_append_d1, tl_append_d2, tl_first_d1, tl_first_d2]
      exact ⟨_, rfl, by omega, fun i h1 h2 => by rw [join_app (by rw [List.length_set, setK_len]; omega), join_set (fun e => h2 e.symm), setK_at (fun h => by have := (hr h).1; omega)]; exact hW i h1 h2, by simp [setK_len]; omega, W.length + 2, by rw [join_app (by rw [List.length_set, setK_len]; exact join_lt hWP), join_set_same (by rw [setK_len]; exact join_lt hWP), show elS 2 (W.length + 2) (j + 1) = .slice (some (W.length + 2, 0)) 2 (j + 1) (j + 1) false from if_neg (by omega)], by omega, by rw [laysR_succ, ← hx]; exact tn_at (k := 2)⟩
    · have e0 : elS 2 r j = .slice (some (r, 0)) 2 j j false := if_neg hj0
      rw [e0] at g1 hWP
      haveI : At W P (.cells true [bv, elS 3 q cnt, .slice (some (r, 0)) 2 j j false, .slice none 0 0 0 true, .slice none 0 0 0 true, .slice none 0 0 0 true]) := ⟨hWP⟩
      rw [tl_of (X := W)]
      simp (disch := omega) [s1, s2, s3, dlt_t, dlt_f, dle_t, dle_f, dltn_t, dltn_f, dlen_t, dlen_f, deq_t, deq_f, deqn_t, deqn_f, cU, g1, idxAddr_slice, wrap_i, limF_dir, next_back, tl_append_d1, tl_append_d2, tl_first_d1, tl_first_d2]
      exact ⟨_, rfl, by omega, fun i h1 h2 => by rw [join_app (by rw [List.length_set, setK_len]; omega), join_set (fun e => h2 e.symm), setK_at (fun h => by have := (hr h).1; omega)]; exact hW i h1 h2, by simp [setK_len]; omega, W.length + 2, by rw [join_app (by rw [List.length_set, setK_len]; exact join_lt hWP), join_set_same (by rw [setK_len]; exact join_lt hWP), show elS 2 (W.length + 2) (j + 1) = .slice (some (W.length + 2, 0)) 2 (j + 1) (j + 1) false from if_neg (by omega)], by omega, by rw [laysR_succ, ← hx]; exact tn_at (k := 2)⟩
  · rintro j W hj ⟨hjn, hW, hWl, r, hWP, hr⟩
    have hjn : j = n := by omega
    subst hjn
    have low : ∀ i, i < K → i ≠ P → (W[i]?).join = (W0[i]?).join := fun i h1 h2 => by rw [hW i (by omega) h2, join_app (by omega), hW1o i h1]
    haveI : At W I (.cells true [.int .i64 0]) := ⟨by rw [low I (by omega) (by omega)]; exact hI⟩
    rw [tl_of (X := W)]
    simp (disch := omega) [s1, s2, s3, dlt_t, dlt_f, dle_t, dle_f, dltn_t, dltn_f, dlen_t, dlen_f, deq_t, deq_f, deqn_t, deqn_f, resE_cell]
    refine ⟨_, tl_of.symm, fun i h1 h2 => by rw [join_set (by omega), low i (by omega) h2, old i h1 h2], by rw [List.length_set]; omega, q, r, by rw [join_set (by omega)]; exact hWP, fun h => ?_, fun h => ?_⟩
    · obtain ⟨y1, y2, y3⟩ := hq h
      exact ⟨y1, by rw [join_set (fun e => y2 e.symm), low q (by have := join_lt y3; omega) (by omega)]; exact y3⟩
    · obtain ⟨y1, y2⟩ := hr h
      exact ⟨by omega, by rw [join_set (by omega)]; exact y2⟩
set_option maxHeartbeats 8000000 in
theorem PlainBases_run {base : CallT} {lf nC nU it : Nat} (hlf : 100 ≤ lf) (hC : ChunkF it base nC) (hU : U16sL (base nU)) {W0 os : List (Option AObj)} {P H I G A B cnt n : Nat} {bv : V} {rec lay : List Nat} (hPl : P < os.length) (hNW : os.length ≤ W0.length) (old : ∀ i, i < os.length → i ≠ P → (W0[i]?).join = (os[i]?).join) (hH : (W0[H]?).join = some (.cells true [.ptr (some (P, 0))])) (hHN : os.length ≤ H) (hI : (W0[I]?).join = some (.cells true [.int .i64 0])) (hIN : os.length ≤ I) (hG : (W0[G]?).join = some (.cells true [.int .i64 (n : Int)])) (hGN : os.length ≤ G) (hA : (W0[A]?).join = some (newBytes rec)) (hAN : os.length ≤ A) (hB : (W0[B]?).join = some (newBytes lay)) (hBN : os.length ≤ B) (hrl : rec.length = 6 * cnt) (hll : lay.length = 4 * n) (r256 : ∀ b ∈ rec, b < 256) (h256 : ∀ b ∈ lay, b < 256) (hn : n ≤ 64) (hcn : cnt ≤ 64)
    (hall : ∀ j, j < cnt → (baseAt rec j).f + (baseAt rec j).c ≤ n)
    (hP0 : (W0[P]?).join = some (.cells true [bv, .slice none 0 0 0 true, .slice none 0 0 0 true, .slice none 0 0 0 true, .slice none 0 0 0 true, .slice none 0 0 0 true])) {s : Env} (s1 : s (.o .h) = .ptr (some (H, 0))) (s2 : s (.i .h) = .ptr (some (I, 0))) (s3 : s (.o (.i (.i .h))) = .slice (some (B, 0)) 1 (4 * n) (4 * n) false) (s4 : s (.o (.o (.i .h))) = .slice (some (A, 0)) 1 (6 * cnt) (6 * cnt) false) (s5 : s (.o (.i (.o .h))) = .ptr (some (G, 0))) :
    wp base lf (PlainBases it nC nU) s (few W0) (finQ [ARes.cell (.i .h) false 1] fun u st => ∃ os', st = few os' ∧ u = .int .i64 0 ∧ PlainPost os os' P bv rec lay cnt n) := by
  unfold PlainBases
  have lH := join_lt hH
  have lI := join_lt hI
  have lG := join_lt hG
  have lA := join_lt hA
  have lB := join_lt hB
  have ec : ∀ l, base nC [.slice (some (A, 0)) 1 (6 * cnt) (6 * cnt) false, .int .i64 6] (tl W0 l) = some (.func it [] [.ptr (some (W0.length + l.length, 0)), .ptr (some (W0.length + (l.length + 1), 0))], tl W0 (l ++ [some (.cells true [.slice (some (A, 0)) 1 (6 * cnt) (6 * cnt) false]), some (.cells true [.int .i64 6])])) := fun l => by
    have := hC (W0 ++ l) (.slice (some (A, 0)) 1 (6 * cnt) (6 * cnt) false) 6 rfl rfl (by omega) (by omega)
    rw [List.length_append, List.append_assoc, Nat.add_assoc] at this
    exact this
  obtain ⟨K, hK⟩ : ∃ K, K = W0.length := ⟨_, rfl⟩
  rw [tl_of (X := W0)]
  simp (disch := omega) [s1, s2, s3, s4, s5, ec]
  rw [tl_eq]
  obtain ⟨W1, hW1⟩ : ∃ W1 : List (Option AObj), W1 = W0 ++ [some (.cells true [.slice (some (A, 0)) 1 (6 * cnt) (6 * cnt) false]), some (.cells true [.int .i64 6])] := ⟨_, rfl⟩
  have hW1l : W1.length = K + 2 := by rw [hW1, hK]; simp
  have hW1o : ∀ i, i < K → (W1[i]?).join = (W0[i]?).join := fun i hi => by rw [hW1, join_app (by omega)]
  have hb1 : (W1[K]?).join = some (.cells true [.slice (some (A, 0)) 1 (6 * cnt) (6 * cnt) false]) := by rw [hW1, hK]; simp
  have hb2 : (W1[K + 1]?).join = some (.cells true [.int .i64 6]) := by rw [hW1, hK]; simp
  rw [← hW1, ← hK]
  refine wp_chunk (fun j W => j ≤ cnt ∧ (∀ i, i < K + 3 → i ≠ P → (W[i]?).join = ((W1 ++ [none])[i]?).join) ∧ K + 3 ≤ W.length ∧ ∃ r, (W[P]?).join = some (.cells true [bv, elS 3 r j, .slice none 0 0 0 true, .slice none 0 0 0 true, .slice none 0 0 0 true, .slice none 0 0 0 true]) ∧ (j ≠ 0 → K + 3 ≤ r ∧ (W[r]?).join = some (.cells true (elV baseV (basesR rec j))))) (b1 := K) (b2 := K + 1) (q := A) (o := 0) (len := 6 * cnt) (cap := 6 * cnt) (n := 6) (m := cnt) (f := false) ?_ (by omega) (by omega) (by omega) (by omega) (by omega) ?_ ?_ ?_ ?_
  · simp
  · rintro j W ⟨_, hW, _⟩
    exact ⟨by rw [hW K (by omega) (by omega), join_app (by omega)]; exact hb1, by rw [hW (K + 1) (by omega) (by omega), join_app (by omega)]; exact hb2⟩
  · refine ⟨by omega, fun i _ _ => rfl, by simp; omega, 0, ?_, fun h => absurd rfl h⟩
    rw [join_app (by omega), hW1o P (by omega)]
    exact hP0
  · rintro j W hj ⟨_, hW, hWl, r, hWP, hr⟩
    have hjn : j < cnt := by omega
    have low : ∀ i, i < K → i ≠ P → (W[i]?).join = (W0[i]?).join := fun i h1 h2 => by rw [hW i (by omega) h2, join_app (by omega), hW1o i h1]
    have hAW : (W[A]?).join = some (.cells true (bytesV rec)) := by rw [low A (by omega) (by omega)]; exact hA
    haveI : At W H (.cells true [.ptr (some (P, 0))]) := ⟨by rw [low H (by omega) (by omega)]; exact hH⟩
    haveI : At W G (.cells true [.int .i64 (n : Int)]) := ⟨by rw [low G (by omega) (by omega)]; exact hG⟩
    haveI : Df j r P := ⟨fun h => by have := (hr h).1; omega⟩
    haveI : Df j r H := ⟨fun h => by have := (hr h).1; omega⟩
    haveI : Df j r G := ⟨fun h => by have := (hr h).1; omega⟩
    have hch := See.sub (w := 6) (c := 6) (o := j * 6) (f := true) hAW r256 (by omega) (Nat.le_refl _)
    have hxn := hall j hjn
    obtain ⟨x, hx⟩ : ∃ x, x = baseAt rec j := ⟨_, rfl⟩
    rw [← hx] at hxn
    have cU : ∀ l, base nU [.slice (some (A, j * 6)) 1 6 6 true] (tl W l) = some (.slice (some (W.length + l.length, 0)) 1 3 3 false, tl W (l ++ [some (.cells true [.int .i64 (x.g : Int), .int .i64 (x.f : Int), .int .i64 (x.c : Int)])])) := fun l => by
      have := hU (W ++ l) _ _ 3 (hch.grow (l := l)) (by rw [List.length_take, List.length_drop]; omega) (by omega) (by omega)
      rw [List.length_append, List.append_assoc, words3] at this
      rw [hx]
      exact this
    have g1 : ∀ L, appendV (tl W L) 3 24 (elS 3 r j) (some 1) (some [.int .i64 (x.g : Int), .int .i64 (x.f : Int), .int .i64 (x.c : Int)]) = some (.slice (some (W.length + L.length, 0)) 3 (j + 1) (j + 1) false, tl (Sp.setK j W r) (L ++ [some (.cells true (elV baseV (basesR rec j ++ [x])))])) := fun L =>
      growEl_tn (X := W) (f := baseV) (e := 3) (w := 24) (q := r) (n := j) (L := basesR rec j) (fun _ => rfl) (by omega) x basesR_len (by omega) (fun h => (hr h).2) L
    rw [show min 6 (6 * cnt - j * 6) = 6 from by omega]
    by_cases hj0 : j = 0
    · have e0 : elS 3 r j = .slice none 0 0 0 true := by rw [hj0]; rfl
      rw [e0] at g1
      haveI : At W P (.cells true [bv, .slice none 0 0 0 true, .slice none 0 0 0 true, .slice none 0 0 0 true, .slice none 0 0 0 true, .slice none 0 0 0 true]) := ⟨by rw [e0] at hWP; exact hWP⟩
      rw [tl_of (X := W)]
      simp (disch := omega) [s1, s2, s3, s5, dlt_t, dlt_f, dle_t, dle_f, dltn_t, dltn_f, dlen_t, dlen_f, deq_t, deq_f, deqn_t, deqn_f, cU, g1, idxAddr_slice, wrap_i, limF_dir, next_back, tl_append_d1, tl_append_d2, tl_first_d1, tl_first_d2]
      exact ⟨_, rfl, by omega, fun i h1 h2 => by rw [join_app (by rw [List.length_set, setK_len]; omega), join_set (fun e => h2 e.symm), setK_at (fun h => by have := (hr h).1; omega)]; exact hW i h1 h2, by simp [setK_len]; omega, W.length + 2, by rw [join_app (by rw [List.length_set, setK_len]; exact join_lt hWP), join_set_same (by rw [setK_len]; exact join_lt hWP), show elS 3 (W.length + 2) (j + 1) = .slice (some (W.length + 2, 0)) 3 (j + 1) (j + 1) false from if_neg (by omega)], by omega, by rw [basesR_succ, ← hx]; exact tn_at (k := 2)⟩
    · have e0 : elS 3 r j = .slice (some (r, 0)) 3 j j false := if_neg hj0
      rw [e0] at g1 hWP
      haveI : At W P (.cells true [bv, .slice (some (r, 0)) 3 j j false, .slice none 0 0 0 true, .slice none 0 0 0 true, .slice none 0 0 0 true, .slice none 0 0 0 true]) := ⟨hWP⟩
      rw [tl_of (X := W)]
      simp (disch := omega) [s1, s2, s3, s5, dlt_t, dlt_f, dle_t, dle_f, dltn_t, dltn_f, dlen_t, dlen_f, deq_t, deq_f, deqn_t, deqn_f, cU, g1, idxAddr_slice, wrap_i, limF_dir, next_back, tl_append_d1, tl_append_d2, tl_first_d1, tl_first_d2]
      exact ⟨_, rfl, by omega, fun i h1 h2 => by rw [join_app (by rw [List.length_set, setK_len]; omega), join_set (fun e => h2 e.symm), setK_at (fun h => by have := (hr h).1; omega)]; exact hW i h1 h2, by simp [setK_len]; omega, W.length + 2, by rw [join_app (by rw [List.length_set, setK_len]; exact join_lt hWP), join_set_same (by rw [setK_len]; exact join_lt hWP), show elS 3 (W.length + 2) (j + 1) = .slice (some (W.length + 2, 0)) 3 (j + 1) (j + 1) false from if_neg (by omega)], by omega, by rw [basesR_succ, ← hx]; exact tn_at (k := 2)⟩
  · rintro j W hj ⟨hjn, hW, hWl, r, hWP, hr⟩
    have hjn : j = cnt := by omega
    subst hjn
    have low : ∀ i, i < K → i ≠ P → (W[i]?).join = (W0[i]?).join := fun i h1 h2 => by rw [hW i (by omega) h2, join_app (by omega), hW1o i h1]
    simp (disch := omega) []
    refine PlainLays_run hlf hC hU (P := P) (H := H) (I := I) (B := B) (q := r) hPl (by omega) (fun i h1 h2 => by rw [low i (by omega) h2]; exact old i h1 h2) (by rw [low H (by omega) (by omega)]; exact hH) hHN (by rw [low I (by omega) (by omega)]; exact hI) hIN (by rw [low B (by omega) (by omega)]; exact hB) hBN hll h256 hn hWP (fun h => ⟨by have := (hr h).1; omega, by have := (hr h).1; omega, (hr h).2⟩) ?_ ?_ ?_ <;> simp [s1, s2, s3]
set_option maxHeartbeats 8000000 in
theorem PlainOk.code {base : CallT} {g lf n2 n4 nP nC nU it : Nat} (hlf : 100 ≤ lf) (h2 : UF 2 base n2) (h4 : UF 4 base n4) (hP : PartF base nP) (hC : ChunkF it base nC) (hU : U16sL (base nU)) (hUr : InReg (base nU)) : PlainOk (Vabs.withF base g lf (plain_c it n2 n4 nP nC nU)) g := fun os P bv bs rec lay cnt n hb hbn hPo hlen hcnt hn hc64 hn64 hr1 hr2 hrec hlay hall => by
  rw [withF_same]
  have main := enter_wp (call := base) (lf := lf) (n := 130) (args := [.ptr (some (P, 0))]) (st := few os) (K := fun u st => ∃ os', st = few os' ∧ u = .int .i64 0 ∧ PlainPost os os' P bv rec lay cnt n) (c := (plain_c it n2 n4 nP nC nU).code) (rs := (plain_c it n2 n4 nP nC nU).results) ?_
  · obtain ⟨u, st', h1, os', rfl, rfl, h2⟩ := main
    exact ⟨os', h1, h2⟩
  · unfold plain_c
    dsimp only
    have hPl := join_lt hPo
    haveI : At os P (.cells true [bv, .slice none 0 0 0 true, .slice none 0 0 0 true, .slice none 0 0 0 true, .slice none 0 0 0 true, .slice none 0 0 0 true]) := ⟨hPo⟩
    have hbp := hb.plain
    have u : ∀ (x : Int) l, base n2 [bv, .int .i64 x] (tl os l) = some (.tuple [.int .i64 (nm bs x 2 : Int), .bool (num bs x 2).isSome], tl os l) := fun x l => by rw [tl_eq, h2 _ _ _ _ (hb.grow (l := l)).at (by omega)]; rfl
    have u4 : ∀ (x : Int) l, base n4 [bv, .int .i64 x] (tl os l) = some (.tuple [.int .i64 (nm bs x 4 : Int), .bool (num bs x 4).isSome], tl os l) := fun x l => by rw [tl_eq, h4 _ _ _ _ (hb.grow (l := l)).at (by omega)]; rfl
    have u2 := u 2
    have u12 := u 12
    have v4 := u4 4
    have v8 := u4 8
    rw [← hcnt] at u2
    rw [← hn] at u12
    obtain ⟨fr, hfr⟩ : ∃ x, x = nm bs 4 4 := ⟨_, rfl⟩
    obtain ⟨at_, hat⟩ : ∃ x, x = nm bs 8 4 := ⟨_, rfl⟩
    rw [← hfr] at v4 hr1 hrec
    rw [← hat] at v8 hr2 hlay
    have hcut1 : cutB bs (fr : Int) (6 * (cnt : Int)) = rec := by unfold cutB; rw [show (6 * (cnt : Int)).toNat = 6 * cnt from by omega, hrec]; rfl
    have hcut2 : cutB bs (at_ : Int) (4 * (n : Int)) = lay := by unfold cutB; rw [show (4 * (n : Int)).toNat = 4 * n from by omega, hlay]; rfl
    have y1 : ∀ l, base nP [bv, .int .i64 (fr : Int), .int .i64 (6 * (cnt : Int))] (tl os l) = some (.tuple [.slice (some (os.length + l.length, 0)) 1 (6 * cnt) (6 * cnt) false, .bool true], tl os (l ++ [some (newBytes rec)])) := fun l => by
      have := part_yes hP (X := os) (l := l) (x := (fr : Int)) (n := 6 * (cnt : Int)) hb.tl hbn hlen (thereB_true.2 (by omega))
      rw [hcut1, show (6 * (cnt : Int)).toNat = 6 * cnt from by omega] at this
      exact this
    have y2 : ∀ l, base nP [bv, .int .i64 (at_ : Int), .int .i64 (4 * (n : Int))] (tl os l) = some (.tuple [.slice (some (os.length + l.length, 0)) 1 (4 * n) (4 * n) false, .bool true], tl os (l ++ [some (newBytes lay)])) := fun l => by
      have := part_yes hP (X := os) (l := l) (x := (at_ : Int)) (n := 4 * (n : Int)) hb.tl hbn hlen (thereB_true.2 (by omega))
      rw [hcut2, show (4 * (n : Int)).toNat = 4 * n from by omega] at this
      exact this
    have ec : ∀ (p m z : Nat) l, z < 1000 → 0 < z → base nC [.slice (some (p, 0)) 1 m m false, .int .i64 (z : Int)] (tl os l) = some (.func it [] [.ptr (some (os.length + l.length, 0)), .ptr (some (os.length + (l.length + 1), 0))], tl os (l ++ [some (.cells true [.slice (some (p, 0)) 1 m m false]), some (.cells true [.int .i64 (z : Int)])])) := fun p m z l hz hz0 => by
      have := hC (os ++ l) (.slice (some (p, 0)) 1 m m false) z rfl rfl (by omega) (by omega)
      rw [List.length_append, List.append_assoc, Nat.add_assoc] at this
      exact this
    have ec6 : ∀ (p : Nat) l, base nC [.slice (some (p, 0)) 1 (6 * cnt) (6 * cnt) false, .int .i64 6] (tl os l) = _ := fun p l => ec p (6 * cnt) 6 l (by omega) (by omega)
    rw [tl_of (X := os)]
    simp (disch := omega) [u2, u12, v4, v8, y1, y2, ec6, hbp, dlt_t, dlt_f, dle_t, dle_f, dltn_t, dltn_f, dlen_t, dlen_f, deq_t, deq_f, deqn_t, deqn_f, wrap_i]
    rw [tl_eq]
    have h256 := hb.lt
    refine PlainBases_run hlf hC hU (P := P) (H := os.length) (I := os.length + 1) (G := os.length + 2) (A := os.length + 3) (B := os.length + 4) hPl (by simp) (fun i h1 _ => join_app h1) (tl_at (k := 0)) (by omega) (tl_at (k := 1)) (by omega) (tl_at (k := 2)) (by omega) (tl_at (k := 3)) (by omega) (tl_at (k := 4)) (by omega) (by rw [hrec, List.length_take, List.length_drop]; omega) (by rw [hlay, List.length_take, List.length_drop]; omega) (fun b h => h256 b (by rw [hrec] at h; exact List.mem_of_mem_drop (List.mem_of_mem_take h))) (fun b h => h256 b (by rw [hlay] at h; exact List.mem_of_mem_drop (List.mem_of_mem_take h))) hn64 hc64 hall (by rw [join_app hPl]; exact hPo) ?_ ?_ ?_ ?_ ?_ <;> simp
end Go.Vabs.Eb

namespace Go.Vabs.Ec
set_option linter.unusedVariables false
set_option linter.unusedSimpArgs false
set_option maxRecDepth 10000
def Layers_c (n_CloneL : Nat) : AFunc := AFunc.mk 35 (.seq (.reg [AOper.mk (some (.i (.o .h))) (.mv (.c (.slice none 0 0 0 true))) none, AOper.mk (some (.o (.i .h))) (.mv (.c (.bool false))) none]) (.seq (.seq (.reg [AOper.mk (some (.o (.i (.o .h)))) (.nilchk (.t .h)) none, AOper.mk (some (.i (.i (.o .h)))) (.fieldAddr 1 (.t (.o (.i (.o .h))))) none, AOper.mk (some (.o (.o (.i .h)))) (.load false 1 (.t (.i (.i (.o .h))))) none, AOper.mk (some (.i (.o (.i .h)))) (.len .slice (.t (.o (.o (.i .h))))) none, AOper.mk (some (.o (.i (.i .h)))) (.mv (.c (.int .i64 (.ofNat 0)))) none]) (.block 0 (.loop (.seq (.reg [AOper.mk (some (.i (.i (.i .h)))) (.bin .lss (.val .int) (.t (.o (.i (.i .h)))) (.t (.i (.o (.i .h))))) none]) (.seq (.cond (.t (.i (.i (.i .h)))) .skip (.exit 0)) (.seq (.block 1 (.seq (.reg [AOper.mk (some (.o (.o (.o (.o .h))))) (.idxAddr (.slice 3) (.t (.o (.o (.i .h)))) (.t (.o (.i (.i .h))))) none, AOper.mk (some (.i (.o (.o (.o .h))))) (.load true 3 (.t (.o (.o (.o (.o .h)))))) none, AOper.mk (some (.o (.o (.o .h)))) (.alloc [.int .i64 (.ofNat 0), .int .i64 (.ofNat 0), .int .i64 (.ofNat 0)]) none, AOper.mk none (.store 3 (.t (.o (.o (.o .h)))) (.t (.i (.o (.o (.o .h)))))) none]) (.seq (.reg [AOper.mk (some (.o (.i (.o (.o .h))))) (.fieldAddr 0 (.t (.o (.o (.o .h))))) none, AOper.mk (some (.i (.i (.o (.o .h))))) (.load false 1 (.t (.o (.i (.o (.o .h)))))) none, AOper.mk (some (.i (.o (.i (.o .h))))) (.bin .eql (.val .int) (.t (.i (.i (.o (.o .h))))) (.t (.o .h))) none]) (.cond (.t (.i (.o (.i (.o .h))))) (.seq (.dreg [(AOper.mk (some (.o (.i (.i (.o .h))))) (.mv (.t .h)) none, []), (AOper.mk (some (.i (.i (.i (.o .h))))) (.nilchk (.t (.o (.i (.i (.o .h)))))) none, []), (AOper.mk (some (.o (.o (.o (.i .h))))) (.fieldAddr 2 (.t (.i (.i (.i (.o .h)))))) none, []), (AOper.mk (some (.i (.o (.o (.i .h))))) (.load false 1 (.t (.o (.o (.o (.i .h)))))) none, [5, 7, 9]), (AOper.mk (some (.o (.i (.o (.i .h))))) (.fieldAddr 1 (.t (.o (.o (.o .h))))) none, []), (AOper.mk (some (.i (.i (.o (.i .h))))) (.load false 1 (.t (.o (.i (.o (.i .h)))))) none, [3, 7, 9]), (AOper.mk (some (.o (.o (.i (.i .h))))) (.fieldAddr 1 (.t (.o (.o (.o .h))))) none, []), (AOper.mk (some (.i (.o (.i (.i .h))))) (.load false 1 (.t (.o (.o (.i (.i .h)))))) none, [3, 5, 9]), (AOper.mk (some (.o (.i (.i (.i .h))))) (.fieldAddr 2 (.t (.o (.o (.o .h))))) none, []), (AOper.mk (some (.i (.i (.i (.i .h))))) (.load false 1 (.t (.o (.i (.i (.i .h)))))) none, [3, 5, 7]), (AOper.mk (some (.o (.o (.o (.o (.o .h)))))) (.bin .add (.val .int) (.t (.i (.o (.i (.i .h))))) (.t (.i (.i (.i (.i .h)))))) none, []), (AOper.mk (some (.i (.o (.o (.o (.o .h)))))) (.slice (.slice 2) (.t (.i (.o (.o (.i .h))))) (some (.t (.i (.i (.o (.i .h)))))) (some (.t (.o (.o (.o (.o (.o .h))))))) none) none, []), (AOper.mk (some (.o (.i (.o (.o (.o .h)))))) (.call n_CloneL [.t (.i (.o (.o (.o (.o .h)))))]) none, []), (AOper.mk (some (.i (.o .h))) (.mv (.t (.o (.i (.o (.o (.o .h))))))) none, []), (AOper.mk (some (.o (.i .h))) (.mv (.c (.bool true))) none, [])]) .ret) .skip)))) (.reg [AOper.mk (some (.i (.i (.o (.o (.o .h)))))) (.bin .add (.val .int) (.t (.o (.i (.i .h)))) (.c (.int .i64 (.ofNat 1)))) none, AOper.mk (some (.o (.i (.i .h)))) (.mv (.t (.i (.i (.o (.o (.o .h))))))) none]))))))) (.seq (.reg [AOper.mk (some (.i (.o .h))) (.mv (.c (.slice none 0 0 0 true))) none, AOper.mk (some (.o (.i .h))) (.mv (.c (.bool false))) none]) .ret))) [.tmp (.i (.o .h)), .tmp (.o (.i .h))]
def ReadC_c (n_Table : Nat) (n_U16 : Nat) (n_plain : Nat) (n_more : Nat) : AFunc := AFunc.mk 49 (.seq (.reg [AOper.mk (some (.i .h)) (.mv (.c (.ptr none))) none, AOper.mk (some (.o (.o .h))) (.mv (.c (.int .i64 (.ofNat 0)))) none]) (.seq (.seq (.reg [AOper.mk (some (.o (.o (.i .h)))) (.bin .eql (.nils .ptr) (.t .h) (.c (.ptr none))) none]) (.cond (.t (.o (.o (.i .h)))) (.seq (.reg [AOper.mk (some (.i .h)) (.mv (.c (.ptr none))) none, AOper.mk (some (.o (.o .h))) (.mv (.c (.int .i64 (.ofNat 1)))) none]) .ret) .skip)) (.seq (.reg [AOper.mk (some (.i (.i (.i .h)))) (.call n_Table [.t .h, .c (.str [67, 79, 76, 82])]) none, AOper.mk (some (.o (.o (.o (.o .h))))) (.extract (.t (.i (.i (.i .h)))) 0) none, AOper.mk (some (.i (.o (.o (.o .h))))) (.extract (.t (.i (.i (.i .h)))) 1) none, AOper.mk (some (.i (.o .h))) (.mv (.t (.o (.o (.o (.o .h)))))) none, AOper.mk (some (.o (.i .h))) (.mv (.t (.i (.o (.o (.o .h)))))) none]) (.seq (.reg [AOper.mk (some (.o (.o (.i (.o .h))))) (.call n_U16 [.t (.i (.o .h)), .c (.int .i64 (.ofNat 0))]) none, AOper.mk (some (.i (.o (.i (.o .h))))) (.extract (.t (.o (.o (.i (.o .h))))) 0) none, AOper.mk (some (.o (.i (.i (.o .h))))) (.extract (.t (.o (.o (.i (.o .h))))) 1) none, AOper.mk (some (.i (.i .h))) (.mv (.t (.i (.o (.i (.o .h)))))) none, AOper.mk (some (.o (.o (.o .h)))) (.mv (.t (.o (.i (.i (.o .h)))))) none]) (.seq (.block 0 (.seq (.reg [AOper.mk (some (.i (.o (.o (.i .h))))) (.un .not (.t (.o (.i .h)))) none, AOper.mk (some (.i (.i (.i (.o .h))))) (.mv (.t (.i (.o (.o (.i .h)))))) none]) (.cond (.t (.i (.i (.i (.o .h))))) (.seq (.reg [AOper.mk (some (.i .h)) (.mv (.c (.ptr none))) none, AOper.mk (some (.o (.o .h))) (.mv (.c (.int .i64 (.ofNat 6)))) none]) .ret) (.seq (.reg [AOper.mk (some (.o (.o (.i (.i .h))))) (.len .slice (.t (.i (.o .h)))) none, AOper.mk (some (.i (.o (.i (.i .h))))) (.bin .lss (.val .int) (.t (.o (.o (.i (.i .h))))) (.c (.int .i64 (.ofNat 14)))) none, AOper.mk (some (.o (.i (.o (.i .h))))) (.mv (.t (.i (.o (.i (.i .h)))))) none]) (.cond (.t (.o (.i (.o (.i .h))))) (.seq (.reg [AOper.mk (some (.i .h)) (.mv (.c (.ptr none))) none, AOper.mk (some (.o (.o .h))) (.mv (.c (.int .i64 (.ofNat 3)))) none]) .ret) (.seq (.reg [AOper.mk (some (.o (.o (.o (.o (.o .h)))))) (.bin .gtr (.val .int) (.t (.i (.i .h))) (.c (.int .i64 (.ofNat 1)))) none, AOper.mk (some (.o (.i (.i (.i .h))))) (.mv (.t (.o (.o (.o (.o (.o .h))))))) none]) (.cond (.t (.o (.i (.i (.i .h))))) (.seq (.reg [AOper.mk (some (.i .h)) (.mv (.c (.ptr none))) none, AOper.mk (some (.o (.o .h))) (.mv (.c (.int .i64 (.ofNat 2)))) none]) .ret) .skip))))))) (.seq (.reg [AOper.mk (some (.o (.i (.o (.o (.o .h)))))) (.build [.slice none 0 0 0 true, .slice none 0 0 0 true, .slice none 0 0 0 true, .slice none 0 0 0 true, .slice none 0 0 0 true, .slice none 0 0 0 true] [(0, (1, .t (.i (.o .h))))]) none, AOper.mk (some (.i (.i (.o (.o (.o .h)))))) (.box (.t (.o (.i (.o (.o (.o .h))))))) none, AOper.mk (some (.i (.o (.o .h)))) (.mv (.t (.i (.i (.o (.o (.o .h))))))) none]) (.seq (.reg [AOper.mk (some (.i (.o (.i (.o (.o .h)))))) (.call n_plain [.t (.i (.o (.o .h)))]) none, AOper.mk (some (.o (.i (.o .h)))) (.mv (.t (.i (.o (.i (.o (.o .h))))))) none]) (.seq (.seq (.reg [AOper.mk (some (.i (.i (.i (.o (.o .h)))))) (.bin .eql (.val .int) (.t (.o (.i (.o .h)))) (.c (.int .i64 (.ofNat 0)))) none, AOper.mk (some (.o (.o (.o (.i (.o .h)))))) (.mv (.t (.i (.i (.i (.o (.o .h))))))) none, AOper.mk (some (.o (.i (.o (.i (.o .h)))))) (.bin .eql (.val .int) (.t (.i (.i .h))) (.c (.int .i64 (.ofNat 1)))) (some (.o (.o (.o (.i (.o .h)))), true)), AOper.mk (some (.i (.i (.o (.i (.o .h)))))) (.pick (.t (.o (.o (.o (.i (.o .h)))))) (.t (.o (.i (.o (.i (.o .h)))))) (.c (.bool false))) none]) (.cond (.t (.i (.i (.o (.i (.o .h)))))) (.reg [AOper.mk (some (.i (.o (.i (.i (.o .h)))))) (.call n_more [.t (.i (.o (.o .h)))]) none, AOper.mk (some (.o (.i (.o .h)))) (.mv (.t (.i (.o (.i (.i (.o .h))))))) none]) .skip)) (.seq (.seq (.reg [AOper.mk (some (.i (.i (.i (.i (.o .h)))))) (.bin .neq (.val .int) (.t (.o (.i (.o .h)))) (.c (.int .i64 (.ofNat 0)))) none]) (.cond (.t (.i (.i (.i (.i (.o .h)))))) (.seq (.reg [AOper.mk (some (.i .h)) (.mv (.c (.ptr none))) none, AOper.mk (some (.o (.o .h))) (.mv (.t (.o (.i (.o .h))))) none]) .ret) .skip)) (.seq (.reg [AOper.mk (some (.i .h)) (.mv (.t (.i (.o (.o .h))))) none, AOper.mk (some (.o (.o .h))) (.mv (.c (.int .i64 (.ofNat 0)))) none]) .ret)))))))))) [.tmp (.i .h), .tmp (.o (.o .h))]
attribute [local simp] wp_skip wp_ret wp_exit wp_reg wp_seq wp_cond wp_block thenQ_normal thenQ_ret thenQ_exit blockQ_normal blockQ_ret blockQ_exit wpCond_true wpCond_false wpOps_nil wpVal_some wpGuard_true wpGuard_false wpOps_guard wpOps_cons
  put_at put_no ev_c ev_slot posEq_h posEq_o posEq_i posEq_ho posEq_hi posEq_oh posEq_ih posEq_oi posEq_io sel_true sel_false
  okv_some step_mv step_call step_pick pickV_bool step_bin bin_add bin_sub bin_mul bin_eql bin_neq bin_lss bin_leq bin_gtr bin_geq bin_eqb bin_neb bin_eqs bin_nes step_un un_not un_neg step_len len_slice len_str len_const step_extract extractV nth step_convInt conv_int step_convStr step_slice step_idxAddr natOf_nat step_load step_index step_field step_fieldAddr step_build step_minmax
  step_alloc step_bslice bsliceV_some newV_some step_store step_append boolIs_b boolIs_t finQ_ret finQ_normal ressE_nil ressE_cons resE_tmp consO_some initE_nil initE_cons pos_0 pos_1 pos_2 pos_3 pos_4 pos_5 pos_6 pos_7 pos_8 plain_bool plain_int plain_str plain_ptr plain_slice plain_map plain_agg plain_func plain_nilFunc V.undef oneOf_one oneOf_two ble_self
open Go.Vabs.Pk Go.Vabs.Ph Go.Vabs.Sa Go.Vabs.Sb Go.Vabs.Sc Go.Vabs.Sd Go.Vabs.Se Go.Vabs.Sg Go.Vabs.Sh Go.Vabs.Sm Go.Vabs.Sn Go.Vabs.Sp Go.Vabs.Sr Go.Vabs.St Go.Vabs.Su Go.Vabs.L2 Go.Vabs.Na Go.Vabs.Nb Go.Vabs.Ra Go.Vabs.Rb Go.Vabs.Rc Go.Vabs.Rd Go.Vabs.Re Go.Vabs.Ca Go.Vabs.Cb Go.Vabs.Vc Go.Vabs.Da Go.Vabs.Db Go.Vabs.Dd Go.Vabs.De Go.Vabs.Ea Go.Vabs.Eb
attribute [local simp] step_nilchk nilchk_ptr step_box cells_int cells_bool cells_str cells_slice cells_ptr cells_agg fieldAddrV natOf_zero fill repN splice over newV step_appendZ
  wp_dreg wpDs_nil wpDs_cons wantedE_none wantedE_some wpDGuard_true wpDGuard_lim wpDGuard_false wpDLim_true wpDVal_free wpDVal_lim back_limited next_limited limF_dir limF_false foot_load foot_store foot_convStr okAll_nil okAll_cons pastsOf nthP ahead few_next load_limited convStr_limited blt_dec okPair_dd okPair_dc okPair_cd okPair_cc anyIn_nil anyIn_same anyIn_cons meets_nil meets_nil'
  tn_alloc tn_load tn_load0 tn_store tn_store0 storeT_some loadC_some cellsAt_zero cellsAt_succ ownAt_zero ownAt_succ tn_first tn_first0 firstC_some tn_grow_none tn_grow tn_grow0 growN_some tn_fix tn_fix0 fixN_some bn_load bn_first bn_grow bn_store tn_next tn_alloc_dir tl_store_d tl_back tl_back_few few_back_tl backv_some back_back cut takeN nbeq_dec ble_dec meets_cons mem_nil mem_cons idOf load_d convStr_d lenOfS firstNo natOf_int if_leN bn_fix foot_bslice foot_alloc foot_box foot_append foot_call
structure LaySee (os : List (Option AObj)) (v : V) (L : List LayK) : Prop where
  ex : (v = .slice none 0 0 0 true ∧ L = []) ∨ ∃ p o c f own cs, v = .slice (some (p, o)) 2 L.length c f ∧ L.length ≤ c ∧ (os[p]?).join = some (.cells own cs) ∧ ∀ (k : Nat) (x : LayK), L[k]? = some x → cut (o + k * 2) 2 cs = some (layV x)
theorem LaySee.len {os : List (Option AObj)} {v : V} {L : List LayK} (h : LaySee os v L) (st : St) : lenV st .slice v = some (.int .i64 (L.length : Int)) := by
  rcases h.ex with ⟨rfl, rfl⟩ | ⟨p, o, c, f, own, cs, rfl, _⟩ <;> rfl
theorem LaySee.plain {os : List (Option AObj)} {v : V} {L : List LayK} (h : LaySee os v L) : v.plain = true := by
  rcases h.ex with ⟨rfl, rfl⟩ | ⟨p, o, c, f, own, cs, rfl, _⟩ <;> rfl
theorem LaySee.keep {os os' : List (Option AObj)} {v : V} {L : List LayK} (h : LaySee os v L) (he : ∀ i, i < os.length → (os'[i]?).join = (os[i]?).join) : LaySee os' v L := by
  rcases h.ex with ⟨rfl, rfl⟩ | ⟨p, o, c, f, own, cs, rfl, h1, h2, h3⟩
  · exact ⟨.inl ⟨rfl, rfl⟩⟩
  · exact ⟨.inr ⟨p, o, c, f, own, cs, rfl, h1, by rw [he p (join_lt h2)]; exact h2, h3⟩⟩
theorem LaySee.ld {os : List (Option AObj)} {v : V} {L : List LayK} (h : LaySee os v L) {k : Nat} {x : LayK} (hk : L[k]? = some x) : ∃ p, (∀ y, natOf y = some k → idxAddrV (.slice 2) v (natOf y) = some (.ptr (some p))) ∧ ∀ W l, (∀ i, i < os.length → (W[i]?).join = (os[i]?).join) → loadV (tl W l) true 2 (.ptr (some p)) = some (.agg (layV x)) := by
  have hkl := (List.getElem?_eq_some_iff.1 hk).1
  rcases h.ex with ⟨rfl, rfl⟩ | ⟨p, o, c, f, own, cs, rfl, h1, h2, h3⟩
  · simp at hk
  · refine ⟨(p, o + k * 2), fun y hy => by rw [hy]; exact idxAddr_slice hkl, fun W l hW => ?_⟩
    have hr2 : (W[p]?).join = some (.cells own cs) := by rw [hW p (join_lt h2)]; exact h2
    rw [tl_eq, load_fewC, cellsAt_eq, join_app (join_lt hr2), hr2]
    show (cut (o + k * 2) 2 cs).map V.agg = _
    rw [h3 k x hk]; rfl
theorem layV_len : ∀ a, (layV a).length = 2 := fun _ => rfl
theorem cut_elV {LS : List LayK} {k : Nat} {x : LayK} (h : LS[k]? = some x) : cut (k * 2) 2 (elV layV LS) = some (layV x) := by
  have hk := (List.getElem?_eq_some_iff.1 h).1
  have hl : (elV layV LS).length = LS.length * 2 := elV_len layV_len
  rw [cut_of (by omega)]
  rw [elV_at (f := layV) (e := 2) (fun _ => rfl) h]
theorem append_zeroE {st : St} {e b e' n c : Nat} {a : Option (Nat × Nat)} {f : Bool} {l : List V} : appendV st e b (.slice a e' n c f) (some 0) (some l) = some (.slice a e' n c f, st) := rfl
def CloneLF (call : CallT) (g : Nat) : Prop := ∀ os r own (LS : List LayK) (f c cap : Nat), (os[r]?).join = some (.cells own (elV layV LS)) → f + c ≤ LS.length → c ≤ cap → cap ≤ 1000 → ∃ v l, call g [.slice (some (r, f * 2)) 2 c cap false] (few os) = some (v, few (os ++ l)) ∧ LaySee (os ++ l) v ((LS.drop f).take c)
set_option maxHeartbeats 4000000 in
theorem CloneLF.code {base : CallT} {g lf : Nat} : CloneLF (Vabs.withF base g lf CloneL_c) g := fun os r own LS f c cap hr hf hc hcap => by
  rw [withF_same]
  have hl : (elV layV LS).length = LS.length * 2 := elV_len layV_len
  have hrl := join_lt hr
  haveI : At os r (.cells own (elV layV LS)) := ⟨hr⟩
  have main := enter_wp (call := base) (lf := lf) (n := 8) (args := [.slice (some (r, f * 2)) 2 c cap false]) (st := few os) (K := fun v st => ∃ l, st = few (os ++ l) ∧ LaySee (os ++ l) v ((LS.drop f).take c)) (c := CloneL_c.code) (rs := CloneL_c.results) ?_
  · obtain ⟨v, st', h1, l, rfl, h2⟩ := main
    exact ⟨v, l, h1, h2⟩
  · unfold CloneL_c
    dsimp only
    by_cases h0 : c = 0
    · subst h0
      rw [tl_of (X := os)]
      have c0 : cut (f * 2) 0 (elV layV LS) = some [] := by rw [cut_of (by omega)]; rfl
      simp (disch := omega) [bin_eqnil, dlt_t, dlt_f, dle_t, dle_f, dltn_t, dltn_f, dlen_t, dlen_f, deq_t, deq_f, deqn_t, deqn_f, c0, append_zeroE]
      exact ⟨_, rfl, ⟨.inr ⟨os.length, 0, 0, true, true, [], rfl, Nat.le_refl _, tl_at (k := 0), fun k x h => by simp at h⟩⟩⟩
    · obtain ⟨c1, rfl⟩ : ∃ c1, c = c1 + 1 := ⟨c - 1, by omega⟩
      obtain ⟨D, hD⟩ : ∃ D, D = ((elV layV LS).drop (f * 2)).take ((c1 + 1) * 2) := ⟨_, rfl⟩
      have c0 : cut (f * 2) ((c1 + 1) * 2) (elV layV LS) = some D := by rw [cut_of (by omega), hD]
      have hDl : D.length = (c1 + 1) * 2 := by rw [hD, List.length_take, List.length_drop]; omega
      rw [tl_of (X := os)]
      simp (disch := omega) [bin_eqnil, dlt_t, dlt_f, dle_t, dle_f, dltn_t, dltn_f, dlen_t, dlen_f, deq_t, deq_f, deqn_t, deqn_f, c0, hDl]
      have hLl : ((LS.drop f).take (c1 + 1)).length = c1 + 1 := by rw [List.length_take, List.length_drop]; omega
      refine ⟨_, rfl, ⟨.inr ⟨os.length + 1, 0, c1 + 1, false, true, D, by rw [hLl], by omega, tl_at (k := 1), fun k x hk => ?_⟩⟩⟩
      have hkl := (List.getElem?_eq_some_iff.1 hk).1
      rw [hLl] at hkl
      rw [List.getElem?_take, if_pos hkl, List.getElem?_drop] at hk
      have h1 := cut_elV hk
      rw [cut_of (by have := (List.getElem?_eq_some_iff.1 hk).1; omega)] at h1
      rw [cut_of (by omega), hD, List.drop_take, List.drop_drop, List.take_take, Nat.min_eq_left (by omega), ← h1]
      congr 3
      omega
def CloneNil (call : CallT) (g : Nat) : Prop := ∀ (os : List (Option AObj)) (e : Nat) (f : Bool), call g [.slice none e 0 0 f] (few os) = some (.slice none 0 0 0 true, few os)
theorem CloneNil.code {base : CallT} {g lf : Nat} : CloneNil (Vabs.withF base g lf CloneL_c) g := fun os e f => by
  rw [withF_same]
  refine enter_eq ?_
  simp (disch := omega) [bin_eqnil2, dlt_t, dlt_f, dle_t, dle_f, dltn_t, dltn_f, dlen_t, dlen_f, deq_t, deq_f, deqn_t, deqn_f]
def fnd (gl : Nat) (BS : List BaseR) : Option BaseR := BS.find? fun b => b.g == gl
theorem fnd_no {gl : Nat} {BS : List BaseR} {i : Nat} {b : BaseR} (h : fnd gl (BS.take i) = none) (hb : BS[i]? = some b) (hg : ¬ b.g = gl) : fnd gl (BS.take (i + 1)) = none := by
  unfold fnd at h ⊢
  rw [List.take_add_one, hb, List.find?_append, h]
  simp [hg]
theorem fnd_yes {gl : Nat} {BS : List BaseR} {i : Nat} {b : BaseR} (h : fnd gl (BS.take i) = none) (hb : BS[i]? = some b) (hg : b.g = gl) : fnd gl BS = some b := by
  unfold fnd at h ⊢
  have hi := (List.getElem?_eq_some_iff.1 hb).1
  have e : BS = BS.take i ++ b :: BS.drop (i + 1) := by
    have h2 : BS.drop i = b :: BS.drop (i + 1) := by
      rw [List.drop_eq_getElem_cons hi]
      congr 1
      exact (List.getElem?_eq_some_iff.1 hb).2
    rw [← h2, List.take_append_drop]
  rw [e, List.find?_append, h]
  simp [hg]
theorem tl_grown {X os l m : List (Option AObj)} (h : X = os ++ l) : tl X m = few (os ++ (l ++ m)) := by rw [tl_eq, h, List.append_assoc]
def layersOf (LS : List LayK) : Option BaseR → List LayK
  | some b => (LS.drop b.f).take b.c
  | none => []
theorem baseV_len : ∀ a, (baseV a).length = 3 := fun _ => rfl
def LayersF (call : CallT) (g : Nat) : Prop := ∀ os P bv q r cnt n (BS : List BaseR) (LS : List LayK) (gl : Nat), (os[P]?).join = some (.cells true [bv, elS 3 q cnt, elS 2 r n, .slice none 0 0 0 true, .slice none 0 0 0 true, .slice none 0 0 0 true]) → BS.length = cnt → LS.length = n → (cnt ≠ 0 → (os[q]?).join = some (.cells true (elV baseV BS))) → (n ≠ 0 → (os[r]?).join = some (.cells true (elV layV LS))) → cnt ≤ 64 → n ≤ 64 → (∀ b ∈ BS, b.f + b.c ≤ n) → gl < 1000 →
  ∃ v l, call g [.ptr (some (P, 0)), .int .i64 (gl : Int)] (few os) = some (.tuple [v, .bool (fnd gl BS).isSome], few (os ++ l)) ∧ LaySee (os ++ l) v (layersOf LS (fnd gl BS))
set_option maxHeartbeats 8000000 in
theorem LayersF.code {base : CallT} {g lf nK : Nat} (hlf : 100 ≤ lf) (hK : CloneLF base nK) (hK0 : CloneNil base nK) : LayersF (Vabs.withF base g lf (Layers_c nK)) g := fun os P bv q r cnt n BS LS gl hP hBl hLl hq hr hc64 hn64 hall hgl => by
  rw [withF_same]
  have hPl := join_lt hP
  have main := enter_wp (call := base) (lf := lf) (n := 35) (args := [.ptr (some (P, 0)), .int .i64 (gl : Int)]) (st := few os) (K := fun u st => ∃ v l, st = few (os ++ l) ∧ u = .tuple [v, .bool (fnd gl BS).isSome] ∧ LaySee (os ++ l) v (layersOf LS (fnd gl BS))) (c := (Layers_c nK).code) (rs := (Layers_c nK).results) ?_
  · obtain ⟨u, st', h1, v, l, rfl, rfl, h2⟩ := main
    exact ⟨v, l, h1, h2⟩
  · unfold Layers_c
    dsimp only
    have hbl3 := elS_plain (e := 3) (q := q) (n := cnt)
    have hlen3 : ∀ st, lenV st .slice (elS 3 q cnt) = some (.int .i64 (cnt : Int)) := fun st => elS_len
    haveI : At os P (.cells true [bv, elS 3 q cnt, elS 2 r n, .slice none 0 0 0 true, .slice none 0 0 0 true, .slice none 0 0 0 true]) := ⟨hP⟩
    rw [tl_of (X := os)]
    simp (disch := omega) [hbl3, hlen3, dlt_t, dlt_f, dle_t, dle_f, dltn_t, dltn_f, dlen_t, dlen_f, deq_t, deq_f, deqn_t, deqn_f]
    rw [← tl_of]
    refine wp_loop (fun k s st => ∃ i l, i + k = cnt ∧ st = few (os ++ l) ∧ fnd gl (BS.take i) = none ∧ s .h = .ptr (some (P, 0)) ∧ s (.o .h) = .int .i64 (gl : Int) ∧ s (.o (.o (.i .h))) = elS 3 q cnt ∧ s (.i (.o (.i .h))) = .int .i64 (cnt : Int) ∧ s (.o (.i (.i .h))) = .int .i64 (i : Int)) cnt ?_ (by omega) ?_
    · refine ⟨0, [], by omega, by rw [List.append_nil], rfl, ?_, ?_, ?_, ?_, ?_⟩ <;> simp
    · rintro k s st ⟨i, l, hk, rfl, hno, s1, s2, s3, s4, s5⟩
      cases k with
      | zero =>
        rw [List.take_of_length_le (by omega)] at hno
        simp (disch := omega) [s1, s2, s3, s4, s5, dlt_t, dlt_f, dle_t, dle_f, dltn_t, dltn_f, dlen_t, dlen_f, deq_t, deq_f, deqn_t, deqn_f, hno, layersOf]
        exact ⟨_, l, rfl, rfl, ⟨.inl ⟨rfl, rfl⟩⟩⟩
      | succ k =>
        obtain ⟨b, hb⟩ : ∃ b, BS[i]? = some b := ⟨_, List.getElem?_eq_getElem (by omega)⟩
        have hbn := hall b (List.mem_of_getElem? hb)
        have hq1 := hq (by omega)
        have hel : elS 3 q cnt = .slice (some (q, 0)) 3 cnt cnt false := if_neg (by omega)
        obtain ⟨X, hX⟩ : ∃ X, X = os ++ l := ⟨_, rfl⟩
        have oX : ∀ j, j < os.length → (X[j]?).join = (os[j]?).join := fun j hj => by rw [hX, join_app hj]
        have hlb : (elV baseV BS).length = BS.length * 3 := elV_len baseV_len
        haveI : At X q (.cells true (elV baseV BS)) := ⟨by rw [oX q (join_lt hq1)]; exact hq1⟩
        haveI : At X P (.cells true [bv, elS 3 q cnt, elS 2 r n, .slice none 0 0 0 true, .slice none 0 0 0 true, .slice none 0 0 0 true]) := ⟨by rw [oX P hPl]; exact hP⟩
        have ct : cut (i * 3) 3 (elV baseV BS) = some [.int .i64 (b.g : Int), .int .i64 (b.f : Int), .int .i64 (b.c : Int)] := by
          have := (List.getElem?_eq_some_iff.1 hb).1
          rw [cut_of (by omega), elV_at (f := baseV) (e := 3) baseV_len hb]; rfl
        rw [hel] at s3
        rw [← hX]
        have hXt : X = os ++ l := hX
        by_cases hg : b.g = gl
        · have hf := fnd_yes hno hb hg
          rw [hf]
          subst hg
          by_cases hn0 : n = 0
          · have e0 : elS 2 r n = .slice none 0 0 0 true := by rw [hn0]; rfl
            have hf0 : b.f = 0 := by omega
            have hc0 : b.c = 0 := by omega
            have hK0' : ∀ l e f, base nK [.slice none e 0 0 f] (tl X l) = some (.slice none 0 0 0 true, tl X l) := fun l e f => hK0 _ _ _
            have sl0 : sliceOp (.slice 2) (.slice none 0 0 0 true) (some (.int .i64 0)) (some (.int .i64 0)) none = some (.slice none 2 0 0 true) := rfl
            rw [tl_of (X := X)]
            simp (disch := omega) [s1, s2, s3, s4, s5, dlt_t, dlt_f, dle_t, dle_f, dltn_t, dltn_f, dlen_t, dlen_f, deq_t, deq_f, deqn_t, deqn_f, idxAddr_slice, ct, wrap_i, limF_dir, next_back, e0, hf0, hc0, hK0', sl0]
            refine ⟨_, _, tl_grown hX, rfl, ⟨.inl ⟨rfl, ?_⟩⟩⟩
            show (LS.drop b.f).take b.c = []
            rw [hc0]; rfl
          · have hel2 : elS 2 r n = .slice (some (r, 0)) 2 n n false := if_neg hn0
            have hr1 := hr hn0
            have slr : sliceOp (.slice 2) (.slice (some (r, 0)) 2 n n false) (some (.int .i64 (b.f : Int))) (some (.int .i64 ((b.f : Int) + (b.c : Int)))) none = some (.slice (some (r, b.f * 2)) 2 b.c (n - b.f) false) := by
              rw [show (b.f : Int) + (b.c : Int) = ((b.f + b.c : Nat) : Int) from by omega, slice_lohi (by omega) (by omega), shiftA_some, Nat.add_sub_cancel_left, Nat.zero_add]
            obtain ⟨v, l2, hk1, hk2⟩ := hK (X ++ [some (.cells true [.int .i64 (b.g : Int), .int .i64 (b.f : Int), .int .i64 (b.c : Int)])]) r true LS b.f b.c (n - b.f) (by rw [join_app (by have := join_lt hr1; rw [hX]; simp; omega), oX r (join_lt hr1)]; exact hr1) (by omega) (by omega) (by omega)
            have hk1 : base nK [.slice (some (r, b.f * 2)) 2 b.c (n - b.f) false] (tl X [some (.cells true [.int .i64 (b.g : Int), .int .i64 (b.f : Int), .int .i64 (b.c : Int)])]) = some (v, tl X (some (.cells true [.int .i64 (b.g : Int), .int .i64 (b.f : Int), .int .i64 (b.c : Int)]) :: l2)) := by
              rw [tl_eq, hk1, List.append_assoc]; rfl
            rw [tl_of (X := X)]
            simp (disch := omega) [s1, s2, s3, s4, s5, dlt_t, dlt_f, dle_t, dle_f, dltn_t, dltn_f, dlen_t, dlen_f, deq_t, deq_f, deqn_t, deqn_f, idxAddr_slice, ct, wrap_i, limF_dir, next_back, hel2, slr, hk1, hk2.plain]
            refine ⟨_, _, tl_grown hX, rfl, ?_⟩
            rw [← List.append_assoc, ← hX, show X ++ (some (AObj.cells true [.int .i64 (b.g : Int), .int .i64 (b.f : Int), .int .i64 (b.c : Int)]) :: l2) = (X ++ [some (AObj.cells true [.int .i64 (b.g : Int), .int .i64 (b.f : Int), .int .i64 (b.c : Int)])]) ++ l2 from by simp]
            exact hk2
        · rw [tl_of (X := X)]
          simp (disch := omega) [s1, s2, s3, s4, s5, dlt_t, dlt_f, dle_t, dle_f, dltn_t, dltn_f, dlen_t, dlen_f, deq_t, deq_f, deqn_t, deqn_f, idxAddr_slice, ct, hg, wrap_i, limF_dir, next_back]
          exact ⟨k, by omega, i + 1, by omega, ⟨_, tl_grown hX⟩, fnd_no hno hb hg, hel.symm, by omega⟩
def tColr : List Nat := [67, 79, 76, 82]
def ReadPostC (os os' : List (Option AObj)) (P : Nat) (rec lay : List Nat) (cnt n : Nat) : Prop := (∀ i, i < os.length → (os'[i]?).join = (os[i]?).join) ∧ os.length ≤ os'.length ∧ ∃ bv q r, (os'[P]?).join = some (.cells true [bv, elS 3 q cnt, elS 2 r n, .slice none 0 0 0 true, .slice none 0 0 0 true, .slice none 0 0 0 true]) ∧ (cnt ≠ 0 → (os'[q]?).join = some (.cells true (elV baseV (basesR rec cnt)))) ∧ (n ≠ 0 → (os'[r]?).join = some (.cells true (elV layV (laysR lay n))))
def ReadCF (call : CallT) (g : Nat) : Prop := ∀ os F bs rec lay cnt n, FontSee os F [(tColr, bs)] → Tame [(tColr, bs)] → 14 ≤ bs.length → nm bs 0 2 = 0 → cnt = nm bs 2 2 → n = nm bs 12 2 → cnt ≤ 64 → n ≤ 64 →
  nm bs 4 4 + 6 * cnt ≤ bs.length → nm bs 8 4 + 4 * n ≤ bs.length → rec = (bs.drop (nm bs 4 4)).take (6 * cnt) → lay = (bs.drop (nm bs 8 4)).take (4 * n) → (∀ j, j < cnt → (baseAt rec j).f + (baseAt rec j).c ≤ n) →
  ∃ P os', call g [.ptr (some (F, 0))] (few os) = some (.tuple [.ptr (some (P, 0)), .int .i64 0], few os') ∧ ReadPostC os os' P rec lay cnt n
set_option maxHeartbeats 4000000 in
theorem ReadCF.code {base : CallT} {g lf nT n2 nPl nM : Nat} (hlf : 100 ≤ lf) (hT : TabLF base nT) (h2 : UF 2 base n2) (hPl : PlainOk base nPl) : ReadCF (Vabs.withF base g lf (ReadC_c nT n2 nPl nM)) g := fun os F bs rec lay cnt n hF hTm h14 hv hcnt hn hc64 hn64 hr1 hr2 hrec hlay hall => by
  rw [withF_same]
  have main := enter_wp (call := base) (lf := lf) (n := 49) (args := [.ptr (some (F, 0))]) (st := few os) (K := fun u st => ∃ P os', st = few os' ∧ u = .tuple [.ptr (some (P, 0)), .int .i64 0] ∧ ReadPostC os os' P rec lay cnt n) (c := (ReadC_c nT n2 nPl nM).code) (rs := (ReadC_c nT n2 nPl nM).results) ?_
  · obtain ⟨u, st', h1, P, os', rfl, rfl, h2⟩ := main
    exact ⟨P, os', h1, h2⟩
  · unfold ReadC_c
    dsimp only
    have h256 : ∀ z ∈ bs, z < 256 := (hTm.tabs (tColr, bs) (by simp)).2
    have hlen : bs.length ≤ 140737488354000 := (hTm.tabs (tColr, bs) (by simp)).1
    have t1 := tab_tl hT hF hTm (t := tColr) (b := bs) (by simp [askL])
    unfold tColr at t1
    obtain ⟨z, hz⟩ : ∃ z, z = bs.length := ⟨_, rfl⟩
    have hh1 : (heldV os.length bs).plain = true := rfl
    have hcl1 : (heldV os.length bs).cells = some [heldV os.length bs] := rfl
    have hln : ∀ st, lenV st .slice (heldV os.length bs) = some (.int .i64 (z : Int)) := fun st => by rw [hz]; rfl
    have v1 : ∀ l, See (os ++ (some (newBytes bs) :: l)) (heldV os.length bs) bs := fun l => See.own (by have := tl_at (X := os) (l := some (newBytes bs) :: l) (k := 0); exact this) h256 (Nat.le_refl _)
    have u0 : ∀ l, base n2 [heldV os.length bs, .int .i64 0] (tl os (some (newBytes bs) :: l)) = some (.tuple [.int .i64 0, .bool (num bs 0 2).isSome], tl os (some (newBytes bs) :: l)) := fun l => by
      rw [tl_eq, h2 _ _ _ _ (v1 l).at (by omega)]
      unfold nm at hv
      unfold numV
      rw [hv]; rfl
    obtain ⟨X, hX⟩ : ∃ X, X = os ++ [some (newBytes bs), some (.cells true [heldV os.length bs, .slice none 0 0 0 true, .slice none 0 0 0 true, .slice none 0 0 0 true, .slice none 0 0 0 true, .slice none 0 0 0 true])] := ⟨_, rfl⟩
    have hPX : (X[os.length + 1]?).join = some (.cells true [heldV os.length bs, .slice none 0 0 0 true, .slice none 0 0 0 true, .slice none 0 0 0 true, .slice none 0 0 0 true, .slice none 0 0 0 true]) := by rw [hX]; exact tl_at (k := 1)
    obtain ⟨os', p1, p2⟩ := hPl X (os.length + 1) (heldV os.length bs) bs rec lay cnt n (by rw [hX]; exact v1 _) rfl hPX hlen hcnt hn hc64 hn64 hr1 hr2 hrec hlay hall
    have hXl : X.length = os.length + 2 := by rw [hX]; simp
    have p1 : base nPl [.ptr (some (os.length + 1, 0))] (tl os [some (newBytes bs), some (.cells true [heldV os.length bs, .slice none 0 0 0 true, .slice none 0 0 0 true, .slice none 0 0 0 true, .slice none 0 0 0 true, .slice none 0 0 0 true])]) = some (.int .i64 0, few os') := by rw [tl_eq, ← hX]; exact p1
    rw [tl_of (X := os)]
    simp (disch := omega) [t1, hh1, hcl1, hln, dlt_t, dlt_f, dle_t, dle_f, dltn_t, dltn_f, dlen_t, dlen_f, deq_t, deq_f, deqn_t, deqn_f, bin_eqptr, u0, p1]
    obtain ⟨q, r, q1, q2, q3⟩ := p2.ex
    exact ⟨_, os', rfl, rfl, fun i hi => by rw [p2.old i (by omega) (by omega), hX, join_app hi], by have := p2.le; omega, _, q, r, q1, fun h => (q2 h).2, fun h => (q3 h).2⟩
end Go.Vabs.Ec
