/- Lemmas for this claim, text Di. No condition. -/
import Derived.Test.YtbppdahfdjkecaaVabsDg
namespace Go.Vabs.Di
set_option linter.unusedVariables false
set_option linter.unusedSimpArgs false
set_option maxRecDepth 10000
attribute [local simp] wp_skip wp_ret wp_exit wp_reg wp_seq wp_cond wp_block thenQ_normal thenQ_ret thenQ_exit blockQ_normal blockQ_ret blockQ_exit wpCond_true wpCond_false wpOps_nil wpVal_some wpGuard_true wpGuard_false wpOps_guard wpOps_cons
  put_at put_no ev_c ev_slot posEq_h posEq_o posEq_i posEq_ho posEq_hi posEq_oh posEq_ih posEq_oi posEq_io sel_true sel_false
  okv_some step_mv step_call step_pick pickV_bool step_bin bin_add bin_sub bin_mul bin_eql bin_neq bin_lss bin_leq bin_gtr bin_geq bin_eqb bin_neb bin_eqs bin_nes step_un un_not un_neg step_len len_slice len_str len_const step_extract extractV nth step_convInt conv_int step_convStr step_slice step_idxAddr natOf_nat step_load step_index step_field step_fieldAddr step_build step_minmax
  step_alloc step_bslice bsliceV_some newV_some step_store step_append boolIs_b boolIs_t finQ_ret finQ_normal ressE_nil ressE_cons resE_tmp consO_some initE_nil initE_cons pos_0 pos_1 pos_2 pos_3 pos_4 pos_5 pos_6 pos_7 pos_8 plain_bool plain_int plain_str plain_ptr plain_slice plain_map plain_agg plain_func plain_nilFunc V.undef oneOf_one oneOf_two ble_self
open Go.Vabs.Pk Go.Vabs.Ph Go.Vabs.Sa Go.Vabs.Sb Go.Vabs.Sc Go.Vabs.Sd Go.Vabs.Se Go.Vabs.Sg Go.Vabs.Sh Go.Vabs.Sm Go.Vabs.Sn Go.Vabs.Sp Go.Vabs.Sr Go.Vabs.St Go.Vabs.Su Go.Vabs.L2 Go.Vabs.Na Go.Vabs.Nb Go.Vabs.Ra Go.Vabs.Rb Go.Vabs.Rc Go.Vabs.Rd Go.Vabs.Re Go.Vabs.Ca Go.Vabs.Cb Go.Vabs.Vc Go.Vabs.Da Go.Vabs.Db Go.Vabs.Dc Go.Vabs.Dd Go.Vabs.De Go.Vabs.Df Go.Vabs.Dg Go.Vabs.Dh
attribute [local simp] step_nilchk nilchk_ptr step_box cells_int cells_bool cells_str cells_slice cells_ptr cells_agg fieldAddrV natOf_zero fill repN splice over newV step_appendZ
  wp_dreg wpDs_nil wpDs_cons wantedE_none wantedE_some wpDGuard_true wpDGuard_lim wpDGuard_false wpDLim_true wpDVal_free wpDVal_lim back_limited next_limited limF_dir limF_false foot_load foot_store foot_convStr okAll_nil okAll_cons pastsOf nthP ahead few_next load_limited convStr_limited blt_dec okPair_dd okPair_dc okPair_cd okPair_cc anyIn_nil anyIn_same anyIn_cons meets_nil meets_nil'
  tn_alloc tn_load tn_load0 tn_store tn_store0 storeT_some loadC_some cellsAt_zero cellsAt_succ ownAt_zero ownAt_succ tn_first tn_first0 firstC_some tn_grow_none tn_grow tn_grow0 growN_some tn_fix tn_fix0 fixN_some bn_load bn_first bn_grow bn_store tn_next tn_alloc_dir tl_store_d tl_back tl_back_few few_back_tl backv_some back_back cut takeN nbeq_dec ble_dec meets_cons mem_nil mem_cons idOf load_d convStr_d lenOfS firstNo natOf_int if_leN bn_fix foot_bslice foot_alloc foot_box foot_append foot_call
theorem rowR_cut {bs cb : List Nat} {a recs f each : Nat} (hcb : cb = (bs.drop a).take (4 * recs)) (hf : f + each ≤ recs) : rowR cb (4 * f) each = rowR bs (a + 4 * f) each := by
  unfold rowR
  refine List.map_congr_left fun j hj => ?_
  have hj := List.mem_range.1 hj
  have at_ : ∀ x, x < 4 * recs → cb.getD x 0 = bs.getD (a + x) 0 := fun x hx => by
    rw [hcb, List.getD_eq_getElem?_getD, List.getD_eq_getElem?_getD, List.getElem?_take, if_pos hx, List.getElem?_drop]
  unfold pxR
  rw [at_ _ (by omega), at_ _ (by omega), at_ _ (by omega), at_ _ (by omega)]
  congr 1 <;> congr 1 <;> omega
def ReadRPost (os : List (Option AObj)) (bs : List Nat) (u : V) (st : St) : Prop := ∃ os', st = few os' ∧ (∀ i, i < os.length → (os'[i]?).join = (os[i]?).join) ∧ os.length ≤ os'.length ∧
  match cpalR bs with
  | .inl e => u = .tuple [.slice none 0 0 0 true, .int .i64 0, .int .i64 e]
  | .inr X => ∃ w, u = .tuple [w, .int .i64 (nm bs 2 2 : Int), .int .i64 0] ∧ XSee os' w X
def ReadRF (call : CallT) (g : Nat) : Prop := ∀ os F bs, RFontMem os F [(tCpal, bs)] → Tame [(tCpal, bs)] → ∃ u st', call g [.ptr (some (F, 0))] (few os) = some (u, st') ∧ ReadRPost os bs u st'
set_option maxHeartbeats 8000000 in
theorem ReadRLoop_run {base : CallT} {lf nN : Nat} (hlf : 300 ≤ lf) (hNm : NumF base nN) {os W0 : List (Option AObj)} {v : V} {bs cb : List Nat} {b : Nat} {N n each recs : Nat} (hN : N = os.length) (hold : ∀ i, i < N → (W0[i]?).join = (os[i]?).join) (hW0 : N ≤ b ∧ b < W0.length)
    (h256 : ∀ x ∈ bs, x < 256) (hcb : cb = (bs.drop (nm bs 8 4)).take (4 * recs)) (hil : 12 + 2 * n ≤ bs.length) (hcl : nm bs 8 4 + 4 * recs ≤ bs.length) (hn : n ≤ 64) (he : each = nm bs 2 2) (hre : recs = nm bs 6 2) (hne : n = nm bs 4 2) (he256 : each ≤ 256) (hbl : bs.length ≤ 140737488354000)
    (hbig : 12 ≤ bs.length) (hv : nm bs 0 2 ≤ 1) (hvb : bytesAt (few os) v = some bs) (ic : (W0[b]?).join = some (newBytes cb)) {s : Env}
    (s0 : s (.o (.i .h)) = v) (s1 : s (.o (.i (.o .h))) = .int .i64 (each : Int)) (s2 : s (.o (.o (.i .h))) = .int .i64 (n : Int)) (s3 : s (.o (.i (.i .h))) = .int .i64 (recs : Int)) (s5 : s (.o (.i (.o (.o .h)))) = .slice (some (b, 0)) 1 (4 * recs) (4 * recs) false) :
    wp base lf (ReadRLoop nN) s (few W0) (finQ [.tmp (.i .h), .tmp (.o (.o .h)), .tmp (.i (.o .h))] (ReadRPost os bs)) := by
  unfold ReadRLoop
  have hrl : recs < 65536 := by rw [hre]; exact nm_lt h256 _ _
  have hcbl : cb.length = 4 * recs := by rw [hcb, List.length_take, List.length_drop]; omega
  have hcb256 : ∀ x ∈ cb, x < 256 := fun x hx => by rw [hcb] at hx; exact h256 x (List.mem_of_mem_drop (List.mem_of_mem_take hx))
  obtain ⟨M, hM⟩ : ∃ M, M = W0.length := ⟨_, rfl⟩
  simp (disch := omega)
  refine wp_loop (fun k s st => ∃ i W r, i + k = n ∧ st = few W ∧ (∀ j, j < M → (W[j]?).join = (W0[j]?).join) ∧ M ≤ W.length ∧ RowsAt W M r (rowsR bs i) ∧ allIn bs i ∧
    s (.o (.i .h)) = v ∧ s (.o (.i (.o .h))) = .int .i64 (each : Int) ∧ s (.o (.o (.i .h))) = .int .i64 (n : Int) ∧ s (.o (.i (.i .h))) = .int .i64 (recs : Int) ∧ s (.o (.i (.o (.o .h)))) = .slice (some (b, 0)) 1 (4 * recs) (4 * recs) false ∧ s (.i (.i (.o (.o .h)))) = elS 1 r i ∧ s (.o (.o (.i (.o .h)))) = .int .i64 (i : Int)) n ?_ (by omega) ?_
  · refine ⟨0, W0, 0, by omega, rfl, fun _ _ => rfl, by omega, RowsAt.start, fun k hk => by omega, ?_, ?_, ?_, ?_, ?_, ?_, ?_⟩ <;> simp [s0, s1, s2, s3, s5, elS]
  · rintro k s st ⟨i, W, r, hk, rfl, hWo, hWl, hR, hall, t0, t1, t2, t3, t4, t5, t6⟩
    cases k with
    | zero =>
      have hin : i = n := by omega
      subst hin
      have hpl := elS_plain (e := 1) (q := r) (n := i)
      simp (disch := omega) [t0, t1, t2, t3, t4, t5, t6, dlt_t, dlt_f, dle_t, dle_f, dltn_t, dltn_f, dlen_t, dlen_f, deq_t, deq_f, deqn_t, deqn_f, hpl]
      refine ⟨W, rfl, fun j hj => by rw [hWo j (by omega), hold j (by omega)], by omega, ?_⟩
      have : cpalR bs = .inr (rowsR bs i) := by
        unfold cpalR
        rw [if_neg (by omega), if_neg (by omega), if_neg (by omega), if_neg (by omega), ← hne, if_pos hall]
      rw [this]
      refine ⟨elS 1 r i, by rw [← he], ?_⟩
      have := RowsAt.see hR
      rw [rowsR_len] at this
      exact this
    | succ k =>
      obtain ⟨fr, hfr⟩ : ∃ fr, fr = fromR bs i := ⟨_, rfl⟩
      have hfrl : fr < 65536 := by rw [hfr]; exact nm_lt h256 _ _
      have hvW : bytesAt (few W) v = some bs := bytesAt_grow hvb fun j hj => by rw [hWo j (by omega), hold j (by omega)]
      have hnum : num bs ((12 + 2 * i : Nat) : Int) 2 = some fr := by rw [nm_num (by omega), hfr]; rfl
      have u1 : ∀ l, base nN [v, .int .i64 (12 + 2 * (i : Int)), .int .i64 2] (tl W l) = some (.tuple [.int .i64 (fr : Int), .bool true], tl W l) := fun l => by
        have := hNm (tl W l) v bs ((12 + 2 * i : Nat) : Int) 2 (tl_bytes hvW) (by omega) (by omega)
        rw [hnum] at this
        rw [show 12 + 2 * (i : Int) = ((12 + 2 * i : Nat) : Int) from by omega]; exact this
      by_cases hbad : recs < fr + each
      · rw [tl_of (X := W)]
        simp (disch := omega) [t0, t1, t2, t3, t4, t5, t6, dlt_t, dlt_f, dle_t, dle_f, dltn_t, dltn_f, dlen_t, dlen_f, deq_t, deq_f, deqn_t, deqn_f, u1, wrap_i]
        refine ⟨W, tl_of.symm, fun j hj => by rw [hWo j (by omega), hold j (by omega)], by omega, ?_⟩
        have : cpalR bs = .inl 2 := by
          unfold cpalR
          rw [if_neg (by omega), if_neg (by omega), if_neg (by omega), if_neg (by omega), ← hne, if_neg]
          intro h
          have := h i (by omega)
          rw [← hfr, ← he, ← hre] at this
          omega
        rw [this]
      · rw [tl_of (X := W)]
        simp (disch := omega) [t0, t1, t2, t3, t4, t5, t6, dlt_t, dlt_f, dle_t, dle_f, dltn_t, dltn_f, dlen_t, dlen_f, deq_t, deq_f, deqn_t, deqn_f, u1, wrap_i]
        rw [← tl_of]
        refine wp_loop (fun k' s st => ∃ j Y q, j + k' = each ∧ st = few Y ∧ (∀ t, t < W.length → (Y[t]?).join = (W[t]?).join) ∧ W.length ≤ Y.length ∧ (j ≠ 0 → W.length ≤ q ∧ (Y[q]?).join = some (.cells true (elV pxV (rowR cb (4 * fr) j)))) ∧
          s (.o (.i .h)) = v ∧ s (.o (.i (.o .h))) = .int .i64 (each : Int) ∧ s (.o (.o (.i .h))) = .int .i64 (n : Int) ∧ s (.o (.i (.i .h))) = .int .i64 (recs : Int) ∧ s (.o (.i (.o (.o .h)))) = .slice (some (b, 0)) 1 (4 * recs) (4 * recs) false ∧ s (.i (.i (.o (.o .h)))) = elS 1 r i ∧ s (.o (.o (.i (.o .h)))) = .int .i64 (i : Int) ∧ s (.i (.o (.i (.o .h)))) = .int .i64 (fr : Int) ∧ s (.i (.i (.i (.o .h)))) = elS 4 q j ∧ s (.o (.o (.o (.i .h)))) = .int .i64 (j : Int)) each ?_ (by omega) ?_
        · refine ⟨0, W, 0, by omega, rfl, fun _ _ => rfl, Nat.le_refl _, fun h => absurd rfl h, ?_, ?_, ?_, ?_, ?_, ?_, ?_, ?_, ?_, ?_⟩ <;> simp [elS, t0, t1, t2, t3, t4, t5, t6]
        · rintro k' s' st ⟨j, Y, q, hk', rfl, hY, hYl, hq, x0, x1, x2, x3, x4, x5, x6, x7, x8, x9⟩
          cases k' with
          | zero =>
            have hje : j = each := by omega
            subst hje
            obtain ⟨vs, w1, w2, w3⟩ := hR.ex
            have w1i : vs.length = i := by rw [w1, rowsR_len]
            have hne0 : i ≠ 0 → rowsR bs i ≠ [] := fun h e => h (by have := congrArg List.length e; rw [rowsR_len] at this; exact this)
            have hcl4 := elS_cells (e := 4) (q := q) (n := j)
            have g1 : ∀ L, appendV (tl Y L) 1 24 (elS 1 r i) (some 1) (some [elS 4 q j]) = some (.slice (some (Y.length + L.length, 0)) 1 (i + 1) (i + 1) false, tl (Sp.setK i Y r) (L ++ [some (.cells true (elV oneS (vs ++ [elS 4 q j])))])) := fun L =>
              growEl_tn (X := Y) (f := oneS) (e := 1) (w := 24) (q := r) (n := i) (L := vs) (fun _ => rfl) (by omega) (elS 4 q j) w1i (by omega) (fun h => by
                have := w2 (hne0 h)
                rw [hY r (join_lt this.2)]; exact this.2) L
            rw [tl_of (X := Y)]
            simp (disch := omega) [x0, x1, x2, x3, x4, x5, x6, x7, x8, x9, dlt_t, dlt_f, dle_t, dle_f, dltn_t, dltn_f, dlen_t, dlen_f, deq_t, deq_f, deqn_t, deqn_f, hcl4, g1, wrap_i]
            have hrow : rowR cb (4 * fr) j = rowR bs (nm bs 8 4 + 4 * fromR bs i) (nm bs 2 2) := by rw [← he, ← hfr]; exact rowR_cut hcb (by omega)
            refine ⟨k, by omega, i + 1, by omega, _, rfl, fun t ht => ?_, ?_, Y.length + 1, ?_, fun k2 hk2 => ?_, (if_neg (by omega)).symm, by omega⟩
            · rw [join_app (by rw [setK_len]; omega), setK_at (fun h => by have := (w2 (hne0 h)).1; omega), hY t (by omega), hWo t ht]
            · simp [setK_len]; omega
            · rw [rowsR_succ, ← hrow]
              refine RowsAt.add (W := W) w1 w3 (by omega) (fun t h1 h2 h3 => by rw [join_app (by rw [setK_len]; omega), setK_at (fun h => h3 (hne0 h)), hY t h2]) ⟨by omega, tn_at (k := 1)⟩ ⟨q, by rw [rowR_len], fun hnr => ?_⟩
              have hj0 : j ≠ 0 := fun h => hnr (by rw [h]; rfl)
              obtain ⟨y1, y2⟩ := hq hj0
              refine ⟨y1, ?_, ?_⟩
              · have := join_lt y2; omega
              · rw [join_app (by rw [setK_len]; exact join_lt y2), setK_at (fun h => ?_)]
                · exact y2
                · have := join_lt (w2 (hne0 h)).2; omega
            · by_cases hki : k2 < i
              · exact hall k2 hki
              · have : k2 = i := by omega
                subst this
                rw [← hfr, ← he, ← hre]; omega
          | succ k' =>
            have icY : (Y[b]?).join = some (newBytes cb) := by rw [hY b (by omega), hWo b (by omega)]; exact ic
            haveI : At Y b (.cells true (bytesV cb)) := ⟨icY⟩
            obtain ⟨P, hP⟩ : ∃ P, P = pxR cb (4 * fr + 4 * j) := ⟨_, rfl⟩
            have nb : ∀ x, x < 4 → nth (4 * (fr + j) + x) (bytesV cb) = some (.int .u8 ((cb.getD (4 * fr + 4 * j + x) 0 : Nat) : Int)) := fun x hx => by
              rw [nth_eq, bytesV_at, List.getElem?_eq_getElem (show 4 * (fr + j) + x < cb.length by omega), List.getD_eq_getElem?_getD, show 4 * fr + 4 * j + x = 4 * (fr + j) + x from by omega, List.getElem?_eq_getElem (show 4 * (fr + j) + x < cb.length by omega)]; rfl
            have bd : ∀ x, cb.getD x 0 < 256 := fun x => by
              rw [List.getD_eq_getElem?_getD]
              cases h : cb[x]? with
              | none => simp
              | some b => exact hcb256 b (List.mem_of_getElem? h)
            have n0 : nth (4 * (fr + j)) (bytesV cb) = some (.int .u8 (P.b : Int)) := by rw [hP]; exact nb 0 (by omega)
            have n1 : nth (4 * (fr + j) + 1) (bytesV cb) = some (.int .u8 (P.g : Int)) := by rw [hP]; exact nb 1 (by omega)
            have n2 : nth (4 * (fr + j) + 2) (bytesV cb) = some (.int .u8 (P.r : Int)) := by rw [hP]; exact nb 2 (by omega)
            have n3 : nth (4 * (fr + j) + 3) (bytesV cb) = some (.int .u8 (P.a : Int)) := by rw [hP]; exact nb 3 (by omega)
            have b0 : P.b < 256 := by rw [hP]; exact bd _
            have b1 : P.g < 256 := by rw [hP]; exact bd _
            have b2 : P.r < 256 := by rw [hP]; exact bd _
            have b3 : P.a < 256 := by rw [hP]; exact bd _
            have sl : sliceOp (.slice 1) (.slice (some (b, 0)) 1 (4 * recs) (4 * recs) false) (some (.int .i64 (4 * ((fr : Int) + (j : Int))))) none none = some (.slice (some (b, 4 * (fr + j))) 1 (4 * recs - 4 * (fr + j)) (4 * recs - 4 * (fr + j)) false) := by
              rw [slice_loI (by omega) (by omega), shiftA_some]
              rw [show (4 * ((fr : Int) + (j : Int))).toNat = 4 * (fr + j) from by omega, Nat.mul_one, Nat.zero_add]
            have g1 : ∀ L, appendV (tl Y L) 4 32 (elS 4 q j) (some 1) (some [.int .i64 (P.r : Int), .int .i64 (P.g : Int), .int .i64 (P.b : Int), .int .i64 (P.a : Int)]) = some (.slice (some (Y.length + L.length, 0)) 4 (j + 1) (j + 1) false, tl (Sp.setK j Y q) (L ++ [some (.cells true (elV pxV (rowR cb (4 * fr) j ++ [P])))])) := fun L =>
              growEl_tn (X := Y) (f := pxV) (e := 4) (w := 32) (q := q) (n := j) (L := rowR cb (4 * fr) j) pxV_len (by omega) P rowR_len (by omega) (fun h => (hq h).2) L
            have hpl4 := elS_plain (e := 4) (q := q) (n := j)
            rw [tl_of (X := Y)]
            simp (disch := omega) [x0, x1, x2, x3, x4, x5, x6, x7, x8, x9, dlt_t, dlt_f, dle_t, dle_f, dltn_t, dltn_f, dlen_t, dlen_f, deq_t, deq_f, deqn_t, deqn_f, sl, idxAddr_slice, n0, n1, n2, n3, hpl4, g1, wrap_i]
            exact ⟨k', by omega, j + 1, by omega, _, rfl, fun t ht => by rw [join_app (by rw [setK_len]; omega), setK_at (fun h => by have := (hq h).1; omega), hY t ht], by simp [setK_len]; omega, Y.length + 1, fun _ => ⟨by omega, by rw [tn_at (k := 1), rowR_succ, ← hP]; rfl⟩, (if_neg (by omega)).symm, by omega⟩
theorem rpart_yes {call : CallT} {nP : Nat} (hP : RPartF call nP) {X : List (Option AObj)} {v : V} {bs : List Nat} {x n : Int} (hv : bytesAt (few X) v = some bs) (hl : bs.length ≤ 140737488354000) (hn : -9223372036854775808 ≤ n ∧ n < 9223372036854775808) (ht : thereB bs.length x n = true) :
    call nP [v, .int .i64 x, .int .i64 n] (few X) = some (.tuple [.slice (some (X.length, 0)) 1 (cutB bs x n).length (cutB bs x n).length false, .bool true], few (X ++ [some (newBytes (cutB bs x n))])) := by
  rw [hP _ _ _ _ _ hv hl hn, ht]
  unfold rpartA
  rw [if_pos rfl, lawOut_one]
theorem rpart_no {call : CallT} {nP : Nat} (hP : RPartF call nP) {st : St} {v : V} {bs : List Nat} {x n : Int} (hv : bytesAt st v = some bs) (hl : bs.length ≤ 140737488354000) (hn : -9223372036854775808 ≤ n ∧ n < 9223372036854775808) (ht : thereB bs.length x n = false) :
    call nP [v, .int .i64 x, .int .i64 n] st = some (.tuple [.slice none 0 0 0 true, .bool false], st) := by
  rw [hP _ _ _ _ _ hv hl hn, ht]
  rfl
set_option maxHeartbeats 4000000 in
theorem ReadRF.code {base : CallT} {g lf nT nN nP : Nat} (hlf : 300 ≤ lf) (hT : RTableF base nT) (hNm : NumF base nN) (hP : RPartF base nP) : ReadRF (Vabs.withF base g lf (ReadR_c nT nN nP)) g := fun os F bs hF hTm => by
  rw [withF_same]
  have main := enter_wp (call := base) (lf := lf) (n := 142) (args := [.ptr (some (F, 0))]) (st := few os) (K := ReadRPost os bs) (c := (ReadR_c nT nN nP).code) (rs := (ReadR_c nT nN nP).results) ?_
  · exact main
  · unfold ReadR_c
    dsimp only
    have h256 : ∀ z ∈ bs, z < 256 := (hTm.tabs (tCpal, bs) (by simp)).2
    have hlen : bs.length ≤ 140737488354000 := (hTm.tabs (tCpal, bs) (by simp)).1
    obtain ⟨v, t1, hpl, hvb⟩ := ask_rfont hT hF hTm tCpal
    have hask : askL [(tCpal, bs)] tCpal = some bs := by simp [askL]
    rw [hask] at t1 hvb
    have hvb : bytesAt (few os) v = some bs := hvb
    have t1 : base nT [.ptr (some (F, 0)), .str [67, 80, 65, 76]] (tl os []) = some (.tuple [v, .bool true], tl os []) := by rw [← tl_of]; exact t1
    obtain ⟨z, hz⟩ : ∃ z, z = bs.length := ⟨_, rfl⟩
    have hln : ∀ st, lenV st .slice v = some (.int .i64 (z : Int)) := fun st => by rw [hz]; exact len_bytes hvb
    have keep : (∀ i, i < os.length → (os[i]?).join = (os[i]?).join) ∧ os.length ≤ os.length := ⟨fun i hi => rfl, Nat.le_refl _⟩
    have hvt : bytesAt (tl os []) v = some bs := by rw [← tl_of]; exact hvb
    rw [tl_of (X := os)]
    by_cases c1 : z < 12
    · simp (disch := omega) [t1, hpl, hln, dlt_t, dlt_f, dle_t, dle_f, dltn_t, dltn_f, dlen_t, dlen_f, deq_t, deq_f, deqn_t, deqn_f]
      refine ⟨os, tl_of.symm, keep.1, keep.2, ?_⟩
      rw [show cpalR bs = .inl 3 from by unfold cpalR; rw [if_pos (by omega)]]
    · have u : ∀ (x : Int) (k : Nat), k ≤ 4 → base nN [v, .int .i64 x, .int .i64 (k : Int)] (tl os []) = some (.tuple [.int .i64 (nm bs x k : Int), .bool (num bs x k).isSome], tl os []) := fun x k hk => hNm _ _ _ _ _ hvt (by omega) hk
      have l0 := nm_lt h256 0 2
      have l2 := nm_lt h256 2 2
      have l4 := nm_lt h256 4 2
      have l6 := nm_lt h256 6 2
      have l8 := nm_lt h256 8 4
      have u0 : base nN [v, .int .i64 0, .int .i64 2] (tl os []) = some (.tuple [.int .i64 (nm bs 0 2 : Int), .bool (num bs 0 2).isSome], tl os []) := u 0 2 (by omega)
      have u2 : base nN [v, .int .i64 2, .int .i64 2] (tl os []) = some (.tuple [.int .i64 (nm bs 2 2 : Int), .bool (num bs 2 2).isSome], tl os []) := u 2 2 (by omega)
      have u4' : base nN [v, .int .i64 4, .int .i64 2] (tl os []) = some (.tuple [.int .i64 (nm bs 4 2 : Int), .bool (num bs 4 2).isSome], tl os []) := u 4 2 (by omega)
      have u6 : base nN [v, .int .i64 6, .int .i64 2] (tl os []) = some (.tuple [.int .i64 (nm bs 6 2 : Int), .bool (num bs 6 2).isSome], tl os []) := u 6 2 (by omega)
      have u8 : base nN [v, .int .i64 8, .int .i64 4] (tl os []) = some (.tuple [.int .i64 (nm bs 8 4 : Int), .bool (num bs 8 4).isSome], tl os []) := u 8 4 (by omega)
      obtain ⟨ver, hver⟩ : ∃ x, x = nm bs 0 2 := ⟨_, rfl⟩
      obtain ⟨each, heach⟩ : ∃ x, x = nm bs 2 2 := ⟨_, rfl⟩
      obtain ⟨cnt, hcnt⟩ : ∃ x, x = nm bs 4 2 := ⟨_, rfl⟩
      obtain ⟨recs, hrecs⟩ : ∃ x, x = nm bs 6 2 := ⟨_, rfl⟩
      obtain ⟨at_, hat⟩ : ∃ x, x = nm bs 8 4 := ⟨_, rfl⟩
      rw [← hver] at u0 l0
      rw [← heach] at u2 l2
      rw [← hcnt] at u4' l4
      rw [← hrecs] at u6 l6
      rw [← hat] at u8 l8
      by_cases c2 : 1 < ver
      · simp (disch := omega) [t1, hpl, hln, dlt_t, dlt_f, dle_t, dle_f, dltn_t, dltn_f, dlen_t, dlen_f, deq_t, deq_f, deqn_t, deqn_f, u0, u2, u4', u6, u8]
        refine ⟨os, tl_of.symm, keep.1, keep.2, ?_⟩
        rw [show cpalR bs = .inl 2 from by unfold cpalR; rw [if_neg (by omega), if_pos (by omega)]]
      · by_cases c3 : 64 < cnt
        · simp (disch := omega) [t1, hpl, hln, dlt_t, dlt_f, dle_t, dle_f, dltn_t, dltn_f, dlen_t, dlen_f, deq_t, deq_f, deqn_t, deqn_f, u0, u2, u4', u6, u8]
          refine ⟨os, tl_of.symm, keep.1, keep.2, ?_⟩
          rw [show cpalR bs = .inl 4 from by unfold cpalR; rw [if_neg (by omega), if_neg (by omega), if_pos (by omega)]]
        · by_cases c4 : 256 < each
          · simp (disch := omega) [t1, hpl, hln, dlt_t, dlt_f, dle_t, dle_f, dltn_t, dltn_f, dlen_t, dlen_f, deq_t, deq_f, deqn_t, deqn_f, u0, u2, u4', u6, u8]
            refine ⟨os, tl_of.symm, keep.1, keep.2, ?_⟩
            rw [show cpalR bs = .inl 4 from by unfold cpalR; rw [if_neg (by omega), if_neg (by omega), if_pos (by omega)]]
          · have short : bs.length < 12 + 2 * cnt ∨ bs.length < at_ + 4 * recs → cpalR bs = .inl 3 := fun h => by unfold cpalR; rw [if_neg (by omega), if_neg (by omega), if_neg (by omega), if_pos (by omega)]
            by_cases d1 : 12 + 2 * cnt ≤ z
            · have hn4 : -9223372036854775808 ≤ 4 * (recs : Int) ∧ 4 * (recs : Int) < 9223372036854775808 := ⟨by omega, by omega⟩
              by_cases d2 : at_ + 4 * recs ≤ z
              · have hcut2 : cutB bs (at_ : Int) (4 * (recs : Int)) = (bs.drop at_).take (4 * recs) := by unfold cutB; rw [show (4 * (recs : Int)).toNat = 4 * recs from by omega, Int.toNat_natCast]
                have hcl2 : ((bs.drop at_).take (4 * recs)).length = 4 * recs := by rw [List.length_take, List.length_drop]; omega
                have y2 := rpart_yes hP (X := os) (x := (at_ : Int)) (n := 4 * (recs : Int)) hvb hlen hn4 (thereB_true.2 (by omega))
                rw [hcut2, hcl2] at y2
                have y2 : base nP [v, .int .i64 (at_ : Int), .int .i64 (4 * (recs : Int))] (tl os []) = some (.tuple [.slice (some (os.length, 0)) 1 (4 * recs) (4 * recs) false, .bool true], tl os [some (newBytes ((bs.drop at_).take (4 * recs)))]) := by rw [← tl_of]; exact y2
                simp (disch := omega) [t1, hpl, hln, dlt_t, dlt_f, dle_t, dle_f, dltn_t, dltn_f, dlen_t, dlen_f, deq_t, deq_f, deqn_t, deqn_f, u0, u2, u4', u6, u8, y2, wrap_i]
                rw [tl_eq]
                refine ReadRLoop_run hlf hNm (N := os.length) (v := v) (b := os.length) (n := cnt) (each := each) (recs := recs) rfl (fun i hi => join_app hi) (by simp) h256 (by rw [← hat]) (by omega) (by omega) (by omega) heach hrecs hcnt (by omega) (by omega) (by omega) (by omega) hvb (tl_at (k := 0)) ?_ ?_ ?_ ?_ ?_ <;> simp
              · have n2' := rpart_no hP (x := (at_ : Int)) (n := 4 * (recs : Int)) hvt hlen hn4 (by rw [Bool.eq_false_iff, ne_eq, thereB_true]; omega)
                simp (disch := omega) [t1, hpl, hln, dlt_t, dlt_f, dle_t, dle_f, dltn_t, dltn_f, dlen_t, dlen_f, deq_t, deq_f, deqn_t, deqn_f, u0, u2, u4', u6, u8, n2', wrap_i]
                refine ⟨os, tl_of.symm, keep.1, keep.2, ?_⟩
                rw [short (by omega)]
            · simp (disch := omega) [t1, hpl, hln, dlt_t, dlt_f, dle_t, dle_f, dltn_t, dltn_f, dlen_t, dlen_f, deq_t, deq_f, deqn_t, deqn_f, u0, u2, u4', u6, u8, wrap_i]
              refine ⟨os, tl_of.symm, keep.1, keep.2, ?_⟩
              rw [short (by omega)]
end Go.Vabs.Di

namespace Go.Vabs.Dj
set_option linter.unusedVariables false
set_option linter.unusedSimpArgs false
set_option maxRecDepth 10000
def CpLoop (n_color : Nat) : ACode := (.seq (.seq (.reg [AOper.mk (some (.o (.o (.o (.o (.o .h)))))) (.mv (.c (.int .i64 (.negSucc 0)))) none]) (.block 2 (.loop (.seq (.seq (.reg [AOper.mk (some (.o (.i (.o (.o (.o (.o (.i .h)))))))) (.len .slice (.t (.i (.o (.i (.i .h)))))) none, AOper.mk (some (.i (.i (.o (.o (.o (.o (.i .h)))))))) (.bin .leq (.val .int) (.t (.o (.o (.o (.o (.o .h)))))) (.t (.o (.i (.o (.o (.o (.o (.i .h))))))))) none]) (.cond (.t (.i (.i (.o (.o (.o (.o (.i .h)))))))) .skip (.exit 2))) (.seq (.block 3 (.seq (.reg [AOper.mk (some (.i (.o (.o (.o (.o .h)))))) (.mv (.c (.int .i64 (.negSucc 0)))) none]) (.block 4 (.loop (.seq (.seq (.reg [AOper.mk (some (.o (.o (.o (.i (.o (.o (.i .h)))))))) (.bin .leq (.val .int) (.t (.i (.o (.o (.o (.o .h)))))) (.t (.o (.i (.i (.i .h)))))) none]) (.cond (.t (.o (.o (.o (.i (.o (.o (.i .h)))))))) .skip (.exit 4))) (.seq (.block 5 (.seq (.reg [AOper.mk (some (.i (.i (.i (.i (.o (.o (.i .h)))))))) (.call n_color [.t (.i (.i (.o (.i .h)))), .t (.o (.o (.o (.o (.o .h))))), .t (.i (.o (.o (.o (.o .h)))))]) none, AOper.mk (some (.o (.o (.o (.o (.i (.o (.i .h)))))))) (.extract (.t (.i (.i (.i (.i (.o (.o (.i .h)))))))) 0) none, AOper.mk (some (.i (.o (.o (.o (.i (.o (.i .h)))))))) (.extract (.t (.i (.i (.i (.i (.o (.o (.i .h)))))))) 1) none, AOper.mk (some (.o (.i (.o (.o (.o .h)))))) (.alloc [.int .i64 (.ofNat 0), .int .i64 (.ofNat 0), .int .i64 (.ofNat 0), .int .i64 (.ofNat 0)]) none, AOper.mk none (.store 4 (.t (.o (.i (.o (.o (.o .h)))))) (.t (.o (.o (.o (.o (.i (.o (.i .h))))))))) none, AOper.mk (some (.i (.i (.o (.o (.o .h)))))) (.mv (.t (.i (.o (.o (.o (.i (.o (.i .h))))))))) none]) (.seq (.reg [AOper.mk (some (.i (.i (.o (.o (.i (.o (.i .h)))))))) (.bin .geq (.val .int) (.t (.o (.o (.o (.o (.o .h)))))) (.c (.int .i64 (.ofNat 0)))) none, AOper.mk (some (.o (.o (.i (.o (.i (.o (.i .h)))))))) (.mv (.t (.i (.i (.o (.o (.i (.o (.i .h))))))))) none, AOper.mk (some (.i (.i (.i (.o (.i (.o (.i .h)))))))) (.len .slice (.t (.i (.o (.i (.i .h)))))) (some (.o (.o (.i (.o (.i (.o (.i .h)))))), true)), AOper.mk (some (.o (.o (.o (.i (.i (.o (.i .h)))))))) (.bin .lss (.val .int) (.t (.o (.o (.o (.o (.o .h)))))) (.t (.i (.i (.i (.o (.i (.o (.i .h))))))))) (some (.o (.o (.i (.o (.i (.o (.i .h)))))), true)), AOper.mk (some (.i (.o (.o (.i (.i (.o (.i .h)))))))) (.pick (.t (.o (.o (.i (.o (.i (.o (.i .h)))))))) (.t (.o (.o (.o (.i (.i (.o (.i .h)))))))) (.c (.bool false))) none, AOper.mk (some (.o (.i (.o (.i (.i (.o (.i .h)))))))) (.mv (.t (.i (.o (.o (.i (.i (.o (.i .h))))))))) none, AOper.mk (some (.o (.o (.i (.i (.i (.o (.i .h)))))))) (.bin .geq (.val .int) (.t (.i (.o (.o (.o (.o .h)))))) (.c (.int .i64 (.ofNat 0)))) (some (.o (.i (.o (.i (.i (.o (.i .h)))))), true)), AOper.mk (some (.i (.o (.i (.i (.i (.o (.i .h)))))))) (.pick (.t (.o (.i (.o (.i (.i (.o (.i .h)))))))) (.t (.o (.o (.i (.i (.i (.o (.i .h)))))))) (.c (.bool false))) none, AOper.mk (some (.o (.i (.i (.i (.i (.o (.i .h)))))))) (.mv (.t (.i (.o (.i (.i (.i (.o (.i .h))))))))) none, AOper.mk (some (.i (.o (.o (.o (.o (.i (.i .h)))))))) (.bin .lss (.val .int) (.t (.i (.o (.o (.o (.o .h)))))) (.t (.o (.i (.i (.i .h)))))) (some (.o (.i (.i (.i (.i (.o (.i .h)))))), true)), AOper.mk (some (.o (.i (.o (.o (.o (.i (.i .h)))))))) (.pick (.t (.o (.i (.i (.i (.i (.o (.i .h)))))))) (.t (.i (.o (.o (.o (.o (.i (.i .h)))))))) (.c (.bool false))) none, AOper.mk (some (.o (.o (.i (.o (.o .h)))))) (.mv (.t (.o (.i (.o (.o (.o (.i (.i .h))))))))) none]) (.seq (.dreg [(AOper.mk (some (.i (.i (.o (.o (.o (.i (.i .h)))))))) (.mv (.t (.i (.i (.o (.o (.o .h))))))) none, []), (AOper.mk (some (.o (.o (.i (.o (.o (.i (.i .h)))))))) (.mv (.t (.o (.o (.i (.o (.o .h))))))) none, []), (AOper.mk (some (.i (.o (.i (.o (.o (.i (.i .h)))))))) (.bin .neq (.val .bool) (.t (.i (.i (.o (.o (.o (.i (.i .h)))))))) (.t (.o (.o (.i (.o (.o (.i (.i .h))))))))) none, []), (AOper.mk (some (.o (.i (.i (.o (.o (.i (.i .h)))))))) (.mv (.t (.i (.o (.i (.o (.o (.i (.i .h))))))))) none, []), (AOper.mk (some (.i (.i (.i (.o (.o (.i (.i .h)))))))) (.mv (.t (.o (.o (.i (.o (.o .h))))))) (some (.o (.i (.i (.o (.o (.i (.i .h)))))), false)), []), (AOper.mk (some (.o (.o (.o (.i (.o (.i (.i .h)))))))) (.mv (.t (.i (.i (.i (.o (.o (.i (.i .h))))))))) (some (.o (.i (.i (.o (.o (.i (.i .h)))))), false)), []), (AOper.mk (some (.i (.o (.o (.i (.o (.i (.i .h)))))))) (.load true 4 (.t (.o (.i (.o (.o (.o .h))))))) (some (.o (.o (.o (.i (.o (.i (.i .h)))))), true)), [10, 13]), (AOper.mk (some (.o (.i (.o (.i (.o (.i (.i .h)))))))) (.mv (.t (.i (.o (.i (.i .h)))))) (some (.o (.o (.o (.i (.o (.i (.i .h)))))), true)), []), (AOper.mk (some (.i (.i (.o (.i (.o (.i (.i .h)))))))) (.mv (.t (.o (.o (.o (.o (.o .h))))))) (some (.o (.o (.o (.i (.o (.i (.i .h)))))), true)), []), (AOper.mk (some (.o (.o (.i (.i (.o (.i (.i .h)))))))) (.idxAddr (.slice 1) (.t (.o (.i (.o (.i (.o (.i (.i .h)))))))) (.t (.i (.i (.o (.i (.o (.i (.i .h))))))))) (some (.o (.o (.o (.i (.o (.i (.i .h)))))), true)), []), (AOper.mk (some (.i (.o (.i (.i (.o (.i (.i .h)))))))) (.load false 1 (.t (.o (.o (.i (.i (.o (.i (.i .h))))))))) (some (.o (.o (.o (.i (.o (.i (.i .h)))))), true)), [6]), (AOper.mk (some (.o (.i (.i (.i (.o (.i (.i .h)))))))) (.mv (.t (.i (.o (.o (.o (.o .h))))))) (some (.o (.o (.o (.i (.o (.i (.i .h)))))), true)), []), (AOper.mk (some (.i (.i (.i (.i (.o (.i (.i .h)))))))) (.idxAddr (.slice 4) (.t (.i (.o (.i (.i (.o (.i (.i .h)))))))) (.t (.o (.i (.i (.i (.o (.i (.i .h))))))))) (some (.o (.o (.o (.i (.o (.i (.i .h)))))), true)), []), (AOper.mk (some (.o (.o (.o (.o (.i (.i (.i .h)))))))) (.load true 4 (.t (.i (.i (.i (.i (.o (.i (.i .h))))))))) (some (.o (.o (.o (.i (.o (.i (.i .h)))))), true)), [6]), (AOper.mk (some (.i (.o (.o (.o (.i (.i (.i .h)))))))) (.bin .neq (.val (.parts [(0, (1, (false, .int))), (1, (1, (false, .int))), (2, (1, (false, .int))), (3, (1, (false, .int)))])) (.t (.i (.o (.o (.i (.o (.i (.i .h)))))))) (.t (.o (.o (.o (.o (.i (.i (.i .h))))))))) (some (.o (.o (.o (.i (.o (.i (.i .h)))))), true)), []), (AOper.mk (some (.o (.i (.o (.o (.i (.i (.i .h)))))))) (.pick (.t (.o (.o (.o (.i (.o (.i (.i .h)))))))) (.t (.i (.o (.o (.o (.i (.i (.i .h)))))))) (.c (.bool false))) (some (.o (.i (.i (.o (.o (.i (.i .h)))))), false)), []), (AOper.mk (some (.i (.i (.o (.o (.i (.i (.i .h)))))))) (.pick (.t (.o (.i (.i (.o (.o (.i (.i .h)))))))) (.c (.bool true)) (.t (.o (.i (.o (.o (.i (.i (.i .h))))))))) none, []), (AOper.mk (some (.o (.o (.i (.o (.i (.i (.i .h)))))))) (.mv (.t (.i (.i (.o (.o (.i (.i (.i .h))))))))) none, []), (AOper.mk (some (.i (.o (.i (.o (.i (.i (.i .h)))))))) (.mv (.t (.o (.o (.i (.o (.o .h))))))) (some (.o (.o (.i (.o (.i (.i (.i .h)))))), false)), []), (AOper.mk (some (.o (.i (.i (.o (.i (.i (.i .h)))))))) (.un .not (.t (.i (.o (.i (.o (.i (.i (.i .h))))))))) (some (.o (.o (.i (.o (.i (.i (.i .h)))))), false)), []), (AOper.mk (some (.i (.i (.i (.o (.i (.i (.i .h)))))))) (.mv (.t (.o (.i (.i (.o (.i (.i (.i .h))))))))) (some (.o (.o (.i (.o (.i (.i (.i .h)))))), false)), []), (AOper.mk (some (.o (.o (.o (.i (.i (.i (.i .h)))))))) (.load true 4 (.t (.o (.i (.o (.o (.o .h))))))) (some (.i (.i (.i (.o (.i (.i (.i .h)))))), true)), []), (AOper.mk (some (.i (.o (.o (.i (.i (.i (.i .h)))))))) (.build [.int .i64 (.ofNat 0), .int .i64 (.ofNat 0), .int .i64 (.ofNat 0), .int .i64 (.ofNat 0)] []) (some (.i (.i (.i (.o (.i (.i (.i .h)))))), true)), []), (AOper.mk (some (.o (.i (.o (.i (.i (.i (.i .h)))))))) (.bin .neq (.val (.parts [(0, (1, (false, .int))), (1, (1, (false, .int))), (2, (1, (false, .int))), (3, (1, (false, .int)))])) (.t (.o (.o (.o (.i (.i (.i (.i .h)))))))) (.t (.i (.o (.o (.i (.i (.i (.i .h))))))))) (some (.i (.i (.i (.o (.i (.i (.i .h)))))), true)), []), (AOper.mk (some (.i (.i (.o (.i (.i (.i (.i .h)))))))) (.pick (.t (.i (.i (.i (.o (.i (.i (.i .h)))))))) (.t (.o (.i (.o (.i (.i (.i (.i .h)))))))) (.c (.bool false))) (some (.o (.o (.i (.o (.i (.i (.i .h)))))), false)), []), (AOper.mk (some (.o (.o (.i (.i (.i (.i (.i .h)))))))) (.pick (.t (.o (.o (.i (.o (.i (.i (.i .h)))))))) (.c (.bool true)) (.t (.i (.i (.o (.i (.i (.i (.i .h))))))))) none, [])]) (.cond (.t (.o (.o (.i (.i (.i (.i (.i .h)))))))) (.seq (.reg [AOper.mk (some (.i (.o (.o (.o .h))))) (.mv (.c (.bool false))) none]) .ret) .skip))))) (.reg [AOper.mk (some (.o (.i (.o (.i (.o (.o (.i .h)))))))) (.bin .add (.val .int) (.t (.i (.o (.o (.o (.o .h)))))) (.c (.int .i64 (.ofNat 1)))) none, AOper.mk (some (.i (.o (.o (.o (.o .h)))))) (.mv (.t (.o (.i (.o (.i (.o (.o (.i .h))))))))) none]))))))) (.reg [AOper.mk (some (.i (.o (.i (.o (.o (.o (.i .h)))))))) (.bin .add (.val .int) (.t (.o (.o (.o (.o (.o .h)))))) (.c (.int .i64 (.ofNat 1)))) none, AOper.mk (some (.o (.o (.o (.o (.o .h)))))) (.mv (.t (.i (.o (.i (.o (.o (.o (.i .h))))))))) none])))))) (.seq (.reg [AOper.mk (some (.i (.o (.o (.o .h))))) (.mv (.c (.bool true))) none]) .ret))
def CpRest (n_one : Nat) (n_known : Nat) (n_read : Nat) (n_rread : Nat) (n_count : Nat) (n_entries : Nat) (n_color : Nat) : ACode := (.seq (.reg [AOper.mk (some (.i (.o (.o (.o (.i (.o (.o .h)))))))) (.call n_one [.c (.str [67, 80, 65, 76]), .t (.i (.i (.i (.o .h))))]) none, AOper.mk (some (.o (.i (.o (.o (.i (.o (.o .h)))))))) (.extract (.t (.i (.o (.o (.o (.i (.o (.o .h)))))))) 0) none, AOper.mk (some (.i (.i (.o (.o (.i (.o (.o .h)))))))) (.extract (.t (.i (.o (.o (.o (.i (.o (.o .h)))))))) 1) none, AOper.mk (some (.i (.o (.o (.i .h))))) (.mv (.t (.o (.i (.o (.o (.i (.o (.o .h))))))))) none, AOper.mk (some (.o (.i (.o (.i .h))))) (.mv (.t (.i (.i (.o (.o (.i (.o (.o .h))))))))) none]) (.seq (.seq (.reg [AOper.mk (some (.o (.o (.i (.o (.i (.o (.o .h)))))))) (.call n_known []) none, AOper.mk (some (.i (.o (.i (.o (.i (.o (.o .h)))))))) (.un .not (.t (.o (.o (.i (.o (.i (.o (.o .h))))))))) none, AOper.mk (some (.o (.i (.i (.o (.i (.o (.o .h)))))))) (.mv (.t (.i (.o (.i (.o (.i (.o (.o .h))))))))) none, AOper.mk (some (.o (.o (.o (.i (.i (.o (.o .h)))))))) (.bin .eql (.nils .ptr) (.t (.i (.o (.o (.i .h))))) (.c (.ptr none))) (some (.o (.i (.i (.o (.i (.o (.o .h)))))), false)), AOper.mk (some (.i (.o (.o (.i (.i (.o (.o .h)))))))) (.pick (.t (.o (.i (.i (.o (.i (.o (.o .h)))))))) (.c (.bool true)) (.t (.o (.o (.o (.i (.i (.o (.o .h))))))))) none, AOper.mk (some (.o (.i (.o (.i (.i (.o (.o .h)))))))) (.mv (.t (.i (.o (.o (.i (.i (.o (.o .h))))))))) none, AOper.mk (some (.o (.o (.i (.i (.i (.o (.o .h)))))))) (.bin .eql (.nils .ptr) (.t (.o (.i (.o (.i .h))))) (.c (.ptr none))) (some (.o (.i (.o (.i (.i (.o (.o .h)))))), false)), AOper.mk (some (.i (.o (.i (.i (.i (.o (.o .h)))))))) (.pick (.t (.o (.i (.o (.i (.i (.o (.o .h)))))))) (.c (.bool true)) (.t (.o (.o (.i (.i (.i (.o (.o .h))))))))) none]) (.cond (.t (.i (.o (.i (.i (.i (.o (.o .h)))))))) (.seq (.reg [AOper.mk (some (.i (.o (.o (.o .h))))) (.mv (.c (.bool false))) none]) .ret) .skip)) (.seq (.reg [AOper.mk (some (.o (.o (.o (.o (.o (.i (.o .h)))))))) (.call n_read [.t (.i (.o (.o (.i .h))))]) none, AOper.mk (some (.i (.o (.o (.o (.o (.i (.o .h)))))))) (.extract (.t (.o (.o (.o (.o (.o (.i (.o .h)))))))) 0) none, AOper.mk (some (.o (.i (.o (.o (.o (.i (.o .h)))))))) (.extract (.t (.o (.o (.o (.o (.o (.i (.o .h)))))))) 1) none, AOper.mk (some (.i (.i (.o (.i .h))))) (.mv (.t (.i (.o (.o (.o (.o (.i (.o .h))))))))) none, AOper.mk (some (.o (.o (.i (.i .h))))) (.mv (.t (.o (.i (.o (.o (.o (.i (.o .h))))))))) none]) (.seq (.reg [AOper.mk (some (.i (.o (.i (.o (.o (.i (.o .h)))))))) (.call n_rread [.t (.o (.i (.o (.i .h))))]) none, AOper.mk (some (.o (.i (.i (.o (.o (.i (.o .h)))))))) (.extract (.t (.i (.o (.i (.o (.o (.i (.o .h)))))))) 0) none, AOper.mk (some (.i (.i (.i (.o (.o (.i (.o .h)))))))) (.extract (.t (.i (.o (.i (.o (.o (.i (.o .h)))))))) 1) none, AOper.mk (some (.o (.o (.o (.i (.o (.i (.o .h)))))))) (.extract (.t (.i (.o (.i (.o (.o (.i (.o .h)))))))) 2) none, AOper.mk (some (.i (.o (.i (.i .h))))) (.mv (.t (.o (.i (.i (.o (.o (.i (.o .h))))))))) none, AOper.mk (some (.o (.i (.i (.i .h))))) (.mv (.t (.i (.i (.i (.o (.o (.i (.o .h))))))))) none, AOper.mk (some (.i (.i (.i (.i .h))))) (.mv (.t (.o (.o (.o (.i (.o (.i (.o .h))))))))) none]) (.seq (.seq (.reg [AOper.mk (some (.i (.i (.o (.i (.o (.i (.o .h)))))))) (.bin .neq (.val .int) (.t (.o (.o (.i (.i .h))))) (.t (.i (.i (.i (.i .h)))))) none, AOper.mk (some (.o (.o (.i (.i (.o (.i (.o .h)))))))) (.mv (.t (.i (.i (.o (.i (.o (.i (.o .h))))))))) none, AOper.mk (some (.o (.i (.i (.i (.o (.i (.o .h)))))))) (.bin .eql (.nils .ptr) (.t (.i (.i (.o (.i .h))))) (.c (.ptr none))) (some (.o (.o (.i (.i (.o (.i (.o .h)))))), false)), AOper.mk (some (.o (.o (.o (.o (.i (.i (.o .h)))))))) (.bin .neq (.val .int) (.t (.i (.i (.i (.i .h))))) (.c (.int .i64 (.ofNat 0)))) (some (.o (.o (.i (.i (.o (.i (.o .h)))))), false)), AOper.mk (some (.i (.o (.o (.o (.i (.i (.o .h)))))))) (.bin .neq (.val .bool) (.t (.o (.i (.i (.i (.o (.i (.o .h)))))))) (.t (.o (.o (.o (.o (.i (.i (.o .h))))))))) (some (.o (.o (.i (.i (.o (.i (.o .h)))))), false)), AOper.mk (some (.o (.i (.o (.o (.i (.i (.o .h)))))))) (.pick (.t (.o (.o (.i (.i (.o (.i (.o .h)))))))) (.c (.bool true)) (.t (.i (.o (.o (.o (.i (.i (.o .h))))))))) none]) (.cond (.t (.o (.i (.o (.o (.i (.i (.o .h)))))))) (.seq (.reg [AOper.mk (some (.i (.o (.o (.o .h))))) (.mv (.c (.bool false))) none]) .ret) .skip)) (.seq (.seq (.reg [AOper.mk (some (.o (.o (.i (.o (.i (.i (.o .h)))))))) (.bin .eql (.nils .ptr) (.t (.i (.i (.o (.i .h))))) (.c (.ptr none))) none]) (.cond (.t (.o (.o (.i (.o (.i (.i (.o .h)))))))) (.seq (.reg [AOper.mk (some (.i (.o (.o (.o .h))))) (.mv (.c (.bool true))) none]) .ret) .skip)) (.seq (.seq (.reg [AOper.mk (some (.o (.i (.i (.o (.i (.i (.o .h)))))))) (.call n_count [.t (.i (.i (.o (.i .h))))]) none, AOper.mk (some (.o (.o (.o (.i (.i (.i (.o .h)))))))) (.len .slice (.t (.i (.o (.i (.i .h)))))) none, AOper.mk (some (.i (.o (.o (.i (.i (.i (.o .h)))))))) (.bin .neq (.val .int) (.t (.o (.i (.i (.o (.i (.i (.o .h)))))))) (.t (.o (.o (.o (.i (.i (.i (.o .h))))))))) none, AOper.mk (some (.o (.i (.o (.i (.i (.i (.o .h)))))))) (.mv (.t (.i (.o (.o (.i (.i (.i (.o .h))))))))) none, AOper.mk (some (.o (.o (.i (.i (.i (.i (.o .h)))))))) (.call n_entries [.t (.i (.i (.o (.i .h))))]) (some (.o (.i (.o (.i (.i (.i (.o .h)))))), false)), AOper.mk (some (.o (.i (.i (.i (.i (.i (.o .h)))))))) (.bin .neq (.val .int) (.t (.o (.o (.i (.i (.i (.i (.o .h)))))))) (.t (.o (.i (.i (.i .h)))))) (some (.o (.i (.o (.i (.i (.i (.o .h)))))), false)), AOper.mk (some (.i (.i (.i (.i (.i (.i (.o .h)))))))) (.pick (.t (.o (.i (.o (.i (.i (.i (.o .h)))))))) (.c (.bool true)) (.t (.o (.i (.i (.i (.i (.i (.o .h))))))))) none]) (.cond (.t (.i (.i (.i (.i (.i (.i (.o .h)))))))) (.seq (.reg [AOper.mk (some (.i (.o (.o (.o .h))))) (.mv (.c (.bool false))) none]) .ret) .skip)) (CpLoop n_color))))))))
def CpB (n_few : Nat) (n_pick : Nat) (n_one : Nat) (n_known : Nat) (n_read : Nat) (n_rread : Nat) (n_count : Nat) (n_entries : Nat) (n_color : Nat) : ACode := (.seq (.reg [AOper.mk (some (.i (.o (.i (.i (.i (.o .h))))))) (.len .slice (.t (.o (.o .h)))) none, AOper.mk (some (.o (.i (.i (.i (.i (.o .h))))))) (.call n_few [.t (.o (.o .h)), .t (.i (.o (.i (.i (.i (.o .h))))))]) none, AOper.mk (some (.i (.i (.i (.o .h))))) (.mv (.t (.o (.i (.i (.i (.i (.o .h)))))))) none]) (.seq (.seq (.reg [AOper.mk (some (.o (.o (.o (.o (.o (.i .h))))))) (.mv (.t (.o (.i (.i (.o .h)))))) none, AOper.mk (some (.o (.i (.o (.o (.o (.i .h))))))) (.bin .rem (.val .int) (.t (.i (.o .h))) (.c (.int .i64 (.ofNat 4)))) (some (.o (.o (.o (.o (.o (.i .h))))), true)), AOper.mk (some (.i (.i (.o (.o (.o (.i .h))))))) (.bin .gtr (.val .int) (.t (.o (.i (.o (.o (.o (.i .h))))))) (.c (.int .i64 (.ofNat 0)))) (some (.o (.o (.o (.o (.o (.i .h))))), true)), AOper.mk (some (.o (.o (.i (.o (.o (.i .h))))))) (.pick (.t (.o (.o (.o (.o (.o (.i .h))))))) (.t (.i (.i (.o (.o (.o (.i .h))))))) (.c (.bool false))) none]) (.cond (.t (.o (.o (.i (.o (.o (.i .h))))))) (.seq (.reg [AOper.mk (some (.i (.i (.i (.o (.o (.i .h))))))) (.len .slice (.t (.i (.o (.i (.o .h)))))) none, AOper.mk (some (.o (.o (.o (.i (.o (.i .h))))))) (.call n_few [.t (.i (.o (.i (.o .h)))), .t (.i (.i (.i (.o (.o (.i .h))))))]) none, AOper.mk (some (.i (.i (.i (.o .h))))) (.mv (.t (.o (.o (.o (.i (.o (.i .h)))))))) none]) (.seq (.seq (.reg [AOper.mk (some (.o (.o (.o (.i .h))))) (.mv (.c (.int .i64 (.ofNat 0)))) none]) (.block 0 (.loop (.seq (.seq (.reg [AOper.mk (some (.i (.i (.o (.i (.o (.i .h))))))) (.len .slice (.t (.o (.i .h)))) none, AOper.mk (some (.o (.o (.i (.i (.o (.i .h))))))) (.bin .lss (.val .int) (.t (.o (.o (.o (.i .h))))) (.t (.i (.i (.o (.i (.o (.i .h)))))))) none, AOper.mk (some (.i (.o (.i (.i (.o (.i .h))))))) (.mv (.t (.o (.o (.i (.i (.o (.i .h)))))))) none, AOper.mk (some (.i (.i (.i (.i (.o (.i .h))))))) (.bin .lss (.val .int) (.t (.o (.o (.o (.i .h))))) (.c (.int .i64 (.ofNat 2)))) (some (.i (.o (.i (.i (.o (.i .h))))), true)), AOper.mk (some (.o (.o (.o (.o (.i (.i .h))))))) (.pick (.t (.i (.o (.i (.i (.o (.i .h))))))) (.t (.i (.i (.i (.i (.o (.i .h))))))) (.c (.bool false))) none, AOper.mk (some (.i (.o (.o (.o (.i (.i .h))))))) (.mv (.t (.o (.o (.o (.o (.i (.i .h)))))))) none, AOper.mk (some (.i (.i (.o (.o (.i (.i .h))))))) (.bin .rem (.val .int) (.t (.i (.o .h))) (.c (.int .i64 (.ofNat 4)))) (some (.i (.o (.o (.o (.i (.i .h))))), true)), AOper.mk (some (.o (.o (.i (.o (.i (.i .h))))))) (.bin .gtr (.val .int) (.t (.i (.i (.o (.o (.i (.i .h))))))) (.c (.int .i64 (.ofNat 1)))) (some (.i (.o (.o (.o (.i (.i .h))))), true)), AOper.mk (some (.i (.o (.i (.o (.i (.i .h))))))) (.pick (.t (.i (.o (.o (.o (.i (.i .h))))))) (.t (.o (.o (.i (.o (.i (.i .h))))))) (.c (.bool false))) none]) (.cond (.t (.i (.o (.i (.o (.i (.i .h))))))) .skip (.exit 0))) (.seq (.block 1 (.reg [AOper.mk (some (.i (.i (.o (.i (.i (.i .h))))))) (.idxAddr (.slice 1) (.t (.o (.i .h))) (.t (.o (.o (.o (.i .h)))))) none, AOper.mk (some (.o (.o (.i (.i (.i (.i .h))))))) (.load false 1 (.t (.i (.i (.o (.i (.i (.i .h)))))))) none, AOper.mk (some (.o (.i (.i (.i (.i (.i .h))))))) (.len .slice (.t (.i (.i (.i (.o .h)))))) none, AOper.mk (some (.i (.i (.i (.i (.i (.i .h))))))) (.call n_pick [.t (.o (.o (.i (.i (.i (.i .h)))))), .t (.o (.i (.i (.i (.i (.i .h))))))]) none, AOper.mk (some (.o (.o (.o (.o (.o (.o (.o .h)))))))) (.idxAddr (.slice 1) (.t (.i (.i (.i (.o .h))))) (.t (.i (.i (.i (.i (.i (.i .h)))))))) none, AOper.mk (some (.i (.o (.o (.o (.o (.o (.o .h)))))))) (.load false 1 (.t (.o (.o (.o (.o (.o (.o (.o .h))))))))) none, AOper.mk (some (.i (.i (.o (.o (.o (.o (.o .h)))))))) (.bin .xor (.val .int) (.t (.i (.o (.o (.o (.o (.o (.o .h)))))))) (.t (.i (.i .h)))) none, AOper.mk (some (.o (.o (.i (.o (.o (.o (.o .h)))))))) (.idxAddr (.slice 1) (.t (.i (.i (.i (.o .h))))) (.t (.i (.i (.i (.i (.i (.i .h)))))))) none, AOper.mk none (.store 1 (.t (.o (.o (.i (.o (.o (.o (.o .h)))))))) (.t (.i (.i (.o (.o (.o (.o (.o .h))))))))) none])) (.reg [AOper.mk (some (.i (.i (.i (.o (.i (.i .h))))))) (.bin .add (.val .int) (.t (.o (.o (.o (.i .h))))) (.c (.int .i64 (.ofNat 1)))) none, AOper.mk (some (.o (.o (.o (.i .h))))) (.mv (.t (.i (.i (.i (.o (.i (.i .h)))))))) none])))))) (.seq (.reg [AOper.mk (some (.o (.i (.i (.o (.o (.o (.o .h)))))))) (.bin .rem (.val .int) (.t (.i (.o .h))) (.c (.int .i64 (.ofNat 4)))) none, AOper.mk (some (.i (.i (.i (.o (.o (.o (.o .h)))))))) (.bin .eql (.val .int) (.t (.o (.i (.i (.o (.o (.o (.o .h)))))))) (.c (.int .i64 (.ofNat 3)))) none]) (.cond (.t (.i (.i (.i (.o (.o (.o (.o .h)))))))) (.reg [AOper.mk (some (.i (.i (.o (.i (.o (.o (.o .h)))))))) (.len .slice (.t (.i (.i (.i (.o .h)))))) none, AOper.mk (some (.o (.o (.i (.i (.o (.o (.o .h)))))))) (.bin .add (.val .int) (.t (.i (.i (.o (.i (.o (.o (.o .h)))))))) (.c (.int .i64 (.ofNat 1)))) none, AOper.mk (some (.i (.o (.i (.i (.o (.o (.o .h)))))))) (.call n_pick [.t (.o (.o (.o .h))), .t (.o (.o (.i (.i (.o (.o (.o .h)))))))]) none, AOper.mk (some (.o (.i (.i (.i (.o (.o (.o .h)))))))) (.slice (.slice 1) (.t (.i (.i (.i (.o .h))))) none (some (.t (.i (.o (.i (.i (.o (.o (.o .h))))))))) none) none, AOper.mk (some (.i (.i (.i (.o .h))))) (.mv (.t (.o (.i (.i (.i (.o (.o (.o .h))))))))) none]) .skip)))) .skip)) (CpRest n_one n_known n_read n_rread n_count n_entries n_color)))
def CpLay (n_lay : Nat) (n_rlay : Nat) (n_few : Nat) (n_pick : Nat) (n_one : Nat) (n_known : Nat) (n_read : Nat) (n_rread : Nat) (n_count : Nat) (n_entries : Nat) (n_color : Nat) : ACode := (.seq (.reg [AOper.mk (some (.o (.o (.o (.o (.o (.o .h))))))) (.call n_lay [.t (.o (.i (.o (.o .h))))]) none, AOper.mk (some (.i (.o (.o (.o (.o (.o .h))))))) (.extract (.t (.o (.o (.o (.o (.o (.o .h))))))) 0) none, AOper.mk (some (.o (.i (.o (.o (.o (.o .h))))))) (.extract (.t (.o (.o (.o (.o (.o (.o .h))))))) 1) none, AOper.mk (some (.i (.i (.o (.o .h))))) (.mv (.t (.i (.o (.o (.o (.o (.o .h)))))))) none, AOper.mk (some (.o (.o (.i (.o .h))))) (.mv (.t (.o (.i (.o (.o (.o (.o .h)))))))) none]) (.seq (.reg [AOper.mk (some (.i (.o (.i (.o (.o (.o .h))))))) (.call n_rlay [.t (.o (.i (.o (.o .h))))]) none, AOper.mk (some (.o (.i (.i (.o (.o (.o .h))))))) (.extract (.t (.i (.o (.i (.o (.o (.o .h))))))) 0) none, AOper.mk (some (.i (.i (.i (.o (.o (.o .h))))))) (.extract (.t (.i (.o (.i (.o (.o (.o .h))))))) 1) none, AOper.mk (some (.i (.o (.i (.o .h))))) (.mv (.t (.o (.i (.i (.o (.o (.o .h)))))))) none, AOper.mk (some (.o (.i (.i (.o .h))))) (.mv (.t (.i (.i (.i (.o (.o (.o .h)))))))) none]) (.seq (.seq (.reg [AOper.mk (some (.i (.o (.o (.i (.o (.o .h))))))) (.conv .toStr (.t (.i (.i (.o (.o .h)))))) none, AOper.mk (some (.i (.i (.o (.i (.o (.o .h))))))) (.conv .toStr (.t (.i (.o (.i (.o .h)))))) none, AOper.mk (some (.o (.o (.i (.i (.o (.o .h))))))) (.bin .neq (.val .str) (.t (.i (.o (.o (.i (.o (.o .h))))))) (.t (.i (.i (.o (.i (.o (.o .h)))))))) none, AOper.mk (some (.i (.o (.i (.i (.o (.o .h))))))) (.mv (.t (.o (.o (.i (.i (.o (.o .h)))))))) none, AOper.mk (some (.i (.i (.i (.i (.o (.o .h))))))) (.bin .eql (.val .int) (.t (.o (.o (.i (.o .h))))) (.c (.int .i64 (.ofNat 0)))) (some (.i (.o (.i (.i (.o (.o .h))))), false)), AOper.mk (some (.i (.o (.o (.o (.i (.o .h))))))) (.bin .neq (.val .bool) (.t (.i (.i (.i (.i (.o (.o .h))))))) (.t (.o (.i (.i (.o .h)))))) (some (.i (.o (.i (.i (.o (.o .h))))), false)), AOper.mk (some (.o (.i (.o (.o (.i (.o .h))))))) (.pick (.t (.i (.o (.i (.i (.o (.o .h))))))) (.c (.bool true)) (.t (.i (.o (.o (.o (.i (.o .h)))))))) none, AOper.mk (some (.i (.i (.o (.o (.i (.o .h))))))) (.mv (.t (.o (.i (.o (.o (.i (.o .h)))))))) none, AOper.mk (some (.i (.o (.i (.o (.i (.o .h))))))) (.un .not (.t (.o (.i (.i (.o .h)))))) (some (.i (.i (.o (.o (.i (.o .h))))), false)), AOper.mk (some (.o (.i (.i (.o (.i (.o .h))))))) (.mv (.t (.i (.o (.i (.o (.i (.o .h)))))))) (some (.i (.i (.o (.o (.i (.o .h))))), false)), AOper.mk (some (.o (.o (.o (.i (.i (.o .h))))))) (.bin .neq (.val .int) (.t (.o (.o (.i (.o .h))))) (.c (.int .i64 (.ofNat 1)))) (some (.o (.i (.i (.o (.i (.o .h))))), true)), AOper.mk (some (.i (.o (.o (.i (.i (.o .h))))))) (.pick (.t (.o (.i (.i (.o (.i (.o .h))))))) (.t (.o (.o (.o (.i (.i (.o .h))))))) (.c (.bool false))) (some (.i (.i (.o (.o (.i (.o .h))))), false)), AOper.mk (some (.o (.i (.o (.i (.i (.o .h))))))) (.pick (.t (.i (.i (.o (.o (.i (.o .h))))))) (.c (.bool true)) (.t (.i (.o (.o (.i (.i (.o .h)))))))) none]) (.cond (.t (.o (.i (.o (.i (.i (.o .h))))))) (.seq (.reg [AOper.mk (some (.i (.o (.o (.o .h))))) (.mv (.c (.bool false))) none]) .ret) .skip)) (CpB n_few n_pick n_one n_known n_read n_rread n_count n_entries n_color))))
def Tells_c (n_palettes : Nat) (n_lay : Nat) (n_rlay : Nat) (n_few : Nat) (n_pick : Nat) (n_one : Nat) (n_known : Nat) (n_read : Nat) (n_rread : Nat) (n_count : Nat) (n_entries : Nat) (n_color : Nat) : AFunc := AFunc.mk 252 (.seq (.reg [AOper.mk (some (.i (.o (.o (.o .h))))) (.mv (.c (.bool false))) none]) (.seq (.reg [AOper.mk (some (.o (.o (.o (.i (.o .h)))))) (.call n_palettes [.t .h, .t (.o .h), .t (.i .h)]) none, AOper.mk (some (.o (.i (.o (.o .h))))) (.mv (.t (.o (.o (.o (.i (.o .h))))))) none]) (.seq (.seq (.reg [AOper.mk (some (.o (.i (.o (.i (.o .h)))))) (.bin .rem (.val .int) (.t (.i (.o .h))) (.c (.int .i64 (.ofNat 9)))) none, AOper.mk (some (.i (.i (.o (.i (.o .h)))))) (.bin .eql (.val .int) (.t (.o (.i (.o (.i (.o .h)))))) (.c (.int .i64 (.ofNat 8)))) none, AOper.mk (some (.o (.o (.i (.i (.o .h)))))) (.mv (.t (.i (.i (.o (.i (.o .h))))))) none, AOper.mk (some (.o (.i (.i (.i (.o .h)))))) (.len .slice (.t (.o (.i (.o (.o .h)))))) (some (.o (.o (.i (.i (.o .h)))), true)), AOper.mk (some (.i (.i (.i (.i (.o .h)))))) (.bin .gtr (.val .int) (.t (.o (.i (.i (.i (.o .h)))))) (.c (.int .i64 (.ofNat 1)))) (some (.o (.o (.i (.i (.o .h)))), true)), AOper.mk (some (.o (.o (.o (.o (.i .h)))))) (.pick (.t (.o (.o (.i (.i (.o .h)))))) (.t (.i (.i (.i (.i (.o .h)))))) (.c (.bool false))) none, AOper.mk (some (.i (.o (.o (.o (.i .h)))))) (.mv (.t (.o (.o (.o (.o (.i .h))))))) none, AOper.mk (some (.i (.i (.o (.o (.i .h)))))) (.idxAddr (.slice 1) (.t (.o (.i (.o (.o .h))))) (.c (.int .i64 (.ofNat 1)))) (some (.i (.o (.o (.o (.i .h)))), true)), AOper.mk (some (.o (.o (.i (.o (.i .h)))))) (.load false 1 (.t (.i (.i (.o (.o (.i .h))))))) (some (.i (.o (.o (.o (.i .h)))), true)), AOper.mk (some (.i (.o (.i (.o (.i .h)))))) (.len .slice (.t (.o (.o (.i (.o (.i .h))))))) (some (.i (.o (.o (.o (.i .h)))), true)), AOper.mk (some (.o (.i (.i (.o (.i .h)))))) (.bin .gtr (.val .int) (.t (.i (.o (.i (.o (.i .h)))))) (.c (.int .i64 (.ofNat 0)))) (some (.i (.o (.o (.o (.i .h)))), true)), AOper.mk (some (.i (.i (.i (.o (.i .h)))))) (.pick (.t (.i (.o (.o (.o (.i .h)))))) (.t (.o (.i (.i (.o (.i .h)))))) (.c (.bool false))) none]) (.cond (.t (.i (.i (.i (.o (.i .h)))))) (.reg [AOper.mk (some (.o (.i (.o (.i (.i .h)))))) (.idxAddr (.slice 1) (.t (.o (.i (.o (.o .h))))) (.c (.int .i64 (.ofNat 1)))) none, AOper.mk (some (.i (.i (.o (.i (.i .h)))))) (.load false 1 (.t (.o (.i (.o (.i (.i .h))))))) none, AOper.mk (some (.o (.o (.i (.i (.i .h)))))) (.slice (.slice 4) (.t (.i (.i (.o (.i (.i .h)))))) (some (.c (.int .i64 (.ofNat 1)))) none none) none, AOper.mk (some (.i (.o (.i (.i (.i .h)))))) (.idxAddr (.slice 1) (.t (.o (.i (.o (.o .h))))) (.c (.int .i64 (.ofNat 1)))) none, AOper.mk none (.store 1 (.t (.i (.o (.i (.i (.i .h)))))) (.t (.o (.o (.i (.i (.i .h))))))) none]) .skip)) (CpLay n_lay n_rlay n_few n_pick n_one n_known n_read n_rread n_count n_entries n_color)))) [.tmp (.i (.o (.o (.o .h))))]
attribute [local simp] wp_skip wp_ret wp_exit wp_reg wp_seq wp_cond wp_block thenQ_normal thenQ_ret thenQ_exit blockQ_normal blockQ_ret blockQ_exit wpCond_true wpCond_false wpOps_nil wpVal_some wpGuard_true wpGuard_false wpOps_guard wpOps_cons
  put_at put_no ev_c ev_slot posEq_h posEq_o posEq_i posEq_ho posEq_hi posEq_oh posEq_ih posEq_oi posEq_io sel_true sel_false
  okv_some step_mv step_call step_pick pickV_bool step_bin bin_add bin_sub bin_mul bin_eql bin_neq bin_lss bin_leq bin_gtr bin_geq bin_eqb bin_neb bin_eqs bin_nes step_un un_not un_neg step_len len_slice len_str len_const step_extract extractV nth step_convInt conv_int step_convStr step_slice step_idxAddr natOf_nat step_load step_index step_field step_fieldAddr step_build step_minmax
  step_alloc step_bslice bsliceV_some newV_some step_store step_append boolIs_b boolIs_t finQ_ret finQ_normal ressE_nil ressE_cons resE_tmp consO_some initE_nil initE_cons pos_0 pos_1 pos_2 pos_3 pos_4 pos_5 pos_6 pos_7 pos_8 plain_bool plain_int plain_str plain_ptr plain_slice plain_map plain_agg plain_func plain_nilFunc V.undef oneOf_one oneOf_two ble_self
open Go.Vabs.Pk Go.Vabs.Ph Go.Vabs.Sa Go.Vabs.Sb Go.Vabs.Sc Go.Vabs.Sd Go.Vabs.Se Go.Vabs.Sg Go.Vabs.Sh Go.Vabs.Sm Go.Vabs.Sn Go.Vabs.Sp Go.Vabs.Sr Go.Vabs.St Go.Vabs.Su Go.Vabs.L2 Go.Vabs.Na Go.Vabs.Nb Go.Vabs.Ra Go.Vabs.Rb Go.Vabs.Rc Go.Vabs.Rd Go.Vabs.Re Go.Vabs.Ca Go.Vabs.Cb Go.Vabs.Vc Go.Vabs.Da Go.Vabs.Db Go.Vabs.Dc Go.Vabs.Dd Go.Vabs.De Go.Vabs.Df Go.Vabs.Dg Go.Vabs.Dh Go.Vabs.Di
attribute [local simp] step_nilchk nilchk_ptr step_box cells_int cells_bool cells_str cells_slice cells_ptr cells_agg fieldAddrV natOf_zero fill repN splice over newV step_appendZ
  wp_dreg wpDs_nil wpDs_cons wantedE_none wantedE_some wpDGuard_true wpDGuard_lim wpDGuard_false wpDLim_true wpDVal_free wpDVal_lim back_limited next_limited limF_dir limF_false foot_load foot_store foot_convStr okAll_nil okAll_cons pastsOf nthP ahead few_next load_limited convStr_limited blt_dec okPair_dd okPair_dc okPair_cd okPair_cc anyIn_nil anyIn_same anyIn_cons meets_nil meets_nil'
  tn_alloc tn_load tn_load0 tn_store tn_store0 storeT_some loadC_some cellsAt_zero cellsAt_succ ownAt_zero ownAt_succ tn_first tn_first0 firstC_some tn_grow_none tn_grow tn_grow0 growN_some tn_fix tn_fix0 fixN_some bn_load bn_first bn_grow bn_store tn_next tn_alloc_dir tl_store_d tl_back tl_back_few few_back_tl backv_some back_back cut takeN nbeq_dec ble_dec meets_cons mem_nil mem_cons idOf load_d convStr_d lenOfS firstNo natOf_int if_leN bn_fix foot_bslice foot_alloc foot_box foot_append foot_call
theorem font_one {tag b : List Nat} (h4 : tag.length = 4) : fontS (layL [(tag, b)]) = .inr [(tag, b.take (b.length % 4294967296))] := by
  have ht : Tagged [(tag, b)] := fun x hx => by rw [List.mem_singleton.1 hx]; exact h4
  have hx : ([(tag, b)] : List Itm)[0]? = some (tag, b) := rfl
  have hl : (layL [(tag, b)]).length = 28 + b.length := by rw [layL_len ht]; simp [flatT]
  have hf0 : (flatT (([(tag, b)] : List Itm).take 0)).length = 0 := rfl
  have hoff : offB (layL [(tag, b)]) 0 = 28 := by
    unfold offB
    rw [lay_num (d := 8) (w := bigB (12 + 16 * [(tag, b)].length + (flatT (([(tag, b)] : List Itm).take 0)).length) 4) ht hx (by omega) ?_, Option.getD_some, be_big4 (by rw [hf0]; simp), hf0]
    · rfl
    · unfold recL
      rw [← List.append_assoc, drop_l (by simp [h4]), List.take_append_of_le_length (by rw [bigB_len]; omega), List.take_of_length_le (by rw [bigB_len]; omega)]
  have hlen : lenB (layL [(tag, b)]) 0 = b.length % 4294967296 := by
    unfold lenB
    rw [lay_num (d := 12) (w := bigB b.length 4) ht hx (by omega) ?_, Option.getD_some, be_bigB]
    unfold recL
    rw [← List.append_assoc, ← List.append_assoc, drop_l (by simp [h4, bigB_len]), List.take_of_length_le (by rw [bigB_len]; omega)]
  have hdrop : (layL [(tag, b)]).drop 28 = b := by
    unfold layL
    have hl2 : (headL ([(tag, b)] : List Itm).length ++ recsL (12 + 16 * ([(tag, b)] : List Itm).length) [(tag, b)]).length = 28 := by rw [List.length_append, headL_len, recsL_len ht]; rfl
    rw [← List.append_assoc, drop_l hl2]
    simp [flatT]
  have hmod : b.length % 4294967296 ≤ b.length := Nat.mod_le _ _
  unfold fontS
  rw [if_neg (by omega), if_neg (not_not_intro ?_), lay_cnt (by simp), if_neg (by simp), if_neg (by rw [hl]; simp)]
  · show (if tagB (layL [(tag, b)]) 0 ∈ ([] : List (List Nat)) then _ else if thereB (layL [(tag, b)]).length (offB (layL [(tag, b)]) 0) (lenB (layL [(tag, b)]) 0) = true then tabs (layL [(tag, b)]) 0 [(tagB (layL [(tag, b)]) 0, cutB (layL [(tag, b)]) (offB (layL [(tag, b)]) 0) (lenB (layL [(tag, b)]) 0))] else _) = _
    rw [if_neg (by simp), hoff, hlen, if_pos (thereB_true.2 (by omega)), lay_tag ht hx]
    show Sum.inr [(tag, cutB (layL [(tag, b)]) ((28 : Nat) : Int) ((b.length % 4294967296 : Nat) : Int))] = _
    unfold cutB
    rw [Int.toNat_natCast, Int.toNat_natCast, hdrop]
  · show [0, 1, 0, 0] ∈ versL
    simp [versL]
def shortB (b : List Nat) : List Nat := b.take (b.length % 4294967296)
def WideTF (call : CallT) (g : Nat) : Prop := ∀ os w tag b, tag.length = 4 → (∀ x ∈ tag, x < 256) → w.good os.length = true → lookB (few os).look w = some b → b.length ≤ 140737488352000 →
  ∃ F G os', call g [.str tag, w] (few os) = some (.tuple [.ptr (some (F, 0)), .ptr (some (G, 0))], few os') ∧ FontMem os' F [(tag, shortB b)] ∧ RFontMem os' G [(tag, shortB b)] ∧ (∀ i, i < os.length → (os'[i]?).join = (os[i]?).join) ∧ os.length ≤ os'.length
theorem WideTF.code {base : CallT} {g lf nF nO nR : Nat} (hF : FontF base nF) (hO : OpenF base nO) (hR : ROpenF base nR) : WideTF (Vabs.withF base g lf (openT_c nF nO nR)) g := fun os w tag b h4 ht hg hl hb => by
  rw [withF_same]
  have hcl := (lookB_cells' hl).1
  obtain ⟨X1, hX1⟩ : ∃ X1, X1 = os ++ [some (AObj.cells true [V.str tag])] := ⟨_, rfl⟩
  have e1 : X1.length = os.length + 1 := by rw [hX1]; simp
  have al1 : (few os).alloc (.cells true [.str tag]) = some (os.length, few X1) := by rw [hX1]; exact few_alloc os _
  obtain ⟨X2, hX2⟩ : ∃ X2, X2 = X1 ++ [some (AObj.cells true [w])] := ⟨_, rfl⟩
  have e2 : X2.length = os.length + 2 := by rw [hX2]; simp [e1]
  have al2 : (few X1).alloc (.cells true [w]) = some (os.length + 1, few X2) := by rw [hX2, ← e1]; exact few_alloc X1 _
  have k2 : ∀ i, i < os.length → (X2[i]?).join = (os[i]?).join := fun i hi => by rw [hX2, join_app (by omega), hX1, join_app hi]
  have hrow : RowsB X2 (os.length + 1) [b] := rows_own (own := true) (vs := [w]) (by rw [hX2, ← e1]; simp) rfl fun j v c hv hc => by
    match j, hv, hc with
    | 0, hv, hc =>
      cases hv; cases hc
      exact ⟨V.good_le (by omega) hg, lookB_mono (sight_keep k2 (by omega)) hl⟩
    | j + 1, hv, hc => simp at hv
  have hb256 := bytesAt_lt (lookB_at hl)
  obtain ⟨u, Y, ef, k3, k4, k5⟩ := hF X2 os.length (os.length + 1) true true [tag] [b] (fun _ => ⟨true, by rw [hX2, join_app (by omega), hX1]; simp [strsV]⟩) hrow (fun t h => by rw [List.mem_singleton.1 h]; exact ht) (fun t h => by rw [List.mem_singleton.1 h]; exact hb256) (by simp) (by simp) (by simp; omega)
  have hls : layS [tag] [b] = some (layL [(tag, b)]) := by
    unfold layS
    rw [if_pos ⟨rfl, by simp, by simpa using h4, by simp⟩]
    rfl
  rw [hls] at k5
  obtain ⟨p, rfl, hp, hpb⟩ := k5
  have htag : Tagged [(tag, b)] := fun x hx => by rw [List.mem_singleton.1 hx]; exact h4
  have hflat : (flatT [(tag, b)]).length = b.length := by simp [flatT]
  have hf : fontS (layL [(tag, b)]) = .inr [(tag, shortB b)] := font_one h4
  have hlt : ∀ x ∈ layL [(tag, b)], x < 256 := lay_lt (by simp) (fun x hx => by rw [List.mem_singleton.1 hx]; exact ht) (fun x hx => by rw [List.mem_singleton.1 hx]; exact hb256)
  obtain ⟨B, hB⟩ : ∃ B, B = (layL [(tag, b)]).length := ⟨_, rfl⟩
  have hBl : B ≤ 140737488353000 := by rw [hB, layL_len htag, hflat]; simp; omega
  obtain ⟨og, ol⟩ := lookB_own (f := false) hpb hlt
  rw [← hB] at og ol ef
  obtain ⟨l1, ho, hfm⟩ := open_mem hO og ol (by omega) hf
  obtain ⟨Z, hZ⟩ : ∃ Z, Z = Y ++ l1 := ⟨_, rfl⟩
  rw [← hZ] at ho hfm
  have hZk : ∀ i, i < Y.length → (Z[i]?).join = (Y[i]?).join := fun i hi => by rw [hZ]; exact join_app hi
  have hZl : Y.length ≤ Z.length := by rw [hZ, List.length_append]; omega
  have hr := hR Z _ _ (V.good_le hZl og) (lookB_mono (sight_keep hZk hZl) ol) (by omega)
  rw [show ropenA Z.length (layL [(tag, b)]) = (rfontObjs Z.length [(tag, shortB b)], fun k => .tuple [.ptr (some (k, 0)), .int .i64 0]) from by unfold ropenA; rw [hf]] at hr
  have hrm := rfont_mem (os := Z) (L := [(tag, shortB b)])
  obtain ⟨F, hFe⟩ : ∃ F, F = Y.length := ⟨_, rfl⟩
  obtain ⟨G, hGe⟩ : ∃ G, G = Z.length := ⟨_, rfl⟩
  rw [← hFe] at ho hfm
  rw [← hGe] at hr hrm
  obtain ⟨W, hW⟩ : ∃ W, W = Z ++ (rfontObjs G [(tag, shortB b)]).map some := ⟨_, rfl⟩
  have hr : base nR [.slice (some (p, 0)) 1 B B false] (few Z) = some (.tuple [.ptr (some (G, 0)), .int .i64 0], few W) := by rw [hr, hW]
  rw [← hW] at hrm
  have hWk : ∀ i, i < os.length → (W[i]?).join = (os[i]?).join := fun i hi => by rw [hW, join_app (by omega), hZk i (by omega), k3 i (by omega), k2 i hi]
  have hfW := hfm.keep (os' := W) (fun i hi => by rw [hW]; exact join_app hi)
  have hWl : Z.length ≤ W.length := by rw [hW, List.length_append]; omega
  refine ⟨F, G, W, ?_, hfW, hrm, hWk, by omega⟩
  have ef : base nF [.slice (some (os.length, 0)) 1 1 1 true, .slice (some (os.length + 1, 0)) 1 1 1 true] (few X2) = some (.slice (some (p, 0)) 1 B B false, few Y) := ef
  refine enter_eq ?_
  simp (disch := omega) [al1, hcl, al2, ef, ho, hr]
theorem cpalR_err {bs : List Nat} {e : Int} (h : cpalR bs = .inl e) : ¬ e = 0 := by
  unfold cpalR at h
  split at h
  · cases h; decide
  · split at h
    · cases h; decide
    · split at h
      · cases h; decide
      · split at h
        · cases h; decide
        · split at h
          · cases h
          · cases h; decide
theorem cpalR_rows {bs : List Nat} {X : List (List Px)} (h : cpalR bs = .inr X) : (∀ row ∈ X, row.length = nm bs 2 2) ∧ X.length ≤ 64 ∧ nm bs 2 2 ≤ 256 := by
  unfold cpalR at h
  split at h
  · cases h
  · split at h
    · cases h
    · split at h
      · cases h
      · rename_i h3
        split at h
        · cases h
        · split at h
          · cases h
            refine ⟨fun row hr => ?_, by rw [rowsR_len]; omega, by omega⟩
            unfold rowsR at hr
            obtain ⟨k, _, rfl⟩ := List.mem_map.1 hr
            exact rowR_len
          · cases h
theorem neq_pxV {P : Px} : binV .neq (.val (.parts [(0, (1, (false, .int))), (1, (1, (false, .int))), (2, (1, (false, .int))), (3, (1, (false, .int)))])) (.agg [.int .i64 (P.r : Int), .int .i64 (P.g : Int), .int .i64 (P.b : Int), .int .i64 (P.a : Int)]) (.agg [.int .i64 (P.r : Int), .int .i64 (P.g : Int), .int .i64 (P.b : Int), .int .i64 (P.a : Int)]) = some (.bool false) := by
  rw [bin_agg, eqV_parts]
  simp [eqParts_cons, eqParts_nil, part, eqO_some, eqV_int, eqC_true, eqR_neq]
theorem neq_px0 : binV .neq (.val (.parts [(0, (1, (false, .int))), (1, (1, (false, .int))), (2, (1, (false, .int))), (3, (1, (false, .int)))])) (.agg [.int .i64 0, .int .i64 0, .int .i64 0, .int .i64 0]) (.agg [.int .i64 0, .int .i64 0, .int .i64 0, .int .i64 0]) = some (.bool false) := by
  rw [bin_agg, eqV_parts]
  simp [eqParts_cons, eqParts_nil, part, eqO_some, eqV_int, eqC_true, eqR_neq]
theorem colorAt_out {X : List (List Px)} {each : Nat} {i k : Int} (hr : ∀ row ∈ X, row.length = each) (h : i < 0 ∨ (X.length : Int) ≤ i ∨ k < 0 ∨ (each : Int) ≤ k) : colorAt X i k = none := by
  unfold colorAt
  split
  · cases hx : X[i.toNat]? with
    | none => rfl
    | some row =>
      have hi := (List.getElem?_eq_some_iff.1 hx).1
      have := hr row (List.mem_of_getElem? hx)
      show row[k.toNat]? = none
      exact List.getElem?_eq_none (by omega)
  · rfl
set_option maxHeartbeats 8000000 in
theorem CpLoop_run {call : CallT} {lf nC : Nat} (hlf : 300 ≤ lf) (hC : ColorAtL (call nC)) {W : List (Option AObj)} {v : V} {X : List (List Px)} {P each : Nat} (hX : XSee W v X) (hP : PalAt W P each X) {s0 : Env} (e1 : s0 (.i (.o (.i (.i .h)))) = v) (e2 : s0 (.i (.i (.o (.i .h)))) = .ptr (some (P, 0))) (e3 : s0 (.o (.i (.i (.i .h)))) = .int .i64 (each : Int)) :
    wp call lf (CpLoop nC) s0 (few W) (finQ [ARes.tmp (.i (.o (.o (.o .h))))] fun u _ => u = .bool true) := by
  unfold CpLoop
  obtain ⟨n, hne⟩ : ∃ n, n = X.length := ⟨_, rfl⟩
  obtain ⟨hf1, hf2⟩ := hP.few
  have hln := fun st => hX.len st
  rw [← hne] at hln
  have hvp := hX.plain
  simp (disch := omega) [e1, e2, e3]
  refine wp_loop (fun k s st => ∃ i Z, i + k = n + 2 ∧ st = few Z ∧ (∀ j, j < W.length → (Z[j]?).join = (W[j]?).join) ∧ W.length ≤ Z.length ∧ s (.i (.o (.i (.i .h)))) = v ∧ s (.i (.i (.o (.i .h)))) = .ptr (some (P, 0)) ∧ s (.o (.i (.i (.i .h)))) = .int .i64 (each : Int) ∧ s (.o (.o (.o (.o (.o .h))))) = .int .i64 ((i : Int) - 1)) (n + 2) ?_ (by omega) ?_
  · refine ⟨0, W, by omega, rfl, fun _ _ => rfl, Nat.le_refl _, ?_, ?_, ?_, ?_⟩ <;> simp [e1, e2, e3]
  · rintro k s st ⟨i, Z, hk, rfl, hZ, hZl, s1, s2, s3, s4⟩
    cases k with
    | zero => simp (disch := omega) [s1, s2, s3, s4, dlt_t, dlt_f, dle_t, dle_f, dltn_t, dltn_f, dlen_t, dlen_f, deq_t, deq_f, deqn_t, deqn_f, hln]
    | succ k =>
      simp (disch := omega) [s1, s2, s3, s4, dlt_t, dlt_f, dle_t, dle_f, dltn_t, dltn_f, dlen_t, dlen_f, deq_t, deq_f, deqn_t, deqn_f, hln]
      refine wp_loop (fun k' s st => ∃ j Z, j + k' = each + 2 ∧ st = few Z ∧ (∀ j, j < W.length → (Z[j]?).join = (W[j]?).join) ∧ W.length ≤ Z.length ∧ s (.i (.o (.i (.i .h)))) = v ∧ s (.i (.i (.o (.i .h)))) = .ptr (some (P, 0)) ∧ s (.o (.i (.i (.i .h)))) = .int .i64 (each : Int) ∧ s (.o (.o (.o (.o (.o .h))))) = .int .i64 ((i : Int) - 1) ∧ s (.i (.o (.o (.o (.o .h))))) = .int .i64 ((j : Int) - 1)) (each + 2) ?_ (by omega) ?_
      · refine ⟨0, Z, by omega, rfl, hZ, hZl, ?_, ?_, ?_, ?_, ?_⟩ <;> simp [s1, s2, s3, s4]
      · rintro k' s' st ⟨j, Y, hk', rfl, hY, hYl, t1, t2, t3, t4, t5⟩
        cases k' with
        | zero =>
          simp (disch := omega) [t1, t2, t3, t4, t5, dlt_t, dlt_f, dle_t, dle_f, dltn_t, dltn_f, dlen_t, dlen_f, deq_t, deq_f, deqn_t, deqn_f, wrap_i]
          exact ⟨k, by omega, i + 1, by omega, Y, rfl, hY, hYl, by omega⟩
        | succ k' =>
          have hPY := fun l => (PalAt.keep (os' := Y ++ l) hP (fun a ha => by rw [join_app (by omega), hY a ha]) (by simp; omega))
          have cc : ∀ l, call nC [.ptr (some (P, 0)), .int .i64 ((i : Int) - 1), .int .i64 ((j : Int) - 1)] (tl Y l) = some (.tuple [.agg (pxV ((colorAt X ((i : Int) - 1) ((j : Int) - 1)).getD px0)), .bool (colorAt X ((i : Int) - 1) ((j : Int) - 1)).isSome], tl Y l) := fun l => hC (Y ++ l) P each X _ _ (hPY l)
          by_cases hin : (1 ≤ i ∧ i ≤ n) ∧ (1 ≤ j ∧ j ≤ each)
          · obtain ⟨a, rfl⟩ : ∃ a, i = a + 1 := ⟨i - 1, by omega⟩
            obtain ⟨b, rfl⟩ : ∃ b, j = b + 1 := ⟨j - 1, by omega⟩
            have ea : ((a + 1 : Nat) : Int) - 1 = (a : Int) := by omega
            have eb : ((b + 1 : Nat) : Int) - 1 = (b : Int) := by omega
            rw [ea, eb] at cc
            rw [ea] at t4
            rw [eb] at t5
            obtain ⟨row, hrow⟩ : ∃ row, X[a]? = some row := ⟨_, List.getElem?_eq_getElem (by omega)⟩
            have hrl := hP.len row (List.mem_of_getElem? hrow)
            obtain ⟨⟨pq, po⟩, w, d1, d3, d2⟩ := hX.ldK hrow
            have d1 : idxAddrV (.slice 1) v (some a) = some (.ptr (some (pq, po))) := d1 (.int .i64 (a : Int)) rfl
            have hwp := d3.plain
            obtain ⟨Q, hQ⟩ : ∃ Q, row[b]? = some Q := ⟨_, List.getElem?_eq_getElem (by omega)⟩
            have d2Y := fun l => d2 Y l hY
            obtain ⟨⟨xq, xo⟩, x1, x2⟩ := (d3.keep hY hYl).ld hQ
            have x1 : idxAddrV (.slice 4) w (some b) = some (.ptr (some (xq, xo))) := x1 (.int .i64 (b : Int)) rfl
            have x2 : ∀ l, loadV (tl Y l) true 4 (.ptr (some (xq, xo))) = some (.agg [.int .i64 (Q.r : Int), .int .i64 (Q.g : Int), .int .i64 (Q.b : Int), .int .i64 (Q.a : Int)]) := x2
            rw [colorAt_in hrow hQ] at cc
            have cc : ∀ l, call nC [.ptr (some (P, 0)), .int .i64 (a : Int), .int .i64 (b : Int)] (tl Y l) = some (.tuple [.agg [.int .i64 (Q.r : Int), .int .i64 (Q.g : Int), .int .i64 (Q.b : Int), .int .i64 (Q.a : Int)], .bool true], tl Y l) := cc
            rw [tl_of (X := Y)]
            simp (disch := omega) [t1, t2, t3, t4, t5, dlt_t, dlt_f, dle_t, dle_f, dltn_t, dltn_f, dlen_t, dlen_f, deq_t, deq_f, deqn_t, deqn_f, hln, hvp, cc, d1, d2Y, hwp, x1, x2, wrap_i, limF_dir, neq_pxV]
            exact ⟨k', by omega, b + 1 + 1, by omega, _, rfl, fun t ht => by rw [join_app (by omega), hY t ht], by simp; omega, by omega⟩
          · rw [colorAt_out (each := each) hP.len (by omega)] at cc
            have cc : ∀ l, call nC [.ptr (some (P, 0)), .int .i64 ((i : Int) - 1), .int .i64 ((j : Int) - 1)] (tl Y l) = some (.tuple [.agg [.int .i64 0, .int .i64 0, .int .i64 0, .int .i64 0], .bool false], tl Y l) := cc
            rw [tl_of (X := Y)]
            by_cases q1 : i < 1
            · simp (disch := omega) [t1, t2, t3, t4, t5, dlt_t, dlt_f, dle_t, dle_f, dltn_t, dltn_f, dlen_t, dlen_f, deq_t, deq_f, deqn_t, deqn_f, hln, hvp, cc, neq_px0, wrap_i, limF_dir]
              exact ⟨k', by omega, j + 1, by omega, _, rfl, fun t ht => by rw [join_app (by omega), hY t ht], by simp; omega, by omega⟩
            · by_cases q2 : n < i
              · simp (disch := omega) [t1, t2, t3, t4, t5, dlt_t, dlt_f, dle_t, dle_f, dltn_t, dltn_f, dlen_t, dlen_f, deq_t, deq_f, deqn_t, deqn_f, hln, hvp, cc, neq_px0, wrap_i, limF_dir]
                exact ⟨k', by omega, j + 1, by omega, _, rfl, fun t ht => by rw [join_app (by omega), hY t ht], by simp; omega, by omega⟩
              · by_cases q3 : j < 1
                · simp (disch := omega) [t1, t2, t3, t4, t5, dlt_t, dlt_f, dle_t, dle_f, dltn_t, dltn_f, dlen_t, dlen_f, deq_t, deq_f, deqn_t, deqn_f, hln, hvp, cc, neq_px0, wrap_i, limF_dir]
                  exact ⟨k', by omega, j + 1, by omega, _, rfl, fun t ht => by rw [join_app (by omega), hY t ht], by simp; omega, by omega⟩
                · simp (disch := omega) [t1, t2, t3, t4, t5, dlt_t, dlt_f, dle_t, dle_f, dltn_t, dltn_f, dlen_t, dlen_f, deq_t, deq_f, deqn_t, deqn_f, hln, hvp, cc, neq_px0, wrap_i, limF_dir]
                  exact ⟨k', by omega, j + 1, by omega, _, rfl, fun t ht => by rw [join_app (by omega), hY t ht], by simp; omega, by omega⟩
end Go.Vabs.Dj

namespace Go.Vabs.Dk
set_option linter.unusedVariables false
set_option linter.unusedSimpArgs false
set_option maxRecDepth 10000
attribute [local simp] wp_skip wp_ret wp_exit wp_reg wp_seq wp_cond wp_block thenQ_normal thenQ_ret thenQ_exit blockQ_normal blockQ_ret blockQ_exit wpCond_true wpCond_false wpOps_nil wpVal_some wpGuard_true wpGuard_false wpOps_guard wpOps_cons
  put_at put_no ev_c ev_slot posEq_h posEq_o posEq_i posEq_ho posEq_hi posEq_oh posEq_ih posEq_oi posEq_io sel_true sel_false
  okv_some step_mv step_call step_pick pickV_bool step_bin bin_add bin_sub bin_mul bin_eql bin_neq bin_lss bin_leq bin_gtr bin_geq bin_eqb bin_neb bin_eqs bin_nes step_un un_not un_neg step_len len_slice len_str len_const step_extract extractV nth step_convInt conv_int step_convStr step_slice step_idxAddr natOf_nat step_load step_index step_field step_fieldAddr step_build step_minmax
  step_alloc step_bslice bsliceV_some newV_some step_store step_append boolIs_b boolIs_t finQ_ret finQ_normal ressE_nil ressE_cons resE_tmp consO_some initE_nil initE_cons pos_0 pos_1 pos_2 pos_3 pos_4 pos_5 pos_6 pos_7 pos_8 plain_bool plain_int plain_str plain_ptr plain_slice plain_map plain_agg plain_func plain_nilFunc V.undef oneOf_one oneOf_two ble_self
open Go.Vabs.Pk Go.Vabs.Ph Go.Vabs.Sa Go.Vabs.Sb Go.Vabs.Sc Go.Vabs.Sd Go.Vabs.Se Go.Vabs.Sg Go.Vabs.Sh Go.Vabs.Sm Go.Vabs.Sn Go.Vabs.Sp Go.Vabs.Sr Go.Vabs.St Go.Vabs.Su Go.Vabs.L2 Go.Vabs.Na Go.Vabs.Nb Go.Vabs.Ra Go.Vabs.Rb Go.Vabs.Rc Go.Vabs.Rd Go.Vabs.Re Go.Vabs.Ca Go.Vabs.Cb Go.Vabs.Vc Go.Vabs.Da Go.Vabs.Db Go.Vabs.Dc Go.Vabs.Dd Go.Vabs.De Go.Vabs.Df Go.Vabs.Dg Go.Vabs.Dh Go.Vabs.Di Go.Vabs.Dj
attribute [local simp] step_nilchk nilchk_ptr step_box cells_int cells_bool cells_str cells_slice cells_ptr cells_agg fieldAddrV natOf_zero fill repN splice over newV step_appendZ
  wp_dreg wpDs_nil wpDs_cons wantedE_none wantedE_some wpDGuard_true wpDGuard_lim wpDGuard_false wpDLim_true wpDVal_free wpDVal_lim back_limited next_limited limF_dir limF_false foot_load foot_store foot_convStr okAll_nil okAll_cons pastsOf nthP ahead few_next load_limited convStr_limited blt_dec okPair_dd okPair_dc okPair_cd okPair_cc anyIn_nil anyIn_same anyIn_cons meets_nil meets_nil'
  tn_alloc tn_load tn_load0 tn_store tn_store0 storeT_some loadC_some cellsAt_zero cellsAt_succ ownAt_zero ownAt_succ tn_first tn_first0 firstC_some tn_grow_none tn_grow tn_grow0 growN_some tn_fix tn_fix0 fixN_some bn_load bn_first bn_grow bn_store tn_next tn_alloc_dir tl_store_d tl_back tl_back_few few_back_tl backv_some back_back cut takeN nbeq_dec ble_dec meets_cons mem_nil mem_cons idOf load_d convStr_d lenOfS firstNo natOf_int if_leN bn_fix foot_bslice foot_alloc foot_box foot_append foot_call
theorem nilptr : binV .eql (.nils .ptr) (.ptr none) (.ptr none) = some (.bool true) := rfl
set_option maxHeartbeats 4000000 in
theorem CpRest_run {call : CallT} {lf nO nK nR nRR nN nE nC : Nat} (hlf : 300 ≤ lf) (hO : WideTF call nO) (hK : ∀ st, call nK [] st = some (.bool true, st)) (hR : De.ReadF call nR) (hRR : ReadRF call nRR) (hN : CountL (call nN)) (hE : EntriesL (call nE)) (hC : ColorAtL (call nC)) {W : List (Option AObj)} {zv : V} {zs : List Nat} (hb : See W zv zs) (hbl : zs.length ≤ 140737488352000) {s0 : Env} (e1 : s0 (.i (.i (.i (.o .h)))) = zv) :
    wp call lf (CpRest nO nK nR nRR nN nE nC) s0 (few W) (finQ [ARes.tmp (.i (.o (.o (.o .h))))] fun u _ => u = .bool true) := by
  unfold CpRest
  obtain ⟨F, G, Y, c1, hfm, hrm, k1, k2⟩ := hO W zv tCpal zs rfl (by decide) hb.1 hb.2 hbl
  obtain ⟨bs, hbs⟩ : ∃ bs, bs = shortB zs := ⟨_, rfl⟩
  rw [← hbs] at hfm hrm
  have hbsl : bs.length ≤ 140737488352000 := by
    have : bs.length ≤ zs.length := by rw [hbs]; unfold shortB; exact List.length_take_le' _ _
    omega
  have hb256 : ∀ b ∈ bs, b < 256 := fun b h => hb.lt b (by rw [hbs] at h; exact List.mem_of_mem_take h)
  have hT : Tame [(tCpal, bs)] := ⟨by simp, by simp, fun x hx => by rw [List.mem_singleton.1 hx]; exact ⟨by show bs.length ≤ _; omega, hb256⟩⟩
  obtain ⟨u, st', c2, Z, rfl, k3, k4, hp⟩ := hR Y F bs (FontMem.see hfm) hT
  obtain ⟨u2, st2, c3, Z2, rfl, k5, k6, hp2⟩ := hRR Z G bs (hrm.keep k3) hT
  have hbp := hb.plain
  unfold tCpal at c1
  cases hr : cpalR bs with
  | inl e =>
    rw [hr] at hp hp2
    subst hp; subst hp2
    have he := cpalR_err hr
    simp (disch := omega) [e1, c1, hK, c2, c3, dlt_t, dlt_f, dle_t, dle_f, dltn_t, dltn_f, dlen_t, dlen_f, deq_t, deq_f, deqn_t, deqn_f, hbp, bin_eqptr, nilptr, he]
  | inr X =>
    rw [hr] at hp hp2
    obtain ⟨P, w, rfl, hP, hXw⟩ := hp
    obtain ⟨w2, rfl, hX2⟩ := hp2
    obtain ⟨r1, r2, r3⟩ := cpalR_rows hr
    obtain ⟨each, heach⟩ : ∃ each, each = nm bs 2 2 := ⟨_, rfl⟩
    rw [← heach] at hP c3 r1 r3
    have hPal : PalAt Z P each X := ⟨⟨w, true, hP, hXw⟩, r1, r2, r3⟩
    have hPal2 := PalAt.keep hPal k5 k6
    have c4 := hN Z2 P each X hPal2
    have c5 := hE Z2 P each X hPal2
    have hln := fun st => hX2.len st
    have hvp := hX2.plain
    simp (disch := omega) [e1, c1, hK, c2, c3, c4, c5, hln, hvp, dlt_t, dlt_f, dle_t, dle_f, dltn_t, dltn_f, dlen_t, dlen_f, deq_t, deq_f, deqn_t, deqn_f, hbp, bin_eqptr]
    refine CpLoop_run hlf hC hX2 hPal2 ?_ ?_ ?_ <;> simp
theorem conv_nilS {st : St} : convV st .toStr (.slice none 0 0 0 true) = some (.str []) := rfl
theorem clone_see {os : List (Option AObj)} {new : List Nat} (h : ∀ b ∈ new, b < 256) : ∃ v l, cloneR os new = (v, few (os ++ l)) ∧ See (os ++ l) v new := by
  unfold cloneR
  split
  · rename_i h0
    subst h0
    exact ⟨_, _, rfl, by
      have := See.own (os := os ++ [some (newBytes [])]) (p := os.length) (c := 0) (bs := []) (f := true) (by simp) h (Nat.le_refl _)
      exact this⟩
  · exact ⟨_, _, rfl, See.own (os := os ++ [some (newBytes []), some (newBytes new)]) (p := os.length + 1) (c := new.length) (bs := new) (f := false) (by simp) h (Nat.le_refl _)⟩
set_option maxHeartbeats 8000000 in
theorem CpB_run {call : CallT} {lf nF nP nO nK nR nRR nN nE nC : Nat} (hlf : 300 ≤ lf) (hF : FewF call nF) (hP : PickF call nP) (hO : WideTF call nO) (hK : ∀ st, call nK [] st = some (.bool true, st)) (hR : De.ReadF call nR) (hRR : ReadRF call nRR) (hN : CountL (call nN)) (hE : EntriesL (call nE)) (hC : ColorAtL (call nC)) {W : List (Option AObj)} {rawv bv atv : V} {raw bs : List Nat} {l : List Int} {how cut : Int} {by_ p L : Nat} {ok : Bool} (hb : See W rawv raw) (hbl : raw.length ≤ 140737488352000) (hv : ParI W atv l) (hby : by_ < 256)
    (hok : ok = true → bv = .slice (some (p, 0)) 1 L L false ∧ (W[p]?).join = some (newBytes bs) ∧ bs.length = L ∧ 0 < L ∧ L ≤ 1000 ∧ ∀ b ∈ bs, b < 256) (hbvp : bv.plain = true) {s0 : Env} (e1 : s0 (.o (.o .h)) = rawv) (e2 : s0 (.i (.o .h)) = .int .i64 how) (e3 : s0 (.o (.i .h)) = atv) (e4 : s0 (.i (.i .h)) = .int .u8 (by_ : Int)) (e5 : s0 (.o (.o (.o .h))) = .int .i64 cut) (e6 : s0 (.i (.o (.i (.o .h)))) = bv) (e7 : s0 (.o (.i (.i (.o .h)))) = .bool ok) :
    wp call lf (CpB nF nP nO nK nR nRR nN nE nC) s0 (few W) (finQ [ARes.tmp (.i (.o (.o (.o .h))))] fun u _ => u = .bool true) := by
  unfold CpB
  have hln := fun st => len_bytes (st' := st) hb.at
  have hbp := hb.plain
  obtain ⟨rl, hrl⟩ : ∃ rl, rl = raw.length := ⟨_, rfl⟩
  rw [← hrl] at hln
  have f1 := hF W rawv raw rl hb.at (by omega) (by omega)
  rw [List.take_of_length_le (by omega)] at f1
  obtain ⟨zv, l1, hcl, hsee⟩ := clone_see (os := W) hb.lt
  rw [hcl] at f1
  obtain ⟨W1, hW1⟩ : ∃ W1, W1 = W ++ l1 := ⟨_, rfl⟩
  rw [← hW1] at f1 hsee
  have hW1o : ∀ i, i < W.length → (W1[i]?).join = (W[i]?).join := fun i hi => by rw [hW1]; exact join_app hi
  have hW1l : W.length ≤ W1.length := by rw [hW1]; simp
  have hzp := hsee.plain
  obtain ⟨r4, hr4⟩ : ∃ r, r = Int.tmod how 4 := ⟨_, rfl⟩
  have hr4b := Int.tmod_lt_of_pos how (show (0 : Int) < 4 by omega)
  have hr4c := Int.lt_tmod_of_pos how (show (0 : Int) < 4 by omega)
  have rem4 : ∀ eq, binV .rem eq (.int .i64 how) (.int .i64 4) = some (.int .i64 r4) := fun eq => by rw [bin_rem (by omega), hr4]
  have rest0 : ∀ {t : Env}, t (.i (.i (.i (.o .h)))) = zv → wp call lf (CpRest nO nK nR nRR nN nE nC) t (few W1) (finQ [ARes.tmp (.i (.o (.o (.o .h))))] fun u _ => u = .bool true) := fun h => CpRest_run hlf hO hK hR hRR hN hE hC hsee hbl h
  cases ok with
  | false =>
    simp (disch := omega) [e1, e2, e3, e4, e5, e6, e7, hln, f1, hbp, hzp, dlt_t, dlt_f, dle_t, dle_f, dltn_t, dltn_f, dlen_t, dlen_f, deq_t, deq_f, deqn_t, deqn_f]
    exact rest0 (by simp)
  | true =>
    by_cases h0 : r4 ≤ 0
    · simp (disch := omega) [e1, e2, e3, e4, e5, e6, e7, hln, f1, hbp, hzp, dlt_t, dlt_f, dle_t, dle_f, dltn_t, dltn_f, dlen_t, dlen_f, deq_t, deq_f, deqn_t, deqn_f, rem4]
      exact rest0 (by simp)
    · obtain ⟨rfl, hp, hbsl, hL0, hL, hb256⟩ := hok rfl
      have hp1 : (W1[p]?).join = some (newBytes bs) := by rw [hW1o p (join_lt hp)]; exact hp
      have bsee := See.own (os := W1) (p := p) (c := L) (bs := bs) (f := false) hp1 hb256 (by omega)
      rw [hbsl] at bsee
      have f2 := hF W1 _ bs L bsee.at (by omega) (by omega)
      rw [List.take_of_length_le (by omega)] at f2
      have hcl2 : cloneR W1 bs = (.slice (some (W1.length + 1, 0)) 1 L L false, few (W1 ++ [some (newBytes []), some (newBytes bs)])) := by
        unfold cloneR
        rw [if_neg (fun h => by rw [h] at hbsl; simp at hbsl; omega), hbsl]
      rw [hcl2] at f2
      obtain ⟨pz, hpz⟩ : ∃ pz, pz = W1.length + 1 := ⟨_, rfl⟩
      rw [← hpz] at f2
      obtain ⟨ar, rr, hve, hvm⟩ := hv.ex
      obtain ⟨ll, hll⟩ : ∃ ll, ll = l.length := ⟨_, rfl⟩
      rw [← hll] at hve
      simp (disch := omega) [e1, e2, e3, e4, e5, e6, e7, hln, f1, f2, hbp, hzp, dlt_t, dlt_f, dle_t, dle_f, dltn_t, dltn_f, dlen_t, dlen_f, deq_t, deq_f, deqn_t, deqn_f, rem4]
      refine wp_loop (fun k s st => ∃ i Y d, i + k = 2 ∧ st = few Y ∧ (∀ j, j < W1.length → (Y[j]?).join = (W1[j]?).join) ∧ (Y[pz]?).join = some (newBytes d) ∧ d.length = L ∧ (∀ b ∈ d, b < 256) ∧ s (.i (.o .h)) = .int .i64 how ∧ s (.o (.i .h)) = atv ∧ s (.i (.i .h)) = .int .u8 (by_ : Int) ∧ s (.o (.o (.o .h))) = .int .i64 cut ∧ s (.i (.i (.i (.o .h)))) = .slice (some (pz, 0)) 1 L L false ∧ s (.o (.o (.o (.i .h)))) = .int .i64 (i : Int)) 2 ?_ (by omega) ?_
      · refine ⟨0, _, bs, by omega, rfl, fun j hj => join_app hj, by rw [hpz]; simp, hbsl, hb256, ?_, ?_, ?_, ?_, ?_, ?_⟩ <;> simp [e2, e3, e4, e5]
      · rintro k s st ⟨i, Y, d, hk, rfl, hY, hYz, hdl, hd256, s1, s2, s3, s4, s5, s6⟩
        have hpzY := join_lt hYz
        have vlen : ∀ st, lenV st .slice atv = some (.int .i64 (ll : Int)) := fun st => by rw [hve]; rfl
        have leave : ∀ {t : Env}, t (.i (.i (.i (.o .h)))) = .slice (some (pz, 0)) 1 L L false → wp call lf (CpRest nO nK nR nRR nN nE nC) t (few Y) (finQ [ARes.tmp (.i (.o (.o (.o .h))))] fun u _ => u = .bool true) := fun h =>
          CpRest_run hlf hO hK hR hRR hN hE hC (by rw [← hdl]; exact See.own (f := false) hYz hd256 (Nat.le_refl _)) (by omega) h
        have hpl : 0 < (L : Int) + 1 := by omega
        obtain ⟨c, hc⟩ : ∃ c : Nat, pickI cut ((L : Int) + 1) = (c : Int) := ⟨(pickI cut ((L : Int) + 1)).toNat, by have := pickI_lt (n := cut) hpl; omega⟩
        have hcL : c ≤ L := by have := pickI_lt (n := cut) hpl; omega
        have pk := fun st => hP cut ((L : Int) + 1) st hpl (by omega)
        rw [hc] at pk
        have sl : sliceOp (.slice 1) (.slice (some (pz, 0)) 1 L L false) none (some (.int .i64 (c : Int))) none = some (.slice (some (pz, 0)) 1 c L false) := by
          rw [slice_hi (by omega), shiftA_some]
        have leaveC : ∀ {t : Env}, t (.i (.i (.i (.o .h)))) = .slice (some (pz, 0)) 1 c L false → wp call lf (CpRest nO nK nR nRR nN nE nC) t (few Y) (finQ [ARes.tmp (.i (.o (.o (.o .h))))] fun u _ => u = .bool true) := fun h =>
          CpRest_run hlf hO hK hR hRR hN hE hC (zs := (d.drop 0).take c) (See.sub hYz hd256 (by omega) hcL) (by rw [List.length_take]; omega) h
        by_cases c1 : i < ll
        · by_cases c2 : i < 2
          · by_cases c3 : 1 < r4
            · obtain ⟨z, hz⟩ : ∃ z, l[i]? = some z := ⟨_, List.getElem?_eq_getElem (by omega)⟩
              obtain ⟨hve2, own, hvc⟩ := hvm (fun h => by rw [h] at hz; simp at hz)
              have hvY : (Y[rr]?).join = some (.cells own (l.map fun n => V.int .i64 n)) := by
                have := join_lt hvc
                rw [hY rr (by omega), hW1o rr this]; exact hvc
              haveI : At Y rr (.cells own (l.map fun n => V.int .i64 n)) := ⟨hvY⟩
              haveI : At Y pz (.cells true (bytesV d)) := ⟨hYz⟩
              have nz : nth i (l.map fun n => V.int .i64 n) = some (.int .i64 z) := by rw [nth_eq, List.getElem?_map, hz]; rfl
              obtain ⟨m, hm⟩ : ∃ m : Nat, pickI z (L : Int) = (m : Int) := ⟨(pickI z (L : Int)).toNat, by have := pickI_lt (n := z) (show (0 : Int) < L by omega); omega⟩
              have hmL : m < L := by have := pickI_lt (n := z) (show (0 : Int) < L by omega); omega
              have pk2 := fun st => hP z (L : Int) st (by omega) (by omega)
              rw [hm] at pk2
              obtain ⟨x, hx⟩ : ∃ x, d[m]? = some x := ⟨_, List.getElem?_eq_getElem (by omega)⟩
              have hx256 := hd256 x (List.mem_of_getElem? hx)
              have nx : nth m (bytesV d) = some (.int .u8 (x : Int)) := by rw [nth_eq, bytesV_at, hx]; rfl
              have hxo := xor_byte (eq := .val .int) hx256 hby
              have sp : splice m [.int .u8 ((x ^^^ by_ : Nat) : Int)] (bytesV d) = some (bytesV (d.set m (x ^^^ by_))) := by rw [splice_one (by rw [bytesV_len]; omega), bytesV_set]
              rw [hve, hve2] at s2
              rw [hve, hve2] at vlen
              rw [tl_of (X := Y)]
              simp (disch := omega) [s1, s2, s3, s4, s5, s6, vlen, dlt_t, dlt_f, dle_t, dle_f, dltn_t, dltn_f, dlen_t, dlen_f, deq_t, deq_f, deqn_t, deqn_f, rem4, idxAddr_slice, nz, pk2, nx, xor_byte, sp, wrap_i]
              exact ⟨k - 1, by omega, i + 1, by omega, _, tl_of.symm, fun j hj => by rw [join_set (by omega), hY j hj], d.set m (x ^^^ by_), by rw [join_set_same hpzY]; rfl, by rw [List.length_set]; exact hdl, fun b hb => by
                rcases List.mem_or_eq_of_mem_set hb with h | rfl
                · exact hd256 b h
                · exact Nat.xor_lt_two_pow (n := 8) hx256 hby, by rw [hve, hve2], by omega⟩
            · simp (disch := omega) [s1, s2, s3, s4, s5, s6, vlen, dlt_t, dlt_f, dle_t, dle_f, dltn_t, dltn_f, dlen_t, dlen_f, deq_t, deq_f, deqn_t, deqn_f, rem4]
              refine leave ?_
              simp [s5]
          · by_cases c3 : r4 = 3
            · simp (disch := omega) [s1, s2, s3, s4, s5, s6, vlen, dlt_t, dlt_f, dle_t, dle_f, dltn_t, dltn_f, dlen_t, dlen_f, deq_t, deq_f, deqn_t, deqn_f, rem4, c3, pk, sl, wrap_i]
              refine leaveC ?_
              simp
            · simp (disch := omega) [s1, s2, s3, s4, s5, s6, vlen, dlt_t, dlt_f, dle_t, dle_f, dltn_t, dltn_f, dlen_t, dlen_f, deq_t, deq_f, deqn_t, deqn_f, rem4]
              refine leave ?_
              simp [s5]
        · by_cases c3 : r4 = 3
          · simp (disch := omega) [s1, s2, s3, s4, s5, s6, vlen, dlt_t, dlt_f, dle_t, dle_f, dltn_t, dltn_f, dlen_t, dlen_f, deq_t, deq_f, deqn_t, deqn_f, rem4, c3, pk, sl, wrap_i]
            refine leaveC ?_
            simp
          · simp (disch := omega) [s1, s2, s3, s4, s5, s6, vlen, dlt_t, dlt_f, dle_t, dle_f, dltn_t, dltn_f, dlen_t, dlen_f, deq_t, deq_f, deqn_t, deqn_f, rem4]
            refine leave ?_
            simp [s5]
set_option maxHeartbeats 8000000 in
theorem CpLay_run {call : CallT} {lf nL nLR nF nP nO nK nR nRR nN nE nC : Nat} (hlf : 300 ≤ lf) (hL : LayPF (call nL)) (hLR : LayRF (call nLR)) (hF : FewF call nF) (hP : PickF call nP) (hO : WideTF call nO) (hK : ∀ st, call nK [] st = some (.bool true, st)) (hR : De.ReadF call nR) (hRR : ReadRF call nRR) (hN : CountL (call nN)) (hE : EntriesL (call nE)) (hC : ColorAtL (call nC)) {W : List (Option AObj)} {rawv xv atv : V} {raw : List Nat} {X : List (List Px)} {l : List Int} {how cut : Int} {by_ : Nat} (hb : See W rawv raw) (hbl : raw.length ≤ 140737488352000) (hv : ParI W atv l) (hby : by_ < 256) (hX : XSee W xv X) (hn : X.length ≤ 8) (hr : ∀ row ∈ X, row.length ≤ 8 ∧ ∀ P ∈ row, P.ok)
    {s0 : Env} (e0 : s0 (.o (.i (.o (.o .h)))) = xv) (e1 : s0 (.o (.o .h)) = rawv) (e2 : s0 (.i (.o .h)) = .int .i64 how) (e3 : s0 (.o (.i .h)) = atv) (e4 : s0 (.i (.i .h)) = .int .u8 (by_ : Int)) (e5 : s0 (.o (.o (.o .h))) = .int .i64 cut) :
    wp call lf (CpLay nL nLR nF nP nO nK nR nRR nN nE nC) s0 (few W) (finQ [ARes.tmp (.i (.o (.o (.o .h))))] fun u _ => u = .bool true) := by
  unfold CpLay
  have hxp := hX.plain
  have c1 := hL W xv X hX hn hr
  by_cases hu : ∀ row ∈ X, row.length = eachX X
  · rw [if_pos hu] at c1
    obtain ⟨W1, hW1⟩ : ∃ W1, W1 = W ++ [some (newBytes (layP X))] := ⟨_, rfl⟩
    rw [← hW1] at c1
    have c2 := hLR W1 xv X (by rw [hW1]; exact hX.grow) hn hr
    rw [if_pos hu] at c2
    obtain ⟨W2, hW2⟩ : ∃ W2, W2 = W1 ++ [some (newBytes (layP X))] := ⟨_, rfl⟩
    rw [← hW2] at c2
    have he8 : eachX X ≤ 8 := by
      unfold eachX
      cases X with
      | nil => simp
      | cons row X => exact (hr row (List.mem_cons_self ..)).1
    have hfl : X.flatten.length = X.length * eachX X := flat_len hu
    have hNE : X.length * eachX X ≤ 64 := Nat.le_trans (Nat.mul_le_mul hn he8) (by omega)
    have hQ : layP X = layQ X.length (eachX X) (fun k => k * eachX X) X.flatten := layP_Q (by omega)
    have hFok : ∀ P ∈ X.flatten, P.ok := fun P hP => by
      obtain ⟨row, h1, h2⟩ := List.mem_flatten.1 hP
      exact (hr row h1).2 P h2
    have h256 : ∀ b ∈ layP X, b < 256 := by rw [hQ]; exact layQ_lt hFok
    obtain ⟨L, hLe⟩ : ∃ L, L = (layP X).length := ⟨_, rfl⟩
    have hLl : L = 12 + 2 * X.length + 4 * (X.length * eachX X) := by rw [hLe, hQ, layQ_len, hfl]
    rw [← hLe] at c1 c2
    have sa : (W2[W.length]?).join = some (newBytes (layP X)) := by rw [hW2, hW1]; simp
    have sb : (W2[W1.length]?).join = some (newBytes (layP X)) := by rw [hW2]; simp
    have cva : convV (few W2) .toStr (.slice (some (W.length, 0)) 1 L L false) = some (.str (layP X)) := by
      rw [hLe]; exact conv_seen (See.own sa h256 (Nat.le_refl _))
    have cvb : convV (few W2) .toStr (.slice (some (W1.length, 0)) 1 L L false) = some (.str (layP X)) := by
      rw [hLe]; exact conv_seen (See.own sb h256 (Nat.le_refl _))
    have old : ∀ i, i < W.length → (W2[i]?).join = (W[i]?).join := fun i hi => by rw [hW2, join_app (by rw [hW1]; simp; omega), hW1, join_app hi]
    have oldl : W.length ≤ W2.length := by rw [hW2, hW1]; simp
    simp (disch := omega) [e0, e1, e2, e3, e4, e5, c1, c2, hxp, cva, cvb, dlt_t, dlt_f, dle_t, dle_f, dltn_t, dltn_f, dlen_t, dlen_f, deq_t, deq_f, deqn_t, deqn_f]
    refine CpB_run (ok := true) (how := how) (cut := cut) hlf hF hP hO hK hR hRR hN hE hC (hb.keep old oldl) hbl (hv.keep old) hby (p := W1.length) (L := L) (bs := layP X) (bv := .slice (some (W1.length, 0)) 1 L L false) (fun _ => ⟨rfl, sb, hLe.symm, by omega, by omega, h256⟩) rfl ?_ ?_ ?_ ?_ ?_ ?_ ?_ <;> simp [e1, e2, e3, e4, e5]
  · rw [if_neg hu] at c1
    have c2 := hLR W xv X hX hn hr
    rw [if_neg hu] at c2
    simp (disch := omega) [e0, e1, e2, e3, e4, e5, c1, c2, hxp, conv_nilS, dlt_t, dlt_f, dle_t, dle_f, dltn_t, dltn_f, dlen_t, dlen_f, deq_t, deq_f, deqn_t, deqn_f]
    refine CpB_run (ok := false) (how := how) (cut := cut) (p := 0) (L := 0) (bs := []) (bv := .slice none 0 0 0 true) hlf hF hP hO hK hR hRR hN hE hC hb hbl hv hby (fun h => by cases h) rfl ?_ ?_ ?_ ?_ ?_ ?_ ?_ <;> simp [e1, e2, e3, e4, e5]
theorem rowSee_el {Z : List (Option AObj)} {q : Nat} {row : List Px} (h : row ≠ [] → (Z[q]?).join = some (.cells true (elV pxV row))) : RowSee Z (elS 4 q row.length) row ∧ (elS 4 q row.length).good Z.length = true := by
  by_cases h0 : row = []
  · subst h0; exact ⟨.nil, rfl⟩
  · have hn : row.length ≠ 0 := fun e => h0 (List.length_eq_zero_iff.1 e)
    have hq := h h0
    have hl : (elV pxV row).length = row.length * 4 := elV_len pxV_len
    refine ⟨?_, elS_goods fun _ => join_lt hq⟩
    rw [show elS 4 q row.length = .slice (some (q, 0)) 4 row.length row.length false from if_neg hn]
    exact .mem (Nat.le_refl _) hq (flats_good (elV_flat fun a => rfl)) (by omega) (by rw [List.drop_zero, List.take_of_length_le (by omega)])
theorem rowSee_tail {Z : List (Option AObj)} {q : Nat} {P : Px} {row : List Px} (h : (Z[q]?).join = some (.cells true (elV pxV (P :: row)))) : RowSee Z (.slice (some (q, 4)) 4 row.length row.length false) row ∧ (V.slice (some (q, 4)) 4 row.length row.length false).good Z.length = true := by
  have hl : (elV pxV (P :: row)).length = (P :: row).length * 4 := elV_len pxV_len
  have hl2 : (elV pxV row).length = row.length * 4 := elV_len pxV_len
  refine ⟨.mem (Nat.le_refl _) h (flats_good (elV_flat fun a => rfl)) (by rw [hl, List.length_cons]; omega) ?_, ?_⟩
  · rw [show elV pxV (P :: row) = pxV P ++ elV pxV row from by simp [elV], show (4 : Nat) = (pxV P).length from rfl, List.drop_left]
    exact List.take_of_length_le (by rw [hl2]; exact Nat.le_refl _)
  · have := join_lt h
    simp [V.good]; exact this
theorem cut_see {Y : List (Option AObj)} {N0 r q1 : Nat} {X : List (List Px)} {vs : List V} {P : Px} {row : List Px} (z2 : (Y[r]?).join = some (.cells true vs)) (w1 : vs.length = X.length) (w3 : ∀ (j : Nat) (v : V) (row : List Px), vs[j]? = some v → X[j]? = some row → ∃ q, v = elS 4 q row.length ∧ (row ≠ [] → N0 ≤ q ∧ (X ≠ [] → q ≠ r) ∧ (Y[q]?).join = some (.cells true (elV pxV row)))) (h1 : X[1]? = some (P :: row)) (hv : vs[1]? = some (elS 4 q1 (row.length + 1))) (hq : q1 ≠ r) (y3 : (Y[q1]?).join = some (.cells true (elV pxV (P :: row)))) :
    XSee (Y.set r (some (.cells true (vs.set 1 (.slice (some (q1, 4)) 4 row.length row.length false))))) (elS 1 r X.length) (X.set 1 row) := by
  have hX0 : X ≠ [] := fun e => by rw [e] at h1; simp at h1
  have hX1 := (List.getElem?_eq_some_iff.1 h1).1
  have key : ∀ (j : Nat) (v : V) (ro : List Px), (vs.set 1 (.slice (some (q1, 4)) 4 row.length row.length false))[j]? = some v → (X.set 1 row)[j]? = some ro → RowSee (Y.set r (some (.cells true (vs.set 1 (.slice (some (q1, 4)) 4 row.length row.length false))))) v ro ∧ v.good (Y.set r (some (.cells true (vs.set 1 (.slice (some (q1, 4)) 4 row.length row.length false))))).length = true := fun j v ro hj hr => by
    by_cases e : j = 1
    · subst e
      rw [List.getElem?_set_self (by omega)] at hj hr
      cases hj; cases hr
      exact rowSee_tail (P := P) (by rw [join_set (fun h => hq h.symm)]; exact y3)
    · rw [List.getElem?_set_ne (fun h => e h.symm)] at hj hr
      obtain ⟨q, rfl, g⟩ := w3 j v ro hj hr
      exact rowSee_el fun hne => by rw [join_set (fun h => (g hne).2.1 hX0 h.symm)]; exact (g hne).2.2
  refine ⟨r, _, true, by rw [List.length_set], fun _ => ⟨join_set_same (join_lt z2), goods_mem.2 fun v hv' => ?_⟩, by rw [List.length_set, List.length_set, w1], fun j v ro hj hr => (key j v ro hj hr).1⟩
  obtain ⟨j, hj⟩ := List.mem_iff_getElem?.1 hv'
  have hjl := (List.getElem?_eq_some_iff.1 hj).1
  rw [List.length_set] at hjl
  obtain ⟨ro, hro⟩ : ∃ ro, (X.set 1 row)[j]? = some ro := ⟨_, List.getElem?_eq_getElem (by rw [List.length_set]; omega)⟩
  exact (key j v ro hj hro).2
set_option maxHeartbeats 8000000 in
theorem Tells_run {call : CallT} {lf nPal nL nLR nF nP nO nK nR nRR nN nE nC : Nat} (hlf : 300 ≤ lf) (hPal : PalF call nPal) (hL : LayPF (call nL)) (hLR : LayRF (call nLR)) (hF : FewF call nF) (hP : PickF call nP) (hO : WideTF call nO) (hK : ∀ st, call nK [] st = some (.bool true, st)) (hR : De.ReadF call nR) (hRR : ReadRF call nRR) (hN : CountL (call nN)) (hE : EntriesL (call nE)) (hC : ColorAtL (call nC)) {os : List (Option AObj)} {n m : Int} {v rawv atv : V} {l ls : List Int} {raw : List Nat} {how cut : Int} {by_ : Nat} (hv : ParI os v l) (hb : See os rawv raw) (hbl : raw.length ≤ 140737488352000) (ha : ParI os atv ls) (hby : by_ < 256) :
    ∃ s1, enterF call lf [.int .i64 n, .int .i64 m, v, rawv, .int .i64 how, atv, .int .u8 (by_ : Int), .int .i64 cut] (few os) (Tells_c nPal nL nLR nF nP nO nK nR nRR nN nE nC) = some (.bool true, s1) := by
  refine enter_ex ?_
  obtain ⟨a0, r0, hve, _⟩ := hv.ex
  have hvp : v.plain = true := by rw [hve]; rfl
  obtain ⟨a1, r1, hae, _⟩ := ha.ex
  have hap : atv.plain = true := by rw [hae]; rfl
  have hbp := hb.plain
  have hn5 := pickI_lt (n := n) (m := 5) (by omega)
  have hm7 := pickI_lt (n := m) (m := 7) (by omega)
  obtain ⟨r, Y, c1, hRows, k1, k2⟩ := hPal os n m v l hv
  obtain ⟨N, hNe⟩ : ∃ N, N = (pickI n 5).toNat := ⟨_, rfl⟩
  obtain ⟨M, hMe⟩ : ∃ M, M = (pickI m 7).toNat := ⟨_, rfl⟩
  rw [← hNe] at c1 hRows
  rw [← hMe] at hRows
  obtain ⟨X, hX⟩ : ∃ X, X = palX l N M := ⟨_, rfl⟩
  have hXl : X.length = N := by rw [hX]; exact palX_len
  have hXr : ∀ row ∈ X, row.length = M := fun row h => by
    rw [hX] at h; unfold palX at h
    obtain ⟨i, _, rfl⟩ := List.mem_map.1 h
    exact rowX_len
  have hXok : ∀ row ∈ X, ∀ P ∈ row, P.ok := fun row h P hP => by
    rw [hX] at h; unfold palX at h
    obtain ⟨i, _, rfl⟩ := List.mem_map.1 h
    unfold rowX at hP
    obtain ⟨k, _, rfl⟩ := List.mem_map.1 hP
    exact colorP_ok
  rw [← hX] at hRows
  have hsee := RowsAt.see hRows
  rw [hXl] at hsee
  have hpl := elS_plain (e := 1) (q := r) (n := N)
  obtain ⟨r9, hr9⟩ : ∃ r, r = Int.tmod how 9 := ⟨_, rfl⟩
  have rem9 : ∀ eq, binV .rem eq (.int .i64 how) (.int .i64 9) = some (.int .i64 r9) := fun eq => by rw [bin_rem (by omega), hr9]
  have whole : ∀ {t : Env}, t (.o (.i (.o (.o .h)))) = elS 1 r N → t (.o (.o .h)) = rawv → t (.i (.o .h)) = .int .i64 how → t (.o (.i .h)) = atv → t (.i (.i .h)) = .int .u8 (by_ : Int) → t (.o (.o (.o .h))) = .int .i64 cut → wp call lf (CpLay nL nLR nF nP nO nK nR nRR nN nE nC) t (few Y) (finQ [ARes.tmp (.i (.o (.o (.o .h))))] fun u _ => u = .bool true) := fun h0 h1 h2 h3 h4 h5 =>
    CpLay_run hlf hL hLR hF hP hO hK hR hRR hN hE hC (hb.keep k1 k2) hbl (ha.keep k1) hby hsee (by omega) (fun row h => ⟨by rw [hXr row h]; omega, hXok row h⟩) h0 h1 h2 h3 h4 h5
  by_cases h8 : r9 = 8
  · by_cases hN1 : 1 < N
    · obtain ⟨vs, w1, w2, w3⟩ := hRows.ex
      have hX0 : X ≠ [] := fun e => by rw [e] at hXl; simp at hXl; omega
      obtain ⟨row1, hrow1⟩ : ∃ row, X[1]? = some row := ⟨_, List.getElem?_eq_getElem (by omega)⟩
      have hr1l := hXr row1 (List.mem_of_getElem? hrow1)
      obtain ⟨v1, hv1⟩ : ∃ v, vs[1]? = some v := ⟨_, List.getElem?_eq_getElem (by omega)⟩
      obtain ⟨q1, hq1, g1⟩ := w3 1 v1 row1 hv1 hrow1
      obtain ⟨z1, z2⟩ := w2 hX0
      rw [elV_oneS] at z2
      have hel : elS 1 r N = .slice (some (r, 0)) 1 N N false := if_neg (by omega)
      have nv1 : nth 1 vs = some v1 := by rw [nth_eq]; exact hv1
      haveI : At Y r (.cells true vs) := ⟨z2⟩
      have c1' : call nPal [.int .i64 n, .int .i64 m, v] (few os) = some (.slice (some (r, 0)) 1 N N false, tl Y []) := by rw [← tl_of, ← hel]; exact c1
      by_cases hM0 : M = 0
      · rw [hr1l, hM0] at hq1
        have hq1 : v1 = .slice none 0 0 0 true := hq1
        subst hq1
        simp (disch := omega) [c1', rem9, h8, dlt_t, dlt_f, dle_t, dle_f, dltn_t, dltn_f, dlen_t, dlen_f, deq_t, deq_f, deqn_t, deqn_f, hvp, hap, hbp, idxAddr_slice, nv1]
        rw [← tl_of]
        refine whole ?_ ?_ ?_ ?_ ?_ ?_ <;> simp [hel]
      · rw [hr1l] at hq1
        have hq1 : v1 = .slice (some (q1, 0)) 4 M M false := by rw [hq1]; exact if_neg hM0
        subst hq1
        have hne1 : row1 ≠ [] := fun e => by rw [e] at hr1l; simp at hr1l; omega
        obtain ⟨y1, y2, y3⟩ := g1 hne1
        have sl1 : sliceOp (.slice 4) (.slice (some (q1, 0)) 4 M M false) (some (.int .i64 1)) none none = some (.slice (some (q1, 4)) 4 (M - 1) (M - 1) false) := by
          have := slice_lo (a := some (q1, 0)) (e := 4) (n := M) (c := M) (l := 1) (by omega)
          rw [shiftA_some] at this
          exact this
        have sp1 : splice 1 [.slice (some (q1, 4)) 4 (M - 1) (M - 1) false] vs = some (vs.set 1 (.slice (some (q1, 4)) 4 (M - 1) (M - 1) false)) := splice_one (by omega)
        simp (disch := omega) [c1', rem9, h8, dlt_t, dlt_f, dle_t, dle_f, dltn_t, dltn_f, dlen_t, dlen_f, deq_t, deq_f, deqn_t, deqn_f, hvp, hap, hbp, idxAddr_slice, nv1, sl1, sp1]
        obtain ⟨P, row, rfl⟩ : ∃ P row, row1 = P :: row := by
          cases row1 with
          | nil => exact absurd rfl hne1
          | cons P row => exact ⟨P, row, rfl⟩
        have hMr : M = row.length + 1 := by rw [← hr1l]; rfl
        have hcs := cut_see (N0 := os.length) z2 w1 w3 hrow1 (by rw [hv1, hMr]; exact congrArg some (if_neg (by omega)).symm) (y2 hX0) y3
        rw [show M - 1 = row.length from by omega]
        rw [hXl] at hcs
        have hokr := hXok _ (List.mem_of_getElem? hrow1)
        have kY : ∀ i, i < os.length → ((Y.set r (some (.cells true (vs.set 1 (.slice (some (q1, 4)) 4 row.length row.length false)))))[i]?).join = (os[i]?).join := fun i hi => by rw [join_set (by omega)]; exact k1 i hi
        rw [← tl_of]
        refine CpLay_run (how := how) (cut := cut) hlf hL hLR hF hP hO hK hR hRR hN hE hC (hb.keep kY (by rw [List.length_set]; exact k2)) hbl (ha.keep kY) hby hcs (by rw [List.length_set]; omega) (fun ro hro => ?_) ?_ ?_ ?_ ?_ ?_ ?_
        · rcases List.mem_or_eq_of_mem_set hro with h | rfl
          · exact ⟨by rw [hXr ro h]; omega, hXok ro h⟩
          · exact ⟨by omega, fun Q hQ => hokr Q (List.mem_cons_of_mem _ hQ)⟩
        all_goals simp [hel]
    · simp (disch := omega) [c1, rem9, h8, dlt_t, dlt_f, dle_t, dle_f, dltn_t, dltn_f, dlen_t, dlen_f, deq_t, deq_f, deqn_t, deqn_f, hvp, hap, hbp, elS_len, hpl]
      refine whole ?_ ?_ ?_ ?_ ?_ ?_ <;> simp
  · simp (disch := omega) [c1, rem9, h8, dlt_t, dlt_f, dle_t, dle_f, dltn_t, dltn_f, dlen_t, dlen_f, deq_t, deq_f, deqn_t, deqn_f, hvp, hap, hbp, hpl]
    refine whole ?_ ?_ ?_ ?_ ?_ ?_ <;> simp
end Go.Vabs.Dk
