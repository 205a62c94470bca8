/-
  FlatTells' run.
-/
import Derived.Test.YtpjinhofjaapaaaVabsKl
namespace Go.Vabs.Km
set_option linter.unusedVariables false
set_option linter.unusedSimpArgs false
set_option maxRecDepth 10000

attribute [local simp] wp_skip wp_ret wp_exit wp_reg wp_seq wp_cond wp_block thenQ_normal thenQ_ret thenQ_exit blockQ_normal blockQ_ret blockQ_exit wpCond_true wpCond_false wpOps_nil wpVal_some wpGuard_true wpGuard_false wpOps_guard wpOps_cons
  put_at put_no ev_c ev_slot posEq_h posEq_o posEq_i posEq_ho posEq_hi posEq_oh posEq_ih posEq_oi posEq_io sel_true sel_false
  okv_some step_mv step_call step_pick pickV_bool step_bin bin_add bin_sub bin_mul bin_eql bin_neq bin_lss bin_leq bin_gtr bin_geq bin_eqb bin_neb bin_eqs bin_nes step_un un_not un_neg step_len len_slice len_str len_const step_extract extractV nth step_convInt conv_int step_convStr step_slice step_idxAddr natOf_nat step_load step_index step_field step_fieldAddr step_build step_minmax
  step_alloc step_bslice bsliceV_some newV_some step_store step_append boolIs_b boolIs_t finQ_ret finQ_normal ressE_nil ressE_cons resE_tmp consO_some initE_nil initE_cons pos_0 pos_1 pos_2 pos_3 pos_4 pos_5 pos_6 pos_7 pos_8 plain_bool plain_int plain_str plain_ptr plain_slice plain_map plain_agg plain_func plain_nilFunc V.undef oneOf_one oneOf_two ble_self
open Go.Vabs.Ph Go.Vabs.Fl Go.Vabs.Ka Go.Vabs.Kb Go.Vabs.Kc Go.Vabs.Ke Go.Vabs.Kf Go.Vabs.Kg Go.Vabs.Kh Go.Vabs.Kj Go.Vabs.Kk Go.Vabs.Kl
attribute [local simp] step_nilchk nilchk_ptr step_box cells_int cells_bool cells_str cells_slice cells_ptr cells_agg fieldAddrV natOf_zero fill repN splice over newV
  wp_dreg wpDs_nil wpDs_cons wantedE_none wantedE_some wpDGuard_true wpDGuard_lim wpDGuard_false wpDLim_true wpDVal_free wpDVal_lim back_limited next_limited limF_dir limF_false foot_load foot_convStr okAll_nil okAll_cons pastsOf nthP ahead few_next load_limited okPair_dd okPair_dc okPair_cd okPair_cc anyIn_nil anyIn_same anyIn_cons meets_nil meets_nil' blt_dec
/- THE LAW'S RUN -/
/-- What stands in memory ahead of the comparing. -/
structure Stands (O : List (Option AObj)) (w : V) (cs : List (List Pl)) (Mi : Nat) (r : Aff) (L : Nat) (ax ay bx by_ cx cy : Int) : Prop where
  good : w.good O.length = true
  look : lookC (few O).look w = some cs
  few : cs.length ≤ 31 ∧ ∀ c ∈ cs, c.length ≤ 31
  aff : (O[Mi]?).join = some (.cells true r.cells)
  pa : (O[L + 1]?).join = some (.cells true [.int .i64 ax, .int .i64 ay])
  pb : (O[L + 2]?).join = some (.cells true [.int .i64 bx, .int .i64 by_])
  pc : (O[L + 3]?).join = some (.cells true [.int .i64 cx, .int .i64 cy])
theorem aff_pl {m : Aff} {p : Pl} {l : List Pl} (h : some (AObj.cells true m.cells) = some (.cells true (encG Pl.cells (p :: l)))) : False := by
  injection h with h; injection h with _ h
  have h3 : V.int .i64 m.xy = .bool p.on := Option.some.inj (congrArg (fun l : List V => l[2]?) h)
  cases h3
structure Tail (call : CallT) (nS nR nE nV nW : Nat) (O : List (Option AObj)) (w : V) (Mi : Nat) (r : Aff) (L : Nat) (ax ay bx by_ cx cy : Int) (u : V) (t : St) (E : List (Option AObj)) (u2 : V) (F G H : List (Option AObj)) : Prop where
  lM : loadV (few O) true 6 (.ptr (some (Mi, 0))) = some r.V
  cS : call nS [w, r.V] (limited .call [] (few O)) = some (u, t)
  bt : back (few O) t = few E
  nt : t.next = E.length
  lN : loadV (few E) true 6 (.ptr (some (Mi, 0))) = some r.V
  cR : call nR [w, r.V] (few E) = some (u2, few F)
  cE : call nE [u, u2] (few F) = some (.bool true, few F)
  la : loadV (few F) true 2 (.ptr (some (L + 1, 0))) = some (.agg [.int .i64 ax, .int .i64 ay])
  lb : loadV (few F) true 2 (.ptr (some (L + 2, 0))) = some (.agg [.int .i64 bx, .int .i64 by_])
  lc : loadV (few F) true 2 (.ptr (some (L + 3, 0))) = some (.agg [.int .i64 cx, .int .i64 cy])
  cV : call nV [.agg [.int .i64 ax, .int .i64 ay], .agg [.int .i64 bx, .int .i64 by_], .agg [.int .i64 cx, .int .i64 cy]] (limited .call [] (few F)) = some (.slice (some (F.length, 0)) 4 8 8 false, back (limited .call [] (few F)) (few G))
  lG : G.length = F.length + 1
  ma : loadV (few G) true 2 (.ptr (some (L + 1, 0))) = some (.agg [.int .i64 ax, .int .i64 ay])
  mb : loadV (few G) true 2 (.ptr (some (L + 2, 0))) = some (.agg [.int .i64 bx, .int .i64 by_])
  mc : loadV (few G) true 2 (.ptr (some (L + 3, 0))) = some (.agg [.int .i64 cx, .int .i64 cy])
  cW : call nW [.agg [.int .i64 ax, .int .i64 ay], .agg [.int .i64 bx, .int .i64 by_], .agg [.int .i64 cx, .int .i64 cy]] (few G) = some (.slice (some (F.length + 1, 0)) 4 8 8 false, few H)
  cF : call nE [.slice (some (F.length, 0)) 4 8 8 false, .slice (some (F.length + 1, 0)) 4 8 8 false] (few H) = some (.bool true, few H)
  nFE : E.length ≤ F.length
  nOE : O.length ≤ E.length
theorem Stands.tail {call : CallT} {nS nR nE nV nW : Nat} (hS : SegsLF call nS) (hR : RSegsF call nR) (hE : SameF call nE) (hV : Curve2F call nV) (hW : Curve2F call nW) {O : List (Option AObj)} {w : V} {cs : List (List Pl)} {Mi : Nat} {r : Aff} {L : Nat} {ax ay bx by_ cx cy : Int} (h : Stands O w cs Mi r L ax ay bx by_ cx cy) :
    ∃ u t E u2 F G H, Tail call nS nR nE nV nW O w Mi r L ax ay bx by_ cx cy u t E u2 F G H := by
  obtain ⟨u, t, E, e1, e2, e3, e4, e5, e6⟩ := hS O w r cs h.good h.look h.few.1 h.few.2
  have hin := (lookC_in h.look).grow e5 e6
  obtain ⟨u2, F, f1, f2, f3, f4⟩ := hR E w r cs hin h.few.1 h.few.2
  have hn := segsP_len (m := r) cs h.few.2
  have hfew := h.few.1
  have hsame := hE F O.length E.length u u2 (segsP r cs) (e4.keepAll f3) f2 (by omega)
  obtain ⟨G, hG⟩ : ∃ G, G = F ++ [some (AObj.cells true (chordsL (clip ax) (clip ay) (clip bx) (clip by_) (clip cx) (clip cy)))] := ⟨_, rfl⟩
  obtain ⟨H, hH⟩ : ∃ H, H = G ++ [some (AObj.cells true (chordsL (clip ax) (clip ay) (clip bx) (clip by_) (clip cx) (clip cy)))] := ⟨_, rfl⟩
  have hGl : G.length = F.length + 1 := by rw [hG]; simp
  have g0 : ∀ i, i < O.length → (G[i]?).join = (O[i]?).join := fun i hi => by rw [hG, joinApp (by omega), f3 i (by omega), e5 i hi]
  have f0 : ∀ i, i < O.length → (F[i]?).join = (O[i]?).join := fun i hi => by rw [f3 i (by omega), e5 i hi]
  have chr : chordsL (clip ax) (clip ay) (clip bx) (clip by_) (clip cx) (clip cy) = encG Sg.cells (curveP ⟨clip ax, clip ay, true⟩ ⟨clip bx, clip by_, true⟩ ⟨clip cx, clip cy, true⟩) := rfl
  refine ⟨u, t, E, u2, F, G, H, ⟨loadAll h.aff (Aff.len r), e1, e2, e3, loadAll (by rw [e5 _ (joinLt h.aff)]; exact h.aff) (Aff.len r), f1, hsame,
    loadAll (by rw [f0 _ (joinLt h.pa)]; exact h.pa) rfl, loadAll (by rw [f0 _ (joinLt h.pb)]; exact h.pb) rfl, loadAll (by rw [f0 _ (joinLt h.pc)]; exact h.pc) rfl, ?_, hGl,
    loadAll (by rw [g0 _ (joinLt h.pa)]; exact h.pa) rfl, loadAll (by rw [g0 _ (joinLt h.pb)]; exact h.pb) rfl, loadAll (by rw [g0 _ (joinLt h.pc)]; exact h.pc) rfl, ?_, ?_, f4, e6⟩⟩
  · rw [hG]; exact (hV ax ay bx by_ cx cy _).trans lawOut_call
  · rw [hH, ← hGl]; exact (hW ax ay bx by_ cx cy _).trans lawOut_one
  · rw [← hGl]
    refine hE H F.length G.length _ _ (curveP ⟨clip ax, clip ay, true⟩ ⟨clip bx, clip by_, true⟩ ⟨clip cx, clip cy, true⟩) (.inr ⟨F.length, ⟨Nat.le_refl _, by simp [curveP]⟩, rfl, ?_⟩) (.inr ⟨G.length, ⟨Nat.le_refl _, by simp [curveP]⟩, rfl, ?_⟩) (by show 8 ≤ _; omega)
    · rw [hH, joinApp (by omega), hG, joinEnd, chr]
    · rw [hH, joinEnd, chr]
set_option maxHeartbeats 4000000 in
theorem Tells_run {call : CallT} {lf nC nA nO nK nS nR nE nV nW : Nat} (hlf : 40 < lf) (hK : ∀ st, call nK [] st = some (.bool true, st)) (hA : RawF call nA) (hO : OneF call nO) (hC : ContF call nC) (hS : SegsLF call nS) (hR : RSegsF call nR) (hE : SameF call nE) (hV : Curve2F call nV) (hW : Curve2F call nW)
    {nil : Bool} {ns : List Int} (hn : nil = true → ns = []) (hns : ∀ n ∈ ns, in64 n) (hl : ns.length ≤ 140737488351232) {m : Aff} (hm : in64 m.xx ∧ in64 m.yx ∧ in64 m.xy ∧ in64 m.yy ∧ in64 m.dx ∧ in64 m.dy) {plain : Bool} {ax ay bx by_ cx cy far : Int} (hf : in64 far) :
    ∃ s1, enterF call lf [slAt nil 0 ns.length, m.V, .bool plain, pairV ax ay, pairV bx by_, pairV cx cy, .int .i64 far] (few [objOf nil (intsV .i64 ns)]) (FlatTells_c nC nA nO nK nS nR nE nV nW) = some (.bool true, s1) := by
  have main := enter_wp (call := call) (lf := lf) (n := 58) (args := [slAt nil 0 ns.length, m.V, .bool plain, pairV ax ay, pairV bx by_, pairV cx cy, .int .i64 far]) (st := few [objOf nil (intsV .i64 ns)]) (K := fun u _ => u = .bool true) (c := (FlatTells_c nC nA nO nK nS nR nE nV nW).code) (rs := (FlatTells_c nC nA nO nK nS nR nE nV nW).results) ?_
  · obtain ⟨u, st', h1, rfl⟩ := main
    exact ⟨st', h1⟩
  · obtain ⟨os, hos⟩ : ∃ os, os = [objOf nil (intsV .i64 ns)] := ⟨_, rfl⟩
    have hv : InI os (slAt nil 0 ns.length) ns := InI.of hn fun h => by rw [hos, h]; rfl
    have hol : os.length = 1 := by rw [hos]; rfl
    rw [← hos]
    obtain ⟨v, hve⟩ : ∃ v, v = slAt nil 0 ns.length := ⟨_, rfl⟩
    rw [← hve] at hv ⊢
    -- the affine, the places
    obtain ⟨A1, hA1⟩ : ∃ A, A = os ++ [some (.cells true m.cells)] := ⟨_, rfl⟩
    have al1 : (few os).alloc (.cells true m.cells) = some (1, few A1) := by rw [few_alloc, hA1, hol]
    have hl1 : A1.length = 2 := by rw [hA1]; simp [hol]
    obtain ⟨A2, hA2⟩ : ∃ A, A = A1 ++ [some (.cells true [.int .i64 ax, .int .i64 ay])] := ⟨_, rfl⟩
    have al2 : (few A1).alloc (.cells true [.int .i64 ax, .int .i64 ay]) = some (2, few A2) := by rw [few_alloc, hA2, hl1]
    have hl2 : A2.length = 3 := by rw [hA2]; simp [hl1]
    obtain ⟨A3, hA3⟩ : ∃ A, A = A2 ++ [some (.cells true [.int .i64 bx, .int .i64 by_])] := ⟨_, rfl⟩
    have al3 : (few A2).alloc (.cells true [.int .i64 bx, .int .i64 by_]) = some (3, few A3) := by rw [few_alloc, hA3, hl2]
    have hl3 : A3.length = 4 := by rw [hA3]; simp [hl2]
    obtain ⟨A, hA4⟩ : ∃ A, A = A3 ++ [some (.cells true [.int .i64 cx, .int .i64 cy])] := ⟨_, rfl⟩
    have al4 : (few A3).alloc (.cells true [.int .i64 cx, .int .i64 cy]) = some (4, few A) := by rw [few_alloc, hA4, hl3]
    have hl4 : A.length = 5 := by rw [hA4]; simp [hl3]
    have m0 : ∀ i, i < 1 → (A[i]?).join = (os[i]?).join := fun i hi => by rw [hA4, joinApp (by omega), hA3, joinApp (by omega), hA2, joinApp (by omega), hA1, joinApp (by omega)]
    have m1 : (A[1]?).join = some (.cells true m.cells) := by rw [hA4, joinApp (by omega), hA3, joinApp (by omega), hA2, joinApp (by omega), hA1, ← hol, joinEnd]
    have m2 : (A[2]?).join = some (.cells true [.int .i64 ax, .int .i64 ay]) := by rw [hA4, joinApp (by omega), hA3, joinApp (by omega), hA2, ← hl1, joinEnd]
    have m3 : (A[3]?).join = some (.cells true [.int .i64 bx, .int .i64 by_]) := by rw [hA4, joinApp (by omega), hA3, ← hl2, joinEnd]
    have m4 : (A[4]?).join = some (.cells true [.int .i64 cx, .int .i64 cy]) := by rw [hA4, ← hl3, joinEnd]
    obtain ⟨w, C, vs, cs, c1, c2, c3, c4⟩ := hC A v ns (hv.keep (fun i hi => m0 i (by omega)) (by omega)) hns hl
    have hlw := (Conts.cin c2).lenV
    obtain ⟨n, hnn⟩ : ∃ n, n = cs.length := ⟨_, rfl⟩
    rw [← hnn] at hlw
    -- the affine
    have l1 : loadV (few C) true 6 (.ptr (some (1, 0))) = some m.V := loadAll (by rw [c3 _ (by omega), m1]) (Aff.len m)
    obtain ⟨r, hr⟩ : ∃ r, r = rawA m := ⟨_, rfl⟩
    have cr := hA m (few C) hm
    rw [← hr] at cr
    have cM := cellsM m
    have cR := cellsM r
    have cO := cellsM oneA
    obtain ⟨Mi, hMi⟩ : ∃ Mi, Mi = C.length := ⟨_, rfl⟩
    obtain ⟨D0, hD0⟩ : ∃ D0, D0 = C ++ [some (AObj.cells true [.int .i64 0, .int .i64 0, .int .i64 0, .int .i64 0, .int .i64 0, .int .i64 0])] := ⟨_, rfl⟩
    have alD : (few C).alloc (.cells true [.int .i64 0, .int .i64 0, .int .i64 0, .int .i64 0, .int .i64 0, .int .i64 0]) = some (Mi, few D0) := by rw [few_alloc, hD0, hMi]
    obtain ⟨Dr, hDr⟩ : ∃ D, D = C ++ [some (AObj.cells true r.cells)] := ⟨_, rfl⟩
    have stD : storeV (few D0) 6 (.ptr (some (Mi, 0))) (some r.cells) = some (V.undef, few Dr) := by rw [hMi, hDr, hD0]; exact storeNew rfl rfl
    obtain ⟨Do, hDo⟩ : ∃ D, D = C ++ [some (AObj.cells true oneA.cells)] := ⟨_, rfl⟩
    have stO : storeV (few Dr) 6 (.ptr (some (Mi, 0))) (some oneA.cells) = some (V.undef, few Do) := by rw [hMi, hDr, hDo]; exact storeNew rfl rfl
    have hOs := hO (few Dr)
    obtain ⟨M, hM⟩ : ∃ M : Aff, M = if plain then oneA else r := ⟨_, rfl⟩
    obtain ⟨D, hD⟩ : ∃ D, D = C ++ [some (AObj.cells true M.cells)] := ⟨_, rfl⟩
    have cD : Conts D A.length w vs cs := by rw [hD]; exact ⟨c2.out.keepAll fun i hi => joinApp hi, c2.len, fun j v c a b => ⟨(c2.at_ j v c a b).1.keepAll fun i hi => joinApp hi, (c2.at_ j v c a b).2⟩, c2.few, c2.srt⟩
    have hDl : D.length = Mi + 1 := by rw [hD, hMi]; simp
    have dM : (D[Mi]?).join = some (.cells true M.cells) := by rw [hD, hMi, joinEnd]
    have d0 : ∀ i, i < 5 → (D[i]?).join = (A[i]?).join := fun i hi => by rw [hD, joinApp (by omega), c3 i (by omega)]
    have sD : Stands D w cs Mi M 1 ax ay bx by_ cx cy := ⟨outg_good cD.out, lookC_own cD.out cD.len (fun j v c hv hc => (cD.at_ j v c hv hc).1), cD.few, dM, by rw [d0 _ (by omega), m2], by rw [d0 _ (by omega), m3], by rw [d0 _ (by omega), m4]⟩
    obtain ⟨t1, ht1⟩ : ∃ t, t = Int.tmod far 7 := ⟨_, rfl⟩
    have h76 := Int.tmod_lt_of_pos far (show (0 : Int) < 7 by omega)
    unfold FlatTells_c
    dsimp only [pairV]
    cases plain with
    | true =>
      rw [if_pos rfl] at hM
      subst hM
      rw [← hD] at hDo
      subst hDo
      by_cases h6 : t1 = 6
      · by_cases h0 : 0 < n
        · obtain ⟨c0, hc0⟩ : ∃ c, cs[0]? = some c := ⟨_, List.getElem?_eq_getElem (by omega)⟩
          obtain ⟨v00, hv00⟩ : ∃ v, vs[0]? = some v := ⟨_, List.getElem?_eq_getElem (by rw [cD.len]; omega)⟩
          obtain ⟨p0, l0, hpl⟩ : ∃ p l, c0 = p :: l := by
            cases hcc : c0 with
            | nil => exact absurd hcc (cD.at_ 0 v00 c0 hv00 hc0).2
            | cons p l => exact ⟨p, l, rfl⟩
          subst hpl
          obtain ⟨qw, q, v0, P, k1, k2, k3, k4, k5, k6, k7, k8, k9⟩ := poke cD hc0 far
          have sP : Stands P w (cs.set 0 (⟨far, p0.y, p0.on⟩ :: l0)) Mi oneA 1 ax ay bx by_ cx cy := by
            have hfl := cD.few
            have hne : ∀ i, i < 5 → (P[i]?).join = (A[i]?).join := fun i hi => by rw [k8 i (by omega), d0 i hi]
            refine ⟨outg_good k6, lookC_own k6 (by rw [List.length_set]; exact cD.len) k7, ⟨by rw [List.length_set]; exact hfl.1, fun c hc => ?_⟩, by rw [k8 Mi (fun e => by rw [← e, dM] at k5; exact aff_pl k5.2)]; exact dM, by rw [hne _ (by omega), m2], by rw [hne _ (by omega), m3], by rw [hne _ (by omega), m4]⟩
            · rcases List.mem_or_eq_of_mem_set hc with h | rfl
              · exact hfl.2 c h
              · have := hfl.2 (p0 :: l0) (List.mem_of_getElem? hc0); simpa using this
          simp (disch := omega) [cM, al1, al2, al3, al4, c1, l1, cr, alD, cR, stD, hlw, bin_rem, ← ht1, hOs, cO, stO, h6, h0, dltn_t, dlt_f, dlt_t, k1, k2, k3, k4, load_d, foot_call, foot_load, idOf, back_limF, next_limF]
          obtain ⟨u, t, E, u2, F, G, H, T⟩ := sP.tail hS hR hE hV hW
          obtain ⟨x1, x2, x3, x4, x5, x6, x7, x8, x9, x10, x11, x12, x13, x14, x15, x16, x17, x18, x19⟩ := T
          simp (disch := omega) [hK, x1, x2, x3, x4, x5, x6, x7, x8, x9, x10, x11, x12, x13, x14, x15, x16, x17, alloc_dir, backv, back_back, back_few, next_back, load_d, foot_call, foot_load, idOf, back_limF, next_limF, meets_cons, mem_cons, mem_nil, nbeq_dec, ble_dec, deqn_f, dlen_f, dltn_f]
        · have hz : n = 0 := by omega
          simp (disch := omega) [cM, al1, al2, al3, al4, c1, l1, cr, alD, cR, stD, hlw, bin_rem, ← ht1, hOs, cO, stO, h6, hz, dltn_f, dlt_f, dlt_t, load_d, foot_call, foot_load, idOf, back_limF, next_limF]
          obtain ⟨u, t, E, u2, F, G, H, T⟩ := sD.tail hS hR hE hV hW
          obtain ⟨x1, x2, x3, x4, x5, x6, x7, x8, x9, x10, x11, x12, x13, x14, x15, x16, x17, x18, x19⟩ := T
          simp (disch := omega) [hK, x1, x2, x3, x4, x5, x6, x7, x8, x9, x10, x11, x12, x13, x14, x15, x16, x17, alloc_dir, backv, back_back, back_few, next_back, load_d, foot_call, foot_load, idOf, back_limF, next_limF, meets_cons, mem_cons, mem_nil, nbeq_dec, ble_dec, deqn_f, dlen_f, dltn_f]
      · have e6 : decide (t1 = 6) = false := decide_eq_false h6
        simp (disch := omega) [cM, al1, al2, al3, al4, c1, l1, cr, alD, cR, stD, hlw, bin_rem, ← ht1, hOs, cO, stO, e6, dlt_f, dlt_t, load_d, foot_call, foot_load, idOf, back_limF, next_limF]
        obtain ⟨u, t, E, u2, F, G, H, T⟩ := sD.tail hS hR hE hV hW
        obtain ⟨x1, x2, x3, x4, x5, x6, x7, x8, x9, x10, x11, x12, x13, x14, x15, x16, x17, x18, x19⟩ := T
        simp (disch := omega) [hK, x1, x2, x3, x4, x5, x6, x7, x8, x9, x10, x11, x12, x13, x14, x15, x16, x17, alloc_dir, backv, back_back, back_few, next_back, load_d, foot_call, foot_load, idOf, back_limF, next_limF, meets_cons, mem_cons, mem_nil, nbeq_dec, ble_dec, deqn_f, dlen_f, dltn_f]
    | false =>
      rw [if_neg (by simp)] at hM
      subst hM
      rw [← hD] at hDr
      subst hDr
      by_cases h6 : t1 = 6
      · by_cases h0 : 0 < n
        · obtain ⟨c0, hc0⟩ : ∃ c, cs[0]? = some c := ⟨_, List.getElem?_eq_getElem (by omega)⟩
          obtain ⟨v00, hv00⟩ : ∃ v, vs[0]? = some v := ⟨_, List.getElem?_eq_getElem (by rw [cD.len]; omega)⟩
          obtain ⟨p0, l0, hpl⟩ : ∃ p l, c0 = p :: l := by
            cases hcc : c0 with
            | nil => exact absurd hcc (cD.at_ 0 v00 c0 hv00 hc0).2
            | cons p l => exact ⟨p, l, rfl⟩
          subst hpl
          obtain ⟨qw, q, v0, P, k1, k2, k3, k4, k5, k6, k7, k8, k9⟩ := poke cD hc0 far
          have sP : Stands P w (cs.set 0 (⟨far, p0.y, p0.on⟩ :: l0)) Mi M 1 ax ay bx by_ cx cy := by
            have hfl := cD.few
            have hne : ∀ i, i < 5 → (P[i]?).join = (A[i]?).join := fun i hi => by rw [k8 i (by omega), d0 i hi]
            refine ⟨outg_good k6, lookC_own k6 (by rw [List.length_set]; exact cD.len) k7, ⟨by rw [List.length_set]; exact hfl.1, fun c hc => ?_⟩, by rw [k8 Mi (fun e => by rw [← e, dM] at k5; exact aff_pl k5.2)]; exact dM, by rw [hne _ (by omega), m2], by rw [hne _ (by omega), m3], by rw [hne _ (by omega), m4]⟩
            · rcases List.mem_or_eq_of_mem_set hc with h | rfl
              · exact hfl.2 c h
              · have := hfl.2 (p0 :: l0) (List.mem_of_getElem? hc0); simpa using this
          simp (disch := omega) [cM, al1, al2, al3, al4, c1, l1, cr, alD, cR, stD, hlw, bin_rem, ← ht1, h6, h0, dltn_t, dlt_f, dlt_t, k1, k2, k3, k4, load_d, foot_call, foot_load, idOf, back_limF, next_limF]
          obtain ⟨u, t, E, u2, F, G, H, T⟩ := sP.tail hS hR hE hV hW
          obtain ⟨x1, x2, x3, x4, x5, x6, x7, x8, x9, x10, x11, x12, x13, x14, x15, x16, x17, x18, x19⟩ := T
          simp (disch := omega) [hK, x1, x2, x3, x4, x5, x6, x7, x8, x9, x10, x11, x12, x13, x14, x15, x16, x17, alloc_dir, backv, back_back, back_few, next_back, load_d, foot_call, foot_load, idOf, back_limF, next_limF, meets_cons, mem_cons, mem_nil, nbeq_dec, ble_dec, deqn_f, dlen_f, dltn_f]
        · have hz : n = 0 := by omega
          simp (disch := omega) [cM, al1, al2, al3, al4, c1, l1, cr, alD, cR, stD, hlw, bin_rem, ← ht1, h6, hz, dltn_f, dlt_f, dlt_t, load_d, foot_call, foot_load, idOf, back_limF, next_limF]
          obtain ⟨u, t, E, u2, F, G, H, T⟩ := sD.tail hS hR hE hV hW
          obtain ⟨x1, x2, x3, x4, x5, x6, x7, x8, x9, x10, x11, x12, x13, x14, x15, x16, x17, x18, x19⟩ := T
          simp (disch := omega) [hK, x1, x2, x3, x4, x5, x6, x7, x8, x9, x10, x11, x12, x13, x14, x15, x16, x17, alloc_dir, backv, back_back, back_few, next_back, load_d, foot_call, foot_load, idOf, back_limF, next_limF, meets_cons, mem_cons, mem_nil, nbeq_dec, ble_dec, deqn_f, dlen_f, dltn_f]
      · have e6 : decide (t1 = 6) = false := decide_eq_false h6
        simp (disch := omega) [cM, al1, al2, al3, al4, c1, l1, cr, alD, cR, stD, hlw, bin_rem, ← ht1, e6, dlt_f, dlt_t, load_d, foot_call, foot_load, idOf, back_limF, next_limF]
        obtain ⟨u, t, E, u2, F, G, H, T⟩ := sD.tail hS hR hE hV hW
        obtain ⟨x1, x2, x3, x4, x5, x6, x7, x8, x9, x10, x11, x12, x13, x14, x15, x16, x17, x18, x19⟩ := T
        simp (disch := omega) [hK, x1, x2, x3, x4, x5, x6, x7, x8, x9, x10, x11, x12, x13, x14, x15, x16, x17, alloc_dir, backv, back_back, back_few, next_back, load_d, foot_call, foot_load, idOf, back_limF, next_limF, meets_cons, mem_cons, mem_nil, nbeq_dec, ble_dec, deqn_f, dlen_f, dltn_f]

end Go.Vabs.Km
