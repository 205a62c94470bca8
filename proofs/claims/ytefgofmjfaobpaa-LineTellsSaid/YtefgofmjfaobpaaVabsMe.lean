/-
  LineTells: the run.
-/
import Derived.Test.YtefgofmjfaobpaaVabsMd
import Derived.Test.YtefgofmjfaobpaaVabsFy
namespace Go.Vabs.Ln
set_option linter.unusedVariables false
set_option linter.unusedSimpArgs false
set_option maxRecDepth 10000
attribute [local simp] wp_skip wp_ret wp_exit wp_reg wp_seq wp_cond wp_block thenQ_normal thenQ_ret thenQ_exit blockQ_normal blockQ_ret blockQ_exit wpCond_true wpCond_false wpOps_nil wpVal_some wpGuard_true wpGuard_false wpOps_guard wpOps_cons
  put_at put_no ev_c ev_slot posEq_h posEq_o posEq_i posEq_ho posEq_hi posEq_oh posEq_ih posEq_oi posEq_io sel_true sel_false
  okv_some step_mv step_call step_pick pickV_bool step_bin bin_add bin_sub bin_mul bin_eql bin_neq bin_lss bin_leq bin_gtr bin_geq bin_eqb bin_neb bin_eqs bin_nes step_un un_not un_neg step_len len_slice len_str len_const step_extract extractV nth step_convInt conv_int step_convStr step_slice step_idxAddr natOf_nat step_load step_index step_field step_fieldAddr step_build step_minmax
  step_alloc step_bslice bsliceV_some newV_some step_store step_append boolIs_b boolIs_t finQ_ret finQ_normal ressE_nil ressE_cons resE_tmp consO_some initE_nil initE_cons pos_0 pos_1 pos_2 pos_3 pos_4 pos_5 pos_6 pos_7 pos_8 plain_bool plain_int plain_str plain_ptr plain_slice plain_map plain_agg plain_func plain_nilFunc V.undef oneOf_one oneOf_two ble_self bin_agg eqV_parts eqV_int eqV_bool eqV_str eqParts_nil eqParts_cons eqC_true eqC_false eqO_some eqR_eql eqR_neq
attribute [local simp] wp_dreg wpDs_nil wpDs_cons wantedE_none wantedE_some wpDGuard_true wpDGuard_lim wpDGuard_false wpDLim_true wpDVal_free wpDVal_lim back_limited next_limited foot_convStr foot_load foot_store foot_alloc foot_box foot_bslice foot_append foot_call okAll_nil okAll_cons pastsOf nthP
  wpRounds_succ roundQ_normal roundQ_ret roundQ_exit cells_int cells_bool cells_str cells_agg cells_slice few_alloc lawOut_nil lawOut_one step_box newV alloc_dir backv back_back back_few next_back few_next resE_cell first_fewC grow_none grow_some cellsAt_zero cellsAt_succ ownAt_zero ownAt_succ loadC_some storeC_some firstC_some growC_some load_d convStr_d convStr_d0 store_d append_d2 append_d1 first_d2 first_d1 cut takeN nth splice over idOf okPair_dd okPair_dc okPair_cd okPair_cc anyIn_nil anyIn_same meets_nil meets_nil' meets_cons mem_nil mem_cons nbeq_dec blt_dec ble_dec fill repN firstNo lenOf fieldAddrV fieldV part natOf_zero natOf_one
open Go.Vabs.Ph Go.Vabs.Fl
theorem eq_stop {x : Int} {p : Px} : eqV (.parts [(0, (1, (false, .int))), (1, (4, (true, .parts [(0, (1, (false, .int))), (1, (1, (false, .int))), (2, (1, (false, .int))), (3, (1, (false, .int)))])))]) (.agg [.int .i64 x, .int .i64 p.r, .int .i64 p.g, .int .i64 p.b, .int .i64 p.a]) (.agg [.int .i64 x, .int .i64 p.r, .int .i64 p.g, .int .i64 p.b, .int .i64 p.a]) = some true := by
  simp [eqV_parts, eqParts_cons, eqParts_nil, eqC_true, eqO_some, eqV_int]
theorem bin_neqS {s : Stop} (h : goodS s) : binV .neq (.val (.parts [(0, (1, (false, .int))), (1, (4, (true, .parts [(0, (1, (false, .int))), (1, (1, (false, .int))), (2, (1, (false, .int))), (3, (1, (false, .int)))])))])) (.agg (encS s)) (.agg (encS s)) = some (.bool false) := by
  have h1 := (good_px h).1
  unfold Stop.v Px.v at h1
  unfold encS
  injection h1 with h1
  rw [h1, bin_agg, eq_stop]
  rfl
/-- What the law finds in memory. -/
structure Told (call : CallT) (nb nrb na nra : Nat) (os : List (Option AObj)) (e : Int) (S : List Stop) (sa sb : V) : Prop where
  bent : ∀ t, call nb [.agg [.int .i64 e, sa], .int .i64 t] (few os) = some (.int .i64 (bentL e S t), few os)
  rbent : ∀ t, call nrb [.int .i64 e, sb, .int .i64 t] (few os) = some (.int .i64 (bentL e S t), few os)
  at1 : ∀ t, call na [.agg [.int .i64 e, sa], .int .i64 t] (few os) = some ((atP e S t).v, few os)
  at2 : ∀ t, call nra [.int .i64 e, sb, .int .i64 t] (few os) = some ((atP e S t).v, few os)
  ids : ∃ ja jb, ∀ q s, S[q]? = some s → idxAddrV (.slice 5) sa (some q) = some (.ptr (some (ja, q * 5))) ∧ idxAddrV (.slice 5) sb (some q) = some (.ptr (some (jb, q * 5))) ∧ loadV (few os) true 5 (.ptr (some (ja, q * 5))) = some (.agg (encS s)) ∧ loadV (few os) true 5 (.ptr (some (jb, q * 5))) = some (.agg (encS s))
theorem told_nil {call : CallT} {nb nrb na nra : Nat} (hb : BentF call nb) (hrb : RBentF call nrb) (ha : AtF call na) (hra : RAtF call nra) {os : List (Option AObj)} {e : Int} : Told call nb nrb na nra os e [] (.slice none 0 0 0 true) (.slice none 0 0 0 true) where
  bent := fun t => hb.none _ e t
  rbent := fun t => hrb.none _ _ e t rfl rfl rfl
  at1 := fun t => ha.full _ _ e [] t rfl rfl rfl (by decide) (fun s hs => by cases hs) trivial
  at2 := fun t => hra.full _ _ e [] t rfl rfl rfl (by decide) (fun s hs => by cases hs) trivial
  ids := ⟨0, 0, fun q s hs => by simp at hs⟩
theorem told_some {call : CallT} {nb nrb na nra : Nat} (hb : BentF call nb) (hrb : RBentF call nrb) (ha : AtF call na) (hra : RAtF call nra) {os : List (Option AObj)} {e : Int} {S : List Stop} {ja jb x : Nat} (hx : S.length = x) (h1 : 1 ≤ x) (h20 : x < 20) (hg : ∀ s ∈ S, goodS s) (hfl : firstLast S) (hok : ∀ s ∈ S, s.ok)
    (ma : (os[ja]?).join = some (.cells true (enc S))) (mb : (os[jb]?).join = some (.cells true (enc S))) : Told call nb nrb na nra os e S (.slice (some (ja, 0)) 5 x x false) (.slice (some (jb, 0)) 5 x x false) := by
  have hf : (enc S).all V.flat = true := List.all_eq_true.2 (enc_flat hok)
  have fa : flatAt (few os) 5 (.slice (some (ja, 0)) 5 x x false) = some (enc S) := flatAt_few ma (Nat.le_refl _) (by rw [enc_len]; omega) (by rw [List.drop_zero, List.take_of_length_le (by rw [enc_len]; omega)]) hf
  have fb : flatAt (few os) 5 (.slice (some (jb, 0)) 5 x x false) = some (enc S) := flatAt_few mb (Nat.le_refl _) (by rw [enc_len]; omega) (by rw [List.drop_zero, List.take_of_length_le (by rw [enc_len]; omega)]) hf
  obtain ⟨a, ha0⟩ : ∃ a, S[0]? = some a := ⟨_, List.getElem?_eq_getElem (by omega)⟩
  obtain ⟨b, hb0⟩ : ∃ b, S[S.length - 1]? = some b := ⟨_, List.getElem?_eq_getElem (by omega)⟩
  have hab : a.off ≤ b.off := by
    unfold firstLast at hfl
    rw [ha0, hb0] at hfl
    exact hfl
  have hbl : ∀ t, bentL e S t = bentV e a.off (b.off - a.off) (clip t) := fun t => by
    unfold bentL
    rw [ha0, hb0]
  have ina := (hg a (List.mem_of_getElem? ha0)).2
  have inb := (hg b (List.mem_of_getElem? hb0)).2
  exact {
    bent := fun t => by rw [hbl]; exact hb.full _ _ e S a b t fa (by rw [hx]; rfl) rfl ha0 hb0 ina inb hab (by omega)
    rbent := fun t => by rw [hbl]; exact hrb.full _ _ e S a b t fb (by rw [hx]; rfl) rfl ha0 hb0 ina inb hab (by omega)
    at1 := fun t => ha.full _ _ e S t fa (by rw [hx]; rfl) rfl (by omega) hg hfl
    at2 := fun t => hra.full _ _ e S t fb (by rw [hx]; rfl) rfl (by omega) hg hfl
    ids := ⟨ja, jb, fun q s hs => by
      have hq : q < x := by rw [← hx]; exact (List.getElem?_eq_some_iff.1 hs).1
      refine ⟨(idxAddr_slice (i := ja) (o := 0) (k := q) (n := x) hq).trans ?_, (idxAddr_slice (i := jb) (o := 0) (k := q) (n := x) hq).trans ?_, load_stop ma hs, load_stop mb hs⟩ <;> rw [Nat.zero_add]⟩ }
set_option maxHeartbeats 8000000 in
theorem tells_run {call : CallT} {npk ns nn nso nk nu nb nrb na nra : Nat} (hp : PickF call npk) (hst : StopsF call ns) (hnew : NewF call nn) (hso : SortedF call nso) (hkn : ∀ st, call nk [] st = some (.bool true, st)) (hnum : NumHF call nu) (hb : BentF call nb) (hrb : RBentF call nrb) (ha : AtF call na) (hra : RAtF call nra)
    {nil nil' near : Bool} {zs ts : List Int} {ext : Int} (hext : inI ext) (h1 : nil = true → zs = []) (h1' : nil' = true → ts = []) (h2 : ∀ n ∈ zs, inI n) (h2' : ∀ n ∈ ts, inI n) (h3 : zs.length ≤ 140737488351232) (h3' : ts.length ≤ 140737488351232) :
    ∃ s1, enterF call 40 [.int .i64 ext, slAt nil 0 zs.length, .bool near, slAt nil' 1 ts.length] (few [objOf nil (intsV .i64 zs), objOf nil' (intsV .i64 ts)]) (Tells_c npk ns nn nso nk nu nb nrb na nra) = some (.bool true, s1) := by
  obtain ⟨m, hm⟩ : ∃ m, m = ts.length := ⟨_, rfl⟩
  have hp5 := fun st => hp ext 5 st (by omega) (by omega)
  have hpb := pickI_lt (n := ext) (m := 5) (by omega)
  obtain ⟨e, he⟩ : ∃ e, e = pickI ext 5 - 1 := ⟨_, rfl⟩
  generalize pickI ext 5 = pe at hp5 hpb he
  have he2 : pe - 1 = e := he.symm
  have hLl : (stopsL near zs).length ≤ 12 := by
    unfold stopsL
    rw [List.length_map]
    exact pairs_le zs 12
  have hok : ∀ s ∈ stopsL near zs, s.ok := fun s hs => by
    unfold stopsL at hs
    simp only [List.mem_map] at hs
    obtain ⟨p, _, rfl⟩ := hs
    exact stopI_ok near p
  have hgo : ∀ s ∈ stopsL near zs, ∃ p : Px, s.v = p.v ∧ p.ok := fun s hs => by
    unfold stopsL at hs
    simp only [List.mem_map] at hs
    obtain ⟨p, _, rfl⟩ := hs
    exact ⟨colV p.2, rfl, colV_ok p.2⟩
  have hs0 : call ns [slAt nil 0 zs.length, .bool near] (few [objOf nil (intsV .i64 zs), objOf nil' (intsV .i64 ts)]) = lawOut (some (madeA (stopsL near zs))) (few [objOf nil (intsV .i64 zs), objOf nil' (intsV .i64 ts)]) := by
    refine hst _ _ near zs ?_ (by rfl) (by cases nil <;> rfl) h2 h3
    cases nil with
    | true =>
      have := h1 rfl
      subst this
      rfl
    | false =>
      refine flatAt_few (own := false) (cs := intsV .i64 zs) rfl (Nat.le_refl _) (by rw [intsV_len]; omega) (by rw [List.drop_zero, List.take_of_length_le (by rw [intsV_len]; omega)]) (List.all_eq_true.2 fun v hv => ?_)
      unfold intsV at hv
      simp only [List.mem_map] at hv
      obtain ⟨n, _, rfl⟩ := hv
      rfl
  have htx : ∀ q, q < m → idxAddrV (.slice 1) (slAt nil' 1 m) (some q) = some (.ptr (some (1, q))) := fun q hq => by
    cases nil' with
    | true => have := h1' rfl; rw [this] at hm; simp at hm; omega
    | false =>
      refine (idxAddr_slice (i := 1) (o := 0) (k := q) (n := m) hq).trans ?_
      rw [Nat.zero_add, Nat.mul_one]
  have htl : ∀ (os : List (Option AObj)) q w, os[1]? = some (objOf nil' (intsV .i64 ts)) → ts[q]? = some w → loadV (few os) false 1 (.ptr (some (1, q))) = some (.int .i64 w) := fun os q w ho hq => by
    cases nil' with
    | true =>
      have := h1' rfl
      rw [this] at hq; simp at hq
    | false =>
      refine (load_few (own := false) (cs := intsV .i64 ts) (by rw [ho]; rfl)).trans ?_
      rw [intsV_at, hq]
      rfl
  have htlen : ∀ st, lenV st .slice (slAt nil' 1 m) = some (.int .i64 (m : Int)) := fun st => rfl
  rw [← hm]
  generalize slAt nil 0 zs.length = lv at hs0 ⊢
  generalize slAt nil' 1 m = tv at htx htlen ⊢
  generalize hoo0 : objOf nil (intsV .i64 zs) = o0 at hs0 ⊢
  generalize objOf nil' (intsV .i64 ts) = o1 at hs0 htl ⊢
  generalize stopsL near zs = L at hs0 hLl hok hgo
  have hsok : ∀ s ∈ srt L, inB s.off ∧ s.ok := srt_in hok
  have hsg : ∀ s ∈ srt L, goodS s := fun s hs => by
    obtain ⟨t, ht, rfl⟩ := srt_mem hs
    obtain ⟨p, h1, h2⟩ := hgo t ht
    exact good_v (by rw [clipS_v]; exact h1) h2 (hsok _ hs).1
  have key : ∃ s sa sb os1 os2 os3 x, call ns [lv, .bool near] (few [o0, o1]) = some (s, few os1) ∧ call nn [.int .i64 e, s] (few os1) = some (.agg [.int .i64 e, sa], few os2) ∧
      call nso [s] (few (os2 ++ [some (.cells true [.int .i64 e, sa])])) = some (sb, few os3) ∧ (∀ st, lenV st .slice sa = some (.int .i64 ((x : Nat) : Int))) ∧ (∀ st, lenV st .slice sb = some (.int .i64 ((x : Nat) : Int))) ∧ (srt L).length = x ∧ os3[1]? = some o1 ∧
      loadV (few os3) true 2 (.ptr (some (os2.length, 0))) = some (.agg [.int .i64 e, sa]) ∧ loadV (few os3) false 1 (.ptr (some (os2.length, 0))) = some (.int .i64 e) ∧ loadV (few os3) false 1 (.ptr (some (os2.length, 1))) = some sa ∧ Told call nb nrb na nra os3 e (srt L) sa sb := by
    by_cases hL : L = []
    · subst hL
      refine ⟨.slice none 0 0 0 true, .slice none 0 0 0 true, .slice none 0 0 0 true, [o0, o1], [o0, o1], [o0, o1, some (.cells true [.int .i64 e, .slice none 0 0 0 true])], 0, hs0, hnew _ _ e [] rfl rfl (by decide) rfl, hso _ _ [] rfl rfl (by decide) rfl, fun st => rfl, fun st => rfl, rfl, rfl, (by rw [load_fewC, cellsAt_eq]; rfl), (by rw [load_fewC, cellsAt_eq]; rfl), (by rw [load_fewC, cellsAt_eq]; rfl), told_nil hb hrb ha hra⟩
    · obtain ⟨x, hx⟩ : ∃ x, x = L.length := ⟨_, rfl⟩
      have hx0 : 1 ≤ x := by
        have : L.length ≠ 0 := fun h => hL (List.length_eq_zero_iff.1 h)
        omega
      have hSl : (srt L).length = x := by rw [srt_len, hx]
      have hfL : (enc L).all V.flat = true := List.all_eq_true.2 (enc_flat hok)
      have heL : (enc L).length = x * 5 := by rw [enc_len]; omega
      have hne : srt L ≠ [] := fun h => by rw [h] at hSl; have : 0 = x := hSl; omega
      refine ⟨.slice (some (2, 0)) 5 x x false, .slice (some (3, 0)) 5 x x false, .slice (some (5, 0)) 5 x x false, [o0, o1, some (.cells true (enc L))], [o0, o1, some (.cells true (enc L)), some (.cells true (enc (srt L)))], [o0, o1, some (.cells true (enc L)), some (.cells true (enc (srt L))), some (.cells true [.int .i64 e, .slice (some (3, 0)) 5 x x false]), some (.cells true (enc (srt L)))], x, ?_, ?_, ?_, fun st => rfl, fun st => rfl, hSl, rfl, (by rw [load_fewC, cellsAt_eq]; rfl), (by rw [load_fewC, cellsAt_eq]; rfl), (by rw [load_fewC, cellsAt_eq]; rfl), told_some hb hrb ha hra hSl hx0 (by omega) hsg srt_firstLast (fun s hs => (hsok s hs).2) rfl rfl⟩
      · rw [hs0]
        unfold madeA
        rw [if_neg hL, ← hx]
        simp
      · rw [hnew _ _ e L (flatAt_few (own := true) (cs := enc L) rfl (Nat.le_refl _) (by omega) (by rw [List.drop_zero, List.take_of_length_le (by omega)]) hfL) (by rw [← hx]; rfl) (by omega) rfl]
        unfold newA
        rw [if_neg (show ¬ isNil (.slice (some (2, 0)) 5 x x false) = true from fun h : false = true => by cases h), ← hx]
        simp
      · rw [hso _ _ L (flatAt_few (own := true) (cs := enc L) rfl (Nat.le_refl _) (by omega) (by rw [List.drop_zero, List.take_of_length_le (by omega)]) hfL) (by rw [← hx]; rfl) (by omega) rfl]
        unfold madeA
        rw [if_neg hne, hSl]
        simp
  obtain ⟨s, sa, sb, os1, os2, os3, x, k1, k2, k3, k4, k5, k6, k7, k8, k9, k10, told⟩ := key
  obtain ⟨ja, jb, hids⟩ := told.ids
  have b1 := told.bent
  have b2 := told.rbent
  have b3 := told.at1
  have b4 := told.at2
  have hx12 : x ≤ 12 := by rw [← k6, srt_len]; exact hLl
  have ns1 : ∀ v1 v2, storeV (few (os2 ++ [some (.cells true [.int .i64 0, .slice none 0 0 0 true])])) 2 (.ptr (some (os2.length, 0))) (some [v1, v2]) = some (V.undef, few (os2 ++ [some (.cells true [v1, v2])])) := fun v1 v2 => store_new (t := []) rfl rfl
  refine enter_ex ?_
  simp (disch := omega) [hp5, he2, wrap_i, k1, k2, k3, k4, k5, k8, k9, k10, hkn, ns1, deq_t, deqn_t]
  refine wp_loop (fun k s st => ∃ r : Nat, r + k = x ∧ st = few os3 ∧ s .h = .int .i64 e ∧ s (.i .h) = .bool near ∧ s (.o (.o .h)) = tv ∧ s (.i (.i (.o .h))) = .ptr (some (os2.length, 0)) ∧ s (.o (.o (.i .h))) = sb ∧ s (.o (.o (.i (.i (.o .h))))) = .int .i64 (x : Int) ∧ s (.i (.o (.i (.i (.o .h))))) = .int .i64 (r : Int)) x ?_ (by omega) ?_
  · refine ⟨0, by omega, rfl, ?_, ?_, ?_, ?_, ?_, ?_, ?_⟩ <;> simp
  · rintro k s st ⟨r, hr, rfl, g1, g2, g3, g4, g5, g6, g7⟩
    cases k with
    | zero =>
      have hrx : r = x := by omega
      subst hrx
      simp (disch := omega) [g1, g2, g3, g4, g5, g6, g7, dlt_f, dltn_f]
      refine wp_loop (fun k s st => ∃ r : Nat, r + k = min m 30 ∧ st = few os3 ∧ s .h = .int .i64 e ∧ s (.i .h) = .bool near ∧ s (.o (.o .h)) = tv ∧ s (.i (.i (.o .h))) = .ptr (some (os2.length, 0)) ∧ s (.o (.o (.i .h))) = sb ∧ s (.o (.i (.i .h))) = .int .i64 (r : Int)) (min m 30) ?_ (by omega) ?_
      · refine ⟨0, by omega, rfl, ?_, ?_, ?_, ?_, ?_, ?_⟩ <;> simp [g1, g2, g3, g4, g5]
      · clear g1 g2 g3 g4 g5 g6 g7
        rintro k s st ⟨r, hr, rfl, g1, g2, g3, g4, g5, g6⟩
        cases k with
        | zero =>
          by_cases hlt : r < m
          · simp (disch := omega) [g1, g2, g3, g4, g5, g6, htlen, dlt_t, dlt_f, dltn_t, dltn_f]
          · simp (disch := omega) [g1, g2, g3, g4, g5, g6, htlen, dlt_t, dlt_f, dltn_t, dltn_f]
        | succ k =>
          have hlt : r < m := by omega
          have hlt30 : r < 30 := by omega
          obtain ⟨w, hw⟩ : ∃ w, ts[r]? = some w := ⟨_, List.getElem?_eq_getElem (by omega)⟩
          have inw := h2' w (List.mem_of_getElem? hw)
          unfold inI at inw
          have it := htx r hlt
          have lt := htl os3 r w k7 hw
          have nw := fun st => hnum w st inw
          have pw := fun st => hp w 30 st (by omega) (by omega)
          have pwb := pickI_lt (n := w) (m := 30) (by omega)
          generalize numI w = nn1 at nw
          generalize pickI w 30 = pw1 at pw pwb
          cases near with
          | false =>
            simp (disch := omega) [g1, g2, g3, g4, g5, g6, htlen, dlt_t, dltn_t, hlt, hlt30, natOf_nat, it, lt, nw, k8, b1, b2, b3, b4, bin_neqP, wrap_i]
            exact ⟨k, by omega, r + 1, by omega, by omega⟩
          | true =>
            simp (disch := omega) [g1, g2, g3, g4, g5, g6, htlen, dlt_t, dltn_t, hlt, hlt30, natOf_nat, it, lt, nw, pw, k8, b1, b2, b3, b4, bin_neqP, wrap_i]
            exact ⟨k, by omega, r + 1, by omega, by omega⟩
    | succ k =>
      have hlt : r < x := by omega
      obtain ⟨y, hy⟩ : ∃ y, (srt L)[r]? = some y := ⟨_, List.getElem?_eq_getElem (by omega)⟩
      obtain ⟨i1, i2, l1, l2⟩ := hids r y hy
      have hne := bin_neqS (hsg y (List.mem_of_getElem? hy))
      simp (disch := omega) [g1, g2, g3, g4, g5, g6, g7, dlt_t, dltn_t, hlt, natOf_nat, k10, i1, i2, l1, l2, hne, wrap_i]
      exact ⟨k, by omega, r + 1, by omega, by omega⟩
/-- A law of two slices of whole numbers, wherever they stand. -/
theorem law_twoP {P : Program} {call : CallT} (h : Sound P call) {g : Nat} {W : World} {k k' : IntKind} {a a' : Option Addr} {len len' cap cap' : Nat} {zs zs' : List Int} (hrow : IsRow k W a len cap zs) (hrow' : IsRow k' W a' len' cap' zs') (mk : V → V → List V) {args' : List Value}
    (hargs : ∀ (ι : Map) u v, R ι u (Value.slice a len cap) → R ι v (Value.slice a' len' cap') → All2 (R ι) (mk u v) args')
    (hrun : ∀ nil nil' ns ns', (nil = true → ns = []) → (nil' = true → ns' = []) → (∀ n ∈ ns, (Lit.int k n).wf = true) → (∀ n ∈ ns', (Lit.int k' n).wf = true) → ns.length = len → ns'.length = len' →
      ∃ s1, call g (mk (slAt nil 0 len) (slAt nil' 1 len')) (few [objOf nil (intsV k ns), objOf nil' (intsV k' ns')]) = some (.bool true, s1)) :
    Calls P g args'.toArray W fun e W' => e = .returned (.bool true) ∧ Go.RowKit.Below W.heap.size W W' := by
  obtain ⟨nil, ns, e, l1, n1, w1, b1, r1⟩ := row_obj hrow
  obtain ⟨nil', ns', e', l2, n2, w2, b2, r2⟩ := row_obj hrow'
  obtain ⟨s1, hs⟩ := hrun nil nil' ns ns' n1 n2 w1 w2 l1 l2
  let ι : Map := fun i => if i = 0 then (if nil then none else some e) else if i = 1 then (if nil' then none else some e') else none
  refine h.law hs (few_neat _) (ι := ι) ⟨Nat.le_refl _, ?_, ?_⟩ (fun i hi => ?_) (hargs ι _ _ (r1 ι 0 (fun hn => by show (if (0 : Nat) = 0 then _ else _) = _; rw [if_pos rfl, hn]; rfl)) (r2 ι 1 (fun hn => by show (if (1 : Nat) = 0 then _ else if (1 : Nat) = 1 then _ else _) = _; rw [if_neg (by decide), if_pos rfl, hn]; rfl)))
  · intro i o hi
    rw [few_heap] at hi
    match i, hi with
    | 0, hi =>
      cases nil with
      | true => cases hi
      | false =>
        cases hi
        refine ⟨e, rfl, (b1 rfl).1, (b1 rfl).1, fun j v hv => ?_⟩
        rw [intsV_at, Option.map_eq_some_iff] at hv
        obtain ⟨n, hn, rfl⟩ := hv
        exact ⟨_, (b1 rfl).2 j n hn, rfl⟩
    | 1, hi =>
      cases nil' with
      | true => cases hi
      | false =>
        cases hi
        refine ⟨e', rfl, (b2 rfl).1, (b2 rfl).1, fun j v hv => ?_⟩
        rw [intsV_at, Option.map_eq_some_iff] at hv
        obtain ⟨n, hn, rfl⟩ := hv
        exact ⟨_, (b2 rfl).2 j n hn, rfl⟩
    | i + 2, hi => simp at hi
  · intro i j o o' e1 e2 hi hj ho
    exfalso
    rw [few_heap] at hi
    match i, hi with
    | 0, hi => cases nil <;> cases hi; cases ho
    | 1, hi => cases nil' <;> cases hi; cases ho
    | i + 2, hi => simp at hi
  · have hi : 2 ≤ i := hi
    show (if i = 0 then _ else if i = 1 then _ else none) = none
    rw [if_neg (by omega), if_neg (by omega)]

end Go.Vabs.Ln
