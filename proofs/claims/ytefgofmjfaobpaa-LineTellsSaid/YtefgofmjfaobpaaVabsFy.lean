/-
  LineColors: the run.
-/
import Derived.Test.YtefgofmjfaobpaaVabsFx
namespace Go.Vabs.Ln
set_option linter.unusedVariables false
set_option linter.unusedSimpArgs false
set_option maxRecDepth 10000
attribute [local simp] wp_skip wp_ret wp_exit wp_reg wp_seq wp_cond wp_block thenQ_normal thenQ_ret thenQ_exit blockQ_normal blockQ_ret blockQ_exit wpCond_true wpCond_false wpOps_nil wpVal_some wpGuard_true wpGuard_false wpOps_guard wpOps_cons
  put_at put_no ev_c ev_slot posEq_h posEq_o posEq_i posEq_ho posEq_hi posEq_oh posEq_ih posEq_oi posEq_io sel_true sel_false
  okv_some step_mv step_call step_pick pickV_bool step_bin bin_add bin_sub bin_mul bin_eql bin_neq bin_lss bin_leq bin_gtr bin_geq bin_eqb bin_neb bin_eqs bin_nes step_un un_not un_neg step_len len_slice len_str len_const step_extract extractV nth step_convInt conv_int step_convStr step_slice step_idxAddr natOf_nat step_load step_index step_field step_fieldAddr step_build step_minmax
  step_alloc step_bslice bsliceV_some newV_some step_store step_append boolIs_b boolIs_t finQ_ret finQ_normal ressE_nil ressE_cons resE_tmp consO_some initE_nil initE_cons pos_0 pos_1 pos_2 pos_3 pos_4 pos_5 pos_6 pos_7 pos_8 plain_bool plain_int plain_str plain_ptr plain_slice plain_map plain_agg plain_func plain_nilFunc V.undef oneOf_one oneOf_two ble_self bin_agg eqV_parts eqV_int eqV_bool eqV_str eqParts_nil eqParts_cons eqC_true eqC_false eqO_some eqR_eql eqR_neq
attribute [local simp] wp_dreg wpDs_nil wpDs_cons wantedE_none wantedE_some wpDGuard_true wpDGuard_lim wpDGuard_false wpDLim_true wpDVal_free wpDVal_lim back_limited next_limited foot_convStr foot_load foot_store foot_alloc foot_box foot_bslice foot_append foot_call okAll_nil okAll_cons pastsOf nthP
  wpRounds_succ roundQ_normal roundQ_ret roundQ_exit cells_int cells_bool cells_str cells_agg cells_slice few_alloc lawOut_nil lawOut_one step_box newV alloc_dir backv back_back back_few next_back few_next resE_cell first_fewC grow_none grow_some cellsAt_zero cellsAt_succ ownAt_zero ownAt_succ loadC_some storeC_some firstC_some growC_some load_d convStr_d convStr_d0 store_d append_d2 append_d1 first_d2 first_d1 cut takeN nth splice over idOf okPair_dd okPair_dc okPair_cd okPair_cc anyIn_nil anyIn_same meets_nil meets_nil' meets_cons mem_nil mem_cons nbeq_dec blt_dec ble_dec fill repN firstNo lenOf fieldAddrV fieldV part natOf_zero natOf_one
open Go.Vabs.Ph Go.Vabs.Fl
section
variable {os t : List (Option AObj)} {x y : Option AObj} {i o n : Nat} {a : Bool} {cs vs : List V}
theorem load_new2 {own : Bool} : loadV (few (os ++ x :: y :: some (.cells own cs) :: t)) a n (.ptr (some (os.length + 2, o))) = loadC a n o (some cs) := by
  rw [load_fewC, cellsAt_eq, List.getElem?_append_right (by omega), show os.length + 2 - os.length = 2 from by omega]
  rfl
theorem set_app2 {z w : Option AObj} : (os ++ x :: y :: w :: t).set (os.length + 2) z = os ++ x :: y :: z :: t := by
  rw [List.set_append_right _ _ (by omega), show os.length + 2 - os.length = 2 from by omega]
  rfl
theorem store_new2 (h1 : vs.length = n) (h2 : cs.length = n) : storeV (few (os ++ x :: y :: some (.cells true cs) :: t)) n (.ptr (some (os.length + 2, 0))) (some vs) = some (V.undef, few (os ++ x :: y :: some (.cells true vs) :: t)) := by
  rw [store_fewC, ownAt_eq, List.getElem?_append_right (by omega), show os.length + 2 - os.length = 2 from by omega]
  show storeC _ n _ 0 vs (some cs) = _
  rw [storeC_some, if_pos h1, splice_all (by omega)]
  dsimp only
  rw [set_app2]
end
theorem srt_mem {l : List Stop} {s : Stop} (h : s ∈ srt l) : ∃ t ∈ l, s = clipS t := by
  have := sinks_mem _ _ _ h
  simp only [List.mem_map] at this
  obtain ⟨t, ht, rfl⟩ := this
  exact ⟨t, ht, rfl⟩
theorem clipS_v {t : Stop} : (clipS t).v = t.v := rfl
theorem color_v {call : CallT} {g : Nat} (h : ColorF call g) {n : Int} (hn : inI n) : ∀ st, call g [.int .i64 n] st = some ((colV n).v, st) := fun st => h n st hn
set_option maxHeartbeats 8000000 in
theorem colors_run {call : CallT} {ns nn nk na nr np nw nc nu : Nat} (hst : StopsF call ns) (hnew : NewF call nn) (hkn : ∀ st, call nk [] st = some (.bool true, st)) (hat : AtF call na) (hpre : PxF (fun p => p.pre.v) call nr) (hp : PickF call np) (hbw : BetwF call nw) (hcol : ColorF call nc) (hnum : NumHF call nu)
    {nil : Bool} {zs : List Int} {c t : Int} (h1 : nil = true → zs = []) (h2 : ∀ n ∈ zs, inI n) (h3 : zs.length ≤ 140737488351232) (hc : inI c) (ht : inI t) :
    ∃ s1, enterF call 22 [slAt nil 0 zs.length, .int .i64 c, .int .i64 t] (few [objOf nil (intsV .i64 zs)]) (Colors_c ns nn nk na nr np nw nc nu) = some (.bool true, s1) := by
  have hs0 : call ns [slAt nil 0 zs.length, .bool true] (few [objOf nil (intsV .i64 zs)]) = lawOut (some (madeA (stopsL true zs))) (few [objOf nil (intsV .i64 zs)]) :=
    hst _ _ true zs (flatAt_mem (nil := nil) (n := zs.length) (e := 1) (fun hn => ⟨by rw [h1 hn]; rfl, by rw [h1 hn]; rfl⟩) (by rw [intsV_len, Nat.mul_one]) (List.all_eq_true.2 fun v hv => by
      unfold intsV at hv
      simp only [List.mem_map] at hv
      obtain ⟨n, _, rfl⟩ := hv
      rfl)) (by rfl) (by cases nil <;> rfl) h2 h3
  have hnt := fun st => hnum t st ht
  have hcl := color_v hcol hc
  have hp3 := fun st => hp c 3 st (by omega) (by omega)
  have hcok := colV_ok c
  have hprc : ∀ st, call nr [(colV c).v] st = some ((colV c).pre.v, st) := fun st => hpre _ st hcok
  generalize numI t = NT at hnt
  generalize pickI c 3 = e3 at hp3
  generalize objOf nil (intsV .i64 zs) = o0 at hs0 ⊢
  generalize slAt nil 0 zs.length = sv at hs0 ⊢
  have hLl : (stopsL true zs).length ≤ 12 := by
    unfold stopsL
    rw [List.length_map]
    exact pairs_le zs 12
  have hok : ∀ s ∈ stopsL true zs, s.ok := fun s hs => by
    unfold stopsL at hs
    simp only [List.mem_map] at hs
    obtain ⟨p, _, rfl⟩ := hs
    exact stopI_ok true p
  have hgo : ∀ s ∈ stopsL true zs, ∃ p : Px, s.v = p.v ∧ p.ok := fun s hs => by
    unfold stopsL at hs
    simp only [List.mem_map] at hs
    obtain ⟨p, _, rfl⟩ := hs
    exact ⟨colV p.2, rfl, colV_ok p.2⟩
  generalize stopsL true zs = L at hs0 hLl hok hgo
  generalize hcc : colV c = P at hcl hcok hprc
  by_cases hL : L = []
  · subst hL
    have hs1 : call ns [sv, .bool true] (few [o0]) = some (.slice none 0 0 0 true, few [o0]) := hs0
    have hn1 : ∀ ext st, call nn [.int .i64 ext, .slice none 0 0 0 true] st = some (.agg [.int .i64 ext, .slice none 0 0 0 true], st) := fun ext st => hnew st _ ext [] rfl rfl (by decide) rfl
    refine enter_ex ?_
    simp (disch := omega) [wp_rounds, hs1, hn1, hkn, hp3, load_fewC, store_fewC]
  · obtain ⟨x, hx⟩ : ∃ x, x = L.length := ⟨_, rfl⟩
    have hx0 : 1 ≤ x := by
      have : L.length ≠ 0 := fun h => hL (List.length_eq_zero_iff.1 h)
      omega
    have hSl : (srt L).length = x := by rw [srt_len, hx]
    have hsok : ∀ s ∈ srt L, inB s.off ∧ s.ok := srt_in hok
    have hsg : ∀ s ∈ srt L, goodS s := fun s hs => by
      obtain ⟨t, ht, rfl⟩ := srt_mem hs
      obtain ⟨p, h1, h2⟩ := hgo t ht
      exact good_v (by rw [clipS_v]; exact h1) h2 (hsok _ hs).1
    have hfL : (enc L).all V.flat = true := List.all_eq_true.2 (enc_flat hok)
    have hfS : (enc (srt L)).all V.flat = true := List.all_eq_true.2 (enc_flat fun s hs => (hsok s hs).2)
    have heL : (enc L).length = x * 5 := by rw [enc_len]; omega
    have heS : (enc (srt L)).length = x * 5 := by rw [enc_len]; omega
    have hs1 : call ns [sv, .bool true] (few [o0]) = some (.slice (some (1, 0)) 5 x x false, few [o0, some (.cells true (enc L))]) := by
      rw [hs0]
      unfold madeA
      rw [if_neg hL, ← hx]
      simp
    have hn1 : ∀ ext, call nn [.int .i64 ext, .slice (some (1, 0)) 5 x x false] (few [o0, some (.cells true (enc L))]) = some (.agg [.int .i64 ext, .slice (some (2, 0)) 5 x x false], few [o0, some (.cells true (enc L)), some (.cells true (enc (srt L)))]) := fun ext => by
      rw [hnew _ _ ext L (flatAt_few (own := true) (cs := enc L) rfl (Nat.le_refl _) (by omega) (by rw [List.drop_zero, List.take_of_length_le (by omega)]) hfL) (by rw [← hx]; rfl) (by omega) rfl]
      unfold newA
      rw [if_neg (show ¬ isNil (.slice (some (1, 0)) 5 x x false) = true from fun h : false = true => by cases h), ← hx]
      simp
    have i2 : ∀ q, q < x → idxAddrV (.slice 5) (.slice (some (2, 0)) 5 x x false) (some q) = some (.ptr (some (2, q * 5))) := fun q hq => by
      refine (idxAddr_slice (i := 2) (o := 0) (k := q) (n := x) hq).trans ?_
      rw [Nat.zero_add]
    have i1 : ∀ q, q < x → idxAddrV (.slice 5) (.slice (some (1, 0)) 5 x x false) (some q) = some (.ptr (some (1, q * 5))) := fun q hq => by
      refine (idxAddr_slice (i := 1) (o := 0) (k := q) (n := x) hq).trans ?_
      rw [Nat.zero_add]
    refine enter_ex ?_
    simp (disch := omega) [hs1, hn1, hkn, load_fewC, store_fewC, deqn_t, deq_t]
    refine wp_loop (fun k s st => ∃ (r : Nat) (os : List (Option AObj)), r + k = x ∧ st = few os ∧ os[1]? = some (some (.cells true (enc L))) ∧ os[2]? = some (some (.cells true (enc (srt L)))) ∧ os[3]? = some (some (.cells true [.int .i64 0, .slice (some (2, 0)) 5 x x false])) ∧
      s (.o .h) = .int .i64 c ∧ s (.i .h) = .int .i64 t ∧ s (.o (.o (.o .h))) = .slice (some (1, 0)) 5 x x false ∧ s (.i (.o (.o .h))) = .ptr (some (3, 0)) ∧ s (.i (.o (.o (.o (.o .h))))) = .int .i64 (x : Int) ∧ s (.o (.i (.o (.o (.o .h))))) = .int .i64 (r : Int)) x ?_ (by omega) ?_
    · refine ⟨0, _, by omega, rfl, rfl, rfl, rfl, ?_, ?_, ?_, ?_, ?_, ?_⟩ <;> simp
    · rintro k s st ⟨r, os, hr, rfl, o1, o2, o3, g1, g2, g3, g4, g5, g6⟩
      have hos : 4 ≤ os.length := by
        have := (List.getElem?_eq_some_iff.1 o3).1
        omega
      have hosn : ¬ os = [] := fun h => by rw [h] at hos; simp at hos
      have j2 : (os[2]?).join = some (.cells true (enc (srt L))) := by rw [o2]; rfl
      have w3 : loadV (few os) true 2 (.ptr (some (3, 0))) = some (.agg [.int .i64 0, .slice (some (2, 0)) 5 x x false]) := by rw [load_fewC, cellsAt_eq, o3]; rfl
      have w31 : loadV (few os) false 1 (.ptr (some (3, 1))) = some (.slice (some (2, 0)) 5 x x false) := by rw [load_fewC, cellsAt_eq, o3]; rfl
      have hcolr : ∀ q s, (srt L)[q]? = some s → loadV (few os) true 4 (.ptr (some (2, q * 5 + 1))) = some ((pxD s).v) := fun q s hs => by
        rw [load_col j2 hs]
        exact congrArg some (good_px (hsg s (List.mem_of_getElem? hs))).1
      have hoff : ∀ q s, (srt L)[q]? = some s → loadV (few os) false 1 (.ptr (some (2, q * 5))) = some (.int .i64 s.off) := fun q s hs => load_off j2 hs
      have hfl : ∀ tl, flatAt (few (os ++ tl)) 5 (.slice (some (2, 0)) 5 x x false) = some (enc (srt L)) := fun tl =>
        flatAt_few (own := true) (cs := enc (srt L)) (by rw [List.getElem?_append_left (by omega)]; exact j2) (Nat.le_refl _) (by omega) (by rw [List.drop_zero, List.take_of_length_le (by omega)]) hfS
      cases k with
      | zero =>
        have hrx : r = x := by omega
        subst hrx
        simp (disch := omega) [g1, g2, g3, g4, g5, g6, dlt_f, dltn_f]
        refine wp_loop (fun k s st => ∃ (m : Nat) (os : List (Option AObj)), m + k = r ∧ st = few os ∧ os[1]? = some (some (.cells true (enc (reCs P m L)))) ∧
          s (.o .h) = .int .i64 c ∧ s (.i .h) = .int .i64 t ∧ s (.o (.o (.o .h))) = .slice (some (1, 0)) 5 r r false ∧ s (.o (.i (.o (.o (.o (.i (.o .h))))))) = .int .i64 (r : Int) ∧ s (.i (.i (.o (.o (.o (.i (.o .h))))))) = .int .i64 (m : Int)) r ?_ (by omega) ?_
        · refine ⟨0, os, by omega, rfl, o1, ?_, ?_, ?_, ?_, ?_⟩ <;> simp [g1, g2, g3]
        · clear g1 g2 g3 g4 g5 g6 w3 w31 hcolr hoff hfl j2 o1 o2 o3 hos hosn
          rintro k s st ⟨m, os, hm, rfl, o1, g1, g2, g3, g4, g5⟩
          have hos : 2 ≤ os.length := by
            have := (List.getElem?_eq_some_iff.1 o1).1
            omega
          have j1 : (os[1]?).join = some (.cells true (enc (reCs P m L))) := by rw [o1]; rfl
          cases k with
          | zero =>
            have hmr : m = r := by omega
            subst hmr
            have hall : reCs P m L = L.map (reC P) := by rw [hx]; exact reCs_all
            rw [hall] at o1 j1
            have hLn : (L.map (reC P)).length = m := by rw [List.length_map]; omega
            have hfL' : (enc (L.map (reC P))).all V.flat = true := List.all_eq_true.2 (enc_flat fun s hs => by
              simp only [List.mem_map] at hs
              obtain ⟨t, _, rfl⟩ := hs
              exact ⟨rfl, rfl, rfl, rfl⟩)
            have hSn : (srt (L.map (reC P))).length = m := by rw [srt_len, hLn]
            have hS1 : ∀ s ∈ srt (L.map (reC P)), s.v = P.v ∧ inB s.off ∧ s.ok := fun s hs => by
              have a1 := srt_in (l := L.map (reC P)) (fun s hs => by
                simp only [List.mem_map] at hs
                obtain ⟨t, _, rfl⟩ := hs
                exact ⟨rfl, rfl, rfl, rfl⟩) s hs
              obtain ⟨t, ht, rfl⟩ := srt_mem hs
              simp only [List.mem_map] at ht
              obtain ⟨t, _, rfl⟩ := ht
              exact ⟨rfl, a1⟩
            have hfS' : (enc (srt (L.map (reC P)))).all V.flat = true := List.all_eq_true.2 (enc_flat fun s hs => (hS1 s hs).2.2)
            have hn5 : call nn [.int .i64 e3, .slice (some (1, 0)) 5 m m false] (few os) = some (.agg [.int .i64 e3, .slice (some (os.length, 0)) 5 m m false], few (os ++ [some (.cells true (enc (srt (L.map (reC P)))))])) := by
              rw [hnew _ _ e3 (L.map (reC P)) (flatAt_few (own := true) (cs := enc (L.map (reC P))) j1 (Nat.le_refl _) (by rw [enc_len]; omega) (by rw [List.drop_zero, List.take_of_length_le (by rw [enc_len]; omega)]) hfL') (by rw [hLn]; rfl) (by omega) rfl]
              unfold newA
              rw [if_neg (show ¬ isNil (.slice (some (1, 0)) 5 m m false) = true from fun h : false = true => by cases h), hLn]
              simp
            have hat5 : ∀ B, call na [.agg [.int .i64 e3, .slice (some (os.length, 0)) 5 m m false], .int .i64 NT] (few (os ++ [some (.cells true (enc (srt (L.map (reC P))))), B])) = some (P.pre.v, few (os ++ [some (.cells true (enc (srt (L.map (reC P))))), B])) := fun B => by
              have hne : srt (L.map (reC P)) ≠ [] := fun h => by rw [h] at hSn; simp at hSn; omega
              rw [hat.full _ _ e3 (srt (L.map (reC P))) NT (flatAt_few (own := true) (cs := enc (srt (L.map (reC P)))) (by rw [List.getElem?_append_right (Nat.le_refl _), Nat.sub_self]; rfl) (Nat.le_refl _) (by rw [enc_len]; omega) (by rw [List.drop_zero, List.take_of_length_le (by rw [enc_len]; omega)]) hfS') (by rw [hSn]; rfl) rfl (by omega)
                (fun s hs => good_v (hS1 s hs).1 hcok (hS1 s hs).2.1) srt_firstLast, at_one hne hcok (fun s hs => pxD_v (hS1 s hs).1 hcok)]
            have ns1 : ∀ A v1 v2, storeV (few (os ++ [A, some (.cells true [.int .i64 0, .slice none 0 0 0 true])])) 2 (.ptr (some (os.length + 1, 0))) (some [v1, v2]) = some (V.undef, few (os ++ [A, some (.cells true [v1, v2])])) := fun A v1 v2 => store_new1 rfl rfl
            have nl1 : ∀ A v1 v2, loadV (few (os ++ [A, some (.cells true [v1, v2])])) true 2 (.ptr (some (os.length + 1, 0))) = some (.agg [v1, v2]) := fun A v1 v2 => load_new1
            simp (disch := omega) [g1, g2, g3, g4, g5, dlt_f, dltn_f, hp3, hn5, ns1, nl1, hat5, hcl, hprc, hnt, deqn_f, deq_f, bin_eqlP]
          | succ k =>
            have hlt : m < r := by omega
            obtain ⟨y, hy⟩ : ∃ y, L[m]? = some y := ⟨_, List.getElem?_eq_getElem (by omega)⟩
            have hyr : (reCs P m L)[m]? = some y := by rw [reCs_at (by omega)]; exact hy
            have st4 := store_col (p := P) j1 hyr
            rw [reCs_succ hy] at st4
            have im := i1 m hlt
            simp (disch := omega) [g1, g2, g3, g4, g5, dlt_t, dltn_t, hlt, hcl, natOf_nat, im, px_cells, st4, wrap_i]
            exact ⟨k, by omega, m + 1, by omega, _, rfl, by rw [List.getElem?_set, if_pos rfl, if_pos (by omega)], by omega⟩
      | succ k =>
        have hlt : r < x := by omega
        obtain ⟨a, ha⟩ : ∃ a, (srt L)[r]? = some a := ⟨_, List.getElem?_eq_getElem (by omega)⟩
        have hga := hsg a (List.mem_of_getElem? ha)
        have hpa := (good_px hga).2
        have ina := hga.2
        unfold inB at ina
        have ir := i2 r hlt
        have la := hoff r a ha
        have ca := hcolr r a ha
        have pa : ∀ st, call nr [(pxD a).v] st = some ((pxD a).pre.v, st) := fun st => hpre _ st hpa
        obtain ⟨r1, hr1⟩ : ∃ r1, r1 = r + 1 := ⟨_, rfl⟩
        have wr : wrapV .i64 ((r : Int) + 1) = (r1 : Int) := by rw [wrap_i (by omega) (by omega)]; omega
        have hatc : ∀ t, call na [.agg [.int .i64 0, .slice (some (2, 0)) 5 x x false], .int .i64 t] (limited .call [] (few os)) = some ((atP 0 (srt L) t).v, limited .call [] (few os)) := fun t =>
          hat.full _ _ 0 (srt L) t (by rw [flatAt_call0]; have := hfl []; rw [List.append_nil] at this; exact this) (by rw [hSl]; rfl) rfl (by omega) hsg srt_firstLast
        by_cases hlast : r1 = x
        · have e1 : atP 0 (srt L) a.off = (pxD a).pre := at_stop ha ina hpa (fun s' hs' => by
            have := (List.getElem?_eq_some_iff.1 hs').1
            omega)
          have ha1 := hatc a.off
          rw [e1] at ha1
          generalize (pxD a).pre = p at *
          have hxr : (x : Int) = (r1 : Int) := by omega
          simp (disch := omega) [g1, g2, g3, g4, g5, g6, dlt_t, dlt_f, dltn_t, dltn_f, deqn_t, deq_t, hlt, w3, w31, wr, natOf_nat, ir, la, ca, pa, ha1, bin_neqP, hosn]
          exact ⟨k, by omega, r + 1, by omega, os, rfl, o1, o2, o3, by omega⟩
        · obtain ⟨b, hb⟩ : ∃ b, (srt L)[r1]? = some b := ⟨_, List.getElem?_eq_getElem (by omega)⟩
          have hgb := hsg b (List.mem_of_getElem? hb)
          have hpb := (good_px hgb).2
          have inb := hgb.2
          unfold inB at inb
          have ir1 := i2 r1 (by omega)
          have lb := hoff r1 b hb
          have cb := hcolr r1 b hb
          have pb : ∀ st, call nr [(pxD b).v] st = some ((pxD b).pre.v, st) := fun st => hpre _ st hpb
          have hab := srt_sorted (show r ≤ r1 by omega) ha hb
          have hb1 : (srt L)[r + 1]? = some b := by rw [← hr1]; exact hb
          by_cases heq : b.off = a.off
          · simp (disch := omega) [g1, g2, g3, g4, g5, g6, dlt_t, dlt_f, dltn_t, dltn_f, deqn_t, deqn_f, deq_t, deq_f, hlt, w3, w31, wr, natOf_nat, ir, ir1, la, lb, heq, hosn]
            exact ⟨k, by omega, r + 1, by omega, os, rfl, o1, o2, o3, by omega⟩
          · have hlt2 : a.off < b.off := by omega
            have e1 : atP 0 (srt L) a.off = (pxD a).pre := at_stop ha ina hpa (fun s' hs' => by
              rw [hb1] at hs'
              cases hs'
              exact hlt2)
            have ha1 := hatc a.off
            rw [e1] at ha1
            have pk := fun st => hp t (b.off - a.off) st (by omega) (by omega)
            have pkb := pickI_lt (n := t) (m := b.off - a.off) (by omega)
            generalize pickI t (b.off - a.off) = pv at pk pkb
            have e2 := at_between (n := a.off + pv) ha hb1 (by unfold inB; omega) (by omega) (by omega)
            have ha2 : ∀ A B, call na [.agg [.int .i64 0, .slice (some (2, 0)) 5 x x false], .int .i64 (a.off + pv)] (few (os ++ [A, B])) = some ((atP 0 (srt L) (a.off + pv)).v, few (os ++ [A, B])) := fun A B =>
              hat.full _ _ 0 (srt L) _ (hfl _) (by rw [hSl]; rfl) rfl (by omega) hsg srt_firstLast
            rw [e2] at ha2
            have hu := unit_in (divI (a.off + pv - a.off) (b.off - a.off))
            generalize unit16 (divI (a.off + pv - a.off) (b.off - a.off)) = uu at ha2 hu
            have pao := pre_ok hpa
            have pbo := pre_ok hpb
            generalize (pxD a).pre = p at *
            generalize (pxD b).pre = q at *
            have m1 := mix_between pao.1 pbo.1 hu.1 hu.2
            have m2 := mix_between pao.2.1 pbo.2.1 hu.1 hu.2
            have m3 := mix_between pao.2.2.1 pbo.2.2.1 hu.1 hu.2
            have m4 := mix_between pao.2.2.2 pbo.2.2.2 hu.1 hu.2
            obtain ⟨M, hM⟩ : ∃ M, M = mixP p q uu := ⟨_, rfl⟩
            rw [← hM] at ha2
            have b1 : ∀ st, call nw [.int .i64 M.r, .int .i64 p.r, .int .i64 q.r] st = some (.bool true, st) := fun st => hbw _ _ _ st (by rw [hM]; exact m1.1) (by rw [hM]; exact m1.2)
            have b2 : ∀ st, call nw [.int .i64 M.g, .int .i64 p.g, .int .i64 q.g] st = some (.bool true, st) := fun st => hbw _ _ _ st (by rw [hM]; exact m2.1) (by rw [hM]; exact m2.2)
            have b3 : ∀ st, call nw [.int .i64 M.b, .int .i64 p.b, .int .i64 q.b] st = some (.bool true, st) := fun st => hbw _ _ _ st (by rw [hM]; exact m3.1) (by rw [hM]; exact m3.2)
            have b4 : ∀ st, call nw [.int .i64 M.a, .int .i64 p.a, .int .i64 q.a] st = some (.bool true, st) := fun st => hbw _ _ _ st (by rw [hM]; exact m4.1) (by rw [hM]; exact m4.2)
            clear hM m1 m2 m3 m4
            have ns0 : ∀ v1 v2 v3 v4, storeV (few (os ++ [some (.cells true [.int .i64 0, .int .i64 0, .int .i64 0, .int .i64 0])])) 4 (.ptr (some (os.length, 0))) (some [v1, v2, v3, v4]) = some (V.undef, few (os ++ [some (.cells true [v1, v2, v3, v4])])) := fun v1 v2 v3 v4 => store_new (t := []) rfl rfl
            have ns1 : ∀ A v1 v2 v3 v4, storeV (few (os ++ [A, some (.cells true [.int .i64 0, .int .i64 0, .int .i64 0, .int .i64 0])])) 4 (.ptr (some (os.length + 1, 0))) (some [v1, v2, v3, v4]) = some (V.undef, few (os ++ [A, some (.cells true [v1, v2, v3, v4])])) := fun A v1 v2 v3 v4 => store_new1 (t := []) rfl rfl
            have ns2 : ∀ A B v1 v2 v3 v4, storeV (few (os ++ [A, B, some (.cells true [.int .i64 0, .int .i64 0, .int .i64 0, .int .i64 0])])) 4 (.ptr (some (os.length + 2, 0))) (some [v1, v2, v3, v4]) = some (V.undef, few (os ++ [A, B, some (.cells true [v1, v2, v3, v4])])) := fun A B v1 v2 v3 v4 => store_new2 (t := []) rfl rfl
            have nl0 : ∀ cs tl o, loadV (few (os ++ some (.cells true cs) :: tl)) false 1 (.ptr (some (os.length, o))) = nth o cs := fun cs tl o => load_new
            have nl1 : ∀ A cs tl o, loadV (few (os ++ A :: some (.cells true cs) :: tl)) false 1 (.ptr (some (os.length + 1, o))) = nth o cs := fun A cs tl o => load_new1
            have nl2 : ∀ A B cs tl o, loadV (few (os ++ A :: B :: some (.cells true cs) :: tl)) false 1 (.ptr (some (os.length + 2, o))) = nth o cs := fun A B cs tl o => load_new2
            simp (disch := omega) [g1, g2, g3, g4, g5, g6, dlt_t, dlt_f, dltn_t, dltn_f, deqn_t, deqn_f, deq_t, deq_f, hlt, w3, w31, wr, wrap_i, natOf_nat, ir, ir1, la, lb, ca, cb, pa, pb, ha1, ha2, pk, bin_neqP, px_cells, hosn, load_pre, ns0, ns1, ns2, nl0, nl1, nl2, b1, b2, b3, b4]
            exact ⟨k, by omega, r + 1, by omega, _, rfl, by rw [List.getElem?_append_left (by omega)]; exact o1, by rw [List.getElem?_append_left (by omega)]; exact o2, by rw [List.getElem?_append_left (by omega)]; exact o3, by omega⟩
theorem StopsF.withF {call : CallT} {n g lf : Nat} {fn : AFunc} (h : StopsF call n) (hne : n ≠ g) : StopsF (Vabs.withF call g lf fn) n := fun st s near ns a b c d e => by rw [withF_other hne]; exact h st s near ns a b c d e
theorem NewF.withF {call : CallT} {n g lf : Nat} {fn : AFunc} (h : NewF call n) (hne : n ≠ g) : NewF (Vabs.withF call g lf fn) n := fun st s ext l a b c d => by rw [withF_other hne]; exact h st s ext l a b c d
theorem ColorF.withF {call : CallT} {n g lf : Nat} {fn : AFunc} (h : ColorF call n) (hne : n ≠ g) : ColorF (Vabs.withF call g lf fn) n := fun a st hn => by rw [withF_other hne]; exact h a st hn

end Go.Vabs.Ln
